/-
  The laws' examples (awake); the law OrderChecks, as a reading.
-/
import Derived.Test.YtfjccccfkpgmgaaOr7
namespace Go.Proofs.Ytfjccccfkpgmgaa.Fd
set_option linter.unusedSimpArgs false
set_option linter.unusedVariables false
open Go
set_option maxRecDepth 100000

theorem bsl_pr2 (a b c d : Int) (w : World) : bslS Try.prog 22 2 #[(0, .agg #[.int .i64 a, .int .i64 b]), (1, .agg #[.int .i64 c, .int .i64 d])] w =
    some (.slice (some ⟨w.heap.size, 0, none⟩) 2 2, w.alloc (.cells [.int .i64 a, .int .i64 b, .int .i64 c, .int .i64 d].toArray 29 (0, 0))) := by kernel_rfl
theorem bsl_pr3 (a b c d e f : Int) (w : World) : bslS Try.prog 22 3 #[(0, .agg #[.int .i64 a, .int .i64 b]), (1, .agg #[.int .i64 c, .int .i64 d]), (2, .agg #[.int .i64 e, .int .i64 f])] w =
    some (.slice (some ⟨w.heap.size, 0, none⟩) 3 3, w.alloc (.cells [.int .i64 a, .int .i64 b, .int .i64 c, .int .i64 d, .int .i64 e, .int .i64 f].toArray 29 (0, 0))) := by kernel_rfl
theorem bsl_int3 (a b c : Int) (w : World) : bslS Try.prog 26 3 #[(0, .int .i64 a), (1, .int .i64 b), (2, .int .i64 c)] w =
    some (.slice (some ⟨w.heap.size, 0, none⟩) 3 3, w.alloc (.cells [.int .i64 a, .int .i64 b, .int .i64 c].toArray 3 (0, 0))) := by kernel_rfl
attribute [push_cast] bsl_pr2 bsl_pr3 bsl_int3
theorem SlP.lit {w : World} {b c : Nat} {l : List Pr} {E : TypeId} (h : Blk w b (l.flatMap pairRow) E) : SlP w (.slice (some ⟨b, 0, none⟩) l.length c) l := by
  refine ⟨_, c, rfl, fun _ => ⟨b, 0, rfl, h.lt, fun j x hj => ?_⟩⟩
  have h0 := flat_get (f := pairRow) (s := 2) (fun _ => rfl) (r := 0) (by omega) (l := l) (j := j)
  have h1 := flat_get (f := pairRow) (s := 2) (fun _ => rfl) (r := 1) (by omega) (l := l) (j := j)
  rw [hj] at h0 h1
  rw [Nat.zero_add, h.cell, h.cell]
  exact ⟨by simpa [pairRow] using h0, by simpa [pairRow] using h1⟩
theorem SlI.lit {w : World} {b c : Nat} {l : List Int} {E : TypeId} (h : Blk w b (l.map (Value.int .i64)) E) : SlI w (.slice (some ⟨b, 0, none⟩) l.length c) l := by
  refine ⟨_, c, rfl, fun _ => ⟨b, 0, rfl, h.lt, fun j x hj => ?_⟩⟩
  rw [Nat.zero_add, h.cell, List.getElem?_map, hj]
  rfl
def aw1 : List Pr := [(0, 1), (1, 2)]
def aw2 : List Pr := [(2, 0)]
def aw3 : List Pr := [(0, 1), (0, 2), (1, 2)]
theorem aw_1 : chk 4 aw1 = 0 := by decide
theorem aw_2 : pairsOf 4 4 (less 4 aw1) = aw3 := by decide
theorem aw_3 : flt 3 aw2 = 0 := by decide
theorem aw_4 : toI (sortL 3 (less 3 aw2) 3) = [1, 2, 0] := by decide
theorem awake_ok {w : World} : Ok (den Try.prog 13 #[] w) fun v w' => v = .bool true ∧ Upd (fun _ => False) w w' := by
  refine den_ok (args := []) rs13 Try.func13 rfl mixed in13 ok13 rfl ?_
  simp (disch := omega) only [push_cast, Nat.reduceBEq, Nat.reduceEqDiff, Nat.reduceAdd, Nat.reduceMul, Nat.reduceSub, Nat.reduceLT, Int.reduceToNat, Int.reduceLT, Int.reduceLE, Int.reduceEq, Int.reduceAdd, Int.reduceSub, Int.reduceNeg, Int.reduceMul]
  have s1 : SlP (w.alloc (.cells #[Value.int .i64 0, .int .i64 1, .int .i64 1, .int .i64 2] 29 (0, 0))) (.slice (some ⟨w.heap.size, 0, none⟩) 2 2) aw1 := SlP.lit (Blk.new (cs := aw1.flatMap pairRow))
  have hu1 : Upd (fun _ => False) w (w.alloc (.cells #[Value.int .i64 0, .int .i64 1, .int .i64 1, .int .i64 2] 29 (0, 0))) := Upd.alloc
  generalize w.alloc (.cells #[Value.int .i64 0, .int .i64 1, .int .i64 1, .int .i64 2] 29 (0, 0)) = w1 at *
  refine Ok.use (Closure_ok 4 s1) ?_
  rintro v w2 ⟨c, rfl, hc, hu2⟩
  rw [aw_1, if_pos rfl] at hc
  rw [aw_1]
  have e1 : pairsOf (4 : Int).toNat (4 : Int).toNat (less 4 aw1) = aw3 := aw_2
  rw [e1] at hc
  simp (disch := omega) only [push_cast, Nat.reduceBEq, Nat.reduceEqDiff, Nat.reduceAdd, Nat.reduceMul, Nat.reduceSub, Nat.reduceLT, Int.reduceToNat, Int.reduceLT, Int.reduceLE, Int.reduceEq, Int.reduceAdd, Int.reduceSub, Int.reduceNeg, Int.reduceMul]
  have s2 : SlP (w2.alloc (.cells #[Value.int .i64 2, .int .i64 0] 29 (0, 0))) (.slice (some ⟨w2.heap.size, 0, none⟩) 1 1) aw2 := SlP.lit (Blk.new (cs := aw2.flatMap pairRow))
  have hu3 : Upd (fun _ => False) w2 (w2.alloc (.cells #[Value.int .i64 2, .int .i64 0] 29 (0, 0))) := Upd.alloc
  generalize w2.alloc (.cells #[Value.int .i64 2, .int .i64 0] 29 (0, 0)) = w3 at *
  refine Ok.use (Sort_ok 3 s2) ?_
  rintro v w4 ⟨d, rfl, hd, hu4⟩
  rw [aw_3, if_pos rfl] at hd
  rw [aw_3]
  have e2 : toI (sortL (3 : Int).toNat (less 3 aw2) (3 : Int).toNat) = [1, 2, 0] := aw_4
  rw [e2] at hd
  simp (disch := omega) only [push_cast, Nat.reduceBEq, Nat.reduceEqDiff, Nat.reduceAdd, Nat.reduceMul, Nat.reduceSub, Nat.reduceLT, Int.reduceToNat, Int.reduceLT, Int.reduceLE, Int.reduceEq, Int.reduceAdd, Int.reduceSub, Int.reduceNeg, Int.reduceMul]
  have s3 : SlP (w4.alloc (.cells #[Value.int .i64 0, .int .i64 1, .int .i64 0, .int .i64 2, .int .i64 1, .int .i64 2] 29 (0, 0))) (.slice (some ⟨w4.heap.size, 0, none⟩) 3 3) aw3 := SlP.lit (Blk.new (cs := aw3.flatMap pairRow))
  have hu5 : Upd (fun _ => False) w4 (w4.alloc (.cells #[Value.int .i64 0, .int .i64 1, .int .i64 0, .int .i64 2, .int .i64 1, .int .i64 2] 29 (0, 0))) := Upd.alloc
  generalize w4.alloc (.cells #[Value.int .i64 0, .int .i64 1, .int .i64 0, .int .i64 2, .int .i64 1, .int .i64 2] 29 (0, 0)) = w5 at *
  refine Ok.use (samePairs_ok (((hc.upd hu3).upd hu4).upd hu5) s3 (by decide)) ?_
  rintro v w6 ⟨rfl, hu6⟩
  rw [show decide (aw3 = aw3) = true from by simp]
  simp (disch := omega) only [push_cast, Nat.reduceBEq, Nat.reduceEqDiff, Nat.reduceAdd, Nat.reduceMul, Nat.reduceSub, Nat.reduceLT, Int.reduceToNat, Int.reduceLT, Int.reduceLE, Int.reduceEq, Int.reduceAdd, Int.reduceSub, Int.reduceNeg, Int.reduceMul]
  have s4 : SlI (w6.alloc (.cells #[Value.int .i64 1, .int .i64 2, .int .i64 0] 3 (0, 0))) (.slice (some ⟨w6.heap.size, 0, none⟩) 3 3) [1, 2, 0] := SlI.lit (l := [1, 2, 0]) (Blk.new (cs := [Value.int .i64 1, .int .i64 2, .int .i64 0]))
  have hu7 : Upd (fun _ => False) w6 (w6.alloc (.cells #[Value.int .i64 1, .int .i64 2, .int .i64 0] 3 (0, 0))) := Upd.alloc
  generalize w6.alloc (.cells #[Value.int .i64 1, .int .i64 2, .int .i64 0] 3 (0, 0)) = w7 at *
  refine Ok.use (same_ok (((hd.upd hu5).upd hu6).upd hu7) s4 (by decide)) ?_
  rintro v w8 ⟨rfl, hu8⟩
  rw [show decide ([(1 : Int), 2, 0] = [1, 2, 0]) = true from by simp]
  simp (disch := omega) only [push_cast, Nat.reduceBEq, Nat.reduceEqDiff, Nat.reduceAdd, Nat.reduceMul, Nat.reduceSub, Nat.reduceLT, Int.reduceToNat, Int.reduceLT, Int.reduceLE, Int.reduceEq, Int.reduceAdd, Int.reduceSub, Int.reduceNeg, Int.reduceMul]
  have t := fun {a b c : World} (x : Upd (fun _ => False) a b) (y : Upd (fun _ => False) b c) => x.trans y (F := fun _ => False) (fun _ _ h => h)
  exact t (t (t (t (t (t (t hu1 hu2) hu3) hu4) hu5) hu6) hu7) hu8

set_option maxHeartbeats 1000000 in
theorem orderChecks_ok {w : World} (n : Int) {v : Value} {l : List Pr} (hv : SlP w v l) :
    Ok (den Try.prog 4 #[.int .i64 n, v] w) fun u w' => u = .bool true ∧ Upd (fun _ => False) w w' := by
  have t := fun {a b c : World} (x : Upd (fun _ => False) a b) (y : Upd (fun _ => False) b c) => x.trans y (F := fun _ => False) (fun _ _ h => h)
  refine den_ok (args := [.int .i64 n, v]) rs4 Try.func4 rfl mixed in4 ok4 rfl ?_
  simp (disch := omega) only [push_cast, Nat.reduceBEq, Nat.reduceEqDiff, Nat.reduceAdd, Nat.reduceMul, Nat.reduceSub, Nat.reduceLT, Int.reduceToNat, Int.reduceLT, Int.reduceLE, Int.reduceEq, Int.reduceAdd, Int.reduceSub, Int.reduceNeg, Int.reduceMul]
  refine Ok.use awake_ok ?_
  rintro v1 w1 ⟨rfl, hu1⟩
  simp (disch := omega) only [push_cast, Nat.reduceBEq, Nat.reduceEqDiff, Nat.reduceAdd, Nat.reduceMul, Nat.reduceSub, Nat.reduceLT, Int.reduceToNat, Int.reduceLT, Int.reduceLE, Int.reduceEq, Int.reduceAdd, Int.reduceSub, Int.reduceNeg, Int.reduceMul]
  refine Ok.use (rcheck_ok n (hv.upd hu1)) ?_
  rintro v1 w2 ⟨rfl, hu2⟩
  simp (disch := omega) only [push_cast, Nat.reduceBEq, Nat.reduceEqDiff, Nat.reduceAdd, Nat.reduceMul, Nat.reduceSub, Nat.reduceLT, Int.reduceToNat, Int.reduceLT, Int.reduceLE, Int.reduceEq, Int.reduceAdd, Int.reduceSub, Int.reduceNeg, Int.reduceMul]
  refine Ok.use (check_ok n ((hv.upd hu1).upd hu2)) ?_
  rintro v1 w3 ⟨rfl, hu3⟩
  simp (disch := omega) only [push_cast, Nat.reduceBEq, Nat.reduceEqDiff, Nat.reduceAdd, Nat.reduceMul, Nat.reduceSub, Nat.reduceLT, Int.reduceToNat, Int.reduceLT, Int.reduceLE, Int.reduceEq, Int.reduceAdd, Int.reduceSub, Int.reduceNeg, Int.reduceMul]
  have u3 := t (t hu1 hu2) hu3
  refine Ok.use (Closure_ok n (hv.upd u3)) ?_
  rintro v1 w4 ⟨c, rfl, hc, hu4⟩
  simp (disch := omega) only [push_cast, Nat.reduceBEq, Nat.reduceEqDiff, Nat.reduceAdd, Nat.reduceMul, Nat.reduceSub, Nat.reduceLT, Int.reduceToNat, Int.reduceLT, Int.reduceLE, Int.reduceEq, Int.reduceAdd, Int.reduceSub, Int.reduceNeg, Int.reduceMul]
  have u4 := t u3 hu4
  refine Ok.use (Acyclic_ok n (hv.upd u4)) ?_
  rintro v1 w5 ⟨rfl, hu5⟩
  have u5 := t u4 hu5
  by_cases h0 : chk n l = 0
  rotate_left
  · rw [if_neg h0] at hc
    obtain ⟨ca, cc, rfl, _⟩ := hc
    simp (disch := omega) only [push_cast, Nat.reduceBEq, Nat.reduceEqDiff, Nat.reduceAdd, Nat.reduceMul, Nat.reduceSub, Nat.reduceLT, Int.reduceToNat, Int.reduceLT, Int.reduceLE, Int.reduceEq, Int.reduceAdd, Int.reduceSub, Int.reduceNeg, Int.reduceMul]
    exact ⟨by simp, u5⟩
  · obtain ⟨m, rfl, hm, hl4, hall⟩ := chk_zero h0
    rw [if_pos h0] at hc
    rw [h0]
    simp (disch := omega) only [push_cast, Nat.reduceBEq, Nat.reduceEqDiff, Nat.reduceAdd, Nat.reduceMul, Nat.reduceSub, Nat.reduceLT, Int.reduceToNat, Int.reduceLT, Int.reduceLE, Int.reduceEq, Int.reduceAdd, Int.reduceSub, Int.reduceNeg, Int.reduceMul]
    refine Ok.use (less_ok hm (hv.upd u5) hall hl4) ?_
    rintro v1 w6 ⟨hmat, hu6⟩
    simp (disch := omega) only [push_cast, Nat.reduceBEq, Nat.reduceEqDiff, Nat.reduceAdd, Nat.reduceMul, Nat.reduceSub, Nat.reduceLT, Int.reduceToNat, Int.reduceLT, Int.reduceLE, Int.reduceEq, Int.reduceAdd, Int.reduceSub, Int.reduceNeg, Int.reduceMul]
    refine Ok.use (rpairs_ok hmat hm) ?_
    rintro v1 w7 ⟨hp, hu7⟩
    simp (disch := omega) only [push_cast, Nat.reduceBEq, Nat.reduceEqDiff, Nat.reduceAdd, Nat.reduceMul, Nat.reduceSub, Nat.reduceLT, Int.reduceToNat, Int.reduceLT, Int.reduceLE, Int.reduceEq, Int.reduceAdd, Int.reduceSub, Int.reduceNeg, Int.reduceMul]
    have hlen := pairsOf_le (n := m) (m := m) (R := less m l)
    have h64 : m * m ≤ 64 * 64 := Nat.mul_le_mul hm hm
    refine Ok.use (samePairs_ok (((hc.upd hu5).upd hu6).upd hu7) hp (by simp only [Int.toNat_natCast]; omega)) ?_
    rintro v1 w8 ⟨rfl, hu8⟩
    rw [show decide (pairsOf (m : Int).toNat (m : Int).toNat (less m l) = pairsOf m m (less m l)) = true from by simp]
    simp (disch := omega) only [push_cast, Nat.reduceBEq, Nat.reduceEqDiff, Nat.reduceAdd, Nat.reduceMul, Nat.reduceSub, Nat.reduceLT, Int.reduceToNat, Int.reduceLT, Int.reduceLE, Int.reduceEq, Int.reduceAdd, Int.reduceSub, Int.reduceNeg, Int.reduceMul]
    refine Ok.use (racyclic_ok ((hmat.upd hu7).upd hu8) hm) ?_
    rintro v1 w9 ⟨rfl, hu9⟩
    simp (disch := omega) only [push_cast, Nat.reduceBEq, Nat.reduceEqDiff, Nat.reduceAdd, Nat.reduceMul, Nat.reduceSub, Nat.reduceLT, Int.reduceToNat, Int.reduceLT, Int.reduceLE, Int.reduceEq, Int.reduceAdd, Int.reduceSub, Int.reduceNeg, Int.reduceMul, beq_self_eq_true]
    exact ⟨by simp, t (t (t (t u5 hu6) hu7) hu8) hu9⟩
theorem orderChecks_law {w : World} (n : Int) (_ : (Lit.int .i64 n).wf = true) {v : Value} (h : ∃ l, SlP w v l) :
    Ok (den Try.prog 4 #[.int .i64 n, v] w) fun u w' => u = .bool true ∧ Upd (fun _ => False) w w' := by
  obtain ⟨l, h⟩ := h
  exact orderChecks_ok n h
end Go.Proofs.Ytfjccccfkpgmgaa.Fd
