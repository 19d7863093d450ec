/-
  The order of names: cmp.Compare, cmp.Or, names$1.
-/
import Derived.Test.YtpgfokhpacdhjaaBm4
import Derived.Test.YtpgfokhpacdhjaaFdI
import Derived.Test.YtpgfokhpacdhjaaFacts2
import Derived.Sort.Grow
import Derived.Shelf.SlSortCmp.InsertionK
namespace Go.Proofs.Ytpgfokhpacdhjaa.Fd
set_option linter.unusedSimpArgs false
set_option linter.unusedVariables false
open Go
set_option maxRecDepth 100000

/-- Behind w there is nothing but draws and new objects. -/
def GD (w w' : World) : Prop := ∃ q os', w' = Go.Sort.grow (w.drewN q) os'
theorem GD.refl {w : World} : GD w w := ⟨0, #[], by rw [Go.Sort.grow_empty]; rfl⟩
theorem GD.drew {w w1 : World} (h : GD w w1) : GD w w1.drew := by
  obtain ⟨q, os, rfl⟩ := h
  exact ⟨q + 1, os, rfl⟩
theorem GD.alloc {w w1 : World} {o : Obj} (h : GD w w1) : GD w (w1.alloc o) := by
  obtain ⟨q, os, rfl⟩ := h
  exact ⟨q, os ++ #[o], by rw [Go.Sort.alloc_eq_grow, Go.Sort.grow_grow]⟩
theorem GD.trans {w w1 w2 : World} (h : GD w w1) (k : GD w1 w2) : GD w w2 := by
  obtain ⟨q, os, rfl⟩ := h
  obtain ⟨q2, os2, rfl⟩ := k
  refine ⟨q + q2, os ++ os2, ?_⟩
  simp only [Go.Sort.grow, World.drewN, Array.append_assoc, Nat.add_assoc]
theorem GD.upd {w w' : World} (h : GD w w') : Upd (fun _ => False) w w' := by
  obtain ⟨q, os, rfl⟩ := h
  refine ⟨rfl, rfl, rfl, by simp [Go.Sort.grow, World.drewN], fun b hb _ => ?_⟩
  simp only [Go.Sort.grow, World.drewN]
  rw [Array.getElem?_append_left hb]
theorem bin_eqlNm {ox oy : Operand} {a b c d : Int} {w : World} : binS Try.prog .eql 76 ox oy (.agg #[.int .i64 a, .int .i64 b]) (.agg #[.int .i64 c, .int .i64 d]) w = some (.bool (a == c && b == d), w) := by
  have h : (Op.equalIn 10000 76 (.agg #[.int .i64 a, .int .i64 b]) (.agg #[.int .i64 c, .int .i64 d])).run Try.prog w = .ok (a == c && b == d) w := eq_key a b c d w
  have hm : Try.prog.eqGuardType Try.prog.depth 76 = false := by kernel_rfl
  unfold binS lift
  rw [Sem.run_bind, run_eqGuard_agg (P := Try.prog) w .eql _ _ _ _ _ hm, Result.andThen_ok, run_eql_struct]
  rw [h]
  rfl
def cmpI (x y : Int) : Int := if x < y then -1 else if y < x then 1 else 0
theorem isNaN_ok {w : World} (x : Int) : Ok (den Try.prog 53 #[.int .i64 x] w) fun v w' => v = .bool false ∧ w' = w := by
  refine den_ok (args := [.int .i64 x]) rs53 Try.func53 rfl mixed in53 ok53 rfl ?_
  simp (disch := omega) only [push_cast, Nat.reduceBEq, Nat.reduceEqDiff, Nat.reduceAdd, Nat.reduceMul, Nat.reduceSub, Nat.reduceLT, Int.reduceToNat, Int.reduceLT, Int.reduceLE, Int.reduceEq, Int.reduceAdd, Int.reduceSub, Int.reduceNeg, Int.reduceMul]
theorem cmpC_ok {w : World} (x y : Int) : Ok (den Try.prog 48 #[.int .i64 x, .int .i64 y] w) fun v w' => v = .int .i64 (cmpI x y) ∧ w' = w := by
  refine den_ok (args := [.int .i64 x, .int .i64 y]) rs48 Try.func48 rfl mixed in48 ok48 rfl ?_
  simp (disch := omega) only [push_cast, Nat.reduceBEq, Nat.reduceEqDiff, Nat.reduceAdd, Nat.reduceMul, Nat.reduceSub, Nat.reduceLT, Int.reduceToNat, Int.reduceLT, Int.reduceLE, Int.reduceEq, Int.reduceAdd, Int.reduceSub, Int.reduceNeg, Int.reduceMul]
  refine Ok.use (isNaN_ok x) ?_
  rintro v w1 ⟨rfl, rfl⟩
  simp (disch := omega) only [push_cast, Nat.reduceBEq, Nat.reduceEqDiff, Nat.reduceAdd, Nat.reduceMul, Nat.reduceSub, Nat.reduceLT, Int.reduceToNat, Int.reduceLT, Int.reduceLE, Int.reduceEq, Int.reduceAdd, Int.reduceSub, Int.reduceNeg, Int.reduceMul]
  refine Ok.use (isNaN_ok y) ?_
  rintro v w1 ⟨rfl, rfl⟩
  unfold cmpI
  by_cases h1 : x < y
  · simp (disch := omega) only [push_cast, Nat.reduceBEq, Nat.reduceEqDiff, Nat.reduceAdd, Nat.reduceMul, Nat.reduceSub, Nat.reduceLT, Int.reduceToNat, Int.reduceLT, Int.reduceLE, Int.reduceEq, Int.reduceAdd, Int.reduceSub, Int.reduceNeg, Int.reduceMul, h1]
  · by_cases h2 : y < x
    · simp (disch := omega) only [push_cast, Nat.reduceBEq, Nat.reduceEqDiff, Nat.reduceAdd, Nat.reduceMul, Nat.reduceSub, Nat.reduceLT, Int.reduceToNat, Int.reduceLT, Int.reduceLE, Int.reduceEq, Int.reduceAdd, Int.reduceSub, Int.reduceNeg, Int.reduceMul, h1, h2]
    · simp (disch := omega) only [push_cast, Nat.reduceBEq, Nat.reduceEqDiff, Nat.reduceAdd, Nat.reduceMul, Nat.reduceSub, Nat.reduceLT, Int.reduceToNat, Int.reduceLT, Int.reduceLE, Int.reduceEq, Int.reduceAdd, Int.reduceSub, Int.reduceNeg, Int.reduceMul, h1, h2]
theorem cmpOr_ok {w : World} {b c : Nat} (x y : Int) (hb : Blk w b [.int .i64 x, .int .i64 y] 3) : Ok (den Try.prog 47 #[.slice (some ⟨b, 0, none⟩) 2 c] w) fun v w' => v = .int .i64 (if x = 0 then y else x) ∧ GD w w' := by
  refine den_ok (args := [.slice (some ⟨b, 0, none⟩) 2 c]) rs47 Try.func47 rfl mixed in47 ok47 rfl ?_
  simp (disch := omega) only [push_cast, Nat.reduceBEq, Nat.reduceEqDiff, Nat.reduceAdd, Nat.reduceMul, Nat.reduceSub, Nat.reduceLT, Int.reduceToNat, Int.reduceLT, Int.reduceLE, Int.reduceEq, Int.reduceAdd, Int.reduceSub, Int.reduceNeg, Int.reduceMul]
  refine loop_inv (I := fun k st w' => Bx (∃ i : Nat, k + i = 2 ∧ st = [.int .i64 (i : Int)] ∧ w' = w ∧ (0 < i → x = 0) ∧ (1 < i → y = 0)) ⟨⟩) ?_ 2 ⟨0, rfl, rfl, rfl, fun h => by omega, fun h => by omega⟩
  rintro k st w1 ⟨i, hki, rfl, rfl, h1, h2⟩
  by_cases hk0 : k = 0
  · obtain rfl : i = 2 := by omega
    have hx := h1 (by omega)
    have hy := h2 (by omega)
    subst hx hy
    simp (disch := omega) only [push_cast, Nat.reduceBEq, Nat.reduceEqDiff, Nat.reduceAdd, Nat.reduceMul, Nat.reduceSub, Nat.reduceLT, Int.reduceToNat, Int.reduceLT, Int.reduceLE, Int.reduceEq, Int.reduceAdd, Int.reduceSub, Int.reduceNeg, Int.reduceMul]
    exact GD.refl
  · obtain rfl | rfl : i = 0 ∨ i = 1 := by omega
    · by_cases hx : x = 0
      · subst hx
        simp (disch := omega) only [push_cast, Nat.reduceBEq, Nat.reduceEqDiff, Nat.reduceAdd, Nat.reduceMul, Nat.reduceSub, Nat.reduceLT, Int.reduceToNat, Int.reduceLT, Int.reduceLE, Int.reduceEq, Int.reduceAdd, Int.reduceSub, Int.reduceNeg, Int.reduceMul, hb.cell]
        exact ⟨1, by omega, 1, by omega, rfl, rfl, fun _ => rfl, fun h => by omega⟩
      · simp (disch := omega) only [push_cast, Nat.reduceBEq, Nat.reduceEqDiff, Nat.reduceAdd, Nat.reduceMul, Nat.reduceSub, Nat.reduceLT, Int.reduceToNat, Int.reduceLT, Int.reduceLE, Int.reduceEq, Int.reduceAdd, Int.reduceSub, Int.reduceNeg, Int.reduceMul, hb.cell, hx]
        exact GD.refl
    · have hx := h1 (by omega)
      subst hx
      by_cases hy : y = 0
      · subst hy
        simp (disch := omega) only [push_cast, Nat.reduceBEq, Nat.reduceEqDiff, Nat.reduceAdd, Nat.reduceMul, Nat.reduceSub, Nat.reduceLT, Int.reduceToNat, Int.reduceLT, Int.reduceLE, Int.reduceEq, Int.reduceAdd, Int.reduceSub, Int.reduceNeg, Int.reduceMul, hb.cell]
        exact ⟨0, by omega, 2, by omega, rfl, rfl, fun _ => rfl, fun _ => rfl⟩
      · simp (disch := omega) only [push_cast, Nat.reduceBEq, Nat.reduceEqDiff, Nat.reduceAdd, Nat.reduceMul, Nat.reduceSub, Nat.reduceLT, Int.reduceToNat, Int.reduceLT, Int.reduceLE, Int.reduceEq, Int.reduceAdd, Int.reduceSub, Int.reduceNeg, Int.reduceMul, hb.cell, hy]
        exact GD.refl
theorem bsl_int2 (x y : Int) (w : World) : bslS Try.prog 39 2 #[(0, .int .i64 x), (1, .int .i64 y)] w = some (.slice (some ⟨w.heap.size, 0, none⟩) 2 2, w.alloc (.cells [.int .i64 x, .int .i64 y].toArray 3 (0, 0))) := by kernel_rfl
def cmpN (a b : NP) : Int := if a = b then 0 else if cmpI a.1 b.1 = 0 then cmpI a.2 b.2 else cmpI a.1 b.1
theorem names1_ok {w : World} (a b : NP) : Ok (den Try.prog 46 #[keyV a, keyV b] w) fun v w' => v = .int .i64 (cmpN a b) ∧ GD w w' := by
  refine den_ok (args := [keyV a, keyV b]) rs46 Try.func46 rfl mixed in46 ok46 rfl ?_
  unfold keyV
  simp (disch := omega) only [push_cast, Nat.reduceBEq, Nat.reduceEqDiff, Nat.reduceAdd, Nat.reduceMul, Nat.reduceSub, Nat.reduceLT, Int.reduceToNat, Int.reduceLT, Int.reduceLE, Int.reduceEq, Int.reduceAdd, Int.reduceSub, Int.reduceNeg, Int.reduceMul]
  have h0 : Blk ((w.alloc (.cells #[.int .i64 a.1, .int .i64 a.2] 76 (0, 0))).alloc (.cells #[.int .i64 b.1, .int .i64 b.2] 76 (0, 0))) w.heap.size [.int .i64 a.1, .int .i64 a.2] 76 := Blk.new.alloc _
  have h1 : Blk ((w.alloc (.cells #[.int .i64 a.1, .int .i64 a.2] 76 (0, 0))).alloc (.cells #[.int .i64 b.1, .int .i64 b.2] 76 (0, 0))) (w.heap.size + 1) [.int .i64 b.1, .int .i64 b.2] 76 := by
    have := Blk.new (w := w.alloc (.cells #[.int .i64 a.1, .int .i64 a.2] 76 (0, 0))) (cs := [.int .i64 b.1, .int .i64 b.2]) (E := 76)
    rwa [size_alloc] at this
  have hg : GD w ((w.alloc (.cells #[.int .i64 a.1, .int .i64 a.2] 76 (0, 0))).alloc (.cells #[.int .i64 b.1, .int .i64 b.2] 76 (0, 0))) := GD.refl.alloc.alloc
  generalize (w.alloc (.cells #[.int .i64 a.1, .int .i64 a.2] 76 (0, 0))).alloc (.cells #[.int .i64 b.1, .int .i64 b.2] 76 (0, 0)) = w1 at *
  by_cases he : a = b
  · have he2 : (a.1 == b.1 && a.2 == b.2) = true := by rw [he]; simp
    simp (disch := omega) only [push_cast, Nat.reduceBEq, Nat.reduceEqDiff, Nat.reduceAdd, Nat.reduceMul, Nat.reduceSub, Nat.reduceLT, Int.reduceToNat, Int.reduceLT, Int.reduceLE, Int.reduceEq, Int.reduceAdd, Int.reduceSub, Int.reduceNeg, Int.reduceMul, h0.cell, h1.cell, bin_eqlNm, he2]
    rw [cmpN, if_pos he]
    exact ⟨rfl, hg⟩
  · have he2 : (a.1 == b.1 && a.2 == b.2) = false := by
      rw [Bool.and_eq_false_iff]
      simp only [beq_eq_false_iff_ne]
      by_cases h : a.1 = b.1
      · exact .inr fun h2 => he (Prod.ext h h2)
      · exact .inl h
    simp (disch := omega) only [push_cast, Nat.reduceBEq, Nat.reduceEqDiff, Nat.reduceAdd, Nat.reduceMul, Nat.reduceSub, Nat.reduceLT, Int.reduceToNat, Int.reduceLT, Int.reduceLE, Int.reduceEq, Int.reduceAdd, Int.reduceSub, Int.reduceNeg, Int.reduceMul, h0.cell, h1.cell, bin_eqlNm, he2]
    refine Ok.use (cmpC_ok a.1 b.1) ?_
    rintro v w2 ⟨rfl, rfl⟩
    simp (disch := omega) only [push_cast, Nat.reduceBEq, Nat.reduceEqDiff, Nat.reduceAdd, Nat.reduceMul, Nat.reduceSub, Nat.reduceLT, Int.reduceToNat, Int.reduceLT, Int.reduceLE, Int.reduceEq, Int.reduceAdd, Int.reduceSub, Int.reduceNeg, Int.reduceMul, h0.cell, h1.cell]
    refine Ok.use (cmpC_ok a.2 b.2) ?_
    rintro v w2 ⟨rfl, rfl⟩
    simp (disch := omega) only [push_cast, Nat.reduceBEq, Nat.reduceEqDiff, Nat.reduceAdd, Nat.reduceMul, Nat.reduceSub, Nat.reduceLT, Int.reduceToNat, Int.reduceLT, Int.reduceLE, Int.reduceEq, Int.reduceAdd, Int.reduceSub, Int.reduceNeg, Int.reduceMul, h0.cell, h1.cell, bsl_int2]
    refine Ok.use (cmpOr_ok (cmpI a.1 b.1) (cmpI a.2 b.2) Blk.new) ?_
    rintro v w2 ⟨rfl, hg2⟩
    simp (disch := omega) only [push_cast, Nat.reduceBEq, Nat.reduceEqDiff, Nat.reduceAdd, Nat.reduceMul, Nat.reduceSub, Nat.reduceLT, Int.reduceToNat, Int.reduceLT, Int.reduceLE, Int.reduceEq, Int.reduceAdd, Int.reduceSub, Int.reduceNeg, Int.reduceMul]
    refine ⟨?_, hg.drew.alloc.trans hg2⟩
    rw [cmpN, if_neg he]
end Go.Proofs.Ytpgfokhpacdhjaa.Fd
