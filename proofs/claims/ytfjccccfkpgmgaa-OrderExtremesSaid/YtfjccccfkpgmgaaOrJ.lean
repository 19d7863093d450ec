/-
  What the functions answer where a relation is not valid or not acyclic; the law OrderFaults, as a reading.
-/
import Derived.Test.YtfjccccfkpgmgaaOrI
import Derived.Test.YtfjccccfkpgmgaaFacts2
namespace Go.Proofs.Ytfjccccfkpgmgaa.Fd
set_option linter.unusedSimpArgs false
set_option linter.unusedVariables false
open Go
set_option maxRecDepth 100000

section
variable {w : World} {n : Int} {v : Value} {l : List Pr}
theorem Reduction_bad (hv : SlP w v l) (hc : flt n l ≠ 0) : Ok (den Try.prog 24 #[.int .i64 n, v] w) fun u w' => u = .tuple #[.slice none 0 0, .int .i64 (flt n l)] ∧ Upd (fun _ => False) w w' := by
  refine den_ok (args := [.int .i64 n, v]) rs24 Try.func24 rfl mixed in24 ok24 rfl ?_
  simp (disch := omega) only [push_cast, Nat.reduceBEq, Nat.reduceEqDiff, Nat.reduceAdd, Nat.reduceMul, Nat.reduceSub, Nat.reduceLT, Int.reduceToNat, Int.reduceLT, Int.reduceLE, Int.reduceEq, Int.reduceAdd, Int.reduceSub, Int.reduceNeg, Int.reduceMul]
  refine Ok.use (acyclic_ok n hv) ?_
  rintro v w1 ⟨r, rfl, hr, hu1⟩
  have hb2 : Blk (w1.alloc (.cells (tabL fun _ => 0#64).toArray 53 (0, 0))) w1.heap.size (tabL fun _ => 0#64) 53 := Blk.new
  obtain ⟨hb3, hu3⟩ := new_tab (w := w1) (r := r)
  simp (disch := omega) only [push_cast, Nat.reduceBEq, Nat.reduceEqDiff, Nat.reduceAdd, Nat.reduceMul, Nat.reduceSub, Nat.reduceLT, Int.reduceToNat, Int.reduceLT, Int.reduceLE, Int.reduceEq, Int.reduceAdd, Int.reduceSub, Int.reduceNeg, Int.reduceMul, st_tab hb2]
  exact hu1.trans hu3 (fun _ _ h => h)
theorem Sort_bad (hv : SlP w v l) (hc : flt n l ≠ 0) : Ok (den Try.prog 15 #[.int .i64 n, v] w) fun u w' => u = .tuple #[.slice none 0 0, .int .i64 (flt n l)] ∧ Upd (fun _ => False) w w' := by
  refine den_ok (args := [.int .i64 n, v]) rs15 Try.func15 rfl mixed in15 ok15 rfl ?_
  simp (disch := omega) only [push_cast, Nat.reduceBEq, Nat.reduceEqDiff, Nat.reduceAdd, Nat.reduceMul, Nat.reduceSub, Nat.reduceLT, Int.reduceToNat, Int.reduceLT, Int.reduceLE, Int.reduceEq, Int.reduceAdd, Int.reduceSub, Int.reduceNeg, Int.reduceMul]
  refine Ok.use (acyclic_ok n hv) ?_
  rintro v w1 ⟨r, rfl, hr, hu1⟩
  have hb2 : Blk (w1.alloc (.cells (tabL fun _ => 0#64).toArray 53 (0, 0))) w1.heap.size (tabL fun _ => 0#64) 53 := Blk.new
  obtain ⟨hb3, hu3⟩ := new_tab (w := w1) (r := r)
  simp (disch := omega) only [push_cast, Nat.reduceBEq, Nat.reduceEqDiff, Nat.reduceAdd, Nat.reduceMul, Nat.reduceSub, Nat.reduceLT, Int.reduceToNat, Int.reduceLT, Int.reduceLE, Int.reduceEq, Int.reduceAdd, Int.reduceSub, Int.reduceNeg, Int.reduceMul, st_tab hb2]
  exact hu1.trans hu3 (fun _ _ h => h)
theorem Levels_bad (hv : SlP w v l) (hc : flt n l ≠ 0) : Ok (den Try.prog 26 #[.int .i64 n, v] w) fun u w' => u = .tuple #[.slice none 0 0, .int .i64 (flt n l)] ∧ Upd (fun _ => False) w w' := by
  refine den_ok (args := [.int .i64 n, v]) rs26 Try.func26 rfl mixed in26 ok26 rfl ?_
  simp (disch := omega) only [push_cast, Nat.reduceBEq, Nat.reduceEqDiff, Nat.reduceAdd, Nat.reduceMul, Nat.reduceSub, Nat.reduceLT, Int.reduceToNat, Int.reduceLT, Int.reduceLE, Int.reduceEq, Int.reduceAdd, Int.reduceSub, Int.reduceNeg, Int.reduceMul]
  refine Ok.use (acyclic_ok n hv) ?_
  rintro v w1 ⟨r, rfl, hr, hu1⟩
  have hb2 : Blk (w1.alloc (.cells (tabL fun _ => 0#64).toArray 53 (0, 0))) w1.heap.size (tabL fun _ => 0#64) 53 := Blk.new
  obtain ⟨hb3, hu3⟩ := new_tab (w := w1) (r := r)
  simp (disch := omega) only [push_cast, Nat.reduceBEq, Nat.reduceEqDiff, Nat.reduceAdd, Nat.reduceMul, Nat.reduceSub, Nat.reduceLT, Int.reduceToNat, Int.reduceLT, Int.reduceLE, Int.reduceEq, Int.reduceAdd, Int.reduceSub, Int.reduceNeg, Int.reduceMul, st_tab hb2]
  exact hu1.trans hu3 (fun _ _ h => h)
theorem LongestChain_bad (hv : SlP w v l) (hc : flt n l ≠ 0) : Ok (den Try.prog 29 #[.int .i64 n, v] w) fun u w' => u = .tuple #[.slice none 0 0, .int .i64 (flt n l)] ∧ Upd (fun _ => False) w w' := by
  refine den_ok (args := [.int .i64 n, v]) rs29 Try.func29 rfl mixed in29 ok29 rfl ?_
  simp (disch := omega) only [push_cast, Nat.reduceBEq, Nat.reduceEqDiff, Nat.reduceAdd, Nat.reduceMul, Nat.reduceSub, Nat.reduceLT, Int.reduceToNat, Int.reduceLT, Int.reduceLE, Int.reduceEq, Int.reduceAdd, Int.reduceSub, Int.reduceNeg, Int.reduceMul]
  refine Ok.use (acyclic_ok n hv) ?_
  rintro v w1 ⟨r, rfl, hr, hu1⟩
  have hb2 : Blk (w1.alloc (.cells (tabL fun _ => 0#64).toArray 53 (0, 0))) w1.heap.size (tabL fun _ => 0#64) 53 := Blk.new
  obtain ⟨hb3, hu3⟩ := new_tab (w := w1) (r := r)
  simp (disch := omega) only [push_cast, Nat.reduceBEq, Nat.reduceEqDiff, Nat.reduceAdd, Nat.reduceMul, Nat.reduceSub, Nat.reduceLT, Int.reduceToNat, Int.reduceLT, Int.reduceLE, Int.reduceEq, Int.reduceAdd, Int.reduceSub, Int.reduceNeg, Int.reduceMul, st_tab hb2]
  exact hu1.trans hu3 (fun _ _ h => h)
theorem MaxAntichain_bad (hv : SlP w v l) (hc : flt n l ≠ 0) : Ok (den Try.prog 31 #[.int .i64 n, v] w) fun u w' => u = .tuple #[.slice none 0 0, .int .i64 (flt n l)] ∧ Upd (fun _ => False) w w' := by
  refine den_ok (args := [.int .i64 n, v]) rs31 Try.func31 rfl mixed in31 ok31 rfl ?_
  simp (disch := omega) only [push_cast, Nat.reduceBEq, Nat.reduceEqDiff, Nat.reduceAdd, Nat.reduceMul, Nat.reduceSub, Nat.reduceLT, Int.reduceToNat, Int.reduceLT, Int.reduceLE, Int.reduceEq, Int.reduceAdd, Int.reduceSub, Int.reduceNeg, Int.reduceMul]
  refine Ok.use (acyclic_ok n hv) ?_
  rintro v w1 ⟨r, rfl, hr, hu1⟩
  have hb2 : Blk (w1.alloc (.cells (tabL fun _ => 0#64).toArray 53 (0, 0))) w1.heap.size (tabL fun _ => 0#64) 53 := Blk.new
  obtain ⟨hb3, hu3⟩ := new_tab (w := w1) (r := r)
  simp (disch := omega) only [push_cast, Nat.reduceBEq, Nat.reduceEqDiff, Nat.reduceAdd, Nat.reduceMul, Nat.reduceSub, Nat.reduceLT, Int.reduceToNat, Int.reduceLT, Int.reduceLE, Int.reduceEq, Int.reduceAdd, Int.reduceSub, Int.reduceNeg, Int.reduceMul, st_tab hb2]
  exact hu1.trans hu3 (fun _ _ h => h)
theorem ChainCover_bad (hv : SlP w v l) (hc : flt n l ≠ 0) : Ok (den Try.prog 32 #[.int .i64 n, v] w) fun u w' => u = .tuple #[.slice none 0 0, .int .i64 (flt n l)] ∧ Upd (fun _ => False) w w' := by
  refine den_ok (args := [.int .i64 n, v]) rs32 Try.func32 rfl mixed in32 ok32 rfl ?_
  simp (disch := omega) only [push_cast, Nat.reduceBEq, Nat.reduceEqDiff, Nat.reduceAdd, Nat.reduceMul, Nat.reduceSub, Nat.reduceLT, Int.reduceToNat, Int.reduceLT, Int.reduceLE, Int.reduceEq, Int.reduceAdd, Int.reduceSub, Int.reduceNeg, Int.reduceMul]
  refine Ok.use (acyclic_ok n hv) ?_
  rintro v w1 ⟨r, rfl, hr, hu1⟩
  have hb2 : Blk (w1.alloc (.cells (tabL fun _ => 0#64).toArray 53 (0, 0))) w1.heap.size (tabL fun _ => 0#64) 53 := Blk.new
  obtain ⟨hb3, hu3⟩ := new_tab (w := w1) (r := r)
  simp (disch := omega) only [push_cast, Nat.reduceBEq, Nat.reduceEqDiff, Nat.reduceAdd, Nat.reduceMul, Nat.reduceSub, Nat.reduceLT, Int.reduceToNat, Int.reduceLT, Int.reduceLE, Int.reduceEq, Int.reduceAdd, Int.reduceSub, Int.reduceNeg, Int.reduceMul, st_tab hb2]
  exact hu1.trans hu3 (fun _ _ h => h)
/-- The error of Downsets. -/
def dsErr (n lim : Int) (l : List Pr) : Int := if chk n l ≠ 0 then chk n l else if lim < 1 then 1 else flt n l
theorem Downsets_bad (lim : Int) (hv : SlP w v l) (hc : flt n l ≠ 0) : Ok (den Try.prog 35 #[.int .i64 n, v, .int .i64 lim] w) fun u w' => u = .tuple #[.slice none 0 0, .int .i64 (dsErr n lim l)] ∧ Upd (fun _ => False) w w' := by
  refine den_ok (args := [.int .i64 n, v, .int .i64 lim]) rs35 Try.func35 rfl mixed in35 ok35 rfl ?_
  have g1 : Blk ((w.alloc (.cells #[Value.int .i64 n] 3 (0, 0))).alloc (.cells #[Value.int .i64 lim] 3 (0, 0))) w.heap.size [.int .i64 n] 3 := Blk.new.alloc _
  have g2 : Blk ((w.alloc (.cells #[Value.int .i64 n] 3 (0, 0))).alloc (.cells #[Value.int .i64 lim] 3 (0, 0))) (w.heap.size + 1) [.int .i64 lim] 3 := Blk.newAt size_alloc
  have hu0 : Upd (fun _ => False) w ((w.alloc (.cells #[Value.int .i64 n] 3 (0, 0))).alloc (.cells #[Value.int .i64 lim] 3 (0, 0))) := Upd.refl.alloc'.alloc'
  simp (disch := omega) only [push_cast, Nat.reduceBEq, Nat.reduceEqDiff, Nat.reduceAdd, Nat.reduceMul, Nat.reduceSub, Nat.reduceLT, Int.reduceToNat, Int.reduceLT, Int.reduceLE, Int.reduceEq, Int.reduceAdd, Int.reduceSub, Int.reduceNeg, Int.reduceMul, g1.cell]
  generalize (w.alloc (.cells #[Value.int .i64 n] 3 (0, 0))).alloc (.cells #[Value.int .i64 lim] 3 (0, 0)) = w0 at *
  refine Ok.use (check_ok n (hv.upd hu0)) ?_
  rintro v1 w1 ⟨rfl, hu1⟩
  have u1 := hu0.trans hu1 (fun _ _ h => h)
  replace g1 := g1.upd hu1 (fun h => h)
  replace g2 := g2.upd hu1 (fun h => h)
  by_cases hk : chk n l = 0
  rotate_left
  · have e : dsErr n lim l = chk n l := by rw [dsErr, if_pos hk]
    rw [e]
    simp (disch := omega) only [push_cast, Nat.reduceBEq, Nat.reduceEqDiff, Nat.reduceAdd, Nat.reduceMul, Nat.reduceSub, Nat.reduceLT, Int.reduceToNat, Int.reduceLT, Int.reduceLE, Int.reduceEq, Int.reduceAdd, Int.reduceSub, Int.reduceNeg, Int.reduceMul, g1.cell, g2.cell]
    exact u1
  by_cases hl : lim < 1
  · have e : dsErr n lim l = 1 := by rw [dsErr, if_neg (by omega), if_pos hl]
    rw [e]
    simp (disch := omega) only [push_cast, Nat.reduceBEq, Nat.reduceEqDiff, Nat.reduceAdd, Nat.reduceMul, Nat.reduceSub, Nat.reduceLT, Int.reduceToNat, Int.reduceLT, Int.reduceLE, Int.reduceEq, Int.reduceAdd, Int.reduceSub, Int.reduceNeg, Int.reduceMul, g1.cell, g2.cell]
    exact u1
  have e : dsErr n lim l = flt n l := by rw [dsErr, if_neg (by omega), if_neg hl]
  rw [e]
  simp (disch := omega) only [push_cast, Nat.reduceBEq, Nat.reduceEqDiff, Nat.reduceAdd, Nat.reduceMul, Nat.reduceSub, Nat.reduceLT, Int.reduceToNat, Int.reduceLT, Int.reduceLE, Int.reduceEq, Int.reduceAdd, Int.reduceSub, Int.reduceNeg, Int.reduceMul, g1.cell, g2.cell]
  refine Ok.use (acyclic_ok n (hv.upd u1)) ?_
  rintro v2 w2 ⟨r, rfl, hr, hu2⟩
  have hb2 : Blk (w2.alloc (.cells (tabL fun _ => 0#64).toArray 53 (0, 0))) w2.heap.size (tabL fun _ => 0#64) 53 := Blk.new
  obtain ⟨hb3, hu3⟩ := new_tab (w := w2) (r := r)
  simp (disch := omega) only [push_cast, Nat.reduceBEq, Nat.reduceEqDiff, Nat.reduceAdd, Nat.reduceMul, Nat.reduceSub, Nat.reduceLT, Int.reduceToNat, Int.reduceLT, Int.reduceLE, Int.reduceEq, Int.reduceAdd, Int.reduceSub, Int.reduceNeg, Int.reduceMul, st_tab hb2]
  exact (u1.trans hu2 (fun _ _ h => h)).trans hu3 (fun _ _ h => h)
end

set_option maxHeartbeats 1000000 in
theorem orderFaults_ok {w : World} (n lim : Int) {v : Value} {l : List Pr} (hv : SlP w v l) :
    Ok (den Try.prog 12 #[.int .i64 n, v, .int .i64 lim] w) fun u w' => u = .bool true ∧ Upd (fun _ => False) w w' := by
  have t := fun {a b c : World} (x : Upd (fun _ => False) a b) (y : Upd (fun _ => False) b c) => x.trans y (F := fun _ => False) (fun _ _ h => h)
  refine den_ok (args := [.int .i64 n, v, .int .i64 lim]) rs12 Try.func12 rfl mixed in12 ok12 rfl ?_
  simp (disch := omega) only [push_cast, Nat.reduceBEq, Nat.reduceEqDiff, Nat.reduceAdd, Nat.reduceMul, Nat.reduceSub, Nat.reduceLT, Int.reduceToNat, Int.reduceLT, Int.reduceLE, Int.reduceEq, Int.reduceAdd, Int.reduceSub, Int.reduceNeg, Int.reduceMul]
  refine Ok.use awake_ok ?_
  rintro v1 w1 ⟨rfl, hu1⟩
  simp (disch := omega) only [push_cast, Nat.reduceBEq, Nat.reduceEqDiff, Nat.reduceAdd, Nat.reduceMul, Nat.reduceSub, Nat.reduceLT, Int.reduceToNat, Int.reduceLT, Int.reduceLE, Int.reduceEq, Int.reduceAdd, Int.reduceSub, Int.reduceNeg, Int.reduceMul]
  refine Ok.use (fault_ok n (hv.upd hu1)) ?_
  rintro v1 w2 ⟨rfl, hu2⟩
  have u2 := t hu1 hu2
  by_cases h0 : flt n l = 0
  · rw [h0]
    simp (disch := omega) only [push_cast, Nat.reduceBEq, Nat.reduceEqDiff, Nat.reduceAdd, Nat.reduceMul, Nat.reduceSub, Nat.reduceLT, Int.reduceToNat, Int.reduceLT, Int.reduceLE, Int.reduceEq, Int.reduceAdd, Int.reduceSub, Int.reduceNeg, Int.reduceMul]
    exact u2
  simp (disch := omega) only [push_cast, Nat.reduceBEq, Nat.reduceEqDiff, Nat.reduceAdd, Nat.reduceMul, Nat.reduceSub, Nat.reduceLT, Int.reduceToNat, Int.reduceLT, Int.reduceLE, Int.reduceEq, Int.reduceAdd, Int.reduceSub, Int.reduceNeg, Int.reduceMul]
  refine Ok.use (Reduction_bad (hv.upd u2) h0) ?_
  rintro v1 w3 ⟨rfl, hu3⟩
  have u3 := t u2 hu3
  simp (disch := omega) only [push_cast, Nat.reduceBEq, Nat.reduceEqDiff, Nat.reduceAdd, Nat.reduceMul, Nat.reduceSub, Nat.reduceLT, Int.reduceToNat, Int.reduceLT, Int.reduceLE, Int.reduceEq, Int.reduceAdd, Int.reduceSub, Int.reduceNeg, Int.reduceMul]
  refine Ok.use (Sort_bad (hv.upd u3) h0) ?_
  rintro v1 w4 ⟨rfl, hu4⟩
  have u4 := t u3 hu4
  simp (disch := omega) only [push_cast, Nat.reduceBEq, Nat.reduceEqDiff, Nat.reduceAdd, Nat.reduceMul, Nat.reduceSub, Nat.reduceLT, Int.reduceToNat, Int.reduceLT, Int.reduceLE, Int.reduceEq, Int.reduceAdd, Int.reduceSub, Int.reduceNeg, Int.reduceMul]
  refine Ok.use (Levels_bad (hv.upd u4) h0) ?_
  rintro v1 w5 ⟨rfl, hu5⟩
  have u5 := t u4 hu5
  simp (disch := omega) only [push_cast, Nat.reduceBEq, Nat.reduceEqDiff, Nat.reduceAdd, Nat.reduceMul, Nat.reduceSub, Nat.reduceLT, Int.reduceToNat, Int.reduceLT, Int.reduceLE, Int.reduceEq, Int.reduceAdd, Int.reduceSub, Int.reduceNeg, Int.reduceMul]
  refine Ok.use (LongestChain_bad (hv.upd u5) h0) ?_
  rintro v1 w6 ⟨rfl, hu6⟩
  have u6 := t u5 hu6
  simp (disch := omega) only [push_cast, Nat.reduceBEq, Nat.reduceEqDiff, Nat.reduceAdd, Nat.reduceMul, Nat.reduceSub, Nat.reduceLT, Int.reduceToNat, Int.reduceLT, Int.reduceLE, Int.reduceEq, Int.reduceAdd, Int.reduceSub, Int.reduceNeg, Int.reduceMul]
  refine Ok.use (MaxAntichain_bad (hv.upd u6) h0) ?_
  rintro v1 w7 ⟨rfl, hu7⟩
  have u7 := t u6 hu7
  simp (disch := omega) only [push_cast, Nat.reduceBEq, Nat.reduceEqDiff, Nat.reduceAdd, Nat.reduceMul, Nat.reduceSub, Nat.reduceLT, Int.reduceToNat, Int.reduceLT, Int.reduceLE, Int.reduceEq, Int.reduceAdd, Int.reduceSub, Int.reduceNeg, Int.reduceMul]
  refine Ok.use (ChainCover_bad (hv.upd u7) h0) ?_
  rintro v1 w8 ⟨rfl, hu8⟩
  have u8 := t u7 hu8
  have hcf : chk n l ≠ 0 → flt n l = chk n l := fun h => by rw [flt, if_neg h]
  have hc6 := chk_nonneg (n := n) (l := l)
  have hc9 : chk n l = 0 → flt n l = 9 := fun h => by
    have h2 := h0
    rw [flt, if_pos h] at h2 ⊢
    split
    · rfl
    · rename_i h3; rw [if_neg h3] at h2; exact absurd rfl h2
  by_cases hl : lim < 1
  · by_cases h9 : flt n l = 9
    · have e : dsErr n lim l = 1 := by
        have : chk n l = 0 := by
          apply Classical.byContradiction
          intro h
          have := hcf h
          omega
        rw [dsErr, if_neg (by omega), if_pos hl]
      simp (config := { maxSteps := 3000000 }) (disch := omega) only [push_cast, Nat.reduceBEq, Nat.reduceEqDiff, Nat.reduceAdd, Nat.reduceMul, Nat.reduceSub, Nat.reduceLT, Int.reduceToNat, Int.reduceLT, Int.reduceLE, Int.reduceEq, Int.reduceAdd, Int.reduceSub, Int.reduceNeg, Int.reduceMul]
      refine Ok.use (Downsets_bad lim (hv.upd u8) h0) ?_
      rintro v1 w9 ⟨rfl, hu9⟩
      rw [e]
      simp (disch := omega) only [push_cast, Nat.reduceBEq, Nat.reduceEqDiff, Nat.reduceAdd, Nat.reduceMul, Nat.reduceSub, Nat.reduceLT, Int.reduceToNat, Int.reduceLT, Int.reduceLE, Int.reduceEq, Int.reduceAdd, Int.reduceSub, Int.reduceNeg, Int.reduceMul]
      exact t u8 hu9
    · have e : dsErr n lim l = flt n l := by
        have : chk n l ≠ 0 := fun h => h9 (hc9 h)
        rw [dsErr, if_pos this, hcf this]
      simp (config := { maxSteps := 3000000 }) (disch := omega) only [push_cast, Nat.reduceBEq, Nat.reduceEqDiff, Nat.reduceAdd, Nat.reduceMul, Nat.reduceSub, Nat.reduceLT, Int.reduceToNat, Int.reduceLT, Int.reduceLE, Int.reduceEq, Int.reduceAdd, Int.reduceSub, Int.reduceNeg, Int.reduceMul]
      refine Ok.use (Downsets_bad lim (hv.upd u8) h0) ?_
      rintro v1 w9 ⟨rfl, hu9⟩
      rw [e]
      simp (disch := omega) only [push_cast, Nat.reduceBEq, Nat.reduceEqDiff, Nat.reduceAdd, Nat.reduceMul, Nat.reduceSub, Nat.reduceLT, Int.reduceToNat, Int.reduceLT, Int.reduceLE, Int.reduceEq, Int.reduceAdd, Int.reduceSub, Int.reduceNeg, Int.reduceMul]
      exact t u8 hu9
  · have e : dsErr n lim l = flt n l := by
      unfold dsErr
      by_cases h : chk n l = 0
      · rw [if_neg (by omega), if_neg hl]
      · rw [if_pos h, hcf h]
    simp (config := { maxSteps := 3000000 }) (disch := omega) only [push_cast, Nat.reduceBEq, Nat.reduceEqDiff, Nat.reduceAdd, Nat.reduceMul, Nat.reduceSub, Nat.reduceLT, Int.reduceToNat, Int.reduceLT, Int.reduceLE, Int.reduceEq, Int.reduceAdd, Int.reduceSub, Int.reduceNeg, Int.reduceMul]
    refine Ok.use (Downsets_bad lim (hv.upd u8) h0) ?_
    rintro v1 w9 ⟨rfl, hu9⟩
    rw [e]
    simp (disch := omega) only [push_cast, Nat.reduceBEq, Nat.reduceEqDiff, Nat.reduceAdd, Nat.reduceMul, Nat.reduceSub, Nat.reduceLT, Int.reduceToNat, Int.reduceLT, Int.reduceLE, Int.reduceEq, Int.reduceAdd, Int.reduceSub, Int.reduceNeg, Int.reduceMul]
    exact t u8 hu9
theorem orderFaults_law {w : World} (n : Int) (_ : (Lit.int .i64 n).wf = true) {v : Value} (h : ∃ l, SlP w v l) (lim : Int) (_ : (Lit.int .i64 lim).wf = true) :
    Ok (den Try.prog 12 #[.int .i64 n, v, .int .i64 lim] w) fun u w' => u = .bool true ∧ Upd (fun _ => False) w w' := by
  obtain ⟨l, h⟩ := h
  exact orderFaults_ok n lim h
end Go.Proofs.Ytfjccccfkpgmgaa.Fd
