/-
  The specification's Acyclic and Pairs; the laws' fault; the program's sorted and Sort.
-/
import Derived.Test.YtfjccccfkpgmgaaOr5
namespace Go.Proofs.Ytfjccccfkpgmgaa.Fd
set_option linter.unusedSimpArgs false
set_option linter.unusedVariables false
open Go
set_option maxRecDepth 100000

theorem racyclic_ok {w : World} {lo n : Nat} {v : Value} {R : Rel} (hm : Mat lo w v n n R) (hn : n ≤ 64) :
    Ok (den Try.prog 23 #[v] w) fun u w' => u = .bool (!cyc n R) ∧ Upd (fun _ => False) w w' := by
  obtain ⟨av, cv, rfl⟩ := hm.form
  refine den_ok (args := [.slice av n cv]) rs23 Try.func23 rfl mixed in23 ok23 rfl ?_
  simp (disch := omega) only [push_cast, Nat.reduceBEq, Nat.reduceEqDiff, Nat.reduceAdd, Nat.reduceMul, Nat.reduceSub, Nat.reduceLT, Int.reduceToNat, Int.reduceLT, Int.reduceLE, Int.reduceEq, Int.reduceAdd, Int.reduceSub, Int.reduceNeg, Int.reduceMul]
  refine loop_inv (I := fun k st w' => Bx (∃ i, k + i = n ∧ st = [.int .i64 (i : Int)] ∧ Upd (fun _ => False) w w' ∧ ∀ j, j < i → R j j = false) ⟨⟩) ?_ n ⟨0, rfl, rfl, Upd.refl, fun j hj => by omega⟩
  rintro k st w' ⟨i, hki, rfl, hu, hin⟩
  by_cases hk0 : k = 0
  · simp (disch := omega) only [push_cast, Nat.reduceBEq, Nat.reduceEqDiff, Nat.reduceAdd, Nat.reduceMul, Nat.reduceSub, Nat.reduceLT, Int.reduceToNat, Int.reduceLT, Int.reduceLE, Int.reduceEq, Int.reduceAdd, Int.reduceSub, Int.reduceNeg, Int.reduceMul]
    rw [cyc_no (fun j hj => hin j (by omega))]
    exact ⟨rfl, hu⟩
  · have hi : i < n := by omega
    obtain ⟨g, cap, bk, hv, m1, m2, _, _, _⟩ := (hm.upd hu).opened (by omega)
    injection hv with e1 e2 e3
    subst e1
    have c1 := m1 i hi
    have c2 := m2 i i hi hi
    cases hbit : R i i
    · rw [hbit] at c2
      simp (disch := omega) only [push_cast, Nat.reduceBEq, Nat.reduceEqDiff, Nat.reduceAdd, Nat.reduceMul, Nat.reduceSub, Nat.reduceLT, Int.reduceToNat, Int.reduceLT, Int.reduceLE, Int.reduceEq, Int.reduceAdd, Int.reduceSub, Int.reduceNeg, Int.reduceMul, c1, c2]
      refine ⟨k - 1, by omega, i + 1, by omega, by simp, hu, fun j hj => ?_⟩
      by_cases e : j = i
      · rw [e]; exact hbit
      · exact hin j (by omega)
    · rw [hbit] at c2
      simp (disch := omega) only [push_cast, Nat.reduceBEq, Nat.reduceEqDiff, Nat.reduceAdd, Nat.reduceMul, Nat.reduceSub, Nat.reduceLT, Int.reduceToNat, Int.reduceLT, Int.reduceLE, Int.reduceEq, Int.reduceAdd, Int.reduceSub, Int.reduceNeg, Int.reduceMul, c1, c2]
      rw [cyc_up (i := i) (by omega) hbit]
      exact ⟨rfl, hu⟩

theorem bsl_pr0 (w : World) : bslS Try.prog 22 0 #[] w = some (.slice (some ⟨w.heap.size, 0, none⟩) 0 0, w.alloc (.cells #[] 29 (0, 0))) := by kernel_rfl
theorem bsl_int0 (w : World) : bslS Try.prog 26 0 #[] w = some (.slice (some ⟨w.heap.size, 0, none⟩) 0 0, w.alloc (.cells #[] 3 (0, 0))) := by kernel_rfl
theorem bsl_int1 (x : Int) (w : World) : bslS Try.prog 26 1 #[(0, .int .i64 x)] w = some (.slice (some ⟨w.heap.size, 0, none⟩) 1 1, w.alloc (.cells [.int .i64 x].toArray 3 (0, 0))) := by kernel_rfl
attribute [push_cast] bsl_pr0 bsl_int0 bsl_int1

set_option maxHeartbeats 1000000 in
theorem rpairs_ok {w : World} {lo n : Nat} {v : Value} {R : Rel} (hm : Mat lo w v n n R) (hn : n ≤ 64) :
    Ok (den Try.prog 22 #[v] w) fun u w' => SlP w' u (pairsOf n n R) ∧ Upd (fun _ => False) w w' := by
  obtain ⟨av, cv, rfl⟩ := hm.form
  refine den_ok (args := [.slice av n cv]) rs22 Try.func22 rfl mixed in22 ok22 rfl ?_
  simp (disch := omega) only [push_cast, Nat.reduceBEq, Nat.reduceEqDiff, Nat.reduceAdd, Nat.reduceMul, Nat.reduceSub, Nat.reduceLT, Int.reduceToNat, Int.reduceLT, Int.reduceLE, Int.reduceEq, Int.reduceAdd, Int.reduceSub, Int.reduceNeg, Int.reduceMul]
  have hu0 : Upd (fun _ => False) w (w.alloc (.cells #[] 29 (0, 0))) := Upd.alloc
  have ho0 : (w.alloc (.cells #[] 29 (0, 0))).ownsRow 0 29 2 (.slice (some ⟨w.heap.size, 0, none⟩) 0 0) (pairsOf n 0 R).length ((pairsOf n 0 R).flatMap pairRow) :=
    ⟨rfl, .inr ⟨w.heap.size, 0, #[], rfl, Nat.zero_le _, Blk.new (cs := []), Nat.le_refl _, Nat.zero_le _, rfl, rfl⟩⟩
  refine loop_inv (I := fun k st w' => Bx (∃ i v, k + i = n ∧ st = [v, .int .i64 (i : Int)] ∧ Upd (fun _ => False) w w' ∧ w'.ownsRow 0 29 2 v (pairsOf n i R).length ((pairsOf n i R).flatMap pairRow) ∧ ∀ g, v.ownBlock = some g → w.heap.size ≤ g) ⟨⟩) ?_ n
    ⟨0, _, rfl, rfl, hu0, ho0, by simp [Value.ownBlock]⟩
  clear hu0 ho0
  rintro k st w' ⟨i, v, hki, rfl, hu, hown, hfr⟩
  by_cases hk0 : k = 0
  · obtain rfl : i = n := by omega
    simp (disch := omega) only [push_cast, Nat.reduceBEq, Nat.reduceEqDiff, Nat.reduceAdd, Nat.reduceMul, Nat.reduceSub, Nat.reduceLT, Int.reduceToNat, Int.reduceLT, Int.reduceLE, Int.reduceEq, Int.reduceAdd, Int.reduceSub, Int.reduceNeg, Int.reduceMul]
    exact ⟨SlP.of_own hown, hu⟩
  · have hi : i < n := by omega
    simp (disch := omega) only [push_cast, Nat.reduceBEq, Nat.reduceEqDiff, Nat.reduceAdd, Nat.reduceMul, Nat.reduceSub, Nat.reduceLT, Int.reduceToNat, Int.reduceLT, Int.reduceLE, Int.reduceEq, Int.reduceAdd, Int.reduceSub, Int.reduceNeg, Int.reduceMul]
    refine loop_inv (I := fun k2 st w' => Bx (∃ j v, k2 + j = n ∧ st = [v, .int .i64 (j : Int)] ∧ Upd (fun _ => False) w w' ∧ w'.ownsRow 0 29 2 v (pairsOf n i R ++ rowOf j i R).length ((pairsOf n i R ++ rowOf j i R).flatMap pairRow) ∧ ∀ g, v.ownBlock = some g → w.heap.size ≤ g) ⟨⟩) ?_ n
      ⟨0, v, rfl, rfl, hu, by simpa [rowOf] using hown, hfr⟩
    clear hu hown hfr
    rintro k2 st w' ⟨j, v, hkj, rfl, hu, hown, hfr⟩
    by_cases hk2 : k2 = 0
    · obtain rfl : j = n := by omega
      simp (disch := omega) only [push_cast, Nat.reduceBEq, Nat.reduceEqDiff, Nat.reduceAdd, Nat.reduceMul, Nat.reduceSub, Nat.reduceLT, Int.reduceToNat, Int.reduceLT, Int.reduceLE, Int.reduceEq, Int.reduceAdd, Int.reduceSub, Int.reduceNeg, Int.reduceMul]
      exact ⟨k - 1, by omega, i + 1, v, by omega, by simp, hu, by rw [pairsOf_succ]; exact hown, hfr⟩
    · have hj : j < n := by omega
      have hp := pairsOf_le (n := n) (m := i) (R := R)
      have hr := rowOf_le (n := j) (a := i) (R := R)
      have h64 : i * n ≤ 64 * 64 := Nat.mul_le_mul (by omega) hn
      obtain ⟨g, cap, bk, hv, m1, m2, _, _, _⟩ := (hm.upd hu).opened (by omega)
      injection hv with e1 e2 e3
      subst e1
      have c1 := m1 i hi
      have c2 := m2 i j hi hj
      cases hbit : R i j
      · rw [hbit] at c2
        simp (disch := omega) only [push_cast, Nat.reduceBEq, Nat.reduceEqDiff, Nat.reduceAdd, Nat.reduceMul, Nat.reduceSub, Nat.reduceLT, Int.reduceToNat, Int.reduceLT, Int.reduceLE, Int.reduceEq, Int.reduceAdd, Int.reduceSub, Int.reduceNeg, Int.reduceMul, c1, c2]
        refine ⟨k2 - 1, by omega, j + 1, v, by omega, by simp, hu, ?_, hfr⟩
        rw [rowOf_succ, if_neg (by rw [hbit]; decide), List.append_nil]
        exact hown
      · rw [hbit] at c2
        simp (disch := omega) only [push_cast, Nat.reduceBEq, Nat.reduceEqDiff, Nat.reduceAdd, Nat.reduceMul, Nat.reduceSub, Nat.reduceLT, Int.reduceToNat, Int.reduceLT, Int.reduceLE, Int.reduceEq, Int.reduceAdd, Int.reduceSub, Int.reduceNeg, Int.reduceMul, c1, c2]
        refine app_pr (hown.alloc _) (by rw [List.length_append]; omega) (x := prs i j) (Blk.new (cs := pairRow (prs i j))) ?_
        intro v' w2 hown2 hu2 hfr2
        simp (disch := omega) only [push_cast, Nat.reduceBEq, Nat.reduceEqDiff, Nat.reduceAdd, Nat.reduceMul, Nat.reduceSub, Nat.reduceLT, Int.reduceToNat, Int.reduceLT, Int.reduceLE, Int.reduceEq, Int.reduceAdd, Int.reduceSub, Int.reduceNeg, Int.reduceMul]
        have hu3 : Upd (fun b => v.ownBlock = some b) w' w2 := Upd.alloc.trans hu2 (fun _ _ h => h)
        refine ⟨k2 - 1, by omega, j + 1, v', by omega, by simp, hu.trans hu3 (fun b h1 h2 => by have := hfr b h2; omega), ?_, ?_⟩
        · rw [rowOf_succ, if_pos hbit, ← List.append_assoc]
          exact hown2
        · intro g hg
          have := hu.size
          rcases hfr2 g hg with h | h
          · exact hfr g h
          · rw [size_alloc] at h; omega

set_option maxHeartbeats 1000000 in
theorem fault_ok {w : World} (n : Int) {v : Value} {l : List Pr} (hv : SlP w v l) :
    Ok (den Try.prog 14 #[.int .i64 n, v] w) fun u w' => u = .int .i64 (flt n l) ∧ Upd (fun _ => False) w w' := by
  refine den_ok (args := [.int .i64 n, v]) rs14 Try.func14 rfl mixed in14 ok14 rfl ?_
  simp (disch := omega) only [push_cast, Nat.reduceBEq, Nat.reduceEqDiff, Nat.reduceAdd, Nat.reduceMul, Nat.reduceSub, Nat.reduceLT, Int.reduceToNat, Int.reduceLT, Int.reduceLE, Int.reduceEq, Int.reduceAdd, Int.reduceSub, Int.reduceNeg, Int.reduceMul]
  refine Ok.use (rcheck_ok n hv) ?_
  rintro v w1 ⟨rfl, hu1⟩
  by_cases hc : chk n l = 0
  rotate_left
  · have hf : flt n l = chk n l := by rw [flt, if_neg hc]
    simp (disch := omega) only [push_cast, Nat.reduceBEq, Nat.reduceEqDiff, Nat.reduceAdd, Nat.reduceMul, Nat.reduceSub, Nat.reduceLT, Int.reduceToNat, Int.reduceLT, Int.reduceLE, Int.reduceEq, Int.reduceAdd, Int.reduceSub, Int.reduceNeg, Int.reduceMul]
    rw [hf]
    exact ⟨rfl, hu1⟩
  · obtain ⟨m, rfl, hm, hl4, hall⟩ := chk_zero hc
    have hf : flt m l = if cyc m (less m l) then 9 else 0 := by rw [flt, if_pos hc]; rfl
    rw [hc]
    simp (disch := omega) only [push_cast, Nat.reduceBEq, Nat.reduceEqDiff, Nat.reduceAdd, Nat.reduceMul, Nat.reduceSub, Nat.reduceLT, Int.reduceToNat, Int.reduceLT, Int.reduceLE, Int.reduceEq, Int.reduceAdd, Int.reduceSub, Int.reduceNeg, Int.reduceMul]
    refine Ok.use (less_ok hm (hv.upd hu1) hall hl4) ?_
    rintro v w2 ⟨hmat, hu2⟩
    simp (disch := omega) only [push_cast, Nat.reduceBEq, Nat.reduceEqDiff, Nat.reduceAdd, Nat.reduceMul, Nat.reduceSub, Nat.reduceLT, Int.reduceToNat, Int.reduceLT, Int.reduceLE, Int.reduceEq, Int.reduceAdd, Int.reduceSub, Int.reduceNeg, Int.reduceMul]
    refine Ok.use (racyclic_ok hmat hm) ?_
    rintro v w3 ⟨rfl, hu3⟩
    rw [hf]
    have hu := (hu1.trans hu2 (fun _ _ h => h)).trans hu3 (fun _ _ h => h)
    cases cyc m (less m l)
    · simp (disch := omega) only [push_cast, Nat.reduceBEq, Nat.reduceEqDiff, Nat.reduceAdd, Nat.reduceMul, Nat.reduceSub, Nat.reduceLT, Int.reduceToNat, Int.reduceLT, Int.reduceLE, Int.reduceEq, Int.reduceAdd, Int.reduceSub, Int.reduceNeg, Int.reduceMul]
      exact hu
    · simp (disch := omega) only [push_cast, Nat.reduceBEq, Nat.reduceEqDiff, Nat.reduceAdd, Nat.reduceMul, Nat.reduceSub, Nat.reduceLT, Int.reduceToNat, Int.reduceLT, Int.reduceLE, Int.reduceEq, Int.reduceAdd, Int.reduceSub, Int.reduceNeg, Int.reduceMul]
      exact hu
end Go.Proofs.Ytfjccccfkpgmgaa.Fd
