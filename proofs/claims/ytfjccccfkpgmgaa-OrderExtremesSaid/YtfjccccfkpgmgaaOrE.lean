/-
  The specification's Sort; levels, of the program and of the specification.
-/
import Derived.Test.YtfjccccfkpgmgaaOrD
namespace Go.Proofs.Ytfjccccfkpgmgaa.Fd
set_option linter.unusedSimpArgs false
set_option linter.unusedVariables false
open Go
set_option maxRecDepth 100000

theorem isFree_succ {c : Nat} {R : Rel} {out : List Nat} {b : Nat} : isFree (c + 1) R out b = (isFree c R out b && (out.contains c || !R c b)) := by
  unfold isFree
  rw [List.range_succ, List.all_append]
  simp

set_option maxHeartbeats 1000000 in
theorem rsort_ok {w : World} {lo n : Nat} {v : Value} {R : Rel} (hm : Mat lo w v n n R) (hn : n ≤ 64) (ht : ∀ a b c, R a c = true → R c b = true → R a b = true) (hir : ∀ a, R a a = false) :
    Ok (den Try.prog 41 #[v] w) fun u w' => SlI w' u (toI (sortL n R n)) ∧ Upd (fun _ => False) w w' ∧ ∀ g, u.ownBlock = some g → w.heap.size ≤ g := by
  obtain ⟨av, cv, rfl⟩ := hm.form
  refine den_ok (args := [.slice av n cv]) rs41 Try.func41 rfl mixed in41 ok41 rfl ?_
  simp (disch := omega) only [push_cast, Nat.reduceBEq, Nat.reduceEqDiff, Nat.reduceAdd, Nat.reduceMul, Nat.reduceSub, Nat.reduceLT, Int.reduceToNat, Int.reduceLT, Int.reduceLE, Int.reduceEq, Int.reduceAdd, Int.reduceSub, Int.reduceNeg, Int.reduceMul, rowB_false]
  have hu0 : Upd (fun _ => False) w ((w.alloc (.cells #[] 3 (0, 0))).alloc (.cells (rowB n fun _ => false).toArray 4 (0, 0))) := Upd.refl.alloc'.alloc'
  have ho0 : ((w.alloc (.cells #[] 3 (0, 0))).alloc (.cells (rowB n fun _ => false).toArray 4 (0, 0))).ownsRow 0 3 1 (.slice (some ⟨w.heap.size, 0, none⟩) 0 0) (toI (sortL n R 0)).length ((toI (sortL n R 0)).map (Value.int .i64)) :=
    ⟨rfl, .inr ⟨w.heap.size, 0, #[], rfl, Nat.zero_le _, (Blk.new (cs := [])).alloc _, Nat.le_refl _, Nat.zero_le _, rfl, rfl⟩⟩
  have hb0 : Blk ((w.alloc (.cells #[] 3 (0, 0))).alloc (.cells (rowB n fun _ => false).toArray 4 (0, 0))) (w.heap.size + 1) (rowB n fun _ => false) 4 := Blk.newAt size_alloc
  refine loop_inv (I := fun k st w' => Bx (∃ i v, k + i = n ∧ st = [v] ∧ Upd (fun _ => False) w w' ∧ Blk w' (w.heap.size + 1) (rowB n fun x => (sortL n R i).contains x) 4 ∧
    w'.ownsRow 0 3 1 v (toI (sortL n R i)).length ((toI (sortL n R i)).map (Value.int .i64)) ∧ ∀ g, v.ownBlock = some g → w.heap.size ≤ g ∧ g ≠ w.heap.size + 1) ⟨⟩) ?_ n
    ⟨0, _, rfl, rfl, hu0, hb0, ho0, by simp [Value.ownBlock]⟩
  clear hu0 hb0 ho0
  rintro k st w' ⟨i, v, hki, rfl, hu, hb, hown, hfr⟩
  obtain ⟨ov, oc, rfl⟩ := own_slice hown
  have hsl := sortL_length (n := n) ht hir i (by omega)
  have hl : (toI (sortL n R i)).length = i := by rw [toI_length, hsl]
  rw [hl] at hfr hown ⊢
  by_cases hk0 : k = 0
  · obtain rfl : i = n := by omega
    simp (disch := omega) only [push_cast, Nat.reduceBEq, Nat.reduceEqDiff, Nat.reduceAdd, Nat.reduceMul, Nat.reduceSub, Nat.reduceLT, Int.reduceToNat, Int.reduceLT, Int.reduceLE, Int.reduceEq, Int.reduceAdd, Int.reduceSub, Int.reduceNeg, Int.reduceMul]
    refine ⟨SlI.of_own ?_, hu, fun g hg => (hfr g hg).1⟩
    rw [hl]
    exact hown
  have hi : i < n := by omega
  simp (disch := omega) only [push_cast, Nat.reduceBEq, Nat.reduceEqDiff, Nat.reduceAdd, Nat.reduceMul, Nat.reduceSub, Nat.reduceLT, Int.reduceToNat, Int.reduceLT, Int.reduceLE, Int.reduceEq, Int.reduceAdd, Int.reduceSub, Int.reduceNeg, Int.reduceMul]
  generalize hS : sortL n R i = S at *
  refine loop_inv (I := fun k2 st w2 => Bx (k2 ≤ n ∧ ∃ nx : Int, st = [.int .i64 nx, .int .i64 ((k2 : Int) - 1)] ∧ Upd (fun _ => False) w' w2 ∧
    ((nx = -1 ∧ ∀ c, k2 ≤ c → c < n → canGo n R S c = false) ∨ ∃ b : Nat, nx = b ∧ k2 ≤ b ∧ b < n ∧ canGo n R S b = true ∧ ∀ c, k2 ≤ c → c < b → canGo n R S c = false)) ⟨⟩) ?_ n
    ⟨Nat.le_refl n, -1, rfl, Upd.refl, .inl ⟨rfl, fun c h1 h2 => by omega⟩⟩
  rintro k2 st w2 ⟨hk2n, nx, rfl, hu2, hnx⟩
  have hbw := hb.upd hu2 (fun h => h)
  have hown2 := ownsRow_upd hown hu2 (fun _ _ h => h)
  by_cases hk2 : k2 = 0
  · subst hk2
    obtain ⟨x, hx, hxo⟩ := left_over (n := n) (out := S) (by omega)
    obtain ⟨y, hy, hg⟩ := next_any ht hir hx hxo
    rcases hnx with ⟨_, h⟩ | ⟨b, rfl, _, hbn, hcan, hleast⟩
    · rw [h y (by omega) hy] at hg
      cases hg
    have hq : (rowB n fun x => S.contains x)[b]? = some (.bool (S.contains b)) := rowB_get hbn
    simp (disch := omega) only [push_cast, Nat.reduceBEq, Nat.reduceEqDiff, Nat.reduceAdd, Nat.reduceMul, Nat.reduceSub, Nat.reduceLT, Int.reduceToNat, Int.reduceLT, Int.reduceLE, Int.reduceEq, Int.reduceAdd, Int.reduceSub, Int.reduceNeg, Int.reduceMul, hbw.cell, hbw.free, hq]
    have hu3 : Upd (fun b => b = w.heap.size + 1) w2 (w2.setCell ⟨w.heap.size + 1, b, none⟩ (.bool true)) := (Upd.refl (F := fun b => b = w.heap.size + 1)).setIn rfl
    have hb3 := hbw.set b (.bool true)
    rw [rowB_set] at hb3
    have hown3 := ownsRow_upd hown2 hu3 (fun g hg => (hfr g hg).2)
    have hsz := hu.size
    have hsz2 := hu2.size
    have hsz3 : (w2.setCell ⟨w.heap.size + 1, b, none⟩ (.bool true)).heap.size = w2.heap.size := size_set
    have hbl := hbw.lt
    have hw3 : Upd (fun _ => False) w (w2.setCell ⟨w.heap.size + 1, b, none⟩ (.bool true)) := (hu.trans hu2 (fun _ _ h => h)).trans hu3 (fun b h1 h2 => by omega)
    generalize w2.setCell ⟨w.heap.size + 1, b, none⟩ (.bool true) = w3 at *
    rw [show w3.ownsRow 0 3 1 (.slice ov i oc) i = w3.ownsRow 0 3 1 (.slice ov i oc) (toI S).length from by rw [hl]] at hown3
    rw [← hsz3]
    refine app_int (hown3.alloc _) (by omega) (x := (b : Int)) Blk.new ?_
    intro v' w5 hown5 hu5 hfr5
    simp (disch := omega) only [push_cast, Nat.reduceBEq, Nat.reduceEqDiff, Nat.reduceAdd, Nat.reduceMul, Nat.reduceSub, Nat.reduceLT, Int.reduceToNat, Int.reduceLT, Int.reduceLE, Int.reduceEq, Int.reduceAdd, Int.reduceSub, Int.reduceNeg, Int.reduceMul]
    have hu35 : Upd (fun b => (Value.slice ov i oc).ownBlock = some b) w3 w5 := Upd.alloc.trans hu5 (fun _ _ h => h)
    have hnext := nextOf_some hbn hcan (fun c hc => hleast c (by omega) hc)
    have hsucc : sortL n R (i + 1) = S ++ [b] := by
      show (match nextOf n R (sortL n R i) with | some b => sortL n R i ++ [b] | none => sortL n R i) = _
      rw [hS, hnext]
    have hI : toI (sortL n R (i + 1)) = toI S ++ [(b : Int)] := by rw [hsucc]; simp [toI]
    refine ⟨k - 1, by omega, i + 1, v', by omega, rfl, hw3.trans hu35 (fun b h1 h2 => by have := (hfr b h2).1; omega), ?_, by rw [hI]; exact hown5, ?_⟩
    · have e : (fun x => (sortL n R (i + 1)).contains x) = fun x => if x = b then true else S.contains x := by
        funext x
        rw [hsucc]
        by_cases h : x = b
        · simp [h]
        · simp [h]
      rw [e]
      exact hb3.upd hu35 (fun h => (hfr _ h).2 rfl)
    · intro g hg
      rcases hfr5 g hg with h | h
      · exact hfr g h
      · rw [size_alloc] at h; omega
  obtain ⟨b, rfl⟩ := Nat.exists_eq_succ_of_ne_zero hk2
  rw [show ((b.succ : Nat) : Int) - 1 = (b : Int) from by omega]
  have hbn : b < n := by omega
  have hq : (rowB n fun x => S.contains x)[b]? = some (.bool (S.contains b)) := rowB_get hbn
  simp (disch := omega) only [push_cast, Nat.reduceBEq, Nat.reduceEqDiff, Nat.reduceAdd, Nat.reduceMul, Nat.reduceSub, Nat.reduceLT, Int.reduceToNat, Int.reduceLT, Int.reduceLE, Int.reduceEq, Int.reduceAdd, Int.reduceSub, Int.reduceNeg, Int.reduceMul, hbw.cell, hbw.free, hq]
  refine loop_inv (I := fun k3 st w3 => Bx (∃ a, k3 + a = n ∧ st = [.bool (!S.contains b && isFree a R S b), .int .i64 (a : Int)] ∧ Upd (fun _ => False) w2 w3) ⟨⟩) ?_ n ⟨0, rfl, by simp [isFree], Upd.refl⟩
  rintro k3 st w3 ⟨a, hka, rfl, hu3⟩
  have hb3 := hbw.upd hu3 (fun h => h)
  by_cases hk3 : k3 = 0
  · obtain rfl : a = n := by omega
    have hcg : canGo a R S b = (!S.contains b && isFree a R S b) := rfl
    rw [← hcg]
    cases hc : canGo a R S b
    · simp (disch := omega) only [push_cast, Nat.reduceBEq, Nat.reduceEqDiff, Nat.reduceAdd, Nat.reduceMul, Nat.reduceSub, Nat.reduceLT, Int.reduceToNat, Int.reduceLT, Int.reduceLE, Int.reduceEq, Int.reduceAdd, Int.reduceSub, Int.reduceNeg, Int.reduceMul]
      refine ⟨b, by omega, by omega, nx, by simp, hu2.trans hu3 (fun _ _ h => h), ?_⟩
      rcases hnx with ⟨h1, h2⟩ | ⟨b', h1, h2, h3, h4, h5⟩
      · refine .inl ⟨h1, fun c h6 h7 => ?_⟩
        by_cases e : c = b
        · rw [e]; exact hc
        · exact h2 c (by omega) h7
      · refine .inr ⟨b', h1, by omega, h3, h4, fun c h6 h7 => ?_⟩
        by_cases e : c = b
        · rw [e]; exact hc
        · exact h5 c (by omega) h7
    · simp (disch := omega) only [push_cast, Nat.reduceBEq, Nat.reduceEqDiff, Nat.reduceAdd, Nat.reduceMul, Nat.reduceSub, Nat.reduceLT, Int.reduceToNat, Int.reduceLT, Int.reduceLE, Int.reduceEq, Int.reduceAdd, Int.reduceSub, Int.reduceNeg, Int.reduceMul]
      exact ⟨b, by omega, by omega, b, by simp, hu2.trans hu3 (fun _ _ h => h), .inr ⟨b, rfl, Nat.le_refl _, hbn, hc, fun c h6 h7 => by omega⟩⟩
  have ha : a < n := by omega
  obtain ⟨g, cap, bk, hv, m1, m2, _, _, _⟩ := (((hm.upd hu).upd hu2).upd hu3).opened (by omega)
  injection hv with e1 e2 e3
  subst e1
  have c1 := m1 a ha
  have c2 := m2 a b ha hbn
  have hqa : (rowB n fun x => S.contains x)[a]? = some (.bool (S.contains a)) := rowB_get ha
  cases hbit : R a b
  · rw [hbit] at c2
    simp (disch := omega) only [push_cast, Nat.reduceBEq, Nat.reduceEqDiff, Nat.reduceAdd, Nat.reduceMul, Nat.reduceSub, Nat.reduceLT, Int.reduceToNat, Int.reduceLT, Int.reduceLE, Int.reduceEq, Int.reduceAdd, Int.reduceSub, Int.reduceNeg, Int.reduceMul, c1, c2, hb3.cell, hqa]
    refine ⟨k3 - 1, by omega, a + 1, by omega, ?_, hu3⟩
    rw [isFree_succ, hbit, Bool.not_false, Bool.or_true, Bool.and_true]
    rfl
  · rw [hbit] at c2
    cases hca : S.contains a
    · rw [hca] at hqa
      simp (disch := omega) only [push_cast, Nat.reduceBEq, Nat.reduceEqDiff, Nat.reduceAdd, Nat.reduceMul, Nat.reduceSub, Nat.reduceLT, Int.reduceToNat, Int.reduceLT, Int.reduceLE, Int.reduceEq, Int.reduceAdd, Int.reduceSub, Int.reduceNeg, Int.reduceMul, c1, c2, hb3.cell, hqa]
      refine ⟨k3 - 1, by omega, a + 1, by omega, ?_, hu3⟩
      rw [isFree_succ, hbit, hca]
      simp
    · rw [hca] at hqa
      simp (disch := omega) only [push_cast, Nat.reduceBEq, Nat.reduceEqDiff, Nat.reduceAdd, Nat.reduceMul, Nat.reduceSub, Nat.reduceLT, Int.reduceToNat, Int.reduceLT, Int.reduceLE, Int.reduceEq, Int.reduceAdd, Int.reduceSub, Int.reduceNeg, Int.reduceMul, c1, c2, hb3.cell, hqa]
      refine ⟨k3 - 1, by omega, a + 1, by omega, ?_, hu3⟩
      rw [isFree_succ, hca, Bool.true_or, Bool.and_true]
      rfl
end Go.Proofs.Ytfjccccfkpgmgaa.Fd
