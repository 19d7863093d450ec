/-
  The reference's down-closed sets: Down, from, Downsets.
-/
import Derived.Test.YtfjccccfkpgmgaaDw2
namespace Go.Proofs.Ytfjccccfkpgmgaa.Fd
set_option linter.unusedSimpArgs false
set_option linter.unusedVariables false
open Go
set_option maxRecDepth 100000

set_option maxHeartbeats 1000000 in
theorem down_ok {w : World} {lo n : Nat} {mv lv : Value} {R : Rel} {l : List Nat} (hm : Mat lo w mv n n R) (hn : n ≤ 64) (hl : SlI w lv (toI l)) (hlt : ∀ x, x ∈ l → x < n) (hll : l.length ≤ 1000) :
    Ok (den Try.prog 57 #[mv, lv] w) fun v w' => v = .bool (dnP n R l) ∧ Upd (fun _ => False) w w' := by
  obtain ⟨av, cv, rfl⟩ := hm.form
  obtain ⟨al, cl, rfl, hcl⟩ := hl
  rw [toI_length]
  refine den_ok (args := [.slice av n cv, .slice al l.length cl]) rs57 Try.func57 rfl mixed in57 ok57 rfl ?_
  simp (disch := omega) only [push_cast, Nat.reduceBEq, Nat.reduceEqDiff, Nat.reduceAdd, Nat.reduceMul, Nat.reduceSub, Nat.reduceLT, Int.reduceToNat, Int.reduceLT, Int.reduceLE, Int.reduceEq, Int.reduceAdd, Int.reduceSub, Int.reduceNeg, Int.reduceMul, rowB_false]
  have hb0 : Blk (w.alloc (.cells (rowB n fun _ => false).toArray 4 (0, 0))) w.heap.size (rowB n fun _ => false) 4 := Blk.new
  have hu0 : Upd (fun _ => False) w (w.alloc (.cells (rowB n fun _ => false).toArray 4 (0, 0))) := Upd.alloc
  generalize w.alloc (.cells (rowB n fun _ => false).toArray 4 (0, 0)) = w1 at *
  refine loop_inv (I := fun k st w' => Bx (∃ i : Nat, k + i = l.length ∧ st = [.int .i64 (i : Int)] ∧ Upd (fun _ => False) w w' ∧ Blk w' w.heap.size (rowB n fun x => decide (x ∈ l.take i)) 4) ⟨⟩) ?_ l.length ⟨0, rfl, rfl, hu0, by simpa using hb0⟩
  clear hb0 hu0
  rintro k st w2 ⟨i, hki, rfl, hu, hb⟩
  have hcell : ∀ {w' : World} (i x : Nat), Upd (fun _ => False) w w' → l[i]? = some x → ∃ b o, al = some ⟨b, o, none⟩ ∧ w'.cell? ⟨b, o + i, none⟩ = some (.int .i64 (x : Int)) := by
    intro w' i x hu hx
    have h : (toI l)[i]? = some (x : Int) := by unfold toI; rw [List.getElem?_map, hx]; rfl
    obtain ⟨b, o, h1, h2, h3⟩ := hcl (by intro e; rw [e] at h; simp at h)
    exact ⟨b, o, h1, by rw [World.cell?_of_block (hu.block b h2 (fun h => h))]; exact h3 i _ h⟩
  by_cases hk0 : k = 0
  rotate_left
  · have hi : i < l.length := by omega
    have hx := List.getElem?_eq_getElem hi
    have hxn := hlt _ (List.getElem_mem hi)
    generalize hxe : l[i] = x at *
    obtain ⟨b, o, rfl, q0⟩ := hcell i x hu hx
    simp (disch := omega) only [push_cast, Nat.reduceBEq, Nat.reduceEqDiff, Nat.reduceAdd, Nat.reduceMul, Nat.reduceSub, Nat.reduceLT, Int.reduceToNat, Int.reduceLT, Int.reduceLE, Int.reduceEq, Int.reduceAdd, Int.reduceSub, Int.reduceNeg, Int.reduceMul, q0, hb.cell, rowB_get, hb.free]
    refine ⟨k - 1, by omega, i + 1, by omega, by simp, hu.setNew (Nat.le_refl _), ?_⟩
    have h1 := hb.set x (.bool true)
    rw [rowB_set] at h1
    have h2 : (fun y => if y = x then true else decide (y ∈ l.take i)) = fun y => decide (y ∈ l.take (i + 1)) := by
      funext y
      rw [List.take_add_one, hx, Option.toList_some]
      by_cases e : y = x <;> simp [e]
    rw [h2] at h1
    exact h1
  obtain rfl : i = l.length := by omega
  rw [List.take_length] at hb
  clear hki hk0
  simp (disch := omega) only [push_cast, Nat.reduceBEq, Nat.reduceEqDiff, Nat.reduceAdd, Nat.reduceMul, Nat.reduceSub, Nat.reduceLT, Int.reduceToNat, Int.reduceLT, Int.reduceLE, Int.reduceEq, Int.reduceAdd, Int.reduceSub, Int.reduceNeg, Int.reduceMul]
  refine loop_inv (I := fun k st w' => Bx (∃ i : Nat, k + i = l.length ∧ st = [.int .i64 (i : Int)] ∧ Upd (fun _ => False) w w' ∧ Blk w' w.heap.size (rowB n fun x => decide (x ∈ l)) 4 ∧ ∀ j x, j < i → l[j]? = some x → ∀ a, a < n → R a x = true → a ∈ l) ⟨⟩) ?_ l.length ⟨0, rfl, rfl, hu, hb, fun j x hj => by omega⟩
  clear hb hu
  rintro k st w2 ⟨i, hki, rfl, hu, hb, hdn⟩
  by_cases hk0 : k = 0
  · obtain rfl : i = l.length := by omega
    simp (disch := omega) only [push_cast, Nat.reduceBEq, Nat.reduceEqDiff, Nat.reduceAdd, Nat.reduceMul, Nat.reduceSub, Nat.reduceLT, Int.reduceToNat, Int.reduceLT, Int.reduceLE, Int.reduceEq, Int.reduceAdd, Int.reduceSub, Int.reduceNeg, Int.reduceMul]
    refine ⟨congrArg Value.bool (dnP_iff.2 fun x hx a ha hR => ?_).symm, hu⟩
    obtain ⟨j, hj⟩ := List.mem_iff_getElem?.1 hx
    exact hdn j x (List.getElem?_eq_some_iff.1 hj).1 hj a ha hR
  have hi : i < l.length := by omega
  have hx := List.getElem?_eq_getElem hi
  have hxn := hlt _ (List.getElem_mem hi)
  generalize hxe : l[i] = x at *
  simp (disch := omega) only [push_cast, Nat.reduceBEq, Nat.reduceEqDiff, Nat.reduceAdd, Nat.reduceMul, Nat.reduceSub, Nat.reduceLT, Int.reduceToNat, Int.reduceLT, Int.reduceLE, Int.reduceEq, Int.reduceAdd, Int.reduceSub, Int.reduceNeg, Int.reduceMul]
  refine loop_inv (I := fun k2 st w' => Bx (∃ a : Nat, k2 + a = n ∧ st = [.int .i64 (a : Int)] ∧ Upd (fun _ => False) w w' ∧ Blk w' w.heap.size (rowB n fun x => decide (x ∈ l)) 4 ∧ ∀ j, j < a → R j x = true → j ∈ l) ⟨⟩) ?_ n ⟨0, rfl, rfl, hu, hb, fun j hj => by omega⟩
  clear hb hu
  rintro k2 st w2 ⟨a, hka, rfl, hu, hb, hda⟩
  by_cases hk2 : k2 = 0
  · obtain rfl : a = n := by omega
    simp (disch := omega) only [push_cast, Nat.reduceBEq, Nat.reduceEqDiff, Nat.reduceAdd, Nat.reduceMul, Nat.reduceSub, Nat.reduceLT, Int.reduceToNat, Int.reduceLT, Int.reduceLE, Int.reduceEq, Int.reduceAdd, Int.reduceSub, Int.reduceNeg, Int.reduceMul]
    refine ⟨k - 1, by omega, i + 1, by omega, by simp, hu, hb, fun j y hj hy => ?_⟩
    by_cases e : j = i
    · subst e
      rw [hx] at hy
      cases hy
      exact hda
    · exact hdn j y (by omega) hy
  have ha : a < n := by omega
  obtain ⟨b, o, rfl, q0⟩ := hcell i x hu hx
  obtain ⟨g, cap, bk, hv, m1, m2, m3, m4, m5⟩ := (hm.upd hu).opened (by omega)
  injection hv with e1 e2 e3
  subst e1
  have c1 := m1 a ha
  have c2 := m2 a x ha hxn
  cases hbit : R a x
  · rw [hbit] at c2
    simp (disch := omega) only [push_cast, Nat.reduceBEq, Nat.reduceEqDiff, Nat.reduceAdd, Nat.reduceMul, Nat.reduceSub, Nat.reduceLT, Int.reduceToNat, Int.reduceLT, Int.reduceLE, Int.reduceEq, Int.reduceAdd, Int.reduceSub, Int.reduceNeg, Int.reduceMul, q0, c1, c2]
    refine ⟨k2 - 1, by omega, a + 1, by omega, by simp, hu.drew', hb.upd (Upd.drew (F := fun _ => False)) (fun h => h), fun j hj hR => ?_⟩
    by_cases e : j = a
    · subst e; rw [hbit] at hR; cases hR
    · exact hda j (by omega) hR
  rw [hbit] at c2
  by_cases hal : a ∈ l
  · simp (disch := omega) only [push_cast, Nat.reduceBEq, Nat.reduceEqDiff, Nat.reduceAdd, Nat.reduceMul, Nat.reduceSub, Nat.reduceLT, Int.reduceToNat, Int.reduceLT, Int.reduceLE, Int.reduceEq, Int.reduceAdd, Int.reduceSub, Int.reduceNeg, Int.reduceMul, q0, c1, c2, hb.cell, rowB_get, hal]
    refine ⟨k2 - 1, by omega, a + 1, by omega, by simp, hu.drew', hb.upd (Upd.drew (F := fun _ => False)) (fun h => h), fun j hj hR => ?_⟩
    by_cases e : j = a
    · subst e; exact hal
    · exact hda j (by omega) hR
  · simp (disch := omega) only [push_cast, Nat.reduceBEq, Nat.reduceEqDiff, Nat.reduceAdd, Nat.reduceMul, Nat.reduceSub, Nat.reduceLT, Int.reduceToNat, Int.reduceLT, Int.reduceLE, Int.reduceEq, Int.reduceAdd, Int.reduceSub, Int.reduceNeg, Int.reduceMul, q0, c1, c2, hb.cell, rowB_get, hal]
    refine ⟨?_, hu.drew'⟩
    cases hd : dnP n R l
    · rfl
    · exact absurd (dnP_iff.1 hd x (List.mem_of_getElem? hx) a ha hbit) hal
end Go.Proofs.Ytfjccccfkpgmgaa.Fd
