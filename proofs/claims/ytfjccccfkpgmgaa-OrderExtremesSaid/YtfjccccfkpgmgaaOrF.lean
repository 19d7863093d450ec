/-
  Levels, of the program and of the specification; the law OrderLevels, as a reading.
-/
import Derived.Test.YtfjccccfkpgmgaaOrE
namespace Go.Proofs.Ytfjccccfkpgmgaa.Fd
set_option linter.unusedSimpArgs false
set_option linter.unusedVariables false
open Go
set_option maxRecDepth 100000

/-! levels -/
structure IsLev (n : Nat) (R : Rel) (f : Nat → Nat) : Prop where
  le : ∀ a x, a < n → x < n → R a x = true → f a + 1 ≤ f x
  eq : ∀ x, x < n → f x = 0 ∨ ∃ a, a < n ∧ R a x = true ∧ f a + 1 = f x
theorem IsLev.unique {n : Nat} {R : Rel} {s : Nat → Nat} (topo : Topo n R s) {f g : Nat → Nat} (hf : IsLev n R f) (hg : IsLev n R g) : ∀ x, x < n → f x = g x := by
  have key : ∀ j, j < n → f (s j) = g (s j) := by
    intro j
    induction j using Nat.strongRecOn with
    | _ j ih =>
      intro hj
      have hx := topo.lt j hj
      have one : ∀ {p q : Nat → Nat}, IsLev n R p → IsLev n R q → (∀ i, i < j → i < n → p (s i) = q (s i)) → p (s j) ≤ q (s j) := by
        intro p q hp hq he
        rcases hp.eq (s j) hx with h | ⟨a, ha, hR, h⟩
        · omega
        · obtain ⟨i, hi, rfl⟩ := topo.free j hj a ha hR
          have h1 := he i hi (by omega)
          have h2 := hq.le (s i) (s j) ha hx hR
          omega
      exact Nat.le_antisymm (one hf hg fun i hi hn => ih i hi hn) (one hg hf fun i hi hn => (ih i hi hn).symm)
  intro x hx
  obtain ⟨j, hj, rfl⟩ := topo.surj x hx
  exact key j hj
theorem Topo.later {n : Nat} {R : Rel} {s : Nat → Nat} (topo : Topo n R s) {i j : Nat} (hi : i < n) (hj : j < n) (h : j ≤ i) : R (s i) (s j) = false := by
  cases hR : R (s i) (s j)
  · rfl
  · obtain ⟨i', hi', e⟩ := topo.free j hj (s i) (topo.lt i hi) hR
    have := topo.inj i' i (by omega) hi e
    omega
def lstep (R : Rel) (a : Nat) (f : Nat → Nat) (x : Nat) : Nat := if R a x then max (f x) (f a + 1) else f x
structure LInv (n : Nat) (R : Rel) (s : Nat → Nat) (i : Nat) (f : Nat → Nat) : Prop where
  le : ∀ j, j < i → ∀ x, x < n → R (s j) x = true → f (s j) + 1 ≤ f x
  eq : ∀ x, x < n → f x = 0 ∨ ∃ j, j < i ∧ R (s j) x = true ∧ f (s j) + 1 = f x
  few : ∀ x, f x ≤ i
theorem LInv.step {n : Nat} {R : Rel} {s : Nat → Nat} (topo : Topo n R s) {i : Nat} {f : Nat → Nat} (h : LInv n R s i f) (hi : i < n) : LInv n R s (i + 1) (lstep R (s i) f) := by
  have same : ∀ j, j ≤ i → lstep R (s i) f (s j) = f (s j) := by
    intro j hj
    unfold lstep
    rw [topo.later hi (by omega) hj, if_neg (by decide)]
  have up : ∀ x, f x ≤ lstep R (s i) f x := by
    intro x
    unfold lstep
    split <;> omega
  refine ⟨fun j hj x hx hR => ?_, fun x hx => ?_, fun x => ?_⟩
  · rw [same j (by omega)]
    by_cases e : j = i
    · subst e
      unfold lstep
      rw [if_pos hR]
      omega
    · have := h.le j (by omega) x hx hR
      have := up x
      omega
  · by_cases hR : R (s i) x = true
    · by_cases hm : f x ≤ f (s i) + 1
      · right
        refine ⟨i, by omega, hR, ?_⟩
        rw [same i (Nat.le_refl i)]
        unfold lstep
        rw [if_pos hR]
        omega
      · have hl : lstep R (s i) f x = f x := by unfold lstep; rw [if_pos hR]; omega
        rw [hl]
        rcases h.eq x hx with h0 | ⟨j, hj, h1, h2⟩
        · exact .inl h0
        · exact .inr ⟨j, by omega, h1, by rw [same j (by omega)]; exact h2⟩
    · have hl : lstep R (s i) f x = f x := by unfold lstep; rw [if_neg hR]
      rw [hl]
      rcases h.eq x hx with h0 | ⟨j, hj, h1, h2⟩
      · exact .inl h0
      · exact .inr ⟨j, by omega, h1, by rw [same j (by omega)]; exact h2⟩
  · have h1 := h.few x
    have h2 := h.few (s i)
    unfold lstep
    split <;> omega
theorem LInv.done {n : Nat} {R : Rel} {s : Nat → Nat} (topo : Topo n R s) {f : Nat → Nat} (h : LInv n R s n f) : IsLev n R f := by
  refine ⟨fun a x ha hx hR => ?_, fun x hx => ?_⟩
  · obtain ⟨j, hj, rfl⟩ := topo.surj a ha
    exact h.le j hj x hx hR
  · rcases h.eq x hx with h0 | ⟨j, hj, h1, h2⟩
    · exact .inl h0
    · exact .inr ⟨s j, topo.lt j hj, h1, h2⟩
def natL (n : Nat) (f : Nat → Nat) : List Int := (List.range n).map fun x => (f x : Int)
theorem natL_length {n : Nat} {f : Nat → Nat} : (natL n f).length = n := by simp [natL]
theorem natL_get {n x : Nat} {f : Nat → Nat} (h : x < n) : (natL n f)[x]? = some (f x : Int) := by simp [natL, h]
theorem natL_congr {n : Nat} {f g : Nat → Nat} (h : ∀ x, x < n → f x = g x) : natL n f = natL n g := by
  unfold natL
  apply List.map_congr_left
  intro x hx
  rw [h x (List.mem_range.1 hx)]
theorem SlI.atL {w : World} {b n c : Nat} {f : Nat → Nat} {E : TypeId} (h : Blk w b (Fd.atL n fun x => (f x : Int)) E) : SlI w (.slice (some ⟨b, 0, none⟩) n c) (natL n f) := by
  refine ⟨_, c, by rw [natL_length], fun _ => ⟨b, 0, rfl, h.lt, fun j x hj => ?_⟩⟩
  have hlt : j < n := by have := (List.getElem?_eq_some_iff.1 hj).1; rw [natL_length] at this; exact this
  rw [natL_get hlt] at hj
  injection hj with hj
  subst hj
  rw [Nat.zero_add, h.cell, atL_get hlt]

set_option maxHeartbeats 4000000 in
theorem Levels_ok {w : World} (n : Int) {v : Value} {l : List Pr} (hv : SlP w v l) :
    Ok (den Try.prog 26 #[.int .i64 n, v] w) fun u w' => ∃ u0, u = .tuple #[u0, .int .i64 (flt n l)] ∧ (flt n l = 0 → ∃ f, IsLev n.toNat (less n l) f ∧ SlI w' u0 (natL n.toNat f)) ∧ Upd (fun _ => False) w w' := by
  have t := fun {a b c : World} (x : Upd (fun _ => False) a b) (y : Upd (fun _ => False) b c) => x.trans y (F := fun _ => False) (fun _ _ h => h)
  refine den_ok (args := [.int .i64 n, v]) rs26 Try.func26 rfl mixed in26 ok26 rfl ?_
  simp (disch := omega) only [push_cast, Nat.reduceBEq, Nat.reduceEqDiff, Nat.reduceAdd, Nat.reduceMul, Nat.reduceSub, Nat.reduceLT, Int.reduceToNat, Int.reduceLT, Int.reduceLE, Int.reduceEq, Int.reduceAdd, Int.reduceSub, Int.reduceNeg, Int.reduceMul]
  refine Ok.use (acyclic_ok n hv) ?_
  rintro v w1 ⟨r, rfl, hr, hu1⟩
  have hb2 : Blk (w1.alloc (.cells (tabL fun _ => 0#64).toArray 53 (0, 0))) w1.heap.size (tabL fun _ => 0#64) 53 := Blk.new
  by_cases hc : flt n l = 0
  rotate_left
  · obtain ⟨hb3, hu3⟩ := new_tab (w := w1) (r := r)
    simp (disch := omega) only [push_cast, Nat.reduceBEq, Nat.reduceEqDiff, Nat.reduceAdd, Nat.reduceMul, Nat.reduceSub, Nat.reduceLT, Int.reduceToNat, Int.reduceLT, Int.reduceLE, Int.reduceEq, Int.reduceAdd, Int.reduceSub, Int.reduceNeg, Int.reduceMul, st_tab hb2]
    exact ⟨_, rfl, fun h => absurd h hc, t hu1 hu3⟩
  · obtain ⟨m, rfl, hm, hl4, hall, _, hcy⟩ := flt_zero hc
    obtain ⟨r', e1, e2⟩ := tab_norm (hr hc) (fun a b h => by have := less_lt hall h; omega)
    rw [← e1, hc]
    obtain ⟨hb3, hu3⟩ := new_tab (w := w1) (r := r')
    simp (disch := omega) only [push_cast, Nat.reduceBEq, Nat.reduceEqDiff, Nat.reduceAdd, Nat.reduceMul, Nat.reduceSub, Nat.reduceLT, Int.reduceToNat, Int.reduceLT, Int.reduceLE, Int.reduceEq, Int.reduceAdd, Int.reduceSub, Int.reduceNeg, Int.reduceMul, st_tab hb2, atL_zero]
    have hu13 := t hu1 hu3
    generalize (w1.alloc (.cells (tabL fun _ => 0#64).toArray 53 (0, 0))).setRow w1.heap.size (tabL r').toArray = w3 at *
    have hb4 : Blk (w3.alloc (.cells (atL m fun _ => 0).toArray 3 (0, 0))) w3.heap.size (atL m fun x => (((fun _ => 0 : Nat → Nat) x : Nat) : Int)) 3 := Blk.new
    have hu4 : Upd (fun _ => False) w3 (w3.alloc (.cells (atL m fun _ => 0).toArray 3 (0, 0))) := Upd.alloc
    have hb3' := hb3.upd hu4 (fun h => h)
    have hb4l := hb4.lt
    generalize w3.alloc (.cells (atL m fun _ => 0).toArray 3 (0, 0)) = w4 at *
    have htr := less_trans hall
    have hir := less_irr hall hcy
    refine Ok.use (sorted_ok hb3' hm (by rw [e2]; exact htr) (by rw [e2]; exact hir)) ?_
    rintro v w5 ⟨hs, hu5, hfrS⟩
    rw [e2] at hs
    have hsl := sortL_length htr hir m (Nat.le_refl m)
    obtain ⟨topo, hget⟩ := topo_sortL htr hir
    generalize hsd : (fun j => (sortL m (less m l) m).getD j 0) = s at *
    have hget' : ∀ j, j < m → (toI (sortL m (less m l) m))[j]? = some ((s j : Nat) : Int) := by
      intro j hj; rw [hget j hj, ← hsd]
    clear hget hsd
    have hS := hs
    obtain ⟨sa, sc, rfl, _⟩ := hs
    rw [toI_length, hsl] at hS ⊢
    generalize toI (sortL m (less m l) m) = S at *
    have hb4' := hb4.upd hu5 (fun h => h)
    have hb35 := hb3'.upd hu5 (fun h => h)
    have u5 := t (t hu13 hu4) hu5
    have hsz3 := hu13.size
    have hl3 := hb3.lt
    simp (disch := omega) only [push_cast, Nat.reduceBEq, Nat.reduceEqDiff, Nat.reduceAdd, Nat.reduceMul, Nat.reduceSub, Nat.reduceLT, Int.reduceToNat, Int.reduceLT, Int.reduceLE, Int.reduceEq, Int.reduceAdd, Int.reduceSub, Int.reduceNeg, Int.reduceMul]
    refine loop_inv (I := fun k st w' => Bx (∃ i f, k + i = m ∧ st = [.int .i64 (i : Int)] ∧ Upd (fun _ => False) w w' ∧ Upd (fun b => b = w3.heap.size) w5 w' ∧ Blk w' w3.heap.size (atL m fun x => (f x : Int)) 3 ∧ LInv m (less m l) s i f) ⟨⟩) ?_ m
      ⟨0, fun _ => 0, rfl, rfl, u5, Upd.refl, hb4', ⟨fun j hj => by omega, fun x _ => .inl rfl, fun _ => Nat.le_refl _⟩⟩
    clear hb4' hb4
    rintro k st w' ⟨i, f, hki, rfl, hu, hu5', hb, hinv⟩
    by_cases hk0 : k = 0
    · obtain rfl : i = m := by omega
      simp (disch := omega) only [push_cast, Nat.reduceBEq, Nat.reduceEqDiff, Nat.reduceAdd, Nat.reduceMul, Nat.reduceSub, Nat.reduceLT, Int.reduceToNat, Int.reduceLT, Int.reduceLE, Int.reduceEq, Int.reduceAdd, Int.reduceSub, Int.reduceNeg, Int.reduceMul]
      exact ⟨_, rfl, fun _ => ⟨f, hinv.done topo, SlI.atL hb⟩, hu⟩
    have hi : i < m := by omega
    have hsi := topo.lt i hi
    have hw45 : w3.heap.size < w4.heap.size := hb4l
    obtain ⟨sb, so, hsa, hsbl, hsc⟩ : ∃ b o, sa = some ⟨b, o, none⟩ ∧ b < w5.heap.size ∧ ∀ j x, S[j]? = some x → w5.cell? ⟨b, o + j, none⟩ = some (.int .i64 x) := by
      obtain ⟨a', c', hv, hl⟩ := hS
      injection hv with g1 g2 g3
      subst g1
      exact hl (by intro e; rw [e] at g2; simp at g2; omega)
    subst hsa
    have hsbf : w4.heap.size ≤ sb := hfrS sb rfl
    have q0 : w'.cell? ⟨sb, so + i, none⟩ = some (.int .i64 (s i)) := by
      rw [World.cell?_of_block (hu5'.block sb hsbl (by omega))]
      exact hsc i _ (hget' i hi)
    simp (disch := omega) only [push_cast, Nat.reduceBEq, Nat.reduceEqDiff, Nat.reduceAdd, Nat.reduceMul, Nat.reduceSub, Nat.reduceLT, Int.reduceToNat, Int.reduceLT, Int.reduceLE, Int.reduceEq, Int.reduceAdd, Int.reduceSub, Int.reduceNeg, Int.reduceMul, q0]
    refine loop_inv (I := fun k2 st w' => Bx (∃ j, k2 + j = m ∧ st = [.int .i64 (j : Int)] ∧ Upd (fun _ => False) w w' ∧ Upd (fun b => b = w3.heap.size) w5 w' ∧ Blk w' w3.heap.size (atL m fun x => ((if x < j then lstep (less m l) (s i) f x else f x : Nat) : Int)) 3) ⟨⟩) ?_ m
      ⟨0, rfl, rfl, hu, hu5', by simpa using hb⟩
    clear hu hu5' hb q0
    rintro k2 st w' ⟨j, hkj, rfl, hu, hu5', hb⟩
    by_cases hk2 : k2 = 0
    · obtain rfl : j = m := by omega
      simp (disch := omega) only [push_cast, Nat.reduceBEq, Nat.reduceEqDiff, Nat.reduceAdd, Nat.reduceMul, Nat.reduceSub, Nat.reduceLT, Int.reduceToNat, Int.reduceLT, Int.reduceLE, Int.reduceEq, Int.reduceAdd, Int.reduceSub, Int.reduceNeg, Int.reduceMul]
      refine ⟨k - 1, by omega, i + 1, lstep (less j l) (s i) f, by omega, by simp, hu, hu5', ?_, hinv.step topo hi⟩
      have e : (atL j fun x => ((if x < j then lstep (less j l) (s i) f x else f x : Nat) : Int)) = atL j fun x => ((lstep (less j l) (s i) f x : Nat) : Int) := by
        unfold atL
        apply List.map_congr_left
        intro x hx
        dsimp only
        rw [if_pos (List.mem_range.1 hx)]
      rw [← e]
      exact hb
    have hj : j < m := by omega
    have hbw : Blk w' w1.heap.size (tabL r') 53 := hb35.upd hu5' (by omega)
    have hl4 := hb.lt
    have hfi : (if s i < j then lstep (less m l) (s i) f (s i) else f (s i)) = f (s i) := by
      split
      · unfold lstep
        rw [hir (s i), if_neg (by decide)]
      · rfl
    have c1 : (atL m fun x => ((if x < j then lstep (less m l) (s i) f x else f x : Nat) : Int))[s i]? = some (.int .i64 (f (s i) : Int)) := by rw [atL_get hsi, hfi]
    have c2 : (atL m fun x => ((if x < j then lstep (less m l) (s i) f x else f x : Nat) : Int))[j]? = some (.int .i64 (f j : Int)) := by rw [atL_get hj, if_neg (by omega)]
    have hf1 := hinv.few (s i)
    have hrb : (r' (s i)).getLsbD j = less m l (s i) j := by rw [← e2]; rfl
    have fin : ∀ y : Nat, y = lstep (less m l) (s i) f j → (atL m fun x => ((if x < j then lstep (less m l) (s i) f x else f x : Nat) : Int)).set j (.int .i64 (y : Int)) = atL m fun x => ((if x < j + 1 then lstep (less m l) (s i) f x else f x : Nat) : Int) := by
      intro y hy
      rw [atL_set]
      congr 1
      funext x
      by_cases e : x = j
      · rw [if_pos e, e, if_pos (by omega), hy]
      · rw [if_neg e]
        by_cases e3 : x < j
        · rw [if_pos e3, if_pos (by omega)]
        · rw [if_neg e3, if_neg (by omega)]
    cases hbit : (r' (s i)).getLsbD j
    · simp (disch := omega) only [push_cast, Nat.reduceBEq, Nat.reduceEqDiff, Nat.reduceAdd, Nat.reduceMul, Nat.reduceSub, Nat.reduceLT, Int.reduceToNat, Int.reduceLT, Int.reduceLE, Int.reduceEq, Int.reduceAdd, Int.reduceSub, Int.reduceNeg, Int.reduceMul, hbw.cell, hbw.free, tabL_get, hbit]
      refine ⟨k2 - 1, by omega, j + 1, by omega, by simp, hu, hu5', ?_⟩
      have hl : f j = lstep (less m l) (s i) f j := by unfold lstep; rw [← hrb, hbit, if_neg (by decide)]
      rw [← fin _ hl]
      have : (atL m fun x => ((if x < j then lstep (less m l) (s i) f x else f x : Nat) : Int)).set j (.int .i64 ((f j : Nat) : Int)) = atL m fun x => ((if x < j then lstep (less m l) (s i) f x else f x : Nat) : Int) := by
        apply List.ext_getElem?
        intro q
        rw [List.getElem?_set]
        by_cases e : j = q
        · subst e; rw [if_pos rfl, c2]; simp [atL_length, hj]
        · rw [if_neg e]
      rw [this]
      exact hb
    · simp (disch := omega) only [push_cast, Nat.reduceBEq, Nat.reduceEqDiff, Nat.reduceAdd, Nat.reduceMul, Nat.reduceSub, Nat.reduceLT, Int.reduceToNat, Int.reduceLT, Int.reduceLE, Int.reduceEq, Int.reduceAdd, Int.reduceSub, Int.reduceNeg, Int.reduceMul, hbw.cell, hbw.free, tabL_get, hbit, hb.cell, hb.free, c1, c2]
      have hl : max (f j) (f (s i) + 1) = lstep (less m l) (s i) f j := by unfold lstep; rw [← hrb, hbit, if_pos rfl]
      refine ⟨k2 - 1, by omega, j + 1, by omega, by simp, (hu.setNew (by show w.heap.size ≤ w3.heap.size; exact hsz3)).drew', (hu5'.setIn rfl).drew', ?_⟩
      rw [← fin _ hl, show ((max (f j) (f (s i) + 1) : Nat) : Int) = max (f j : Int) ((f (s i) : Int) + 1) from by omega]
      exact (hb.set j _).drew

structure MInv (n : Nat) (R : Rel) (s : Nat → Nat) (i : Nat) (f : Nat → Nat) : Prop where
  le : ∀ j, j < i → ∀ a, a < n → R a (s j) = true → f a + 1 ≤ f (s j)
  eq : ∀ j, j < i → f (s j) = 0 ∨ ∃ a, a < n ∧ R a (s j) = true ∧ f a + 1 = f (s j)
  zero : ∀ x, x < n → (∀ j, j < i → s j ≠ x) → f x = 0
  few : ∀ x, f x ≤ i
theorem MInv.step {n : Nat} {R : Rel} {s : Nat → Nat} (topo : Topo n R s) (hir : ∀ a, R a a = false) {i v : Nat} {f : Nat → Nat} (h : MInv n R s i f) (hi : i < n)
    (h1 : ∀ a, a < n → R a (s i) = true → f a + 1 ≤ v) (h2 : v = 0 ∨ ∃ a, a < n ∧ R a (s i) = true ∧ f a + 1 = v) : MInv n R s (i + 1) (fun x => if x = s i then v else f x) := by
  have hne : ∀ j, j < i → s j ≠ s i := fun j hj e => by have := topo.inj j i (by omega) hi e; omega
  have hpr : ∀ j, j ≤ i → ∀ a, R a (s j) = true → a ≠ s i := by
    intro j hj a hR e
    subst e
    rw [topo.later hi (by omega) hj] at hR
    cases hR
  refine ⟨fun j hj a ha hR => ?_, fun j hj => ?_, fun x hx hx2 => ?_, fun x => ?_⟩
  · rw [if_neg (hpr j (by omega) a hR)]
    by_cases e : j = i
    · subst e
      rw [if_pos rfl]
      exact h1 a ha hR
    · rw [if_neg (hne j (by omega))]
      exact h.le j (by omega) a ha hR
  · by_cases e : j = i
    · subst e
      rw [if_pos rfl]
      rcases h2 with h2 | ⟨a, ha, hR, h2⟩
      · exact .inl h2
      · exact .inr ⟨a, ha, hR, by rw [if_neg (hpr j (Nat.le_refl j) a hR)]; exact h2⟩
    · rw [if_neg (hne j (by omega))]
      rcases h.eq j (by omega) with h3 | ⟨a, ha, hR, h3⟩
      · exact .inl h3
      · exact .inr ⟨a, ha, hR, by rw [if_neg (hpr j (by omega) a hR)]; exact h3⟩
  · rw [if_neg (fun e => hx2 i (by omega) e.symm)]
    exact h.zero x hx fun j hj => hx2 j (by omega)
  · have := h.few x
    split
    · rcases h2 with h2 | ⟨a, ha, hR, h2⟩
      · omega
      · have := h.few a; omega
    · omega
theorem MInv.done {n : Nat} {R : Rel} {s : Nat → Nat} (topo : Topo n R s) {f : Nat → Nat} (h : MInv n R s n f) : IsLev n R f := by
  refine ⟨fun a x ha hx hR => ?_, fun x hx => ?_⟩
  · obtain ⟨j, hj, rfl⟩ := topo.surj x hx
    exact h.le j hj a ha hR
  · obtain ⟨j, hj, rfl⟩ := topo.surj x hx
    exact h.eq j hj

set_option maxHeartbeats 1000000 in
theorem rlevels_ok {w : World} {lo n : Nat} {v : Value} {R : Rel} (hm : Mat lo w v n n R) (hn : n ≤ 64) (htr : ∀ a b c, R a c = true → R c b = true → R a b = true) (hir : ∀ a, R a a = false) :
    Ok (den Try.prog 28 #[v] w) fun u w' => ∃ f, IsLev n R f ∧ SlI w' u (natL n f) ∧ Upd (fun _ => False) w w' := by
  have t := fun {a b c : World} (x : Upd (fun _ => False) a b) (y : Upd (fun _ => False) b c) => x.trans y (F := fun _ => False) (fun _ _ h => h)
  have hm' := hm
  obtain ⟨av, cv, rfl⟩ := hm.form
  refine den_ok (args := [.slice av n cv]) rs28 Try.func28 rfl mixed in28 ok28 rfl ?_
  simp (disch := omega) only [push_cast, Nat.reduceBEq, Nat.reduceEqDiff, Nat.reduceAdd, Nat.reduceMul, Nat.reduceSub, Nat.reduceLT, Int.reduceToNat, Int.reduceLT, Int.reduceLE, Int.reduceEq, Int.reduceAdd, Int.reduceSub, Int.reduceNeg, Int.reduceMul, atL_zero]
  have hb4 : Blk (w.alloc (.cells (atL n fun _ => 0).toArray 3 (0, 0))) w.heap.size (atL n fun x => (((fun _ => 0 : Nat → Nat) x : Nat) : Int)) 3 := Blk.new
  have hu4 : Upd (fun _ => False) w (w.alloc (.cells (atL n fun _ => 0).toArray 3 (0, 0))) := Upd.alloc
  have hb4l := hb4.lt
  generalize w.alloc (.cells (atL n fun _ => 0).toArray 3 (0, 0)) = w4 at *
  refine Ok.use (rsort_ok (hm.upd hu4) hn htr hir) ?_
  rintro v w5 ⟨hs, hu5, hfrS⟩
  have hsl := sortL_length htr hir n (Nat.le_refl n)
  obtain ⟨topo, hget⟩ := topo_sortL htr hir
  generalize hsd : (fun j => (sortL n R n).getD j 0) = s at *
  have hget' : ∀ j, j < n → (toI (sortL n R n))[j]? = some ((s j : Nat) : Int) := by
    intro j hj; rw [hget j hj, ← hsd]
  clear hget hsd
  have hS := hs
  obtain ⟨sa, sc, rfl, _⟩ := hs
  rw [toI_length, hsl] at hS ⊢
  generalize toI (sortL n R n) = S at *
  have hb4' := hb4.upd hu5 (fun h => h)
  have u5 := t hu4 hu5
  simp (disch := omega) only [push_cast, Nat.reduceBEq, Nat.reduceEqDiff, Nat.reduceAdd, Nat.reduceMul, Nat.reduceSub, Nat.reduceLT, Int.reduceToNat, Int.reduceLT, Int.reduceLE, Int.reduceEq, Int.reduceAdd, Int.reduceSub, Int.reduceNeg, Int.reduceMul]
  refine loop_inv (I := fun k st w' => Bx (∃ i f, k + i = n ∧ st = [.int .i64 (i : Int)] ∧ Upd (fun _ => False) w w' ∧ Upd (fun b => b = w.heap.size) w5 w' ∧ Blk w' w.heap.size (atL n fun x => (f x : Int)) 3 ∧ MInv n R s i f) ⟨⟩) ?_ n
    ⟨0, fun _ => 0, rfl, rfl, u5, Upd.refl, hb4', ⟨fun j hj => by omega, fun j hj => by omega, fun _ _ _ => rfl, fun _ => Nat.le_refl _⟩⟩
  clear hb4' hb4
  rintro k st w' ⟨i, f, hki, rfl, hu, hu5', hb, hinv⟩
  by_cases hk0 : k = 0
  · obtain rfl : i = n := by omega
    simp (disch := omega) only [push_cast, Nat.reduceBEq, Nat.reduceEqDiff, Nat.reduceAdd, Nat.reduceMul, Nat.reduceSub, Nat.reduceLT, Int.reduceToNat, Int.reduceLT, Int.reduceLE, Int.reduceEq, Int.reduceAdd, Int.reduceSub, Int.reduceNeg, Int.reduceMul]
    exact ⟨f, hinv.done topo, SlI.atL hb, hu⟩
  have hi : i < n := by omega
  have hsi := topo.lt i hi
  obtain ⟨sb, so, hsa, hsbl, hsc⟩ : ∃ b o, sa = some ⟨b, o, none⟩ ∧ b < w5.heap.size ∧ ∀ j x, S[j]? = some x → w5.cell? ⟨b, o + j, none⟩ = some (.int .i64 x) := by
    obtain ⟨a', c', hv, hl⟩ := hS
    injection hv with g1 g2 g3
    subst g1
    exact hl (by intro e; rw [e] at g2; simp at g2; omega)
  subst hsa
  have hsbf : w4.heap.size ≤ sb := hfrS sb rfl
  have q0 : w'.cell? ⟨sb, so + i, none⟩ = some (.int .i64 (s i)) := by
    rw [World.cell?_of_block (hu5'.block sb hsbl (by omega))]
    exact hsc i _ (hget' i hi)
  simp (disch := omega) only [push_cast, Nat.reduceBEq, Nat.reduceEqDiff, Nat.reduceAdd, Nat.reduceMul, Nat.reduceSub, Nat.reduceLT, Int.reduceToNat, Int.reduceLT, Int.reduceLE, Int.reduceEq, Int.reduceAdd, Int.reduceSub, Int.reduceNeg, Int.reduceMul, q0]
  have hz := hinv.zero (s i) hsi fun j hj e => by have := topo.inj j i (by omega) hi e; omega
  refine loop_inv (I := fun k2 st w' => Bx (∃ (c y : Nat), k2 + c = n ∧ st = [.int .i64 (c : Int)] ∧ Upd (fun _ => False) w w' ∧ Upd (fun b => b = w.heap.size) w5 w' ∧ Blk w' w.heap.size (atL n fun x => ((if x = s i then y else f x : Nat) : Int)) 3 ∧
    (∀ a, a < c → R a (s i) = true → f a + 1 ≤ y) ∧ (y = 0 ∨ ∃ a, a < n ∧ R a (s i) = true ∧ f a + 1 = y)) ⟨⟩) ?_ n
    ⟨0, f (s i), rfl, rfl, hu, hu5', ?_, fun a ha => by omega, .inl hz⟩
  rotate_left
  · have e : (atL n fun x => ((if x = s i then f (s i) else f x : Nat) : Int)) = atL n fun x => (f x : Int) := by
      congr 1
      funext x
      split
      · rename_i h; rw [h]
      · rfl
    rw [e]
    exact hb
  clear hu hu5' hb q0
  rintro k2 st w' ⟨c, y, hkc, rfl, hu, hu5', hb, hle, heq⟩
  by_cases hk2 : k2 = 0
  · obtain rfl : c = n := by omega
    simp (disch := omega) only [push_cast, Nat.reduceBEq, Nat.reduceEqDiff, Nat.reduceAdd, Nat.reduceMul, Nat.reduceSub, Nat.reduceLT, Int.reduceToNat, Int.reduceLT, Int.reduceLE, Int.reduceEq, Int.reduceAdd, Int.reduceSub, Int.reduceNeg, Int.reduceMul]
    exact ⟨k - 1, by omega, i + 1, fun x => if x = s i then y else f x, by omega, by simp, hu, hu5', hb, hinv.step topo hir hi hle heq⟩
  have hc : c < n := by omega
  obtain ⟨g, cap, bk, hv, m1, m2, _, _, _⟩ := (hm'.upd hu).opened (by omega)
  injection hv with e1 e2 e3
  subst e1
  have d1 := m1 c hc
  have d2 := m2 c (s i) hc hsi
  have hfc := hinv.few c
  have hy : y ≤ i + 1 := by
    rcases heq with h | ⟨a, _, _, h⟩
    · omega
    · have := hinv.few a; omega
  cases hbit : R c (s i)
  · rw [hbit] at d2
    simp (disch := omega) only [push_cast, Nat.reduceBEq, Nat.reduceEqDiff, Nat.reduceAdd, Nat.reduceMul, Nat.reduceSub, Nat.reduceLT, Int.reduceToNat, Int.reduceLT, Int.reduceLE, Int.reduceEq, Int.reduceAdd, Int.reduceSub, Int.reduceNeg, Int.reduceMul, d1, d2]
    refine ⟨k2 - 1, by omega, c + 1, y, by omega, by simp, hu.drew', hu5'.drew', hb.drew, fun a ha hR => ?_, heq⟩
    by_cases e : a = c
    · subst e; rw [hbit] at hR; cases hR
    · exact hle a (by omega) hR
  · rw [hbit] at d2
    have hcn : c ≠ s i := fun e => by rw [e, hir] at hbit; cases hbit
    have c1 : (atL n fun x => ((if x = s i then y else f x : Nat) : Int))[c]? = some (.int .i64 (f c : Int)) := by rw [atL_get hc, if_neg hcn]
    have c2 : (atL n fun x => ((if x = s i then y else f x : Nat) : Int))[s i]? = some (.int .i64 (y : Int)) := by rw [atL_get hsi, if_pos rfl]
    by_cases hgt : y < f c + 1
    · have hgt' : (y : Int) < (f c : Int) + 1 := by omega
      have hb' := hb.drew
      simp (disch := omega) only [push_cast, Nat.reduceBEq, Nat.reduceEqDiff, Nat.reduceAdd, Nat.reduceMul, Nat.reduceSub, Nat.reduceLT, Int.reduceToNat, Int.reduceLT, Int.reduceLE, Int.reduceEq, Int.reduceAdd, Int.reduceSub, Int.reduceNeg, Int.reduceMul, d1, d2, hb.cell, hb.free, c1, c2]
      refine ⟨k2 - 1, by omega, c + 1, f c + 1, by omega, by simp, (hu.drew').setNew (Nat.le_refl _), (hu5'.drew').setIn rfl, ?_, fun a ha hR => ?_, .inr ⟨c, hc, hbit, rfl⟩⟩
      · have e : (atL n fun x => ((if x = s i then y else f x : Nat) : Int)).set (s i) (.int .i64 (((f c + 1 : Nat)) : Int)) = atL n fun x => ((if x = s i then f c + 1 else f x : Nat) : Int) := by
          rw [atL_set]
          congr 1
          funext x
          by_cases h : x = s i
          · rw [if_pos h, if_pos h]
          · rw [if_neg h, if_neg h, if_neg h]
        rw [← e]
        exact hb'.set (s i) _
      · by_cases e : a = c
        · rw [e]; exact Nat.le_refl _
        · have := hle a (by omega) hR; omega
    · have hgt' : ¬ (y : Int) < (f c : Int) + 1 := by omega
      simp (disch := omega) only [push_cast, Nat.reduceBEq, Nat.reduceEqDiff, Nat.reduceAdd, Nat.reduceMul, Nat.reduceSub, Nat.reduceLT, Int.reduceToNat, Int.reduceLT, Int.reduceLE, Int.reduceEq, Int.reduceAdd, Int.reduceSub, Int.reduceNeg, Int.reduceMul, d1, d2, hb.cell, hb.free, c1, c2]
      refine ⟨k2 - 1, by omega, c + 1, y, by omega, by simp, hu.drew', hu5'.drew', hb.drew, fun a ha hR => ?_, heq⟩
      by_cases e : a = c
      · rw [e]; omega
      · exact hle a (by omega) hR

set_option maxHeartbeats 1000000 in
theorem orderLevels_ok {w : World} (n : Int) {v : Value} {l : List Pr} (hv : SlP w v l) :
    Ok (den Try.prog 7 #[.int .i64 n, v] w) fun u w' => u = .bool true ∧ Upd (fun _ => False) w w' := by
  have t := fun {a b c : World} (x : Upd (fun _ => False) a b) (y : Upd (fun _ => False) b c) => x.trans y (F := fun _ => False) (fun _ _ h => h)
  refine den_ok (args := [.int .i64 n, v]) rs7 Try.func7 rfl mixed in7 ok7 rfl ?_
  simp (disch := omega) only [push_cast, Nat.reduceBEq, Nat.reduceEqDiff, Nat.reduceAdd, Nat.reduceMul, Nat.reduceSub, Nat.reduceLT, Int.reduceToNat, Int.reduceLT, Int.reduceLE, Int.reduceEq, Int.reduceAdd, Int.reduceSub, Int.reduceNeg, Int.reduceMul]
  refine Ok.use awake_ok ?_
  rintro v1 w1 ⟨rfl, hu1⟩
  simp (disch := omega) only [push_cast, Nat.reduceBEq, Nat.reduceEqDiff, Nat.reduceAdd, Nat.reduceMul, Nat.reduceSub, Nat.reduceLT, Int.reduceToNat, Int.reduceLT, Int.reduceLE, Int.reduceEq, Int.reduceAdd, Int.reduceSub, Int.reduceNeg, Int.reduceMul]
  refine Ok.use (fault_ok n (hv.upd hu1)) ?_
  rintro v1 w2 ⟨rfl, hu2⟩
  by_cases h0 : flt n l = 0
  rotate_left
  · simp (disch := omega) only [push_cast, Nat.reduceBEq, Nat.reduceEqDiff, Nat.reduceAdd, Nat.reduceMul, Nat.reduceSub, Nat.reduceLT, Int.reduceToNat, Int.reduceLT, Int.reduceLE, Int.reduceEq, Int.reduceAdd, Int.reduceSub, Int.reduceNeg, Int.reduceMul]
    exact t hu1 hu2
  obtain ⟨m, rfl, hm, hl4, hall, _, hcy⟩ := flt_zero h0
  rw [h0]
  simp (disch := omega) only [push_cast, Nat.reduceBEq, Nat.reduceEqDiff, Nat.reduceAdd, Nat.reduceMul, Nat.reduceSub, Nat.reduceLT, Int.reduceToNat, Int.reduceLT, Int.reduceLE, Int.reduceEq, Int.reduceAdd, Int.reduceSub, Int.reduceNeg, Int.reduceMul]
  refine Ok.use (Levels_ok m ((hv.upd hu1).upd hu2)) ?_
  rintro v1 w3 ⟨u0, rfl, hs, hu3⟩
  have u3 := t (t hu1 hu2) hu3
  obtain ⟨f, hf, hs⟩ := hs h0
  rw [Int.toNat_natCast] at hf hs
  rw [h0]
  simp (disch := omega) only [push_cast, Nat.reduceBEq, Nat.reduceEqDiff, Nat.reduceAdd, Nat.reduceMul, Nat.reduceSub, Nat.reduceLT, Int.reduceToNat, Int.reduceLT, Int.reduceLE, Int.reduceEq, Int.reduceAdd, Int.reduceSub, Int.reduceNeg, Int.reduceMul]
  refine Ok.use (less_ok hm (hv.upd u3) hall hl4) ?_
  rintro v1 w4 ⟨hmat, hu4⟩
  simp (disch := omega) only [push_cast, Nat.reduceBEq, Nat.reduceEqDiff, Nat.reduceAdd, Nat.reduceMul, Nat.reduceSub, Nat.reduceLT, Int.reduceToNat, Int.reduceLT, Int.reduceLE, Int.reduceEq, Int.reduceAdd, Int.reduceSub, Int.reduceNeg, Int.reduceMul]
  refine Ok.use (rlevels_ok hmat hm (less_trans hall) (less_irr hall hcy)) ?_
  rintro v1 w5 ⟨g, hg, hp, hu5⟩
  simp (disch := omega) only [push_cast, Nat.reduceBEq, Nat.reduceEqDiff, Nat.reduceAdd, Nat.reduceMul, Nat.reduceSub, Nat.reduceLT, Int.reduceToNat, Int.reduceLT, Int.reduceLE, Int.reduceEq, Int.reduceAdd, Int.reduceSub, Int.reduceNeg, Int.reduceMul]
  obtain ⟨topo, _⟩ := topo_sortL (n := m) (less_trans hall) (less_irr hall hcy)
  have e := natL_congr (hf.unique topo hg)
  refine Ok.use (same_ok ((hs.upd hu4).upd hu5) hp (by rw [natL_length]; omega)) ?_
  rintro v1 w6 ⟨rfl, hu6⟩
  rw [decide_eq_true e]
  simp (disch := omega) only [push_cast, Nat.reduceBEq, Nat.reduceEqDiff, Nat.reduceAdd, Nat.reduceMul, Nat.reduceSub, Nat.reduceLT, Int.reduceToNat, Int.reduceLT, Int.reduceLE, Int.reduceEq, Int.reduceAdd, Int.reduceSub, Int.reduceNeg, Int.reduceMul]
  exact t (t (t u3 hu4) hu5) hu6
theorem orderLevels_law {w : World} (n : Int) (_ : (Lit.int .i64 n).wf = true) {v : Value} (h : ∃ l, SlP w v l) :
    Ok (den Try.prog 7 #[.int .i64 n, v] w) fun u w' => u = .bool true ∧ Upd (fun _ => False) w w' := by
  obtain ⟨l, h⟩ := h
  exact orderLevels_ok n h
end Go.Proofs.Ytfjccccfkpgmgaa.Fd
