/-
  LongestChain.
-/
import Derived.Test.YtfjccccfkpgmgaaOrG
namespace Go.Proofs.Ytfjccccfkpgmgaa.Fd
set_option linter.unusedSimpArgs false
set_option linter.unusedVariables false
open Go
set_option maxRecDepth 100000

set_option maxHeartbeats 2000000 in
theorem LongestChain_ok {w : World} (n : Int) {v : Value} {l : List Pr} (hv : SlP w v l) :
    Ok (den Try.prog 29 #[.int .i64 n, v] w) fun u w' => ∃ u0, u = .tuple #[u0, .int .i64 (flt n l)] ∧
      (flt n l = 0 → ∃ f c, IsUp n.toNat (less n l) f ∧ (∀ x, x < n.toNat → f x ≤ c.length) ∧ Chain n.toNat (less n l) f c.length c ∧ SlI w' u0 (toI c)) ∧ Upd (fun _ => False) w w' := by
  have t := fun {a b c : World} (x : Upd (fun _ => False) a b) (y : Upd (fun _ => False) b c) => x.trans y (F := fun _ => False) (fun _ _ h => h)
  refine den_ok (args := [.int .i64 n, v]) rs29 Try.func29 rfl mixed in29 ok29 rfl ?_
  simp (disch := omega) only [push_cast, Nat.reduceBEq, Nat.reduceEqDiff, Nat.reduceAdd, Nat.reduceMul, Nat.reduceSub, Nat.reduceLT, Int.reduceToNat, Int.reduceLT, Int.reduceLE, Int.reduceEq, Int.reduceAdd, Int.reduceSub, Int.reduceNeg, Int.reduceMul]
  refine Ok.use (acyclic_ok n hv) ?_
  rintro v w1 ⟨r, rfl, hr, hu1⟩
  have hb2 : Blk (w1.alloc (.cells (tabL fun _ => 0#64).toArray 53 (0, 0))) w1.heap.size (tabL fun _ => 0#64) 53 := Blk.new
  by_cases hc : flt n l = 0
  rotate_left
  · obtain ⟨hb3, hu3⟩ := new_tab (w := w1) (r := r)
    simp (disch := omega) only [push_cast, Nat.reduceBEq, Nat.reduceEqDiff, Nat.reduceAdd, Nat.reduceMul, Nat.reduceSub, Nat.reduceLT, Int.reduceToNat, Int.reduceLT, Int.reduceLE, Int.reduceEq, Int.reduceAdd, Int.reduceSub, Int.reduceNeg, Int.reduceMul, st_tab hb2]
    exact ⟨_, rfl, fun h => absurd h hc, t hu1 hu3⟩
  obtain ⟨m, rfl, hm, hl4, hall, _, hcy⟩ := flt_zero hc
  obtain ⟨r', e1, e2⟩ := tab_norm (hr hc) (fun a b h => by have := less_lt hall h; omega)
  rw [← e1, hc, Int.toNat_natCast]
  obtain ⟨hb3, hu3⟩ := new_tab (w := w1) (r := r')
  have hu13 := t hu1 hu3
  simp (disch := omega) only [push_cast, Nat.reduceBEq, Nat.reduceEqDiff, Nat.reduceAdd, Nat.reduceMul, Nat.reduceSub, Nat.reduceLT, Int.reduceToNat, Int.reduceLT, Int.reduceLE, Int.reduceEq, Int.reduceAdd, Int.reduceSub, Int.reduceNeg, Int.reduceMul, st_tab hb2, atL_zero]
  generalize (w1.alloc (.cells (tabL fun _ => 0#64).toArray 53 (0, 0))).setRow w1.heap.size (tabL r').toArray = w3 at *
  have hb4 : Blk (w3.alloc (.cells (atL 64 fun _ => 0).toArray 60 (0, 0))) w3.heap.size (atL 64 fun x => (((fun _ => 0 : Nat → Nat) x : Nat) : Int)) 60 := Blk.new
  have hu4 : Upd (fun _ => False) w3 (w3.alloc (.cells (atL 64 fun _ => 0).toArray 60 (0, 0))) := Upd.alloc
  have hb3' := hb3.upd hu4 (fun h => h)
  have hb4l := hb4.lt
  have hl3 := hb3.lt
  generalize w3.alloc (.cells (atL 64 fun _ => 0).toArray 60 (0, 0)) = w4 at *
  have htr := less_trans hall
  have hir := less_irr hall hcy
  refine Ok.use (sorted_ok hb3' hm (by rw [e2]; exact htr) (by rw [e2]; exact hir)) ?_
  rintro v w5 ⟨hs, hu5, hfrS⟩
  rw [e2] at hs
  have hsl := sortL_length htr hir m (Nat.le_refl m)
  obtain ⟨topo, hget⟩ := topo_sortL htr hir
  generalize hsd : (fun j => (sortL m (less m l) m).getD j 0) = s at *
  have hget' : ∀ j, j < m → (toI (sortL m (less m l) m))[j]? = some ((s j : Nat) : Int) := by
    intro j hj; rw [hget j hj, ← hsd]
  clear hget hsd
  have hS := hs
  obtain ⟨sa, sc, rfl, _⟩ := hs
  rw [toI_length, hsl] at hS ⊢
  generalize toI (sortL m (less m l) m) = S at *
  have hb4' := hb4.upd hu5 (fun h => h)
  have hb35 := hb3'.upd hu5 (fun h => h)
  have u5 := t (t hu13 hu4) hu5
  have hsz3 := hu13.size
  simp (disch := omega) only [push_cast, Nat.reduceBEq, Nat.reduceEqDiff, Nat.reduceAdd, Nat.reduceMul, Nat.reduceSub, Nat.reduceLT, Int.reduceToNat, Int.reduceLT, Int.reduceLE, Int.reduceEq, Int.reduceAdd, Int.reduceSub, Int.reduceNeg, Int.reduceMul]
  refine loop_inv (I := fun k st w' => Bx (k ≤ m ∧ ∃ f, st = [.int .i64 ((k : Int) - 1)] ∧ Upd (fun _ => False) w w' ∧ Upd (fun b => b = w3.heap.size) w5 w' ∧ Blk w' w3.heap.size (atL 64 fun x => (f x : Int)) 60 ∧ UInv m (less m l) s k f) ⟨⟩) ?_ m
    ⟨Nat.le_refl m, fun _ => 0, rfl, u5, Upd.refl, hb4', ⟨fun j h1 h2 => by omega, fun j h1 h2 => by omega, fun j h1 h2 => by omega, fun _ _ => rfl, fun _ => by omega⟩⟩
  clear hb4' hb4
  rintro k st w' ⟨hkm, f, rfl, hu, hu5', hb, hinv⟩
  have hbt : Blk w' w1.heap.size (tabL r') 53 := hb35.upd hu5' (by omega)
  by_cases hk0 : k = 0
  rotate_left
  · obtain ⟨i, rfl⟩ := Nat.exists_eq_succ_of_ne_zero hk0
    rw [show ((i.succ : Nat) : Int) - 1 = (i : Int) from by omega]
    have hi : i < m := by omega
    have hsi := topo.lt i hi
    obtain ⟨sb, so, hsa, hsbl, hsc⟩ : ∃ b o, sa = some ⟨b, o, none⟩ ∧ b < w5.heap.size ∧ ∀ j x, S[j]? = some x → w5.cell? ⟨b, o + j, none⟩ = some (.int .i64 x) := by
      obtain ⟨a', c', hv, hl⟩ := hS
      injection hv with g1 g2 g3
      subst g1
      exact hl (by intro e; rw [e] at g2; simp at g2; omega)
    subst hsa
    have hsbf : w4.heap.size ≤ sb := hfrS sb rfl
    have q0 : w'.cell? ⟨sb, so + i, none⟩ = some (.int .i64 (s i)) := by
      rw [World.cell?_of_block (hu5'.block sb hsbl (by omega))]
      exact hsc i _ (hget' i hi)
    have c0 : (atL 64 fun x => (f x : Int))[s i]? = some (.int .i64 (f (s i) : Int)) := atL_get (by omega)
    have hl5 := hb.lt
    simp (disch := omega) only [push_cast, Nat.reduceBEq, Nat.reduceEqDiff, Nat.reduceAdd, Nat.reduceMul, Nat.reduceSub, Nat.reduceLT, Int.reduceToNat, Int.reduceLT, Int.reduceLE, Int.reduceEq, Int.reduceAdd, Int.reduceSub, Int.reduceNeg, Int.reduceMul, q0, hb.cell, hb.free, c0]
    have hb6 := hb.set (s i) (.int .i64 1)
    rw [atL_set] at hb6
    have hu6 := hu.setNew (w1 := w') (a := ⟨w3.heap.size, s i, none⟩) (v := .int .i64 1) hsz3
    have hu56 := hu5'.setIn (w1 := w') (a := ⟨w3.heap.size, s i, none⟩) (v := .int .i64 1) rfl
    generalize w'.setCell ⟨w3.heap.size, s i, none⟩ (.int .i64 1) = w6 at *
    clear hu hu5' hb hbt q0 hl5
    refine loop_inv (I := fun k2 st w' => Bx (∃ (c y : Nat), k2 + c = m ∧ st = [.int .i64 (c : Int)] ∧ Upd (fun _ => False) w w' ∧ Upd (fun b => b = w3.heap.size) w5 w' ∧ Blk w' w3.heap.size (atL 64 fun x => ((if x = s i then y else f x : Nat) : Int)) 60 ∧
      (∀ b, b < c → less m l (s i) b = true → f b + 1 ≤ y) ∧ (y = 1 ∨ ∃ b, b < m ∧ less m l (s i) b = true ∧ f b + 1 = y) ∧ 1 ≤ y) ⟨⟩) ?_ m
      ⟨0, 1, rfl, rfl, hu6, hu56, ?_, fun a ha => by omega, .inl rfl, Nat.le_refl _⟩
    rotate_left
    · have e : (atL 64 fun x => ((if x = s i then 1 else f x : Nat) : Int)) = atL 64 fun x => if x = s i then (1 : Int) else (f x : Int) := by
        congr 1
        funext x
        split <;> rfl
      rw [e]
      exact hb6
    clear hb6 hu6 hu56
    rintro k2 st w' ⟨c, y, hkc, rfl, hu, hu5', hb, hle, heq, hy1⟩
    by_cases hk2 : k2 = 0
    · obtain rfl : c = m := by omega
      simp (disch := omega) only [push_cast, Nat.reduceBEq, Nat.reduceEqDiff, Nat.reduceAdd, Nat.reduceMul, Nat.reduceSub, Nat.reduceLT, Int.reduceToNat, Int.reduceLT, Int.reduceLE, Int.reduceEq, Int.reduceAdd, Int.reduceSub, Int.reduceNeg, Int.reduceMul]
      exact ⟨i, by omega, by omega, fun x => if x = s i then y else f x, rfl, hu, hu5', hb, hinv.step topo hir hi hle heq hy1⟩
    have hcm : c < m := by omega
    have hbt : Blk w' w1.heap.size (tabL r') 53 := hb35.upd hu5' (by omega)
    have hl5 := hb.lt
    have hrb : (r' (s i)).getLsbD c = less m l (s i) c := by rw [← e2]; rfl
    cases hbit : (r' (s i)).getLsbD c
    · simp (disch := omega) only [push_cast, Nat.reduceBEq, Nat.reduceEqDiff, Nat.reduceAdd, Nat.reduceMul, Nat.reduceSub, Nat.reduceLT, Int.reduceToNat, Int.reduceLT, Int.reduceLE, Int.reduceEq, Int.reduceAdd, Int.reduceSub, Int.reduceNeg, Int.reduceMul, hbt.cell, hbt.free, tabL_get, hbit]
      refine ⟨k2 - 1, by omega, c + 1, y, by omega, by simp, hu, hu5', hb, fun b hb2 hR => ?_, heq, hy1⟩
      by_cases e : b = c
      · subst e; rw [← hrb, hbit] at hR; cases hR
      · exact hle b (by omega) hR
    · have hR : less m l (s i) c = true := by rw [← hrb]; exact hbit
      have hcn : c ≠ s i := fun e => by rw [e, hir] at hR; cases hR
      have c1 : (atL 64 fun x => ((if x = s i then y else f x : Nat) : Int))[c]? = some (.int .i64 (f c : Int)) := by rw [atL_get (by omega), if_neg hcn]
      have c2 : (atL 64 fun x => ((if x = s i then y else f x : Nat) : Int))[s i]? = some (.int .i64 (y : Int)) := by rw [atL_get (by omega), if_pos rfl]
      have hfc := hinv.few c
      simp (disch := omega) only [push_cast, Nat.reduceBEq, Nat.reduceEqDiff, Nat.reduceAdd, Nat.reduceMul, Nat.reduceSub, Nat.reduceLT, Int.reduceToNat, Int.reduceLT, Int.reduceLE, Int.reduceEq, Int.reduceAdd, Int.reduceSub, Int.reduceNeg, Int.reduceMul, hbt.cell, hbt.free, tabL_get, hbit, hb.cell, hb.free, c1, c2]
      refine ⟨k2 - 1, by omega, c + 1, max y (f c + 1), by omega, by simp, (hu.setNew (by show w.heap.size ≤ w3.heap.size; exact hsz3)).drew', (hu5'.setIn rfl).drew', ?_, fun b hb2 hR2 => ?_, ?_, by omega⟩
      · have e : (atL 64 fun x => ((if x = s i then y else f x : Nat) : Int)).set (s i) (.int .i64 ((max y (f c + 1) : Nat) : Int)) = atL 64 fun x => ((if x = s i then max y (f c + 1) else f x : Nat) : Int) := by
          rw [atL_set]
          congr 1
          funext x
          by_cases h : x = s i
          · rw [if_pos h, if_pos h]
          · rw [if_neg h, if_neg h, if_neg h]
        rw [← e, show ((max y (f c + 1) : Nat) : Int) = max (y : Int) ((f c : Int) + 1) from by omega]
        exact (hb.set (s i) _).drew
      · by_cases e : b = c
        · rw [e]; omega
        · have := hle b (by omega) hR2; omega
      · by_cases h : y ≤ f c + 1
        · exact .inr ⟨c, hcm, hR, by omega⟩
        · rw [show max y (f c + 1) = y from by omega]; exact heq
  subst hk0
  have hup := hinv.done topo
  have hfew := hinv.few
  clear hinv hS hfrS
  simp (disch := omega) only [push_cast, Nat.reduceBEq, Nat.reduceEqDiff, Nat.reduceAdd, Nat.reduceMul, Nat.reduceSub, Nat.reduceLT, Int.reduceToNat, Int.reduceLT, Int.reduceLE, Int.reduceEq, Int.reduceAdd, Int.reduceSub, Int.reduceNeg, Int.reduceMul]
  refine Ok.use (max_ok hb (by omega) (by omega)) ?_
  rintro v w6 ⟨K, rfl, hK, ⟨x0, hx0, hx1⟩, rfl⟩
  have hKn : K ≤ m := by have := hfew x0; omega
  have u5l := hu
  simp (disch := omega) only [push_cast, Nat.reduceBEq, Nat.reduceEqDiff, Nat.reduceAdd, Nat.reduceMul, Nat.reduceSub, Nat.reduceLT, Int.reduceToNat, Int.reduceLT, Int.reduceLE, Int.reduceEq, Int.reduceAdd, Int.reduceSub, Int.reduceNeg, Int.reduceMul]
  refine loop_inv (I := fun k st w2 => Bx (∃ (v : Value) (c : List Nat), k + c.length = K ∧ st = [v, .int .i64 (k : Int)] ∧ Upd (fun _ => False) w' w2 ∧ w2.ownsRow 0 3 1 v (toI c).length ((toI c).map (Value.int .i64)) ∧ (∀ g, v.ownBlock = some g → w'.heap.size ≤ g) ∧ Chain m (less m l) f K c) ⟨⟩) ?_ K
    ⟨.slice none 0 0, [], rfl, rfl, Upd.refl, World.ownsRow_nil _ _ _ _, by simp [Value.ownBlock], ⟨by simp, by simp, by simp, by simp⟩⟩
  rintro k st w2 ⟨v, c, hkc, rfl, hu2, hown, hfr, hch⟩
  obtain ⟨ov, oc, rfl⟩ := own_slice hown
  by_cases hk0 : k = 0
  · obtain rfl : c.length = K := by omega
    simp (disch := omega) only [push_cast, Nat.reduceBEq, Nat.reduceEqDiff, Nat.reduceAdd, Nat.reduceMul, Nat.reduceSub, Nat.reduceLT, Int.reduceToNat, Int.reduceLT, Int.reduceLE, Int.reduceEq, Int.reduceAdd, Int.reduceSub, Int.reduceNeg, Int.reduceMul]
    exact ⟨_, rfl, fun _ => ⟨f, c, hup, fun x hx => hK x (by omega), hch, SlI.of_own hown⟩, t u5l hu2⟩
  have hcl : (toI c).length = c.length := toI_length
  rw [hcl] at hfr ⊢
  have hown0 : w2.ownsRow 0 3 1 (.slice ov c.length oc) (toI c).length ((toI c).map (Value.int .i64)) := by
    have := hown
    rw [hcl] at this ⊢
    exact this
  have hSI := SlI.of_own hown0
  clear hown
  have hex : ∃ b, b < m ∧ f b = k ∧ ∀ x, c[c.length - 1]? = some x → less m l x b = true := by
    by_cases h0 : c.length = 0
    · have hx0m : x0 < m := by
        apply Classical.byContradiction
        intro h
        have := hup.zero x0 (by omega)
        omega
      refine ⟨x0, hx0m, by omega, fun x hx => ?_⟩
      have := (List.getElem?_eq_some_iff.1 hx).1
      omega
    · have hlast := List.getElem?_eq_getElem (l := c) (i := c.length - 1) (by omega)
      generalize c[c.length - 1]'(by omega) = x at hlast
      have h1 := hch.up _ _ hlast
      have h2 := hch.lt _ _ hlast
      rcases hup.eq x h2 with h3 | ⟨b, hb2, hR, h3⟩
      · omega
      · refine ⟨b, hb2, by omega, fun y hy => ?_⟩
        rw [hlast] at hy
        cases hy
        exact hR
  simp (disch := omega) only [push_cast, Nat.reduceBEq, Nat.reduceEqDiff, Nat.reduceAdd, Nat.reduceMul, Nat.reduceSub, Nat.reduceLT, Int.reduceToNat, Int.reduceLT, Int.reduceLE, Int.reduceEq, Int.reduceAdd, Int.reduceSub, Int.reduceNeg, Int.reduceMul]
  refine loop_inv (I := fun k2 st w3 => Bx (∃ j, k2 + j = m ∧ st = [.slice ov c.length oc, .int .i64 (j : Int)] ∧ Upd (fun _ => False) w2 w3 ∧ ∀ b, b < j → ¬ (f b = k ∧ ∀ x, c[c.length - 1]? = some x → less m l x b = true)) ⟨⟩) ?_ m ⟨0, rfl, rfl, Upd.refl, fun b hb => by omega⟩
  rintro k2 st w3' ⟨j, hkj, rfl, hu3', hno⟩
  by_cases hk2 : k2 = 0
  · exfalso
    obtain ⟨b, h1, h2, h3⟩ := hex
    exact hno b (by omega) ⟨h2, h3⟩
  have hj : j < m := by omega
  have hb7 := (hb.upd hu2 (fun h => h)).upd hu3' (fun h => h)
  have hbt7 := (hbt.upd hu2 (fun h => h)).upd hu3' (fun h => h)
  have cj : (atL 64 fun x => (f x : Int))[j]? = some (.int .i64 (f j : Int)) := atL_get (by omega)
  have nextj : ¬ (f j = k ∧ ∀ x, c[c.length - 1]? = some x → less m l x j = true) → ∀ b, b < j + 1 → ¬ (f b = k ∧ ∀ x, c[c.length - 1]? = some x → less m l x b = true) := by
    intro h b hb2
    by_cases e : b = j
    · rw [e]; exact h
    · exact hno b (by omega)
  by_cases hfj : f j = k
  rotate_left
  · have hfj' : ¬ (f j : Int) = (k : Int) := by omega
    simp (disch := omega) only [push_cast, Nat.reduceBEq, Nat.reduceEqDiff, Nat.reduceAdd, Nat.reduceMul, Nat.reduceSub, Nat.reduceLT, Int.reduceToNat, Int.reduceLT, Int.reduceLE, Int.reduceEq, Int.reduceAdd, Int.reduceSub, Int.reduceNeg, Int.reduceMul, hb7.cell, hb7.free, cj]
    exact ⟨k2 - 1, by omega, j + 1, by omega, by simp, hu3', nextj fun h => hfj h.1⟩
  have hfj' : (f j : Int) = (k : Int) := by omega
  have good : (∀ x, c[c.length - 1]? = some x → less m l x j = true) → Chain m (less m l) f K (c ++ [j]) := fun h => hch.snoc hj (by omega) h fun y hy hfy hR => by
    refine Classical.byContradiction fun hlt => hno y (by omega) ⟨by omega, hR⟩
  have hown3 := ownsRow_upd hown0 hu3' (fun _ _ h => h)
  have hs2 := hu2.size
  have hs3 := hu3'.size
  have hI : toI (c ++ [j]) = toI c ++ [(j : Int)] := by simp [toI]
  by_cases hc0 : c.length = 0
  · have hc0' : (c.length : Int) = 0 := by omega
    simp (disch := omega) only [push_cast, Nat.reduceBEq, Nat.reduceEqDiff, Nat.reduceAdd, Nat.reduceMul, Nat.reduceSub, Nat.reduceLT, Int.reduceToNat, Int.reduceLT, Int.reduceLE, Int.reduceEq, Int.reduceAdd, Int.reduceSub, Int.reduceNeg, Int.reduceMul, hb7.cell, hb7.free, cj]
    refine app_int (hown3.alloc _) (by omega) (x := (j : Int)) Blk.new ?_
    intro v' w8 hown8 hu8 hfr8
    simp (disch := omega) only [push_cast, Nat.reduceBEq, Nat.reduceEqDiff, Nat.reduceAdd, Nat.reduceMul, Nat.reduceSub, Nat.reduceLT, Int.reduceToNat, Int.reduceLT, Int.reduceLE, Int.reduceEq, Int.reduceAdd, Int.reduceSub, Int.reduceNeg, Int.reduceMul]
    have hu38 : Upd (fun b => (Value.slice ov c.length oc).ownBlock = some b) w3' w8 := Upd.alloc.trans hu8 (fun _ _ h => h)
    refine ⟨k - 1, by omega, v', c ++ [j], by rw [List.length_append, List.length_singleton]; omega, by rw [show ((k - 1 : Nat) : Int) = (k : Int) - 1 from by omega], (hu2.trans hu3' (fun _ _ h => h)).trans hu38 (fun b h1 h2 => by have := hfr b h2; omega), by rw [hI]; exact hown8, fun g hg => ?_, good fun x hx => ?_⟩
    · rcases hfr8 g hg with h | h
      · exact hfr g h
      · rw [size_alloc] at h; omega
    · have := (List.getElem?_eq_some_iff.1 hx).1
      omega
  · have hc0' : ¬ (c.length : Int) = 0 := by omega
    have hlast := List.getElem?_eq_getElem (l := c) (i := c.length - 1) (by omega)
    generalize c[c.length - 1]'(by omega) = x at hlast
    have hxm := hch.lt _ _ hlast
    obtain ⟨ob, oo, rfl, hoc⟩ := hSI.at_ hu3' (by omega)
    have q1 : w3'.cell? ⟨ob, oo + ((c.length : Int) - 1).toNat, none⟩ = some (.int .i64 (x : Int)) := by
      rw [show ((c.length : Int) - 1).toNat = c.length - 1 from by omega]
      refine hoc _ _ ?_
      unfold toI
      rw [List.getElem?_map, hlast]
      rfl
    have hrb : (r' x).getLsbD j = less m l x j := by rw [← e2]; rfl
    cases hbit : (r' x).getLsbD j
    · simp (disch := omega) only [push_cast, Nat.reduceBEq, Nat.reduceEqDiff, Nat.reduceAdd, Nat.reduceMul, Nat.reduceSub, Nat.reduceLT, Int.reduceToNat, Int.reduceLT, Int.reduceLE, Int.reduceEq, Int.reduceAdd, Int.reduceSub, Int.reduceNeg, Int.reduceMul, hb7.cell, hb7.free, cj, q1, hbt7.cell, hbt7.free, tabL_get, hbit]
      refine ⟨k2 - 1, by omega, j + 1, by omega, by simp, hu3', nextj fun h => ?_⟩
      have := h.2 x hlast
      rw [← hrb, hbit] at this
      cases this
    · simp (disch := omega) only [push_cast, Nat.reduceBEq, Nat.reduceEqDiff, Nat.reduceAdd, Nat.reduceMul, Nat.reduceSub, Nat.reduceLT, Int.reduceToNat, Int.reduceLT, Int.reduceLE, Int.reduceEq, Int.reduceAdd, Int.reduceSub, Int.reduceNeg, Int.reduceMul, hb7.cell, hb7.free, cj, q1, hbt7.cell, hbt7.free, tabL_get, hbit]
      refine app_int (hown3.alloc _) (by omega) (x := (j : Int)) Blk.new ?_
      intro v' w8 hown8 hu8 hfr8
      simp (disch := omega) only [push_cast, Nat.reduceBEq, Nat.reduceEqDiff, Nat.reduceAdd, Nat.reduceMul, Nat.reduceSub, Nat.reduceLT, Int.reduceToNat, Int.reduceLT, Int.reduceLE, Int.reduceEq, Int.reduceAdd, Int.reduceSub, Int.reduceNeg, Int.reduceMul]
      have hu38 : Upd (fun b => (Value.slice (some ⟨ob, oo, none⟩) c.length oc).ownBlock = some b) w3' w8 := Upd.alloc.trans hu8 (fun _ _ h => h)
      refine ⟨k - 1, by omega, v', c ++ [j], by rw [List.length_append, List.length_singleton]; omega, by rw [show ((k - 1 : Nat) : Int) = (k : Int) - 1 from by omega], (hu2.trans hu3' (fun _ _ h => h)).trans hu38 (fun b h1 h2 => by have := hfr b h2; omega), by rw [hI]; exact hown8, fun g hg => ?_, good fun y hy => ?_⟩
      · rcases hfr8 g hg with h | h
        · exact hfr g h
        · rw [size_alloc] at h; omega
      · rw [hlast] at hy
        cases hy
        rw [← hrb]
        exact hbit
end Go.Proofs.Ytfjccccfkpgmgaa.Fd
