/-
  The law OrderSorts, as a reading.
-/
import Derived.Test.YtfjccccfkpgmgaaOr9
namespace Go.Proofs.Ytfjccccfkpgmgaa.Fd
set_option linter.unusedSimpArgs false
set_option linter.unusedVariables false
open Go
set_option maxRecDepth 100000

/-- A slice of ints, opened at a place. -/
theorem SlI.at_ {w w' : World} {a : Option Addr} {c n : Nat} {l : List Int} (h : SlI w (.slice a n c) l) (hu : Upd (fun _ => False) w w') (hn : 0 < n) : ∃ b o, a = some ⟨b, o, none⟩ ∧ ∀ j x, l[j]? = some x → w'.cell? ⟨b, o + j, none⟩ = some (.int .i64 x) := by
  obtain ⟨a', c', hv, hl⟩ := h
  injection hv with e1 e2 e3
  subst e1
  obtain ⟨b, o, h1, h2, h3⟩ := hl (by intro e; rw [e] at e2; simp at e2; omega)
  have e := hu.block b h2 (fun h => h)
  exact ⟨b, o, h1, fun j x hj => by rw [World.cell?_of_block e]; exact h3 j x hj⟩
theorem SlP.at_ {w w' : World} {a : Option Addr} {c n : Nat} {l : List Pr} (h : SlP w (.slice a n c) l) (hu : Upd (fun _ => False) w w') (hn : 0 < n) : ∃ b o, a = some ⟨b, o, none⟩ ∧ ∀ j x, l[j]? = some x → w'.cell? ⟨b, o + j * 2, none⟩ = some (.int .i64 x.1) ∧ w'.cell? ⟨b, o + j * 2 + 1, none⟩ = some (.int .i64 x.2) := by
  obtain ⟨a', c', hv, hl⟩ := h
  injection hv with e1 e2 e3
  subst e1
  obtain ⟨b, o, h1, h2, h3⟩ := hl (by intro e; rw [e] at e2; simp at e2; omega)
  have e := hu.block b h2 (fun h => h)
  exact ⟨b, o, h1, fun j x hj => ⟨by rw [World.cell?_of_block e]; exact (h3 j x hj).1, by rw [World.cell?_of_block e]; exact (h3 j x hj).2⟩⟩

set_option maxHeartbeats 4000000 in
theorem orderSorts_ok {w : World} (n : Int) {v : Value} {l : List Pr} (hv : SlP w v l) :
    Ok (den Try.prog 3 #[.int .i64 n, v] w) fun u w' => u = .bool true ∧ Upd (fun _ => False) w w' := by
  have t := fun {a b c : World} (x : Upd (fun _ => False) a b) (y : Upd (fun _ => False) b c) => x.trans y (F := fun _ => False) (fun _ _ h => h)
  obtain ⟨pa, pc, rfl, _⟩ := id hv
  refine den_ok (args := [.int .i64 n, .slice pa l.length pc]) rs3 Try.func3 rfl mixed in3 ok3 rfl ?_
  simp (disch := omega) only [push_cast, Nat.reduceBEq, Nat.reduceEqDiff, Nat.reduceAdd, Nat.reduceMul, Nat.reduceSub, Nat.reduceLT, Int.reduceToNat, Int.reduceLT, Int.reduceLE, Int.reduceEq, Int.reduceAdd, Int.reduceSub, Int.reduceNeg, Int.reduceMul]
  refine Ok.use awake_ok ?_
  rintro v1 w1 ⟨rfl, hu1⟩
  simp (disch := omega) only [push_cast, Nat.reduceBEq, Nat.reduceEqDiff, Nat.reduceAdd, Nat.reduceMul, Nat.reduceSub, Nat.reduceLT, Int.reduceToNat, Int.reduceLT, Int.reduceLE, Int.reduceEq, Int.reduceAdd, Int.reduceSub, Int.reduceNeg, Int.reduceMul]
  refine Ok.use (fault_ok n (hv.upd hu1)) ?_
  rintro v1 w2 ⟨rfl, hu2⟩
  by_cases h0 : flt n l = 0
  rotate_left
  · simp (disch := omega) only [push_cast, Nat.reduceBEq, Nat.reduceEqDiff, Nat.reduceAdd, Nat.reduceMul, Nat.reduceSub, Nat.reduceLT, Int.reduceToNat, Int.reduceLT, Int.reduceLE, Int.reduceEq, Int.reduceAdd, Int.reduceSub, Int.reduceNeg, Int.reduceMul]
    exact t hu1 hu2
  obtain ⟨m, rfl, hm, hl4, hall, _, hcy⟩ := flt_zero h0
  rw [h0]
  simp (disch := omega) only [push_cast, Nat.reduceBEq, Nat.reduceEqDiff, Nat.reduceAdd, Nat.reduceMul, Nat.reduceSub, Nat.reduceLT, Int.reduceToNat, Int.reduceLT, Int.reduceLE, Int.reduceEq, Int.reduceAdd, Int.reduceSub, Int.reduceNeg, Int.reduceMul]
  refine Ok.use (Sort_ok m ((hv.upd hu1).upd hu2)) ?_
  rintro v1 w3 ⟨u0, rfl, hs, hu3⟩
  have u3 := t (t hu1 hu2) hu3
  rw [if_pos h0, Int.toNat_natCast] at hs
  rw [h0]
  have hsl := sortL_length (less_trans hall) (less_irr hall hcy) m (Nat.le_refl m)
  obtain ⟨topo, hget⟩ := topo_sortL (less_trans hall) (less_irr hall hcy)
  generalize hsd : (fun j => (sortL m (less m l) m).getD j 0) = s at *
  have hget' : ∀ j, j < m → (toI (sortL m (less m l) m))[j]? = some ((s j : Nat) : Int) := by
    intro j hj; rw [hget j hj, ← hsd]
  clear hget hsd
  have hS := hs
  obtain ⟨sa, sc, rfl, _⟩ := hs
  rw [toI_length, hsl] at hS ⊢
  generalize toI (sortL m (less m l) m) = S at *
  clear hu1 hu2 hu3 h0
  simp (disch := omega) only [push_cast, Nat.reduceBEq, Nat.reduceEqDiff, Nat.reduceAdd, Nat.reduceMul, Nat.reduceSub, Nat.reduceLT, Int.reduceToNat, Int.reduceLT, Int.reduceLE, Int.reduceEq, Int.reduceAdd, Int.reduceSub, Int.reduceNeg, Int.reduceMul, atL_zero]
  have hb0 : Blk (w3.alloc (.cells (atL m fun _ => 0).toArray 3 (0, 0))) w3.heap.size (atL m fun _ => 0) 3 := Blk.new
  have hu0 : Upd (fun _ => False) w3 (w3.alloc (.cells (atL m fun _ => 0).toArray 3 (0, 0))) := Upd.alloc
  generalize w3.alloc (.cells (atL m fun _ => 0).toArray 3 (0, 0)) = w4 at *
  have hsz := u3.size
  refine loop_inv (I := fun k st w' => Bx (∃ i f, k + i = m ∧ st = [.int .i64 (i : Int)] ∧ Upd (fun _ => False) w3 w' ∧ Blk w' w3.heap.size (atL m f) 3 ∧ ∀ x, x < i → f x = -1) ⟨⟩) ?_ m ⟨0, _, rfl, rfl, hu0, hb0, fun x hx => by omega⟩
  clear hb0 hu0
  rintro k st w' ⟨i, f, hki, rfl, hu, hb, hf⟩
  by_cases hk0 : k = 0
  rotate_left
  · have hi : i < m := by omega
    have hq : (atL m f)[i]? = some (.int .i64 (f i)) := atL_get hi
    simp (disch := omega) only [push_cast, Nat.reduceBEq, Nat.reduceEqDiff, Nat.reduceAdd, Nat.reduceMul, Nat.reduceSub, Nat.reduceLT, Int.reduceToNat, Int.reduceLT, Int.reduceLE, Int.reduceEq, Int.reduceAdd, Int.reduceSub, Int.reduceNeg, Int.reduceMul, hb.cell, hb.free, hq]
    refine ⟨k - 1, by omega, i + 1, fun x => if x = i then -1 else f x, by omega, by simp, hu.setNew (Nat.le_refl _), by rw [← atL_set]; exact hb.set i _, fun x hx => ?_⟩
    show (if x = i then (-1 : Int) else f x) = -1
    by_cases e : x = i
    · rw [if_pos e]
    · rw [if_neg e]; exact hf x (by omega)
  obtain rfl : i = m := by omega
  clear hki hk0
  simp (disch := omega) only [push_cast, Nat.reduceBEq, Nat.reduceEqDiff, Nat.reduceAdd, Nat.reduceMul, Nat.reduceSub, Nat.reduceLT, Int.reduceToNat, Int.reduceLT, Int.reduceLE, Int.reduceEq, Int.reduceAdd, Int.reduceSub, Int.reduceNeg, Int.reduceMul]
  refine loop_inv (I := fun k st w' => Bx (∃ j f, k + j = i ∧ st = [.int .i64 (j : Int)] ∧ Upd (fun _ => False) w3 w' ∧ Blk w' w3.heap.size (atL i f) 3 ∧ (∀ x, x < j → f (s x) = x) ∧ ∀ x, x < i → (∀ y, y < j → s y ≠ x) → f x = -1) ⟨⟩) ?_ i ⟨0, _, rfl, rfl, hu, hb, fun x hx => by omega, fun x hx _ => hf x hx⟩
  clear hu hb hf f
  rintro k st w' ⟨j, f, hkj, rfl, hu, hb, hf, hf2⟩
  by_cases hk0 : k = 0
  rotate_left
  · have hj : j < i := by omega
    obtain ⟨sb, so, rfl, hsc⟩ := hS.at_ hu (by omega)
    have q0 := hsc j _ (hget' j hj)
    have hslt := topo.lt j hj
    have hq : (atL i f)[s j]? = some (.int .i64 (f (s j))) := atL_get hslt
    have hm1 : f (s j) = -1 := hf2 _ hslt fun y hy e => by have := topo.inj y j (by omega) hj e; omega
    rw [hm1] at hq
    simp (disch := omega) only [push_cast, Nat.reduceBEq, Nat.reduceEqDiff, Nat.reduceAdd, Nat.reduceMul, Nat.reduceSub, Nat.reduceLT, Int.reduceToNat, Int.reduceLT, Int.reduceLE, Int.reduceEq, Int.reduceAdd, Int.reduceSub, Int.reduceNeg, Int.reduceMul, q0, hb.cell, hb.free, hq]
    refine ⟨k - 1, by omega, j + 1, fun x => if x = s j then (j : Int) else f x, by omega, by simp, hu.setNew (Nat.le_refl _), by rw [← atL_set]; exact hb.set (s j) _, fun x hx => ?_, fun x hx hy => ?_⟩
    · show (if s x = s j then (j : Int) else f (s x)) = x
      by_cases e : x = j
      · rw [e, if_pos rfl]
      · rw [if_neg (fun h => e (topo.inj x j (by omega) hj h))]; exact hf x (by omega)
    · show (if x = s j then (j : Int) else f x) = -1
      rw [if_neg (fun h => hy j (by omega) h.symm)]
      exact hf2 x hx fun y h => hy y (by omega)
  obtain rfl : j = i := by omega
  clear hkj hk0 hf2
  simp (disch := omega) only [push_cast, Nat.reduceBEq, Nat.reduceEqDiff, Nat.reduceAdd, Nat.reduceMul, Nat.reduceSub, Nat.reduceLT, Int.reduceToNat, Int.reduceLT, Int.reduceLE, Int.reduceEq, Int.reduceAdd, Int.reduceSub, Int.reduceNeg, Int.reduceMul]
  refine loop_inv (I := fun k st w' => Bx (∃ x, k + x = l.length ∧ st = [.int .i64 (x : Int)] ∧ Upd (fun _ => False) w3 w' ∧ Blk w' w3.heap.size (atL j f) 3) ⟨⟩) ?_ l.length ⟨0, rfl, rfl, hu, hb⟩
  clear hu hb
  rintro k st w' ⟨x, hkx, rfl, hu, hb⟩
  by_cases hk0 : k = 0
  rotate_left
  · have hx : x < l.length := by omega
    obtain ⟨pb, po, rfl, hpc⟩ := hv.at_ (t u3 hu) (by omega)
    obtain ⟨q0, q1⟩ := hpc x _ (List.getElem?_eq_getElem hx)
    have hxr : inR j l[x] = true := List.all_eq_true.1 hall _ (List.getElem_mem hx)
    have hmem : l[x] ∈ l := List.getElem_mem hx
    generalize l[x] = y at *
    obtain ⟨p, q, rfl, hp, hq⟩ := inR_nat hxr
    simp only at q0 q1
    have hR : less j l p q = true := clos_base (List.any_eq_true.2 ⟨_, hmem, by simp⟩)
    obtain ⟨i2, hi2, e2⟩ := topo.surj q hq
    obtain ⟨i1, hi1, e1⟩ := topo.free i2 hi2 p hp (by rw [e2]; exact hR)
    have hlt : f p < f q := by rw [← e1, ← e2, hf i1 (by omega), hf i2 hi2]; omega
    have c1 : (atL j f)[p]? = some (.int .i64 (f p)) := atL_get hp
    have c2 : (atL j f)[q]? = some (.int .i64 (f q)) := atL_get hq
    simp (disch := omega) only [push_cast, Nat.reduceBEq, Nat.reduceEqDiff, Nat.reduceAdd, Nat.reduceMul, Nat.reduceSub, Nat.reduceLT, Int.reduceToNat, Int.reduceLT, Int.reduceLE, Int.reduceEq, Int.reduceAdd, Int.reduceSub, Int.reduceNeg, Int.reduceMul, q0, q1, hb.cell, hb.free, c1, c2]
    exact ⟨k - 1, by omega, x + 1, by omega, by simp, hu.drew', hb.drew⟩
  obtain rfl : x = l.length := by omega
  clear hkx hk0
  simp (disch := omega) only [push_cast, Nat.reduceBEq, Nat.reduceEqDiff, Nat.reduceAdd, Nat.reduceMul, Nat.reduceSub, Nat.reduceLT, Int.reduceToNat, Int.reduceLT, Int.reduceLE, Int.reduceEq, Int.reduceAdd, Int.reduceSub, Int.reduceNeg, Int.reduceMul]
  refine loop_inv (I := fun k st w' => Bx (∃ i, k + i = j ∧ st = [.int .i64 (i : Int)] ∧ Upd (fun _ => False) w3 w' ∧ Blk w' w3.heap.size (atL j f) 3) ⟨⟩) ?_ j ⟨0, rfl, rfl, hu, hb⟩
  clear hu hb
  rintro k st w' ⟨i, hki, rfl, hu, hb⟩
  by_cases hk0 : k = 0
  · simp (disch := omega) only [push_cast, Nat.reduceBEq, Nat.reduceEqDiff, Nat.reduceAdd, Nat.reduceMul, Nat.reduceSub, Nat.reduceLT, Int.reduceToNat, Int.reduceLT, Int.reduceLE, Int.reduceEq, Int.reduceAdd, Int.reduceSub, Int.reduceNeg, Int.reduceMul]
    exact t u3 hu
  have hi : i < j := by omega
  simp (disch := omega) only [push_cast, Nat.reduceBEq, Nat.reduceEqDiff, Nat.reduceAdd, Nat.reduceMul, Nat.reduceSub, Nat.reduceLT, Int.reduceToNat, Int.reduceLT, Int.reduceLE, Int.reduceEq, Int.reduceAdd, Int.reduceSub, Int.reduceNeg, Int.reduceMul]
  refine loop_inv (I := fun k2 st w' => Bx (∃ x, k2 + x = s i ∧ st = [.int .i64 (x : Int)] ∧ Upd (fun _ => False) w3 w' ∧ Blk w' w3.heap.size (atL j f) 3) ⟨⟩) ?_ (s i) ⟨0, rfl, rfl, hu, hb⟩
  clear hu hb
  rintro k2 st w' ⟨x, hkx, rfl, hu, hb⟩
  have hslt := topo.lt i hi
  obtain ⟨sb, so, rfl, hsc⟩ := hS.at_ hu (by omega)
  have q0 := hsc i _ (hget' i hi)
  by_cases hk2 : k2 = 0
  · have hx : x = s i := by omega
    simp (disch := omega) only [push_cast, Nat.reduceBEq, Nat.reduceEqDiff, Nat.reduceAdd, Nat.reduceMul, Nat.reduceSub, Nat.reduceLT, Int.reduceToNat, Int.reduceLT, Int.reduceLE, Int.reduceEq, Int.reduceAdd, Int.reduceSub, Int.reduceNeg, Int.reduceMul, q0]
    exact ⟨k - 1, by omega, i + 1, by omega, by simp, hu, hb⟩
  have hx : x < s i := by omega
  have c0 : (atL j f)[x]? = some (.int .i64 (f x)) := atL_get (by omega)
  simp (disch := omega) only [push_cast, Nat.reduceBEq, Nat.reduceEqDiff, Nat.reduceAdd, Nat.reduceMul, Nat.reduceSub, Nat.reduceLT, Int.reduceToNat, Int.reduceLT, Int.reduceLE, Int.reduceEq, Int.reduceAdd, Int.reduceSub, Int.reduceNeg, Int.reduceMul, q0, hb.cell, hb.free, c0]
  have hfin := topo_waits hall topo hf hi hx
  refine loop_inv (I := fun k3 st w' => Bx (∃ y, k3 + y = l.length ∧ st = [.bool (decide (f x < i) || (l.take y).any (fun p => p.2 == (x : Int) && decide ((i : Int) ≤ f p.1.toNat))), .int .i64 (y : Int)] ∧ Upd (fun _ => False) w3 w' ∧ Blk w' w3.heap.size (atL j f) 3) ⟨⟩) ?_ l.length
    ⟨0, rfl, by simp, hu, hb⟩
  clear hu hb q0 hsc
  rintro k3 st w' ⟨y, hky, rfl, hu, hb⟩
  by_cases hk3 : k3 = 0
  · obtain rfl : y = l.length := by omega
    have hw : (decide (f x < i) || (l.take l.length).any (fun p => p.2 == (x : Int) && decide ((i : Int) ≤ f p.1.toNat))) = true := by
      rw [List.take_length]
      by_cases h : f x < i
      · simp [h]
      · rw [hfin h]; simp
    rw [hw]
    simp (disch := omega) only [push_cast, Nat.reduceBEq, Nat.reduceEqDiff, Nat.reduceAdd, Nat.reduceMul, Nat.reduceSub, Nat.reduceLT, Int.reduceToNat, Int.reduceLT, Int.reduceLE, Int.reduceEq, Int.reduceAdd, Int.reduceSub, Int.reduceNeg, Int.reduceMul]
    exact ⟨k2 - 1, by omega, x + 1, by omega, by simp, hu, hb⟩
  have hy : y < l.length := by omega
  obtain ⟨pb, po, rfl, hpc⟩ := hv.at_ (t u3 hu) (by omega)
  obtain ⟨q0, q1⟩ := hpc y _ (List.getElem?_eq_getElem hy)
  have hxr : inR j l[y] = true := List.all_eq_true.1 hall _ (List.getElem_mem hy)
  have hly := List.getElem?_eq_getElem hy
  have htk := any_take hly (p := fun p => p.2 == (x : Int) && decide ((i : Int) ≤ f p.1.toNat))
  generalize l[y] = z at *
  obtain ⟨p, q, rfl, hp, hq⟩ := inR_nat hxr
  simp only at q0 q1
  have c1 : (atL j f)[p]? = some (.int .i64 (f p)) := atL_get hp
  by_cases e1 : (q : Int) = x
  · by_cases e2 : (i : Int) ≤ f p
    · simp (disch := omega) only [push_cast, Nat.reduceBEq, Nat.reduceEqDiff, Nat.reduceAdd, Nat.reduceMul, Nat.reduceSub, Nat.reduceLT, Int.reduceToNat, Int.reduceLT, Int.reduceLE, Int.reduceEq, Int.reduceAdd, Int.reduceSub, Int.reduceNeg, Int.reduceMul, q0, q1, hb.cell, hb.free, c1]
      refine ⟨k3 - 1, by omega, y + 1, by omega, ?_, hu, hb⟩
      rw [htk]
      simp [e1, e2]
    · simp (disch := omega) only [push_cast, Nat.reduceBEq, Nat.reduceEqDiff, Nat.reduceAdd, Nat.reduceMul, Nat.reduceSub, Nat.reduceLT, Int.reduceToNat, Int.reduceLT, Int.reduceLE, Int.reduceEq, Int.reduceAdd, Int.reduceSub, Int.reduceNeg, Int.reduceMul, q0, q1, hb.cell, hb.free, c1]
      refine ⟨k3 - 1, by omega, y + 1, by omega, ?_, hu, hb⟩
      rw [htk]
      simp [e2]
  · simp (disch := omega) only [push_cast, Nat.reduceBEq, Nat.reduceEqDiff, Nat.reduceAdd, Nat.reduceMul, Nat.reduceSub, Nat.reduceLT, Int.reduceToNat, Int.reduceLT, Int.reduceLE, Int.reduceEq, Int.reduceAdd, Int.reduceSub, Int.reduceNeg, Int.reduceMul, q0, q1, hb.cell, hb.free, c1]
    refine ⟨k3 - 1, by omega, y + 1, by omega, ?_, hu, hb⟩
    have e3 : ((q : Int) == (x : Int)) = false := beq_eq_false_iff_ne.2 e1
    have e4 := htk.trans (b := _) (show ((l.take y).any (fun p => p.2 == (x : Int) && decide ((i : Int) ≤ f p.1.toNat)) || ((q : Int) == (x : Int) && _)) = (l.take y).any (fun p => p.2 == (x : Int) && decide ((i : Int) ≤ f p.1.toNat)) from by rw [e3, Bool.false_and, Bool.or_false])
    rw [e4]
    simp
theorem orderSorts_law {w : World} (n : Int) (_ : (Lit.int .i64 n).wf = true) {v : Value} (h : ∃ l, SlP w v l) :
    Ok (den Try.prog 3 #[.int .i64 n, v] w) fun u w' => u = .bool true ∧ Upd (fun _ => False) w w' := by
  obtain ⟨l, h⟩ := h
  exact orderSorts_ok n h
end Go.Proofs.Ytfjccccfkpgmgaa.Fd
