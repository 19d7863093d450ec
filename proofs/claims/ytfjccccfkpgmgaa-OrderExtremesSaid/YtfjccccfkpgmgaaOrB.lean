/-
  The reduction, of the program and of the specification; the law OrderReduces, as a reading.
-/
import Derived.Test.YtfjccccfkpgmgaaOrA
namespace Go.Proofs.Ytfjccccfkpgmgaa.Fd
set_option linter.unusedSimpArgs false
set_option linter.unusedVariables false
open Go
set_option maxRecDepth 100000

def via (m : Nat) (R : Rel) (a b : Nat) : Bool := (List.range m).any fun c => R a c && R c b
def red (n : Nat) (R : Rel) : Rel := fun a b => R a b && !via n R a b
theorem via_succ {m : Nat} {R : Rel} {a b : Nat} : via (m + 1) R a b = (via m R a b || (R a m && R m b)) := by
  unfold via
  rw [List.range_succ, List.any_append]
  simp
theorem via_zero {R : Rel} {a b : Nat} : via 0 R a b = false := rfl
theorem rbit_andNot {r : Nat → BitVec 64} {p a b : Nat} {z : BitVec 64} (hb : b < 64) : rbit (fun i => if i = p then r p &&& ~~~z else r i) a b = if a = p then (rbit r p b && !z.getLsbD b) else rbit r a b := by
  unfold rbit
  by_cases h : a = p
  · subst h; simp [hb]
  · simp [h]

set_option maxHeartbeats 4000000 in
theorem Reduction_ok {w : World} (n : Int) {v : Value} {l : List Pr} (hv : SlP w v l) :
    Ok (den Try.prog 24 #[.int .i64 n, v] w) fun u w' => ∃ u0, u = .tuple #[u0, .int .i64 (flt n l)] ∧ SlP w' u0 (if flt n l = 0 then pairsOf n.toNat n.toNat (red n.toNat (less n l)) else []) ∧ Upd (fun _ => False) w w' ∧ capOk u0 := by
  have t := fun {a b c : World} (x : Upd (fun _ => False) a b) (y : Upd (fun _ => False) b c) => x.trans y (F := fun _ => False) (fun _ _ h => h)
  refine den_ok (args := [.int .i64 n, v]) rs24 Try.func24 rfl mixed in24 ok24 rfl ?_
  simp (disch := omega) only [push_cast, Nat.reduceBEq, Nat.reduceEqDiff, Nat.reduceAdd, Nat.reduceMul, Nat.reduceSub, Nat.reduceLT, Int.reduceToNat, Int.reduceLT, Int.reduceLE, Int.reduceEq, Int.reduceAdd, Int.reduceSub, Int.reduceNeg, Int.reduceMul]
  refine Ok.use (acyclic_ok n hv) ?_
  rintro v w1 ⟨r, rfl, hr, hu1⟩
  have hb2 : Blk (w1.alloc (.cells (tabL fun _ => 0#64).toArray 53 (0, 0))) w1.heap.size (tabL fun _ => 0#64) 53 := Blk.new
  by_cases hc : flt n l = 0
  rotate_left
  · obtain ⟨hb3, hu3⟩ := new_tab (w := w1) (r := r)
    simp (disch := omega) only [push_cast, Nat.reduceBEq, Nat.reduceEqDiff, Nat.reduceAdd, Nat.reduceMul, Nat.reduceSub, Nat.reduceLT, Int.reduceToNat, Int.reduceLT, Int.reduceLE, Int.reduceEq, Int.reduceAdd, Int.reduceSub, Int.reduceNeg, Int.reduceMul, st_tab hb2]
    rw [if_neg hc]
    exact ⟨_, rfl, ⟨none, 0, rfl, fun h => absurd rfl h⟩, t hu1 hu3, none, 0, 0, rfl, Nat.le_refl _⟩
  · obtain ⟨m, rfl, hm, hl4, hall, _, hcy⟩ := flt_zero hc
    obtain ⟨r', e1, e2⟩ := tab_norm (hr hc) (fun a b h => by have := less_lt hall h; omega)
    rw [← e1, hc, if_pos rfl, Int.toNat_natCast]
    obtain ⟨hb3, hu3⟩ := new_tab (w := w1) (r := r')
    have hl3 := hb3.lt
    have hu13 := t hu1 hu3
    have hs3 : w1.heap.size ≤ ((w1.alloc (.cells (tabL fun _ => 0#64).toArray 53 (0, 0))).setRow w1.heap.size (tabL r').toArray).heap.size := hu3.size
    have hb4 : Blk (((w1.alloc (.cells (tabL fun _ => 0#64).toArray 53 (0, 0))).setRow w1.heap.size (tabL r').toArray).alloc (.cells (tabL fun _ => 0#64).toArray 53 (0, 0))) ((w1.alloc (.cells (tabL fun _ => 0#64).toArray 53 (0, 0))).setRow w1.heap.size (tabL r').toArray).heap.size (tabL fun _ => 0#64) 53 := Blk.new
    have hb3' : Blk (((w1.alloc (.cells (tabL fun _ => 0#64).toArray 53 (0, 0))).setRow w1.heap.size (tabL r').toArray).alloc (.cells (tabL fun _ => 0#64).toArray 53 (0, 0))) w1.heap.size (tabL r') 53 := hb3.alloc _
    obtain ⟨hb5, hu5⟩ := new_tab (w := ((w1.alloc (.cells (tabL fun _ => 0#64).toArray 53 (0, 0))).setRow w1.heap.size (tabL r').toArray)) (r := r')
    simp (disch := omega) only [push_cast, Nat.reduceBEq, Nat.reduceEqDiff, Nat.reduceAdd, Nat.reduceMul, Nat.reduceSub, Nat.reduceLT, Int.reduceToNat, Int.reduceLT, Int.reduceLE, Int.reduceEq, Int.reduceAdd, Int.reduceSub, Int.reduceNeg, Int.reduceMul, st_tab hb2, ld_tab hb3, ld_tab hb3', st_tab hb4]
    generalize ((w1.alloc (.cells (tabL fun _ => 0#64).toArray 53 (0, 0))).setRow w1.heap.size (tabL r').toArray) = w3 at *
    have hb6 := hb3.upd hu5 (fun h => h)
    have hu15 := t hu13 hu5
    generalize (w3.alloc (.cells (tabL fun _ => 0#64).toArray 53 (0, 0))).setRow w3.heap.size (tabL r').toArray = w5 at *
    clear hu3 hu5 hb4 hb3 hb3' hb2
    refine loop_inv (I := fun k st w' => Bx (∃ i q, k + i = m ∧ st = [.int .i64 (i : Int)] ∧ Upd (fun _ => False) w w' ∧ Blk w' w1.heap.size (tabL r') 53 ∧ Blk w' w3.heap.size (tabL q) 53 ∧
      ∀ a b, a < 64 → b < 64 → rbit q a b = if a < i then red m (less m l) a b else less m l a b) ⟨⟩) ?_ m ⟨0, r', rfl, rfl, hu15, hb6, hb5, fun a b _ _ => by simp [e2]⟩
    clear hb5 hb6 hu15
    rintro k st w' ⟨i, q, hki, rfl, hu, g1, g2, hq⟩
    by_cases hk0 : k = 0
    · obtain rfl : i = m := by omega
      simp (disch := omega) only [push_cast, Nat.reduceBEq, Nat.reduceEqDiff, Nat.reduceAdd, Nat.reduceMul, Nat.reduceSub, Nat.reduceLT, Int.reduceToNat, Int.reduceLT, Int.reduceLE, Int.reduceEq, Int.reduceAdd, Int.reduceSub, Int.reduceNeg, Int.reduceMul]
      refine Ok.use (list_ok g2 hm) ?_
      rintro v w6 ⟨hs, hu6, hcap⟩
      simp (disch := omega) only [push_cast, Nat.reduceBEq, Nat.reduceEqDiff, Nat.reduceAdd, Nat.reduceMul, Nat.reduceSub, Nat.reduceLT, Int.reduceToNat, Int.reduceLT, Int.reduceLE, Int.reduceEq, Int.reduceAdd, Int.reduceSub, Int.reduceNeg, Int.reduceMul]
      have e : pairsOf i i (rbit q) = pairsOf i i (red i (less i l)) := pairsOf_congr fun a b ha hb => by rw [hq a b (by omega) (by omega), if_pos ha]
      rw [← e]
      exact ⟨_, rfl, hs, t hu hu6, hcap⟩
    have hi : i < m := by omega
    simp (disch := omega) only [push_cast, Nat.reduceBEq, Nat.reduceEqDiff, Nat.reduceAdd, Nat.reduceMul, Nat.reduceSub, Nat.reduceLT, Int.reduceToNat, Int.reduceLT, Int.reduceLE, Int.reduceEq, Int.reduceAdd, Int.reduceSub, Int.reduceNeg, Int.reduceMul]
    refine loop_inv (I := fun k2 st w' => Bx (∃ j q, k2 + j = m ∧ st = [.int .i64 (j : Int)] ∧ Upd (fun _ => False) w w' ∧ Blk w' w1.heap.size (tabL r') 53 ∧ Blk w' w3.heap.size (tabL q) 53 ∧
      ∀ a b, a < 64 → b < 64 → rbit q a b = if a < i then red m (less m l) a b else if a = i then (less m l a b && !via j (less m l) a b) else less m l a b) ⟨⟩) ?_ m
      ⟨0, q, rfl, rfl, hu, g1, g2, fun a b ha hb => by rw [hq a b ha hb, via_zero]; simp⟩
    clear hu g1 g2 hq q
    rintro k2 st w' ⟨j, q, hkj, rfl, hu, g1, g2, hq⟩
    by_cases hk2 : k2 = 0
    · obtain rfl : j = m := by omega
      simp (disch := omega) only [push_cast, Nat.reduceBEq, Nat.reduceEqDiff, Nat.reduceAdd, Nat.reduceMul, Nat.reduceSub, Nat.reduceLT, Int.reduceToNat, Int.reduceLT, Int.reduceLE, Int.reduceEq, Int.reduceAdd, Int.reduceSub, Int.reduceNeg, Int.reduceMul]
      refine ⟨k - 1, by omega, i + 1, q, by omega, by simp, hu, g1, g2, fun a b ha hb => ?_⟩
      rw [hq a b ha hb]
      by_cases h1 : a < i
      · rw [if_pos h1, if_pos (by omega)]
      · rw [if_neg h1]
        by_cases h2 : a = i
        · rw [if_pos h2, if_pos (by omega)]; rfl
        · rw [if_neg h2, if_neg (by omega)]
    have hj : j < m := by omega
    have hl1 := g1.lt
    have hl2 := g2.lt
    cases hbit : (r' i).getLsbD j
    · simp (disch := omega) only [push_cast, Nat.reduceBEq, Nat.reduceEqDiff, Nat.reduceAdd, Nat.reduceMul, Nat.reduceSub, Nat.reduceLT, Int.reduceToNat, Int.reduceLT, Int.reduceLE, Int.reduceEq, Int.reduceAdd, Int.reduceSub, Int.reduceNeg, Int.reduceMul, g1.cell, g1.free, g2.cell, g2.free, tabL_get, hbit]
      refine ⟨k2 - 1, by omega, j + 1, q, by omega, by simp, hu, g1, g2, fun a b ha hb => ?_⟩
      rw [hq a b ha hb]
      have h3 : less m l i j = false := by rw [← e2]; exact hbit
      by_cases h2 : a = i
      · rw [h2, if_neg (by omega), if_pos rfl, if_neg (by omega), if_pos rfl, via_succ, h3, Bool.false_and, Bool.or_false]
      · rw [if_neg h2, if_neg h2]
    · simp (disch := omega) only [push_cast, Nat.reduceBEq, Nat.reduceEqDiff, Nat.reduceAdd, Nat.reduceMul, Nat.reduceSub, Nat.reduceLT, Int.reduceToNat, Int.reduceLT, Int.reduceLE, Int.reduceEq, Int.reduceAdd, Int.reduceSub, Int.reduceNeg, Int.reduceMul, g1.cell, g1.free, g2.cell, g2.free, tabL_get, hbit]
      have hu1 : Upd (fun b => b = w3.heap.size) w' (w'.setCell ⟨w3.heap.size, i, none⟩ (U (q i &&& ~~~(r' j)))).drew := ((Upd.refl (F := fun b => b = w3.heap.size)).setIn rfl).drew'
      refine ⟨k2 - 1, by omega, j + 1, fun a => if a = i then q i &&& ~~~(r' j) else q a, by omega, by simp, hu.trans hu1 (fun b h1 h2 => by have := hu13.size; omega), g1.upd hu1 (by omega), ?_, ?_⟩
      · rw [← tabL_set]
        exact (g2.set i _).drew
      · intro a b ha hb
        rw [rbit_andNot hb]
        have h3 : less m l i j = true := by rw [← e2]; exact hbit
        have h4 : (r' j).getLsbD b = less m l j b := by rw [← e2]; rfl
        by_cases h2 : a = i
        · rw [if_pos h2, hq i b (by omega) hb, if_neg (by omega), if_pos rfl, h2, if_neg (by omega), if_pos rfl, via_succ, h3, h4, Bool.true_and, Bool.not_or, Bool.and_assoc]
        · rw [if_neg h2, hq a b ha hb, if_neg h2, if_neg h2]

set_option maxHeartbeats 4000000 in
theorem rreduction_ok {w : World} {lo n : Nat} {v : Value} {R : Rel} (hm : Mat lo w v n n R) (hn : n ≤ 64) :
    Ok (den Try.prog 25 #[v] w) fun u w' => SlP w' u (pairsOf n n (red n R)) ∧ Upd (fun _ => False) w w' := by
  obtain ⟨av, cv, rfl⟩ := hm.form
  refine den_ok (args := [.slice av n cv]) rs25 Try.func25 rfl mixed in25 ok25 rfl ?_
  simp (disch := omega) only [push_cast, Nat.reduceBEq, Nat.reduceEqDiff, Nat.reduceAdd, Nat.reduceMul, Nat.reduceSub, Nat.reduceLT, Int.reduceToNat, Int.reduceLT, Int.reduceLE, Int.reduceEq, Int.reduceAdd, Int.reduceSub, Int.reduceNeg, Int.reduceMul]
  have hu0 : Upd (fun _ => False) w (w.alloc (.cells #[] 29 (0, 0))) := Upd.alloc
  have ho0 : (w.alloc (.cells #[] 29 (0, 0))).ownsRow 0 29 2 (.slice (some ⟨w.heap.size, 0, none⟩) 0 0) (pairsOf n 0 (red n R)).length ((pairsOf n 0 (red n R)).flatMap pairRow) :=
    ⟨rfl, .inr ⟨w.heap.size, 0, #[], rfl, Nat.zero_le _, Blk.new (cs := []), Nat.le_refl _, Nat.zero_le _, rfl, rfl⟩⟩
  refine loop_inv (I := fun k st w' => Bx (∃ i v, k + i = n ∧ st = [v, .int .i64 (i : Int)] ∧ Upd (fun _ => False) w w' ∧ w'.ownsRow 0 29 2 v (pairsOf n i (red n R)).length ((pairsOf n i (red n R)).flatMap pairRow) ∧ ∀ g, v.ownBlock = some g → w.heap.size ≤ g) ⟨⟩) ?_ n
    ⟨0, _, rfl, rfl, hu0, ho0, by simp [Value.ownBlock]⟩
  clear hu0 ho0
  rintro k st w' ⟨i, v, hki, rfl, hu, hown, hfr⟩
  by_cases hk0 : k = 0
  · obtain rfl : i = n := by omega
    simp (disch := omega) only [push_cast, Nat.reduceBEq, Nat.reduceEqDiff, Nat.reduceAdd, Nat.reduceMul, Nat.reduceSub, Nat.reduceLT, Int.reduceToNat, Int.reduceLT, Int.reduceLE, Int.reduceEq, Int.reduceAdd, Int.reduceSub, Int.reduceNeg, Int.reduceMul]
    exact ⟨SlP.of_own hown, hu⟩
  have hi : i < n := by omega
  simp (disch := omega) only [push_cast, Nat.reduceBEq, Nat.reduceEqDiff, Nat.reduceAdd, Nat.reduceMul, Nat.reduceSub, Nat.reduceLT, Int.reduceToNat, Int.reduceLT, Int.reduceLE, Int.reduceEq, Int.reduceAdd, Int.reduceSub, Int.reduceNeg, Int.reduceMul]
  refine loop_inv (I := fun k2 st w' => Bx (∃ j v, k2 + j = n ∧ st = [v, .int .i64 (j : Int)] ∧ Upd (fun _ => False) w w' ∧ w'.ownsRow 0 29 2 v (pairsOf n i (red n R) ++ rowOf j i (red n R)).length ((pairsOf n i (red n R) ++ rowOf j i (red n R)).flatMap pairRow) ∧ ∀ g, v.ownBlock = some g → w.heap.size ≤ g) ⟨⟩) ?_ n
    ⟨0, v, rfl, rfl, hu, by simpa [rowOf] using hown, hfr⟩
  clear hu hown hfr
  rintro k2 st w' ⟨j, v, hkj, rfl, hu, hown, hfr⟩
  by_cases hk2 : k2 = 0
  · obtain rfl : j = n := by omega
    simp (disch := omega) only [push_cast, Nat.reduceBEq, Nat.reduceEqDiff, Nat.reduceAdd, Nat.reduceMul, Nat.reduceSub, Nat.reduceLT, Int.reduceToNat, Int.reduceLT, Int.reduceLE, Int.reduceEq, Int.reduceAdd, Int.reduceSub, Int.reduceNeg, Int.reduceMul]
    exact ⟨k - 1, by omega, i + 1, v, by omega, by simp, hu, by rw [pairsOf_succ]; exact hown, hfr⟩
  have hj : j < n := by omega
  simp (disch := omega) only [push_cast, Nat.reduceBEq, Nat.reduceEqDiff, Nat.reduceAdd, Nat.reduceMul, Nat.reduceSub, Nat.reduceLT, Int.reduceToNat, Int.reduceLT, Int.reduceLE, Int.reduceEq, Int.reduceAdd, Int.reduceSub, Int.reduceNeg, Int.reduceMul]
  refine loop_inv (I := fun k3 st w2 => Bx (∃ c, k3 + c = n ∧ st = [.bool (via c R i j), .int .i64 (c : Int)] ∧ Upd (fun _ => False) w' w2) ⟨⟩) ?_ n ⟨0, rfl, rfl, Upd.refl⟩
  rintro k3 st w2 ⟨c, hkc, rfl, hu2⟩
  obtain ⟨g, cap, bk, hv, m1, m2, _, _, _⟩ := ((hm.upd hu).upd hu2).opened (by omega)
  injection hv with e1 e2 e3
  subst e1
  have c1 := m1 i hi
  have c2 := m2 i j hi hj
  by_cases hk3 : k3 = 0
  · obtain rfl : c = n := by omega
    have hp := pairsOf_le (n := c) (m := i) (R := red c R)
    have hr := rowOf_le (n := j) (a := i) (R := red c R)
    have h64 : i * c ≤ 64 * 64 := Nat.mul_le_mul (by omega) hn
    have hu' := hu.trans hu2 (fun _ _ h => h)
    have hown2 := ownsRow_upd hown hu2 (fun _ _ h => h)
    cases hbit : R i j
    · rw [hbit] at c2
      have hred : red c R i j = false := by unfold red; rw [hbit]; rfl
      cases hvia : via c R i j <;> (
        simp (disch := omega) only [push_cast, Nat.reduceBEq, Nat.reduceEqDiff, Nat.reduceAdd, Nat.reduceMul, Nat.reduceSub, Nat.reduceLT, Int.reduceToNat, Int.reduceLT, Int.reduceLE, Int.reduceEq, Int.reduceAdd, Int.reduceSub, Int.reduceNeg, Int.reduceMul, c1, c2]
        refine ⟨k2 - 1, by omega, j + 1, v, by omega, by simp, hu', ?_, hfr⟩
        rw [rowOf_succ, if_neg (by rw [hred]; decide), List.append_nil]
        exact hown2)
    · rw [hbit] at c2
      cases hvia : via c R i j
      rotate_left
      · have hred : red c R i j = false := by unfold red; rw [hbit, hvia]; rfl
        simp (disch := omega) only [push_cast, Nat.reduceBEq, Nat.reduceEqDiff, Nat.reduceAdd, Nat.reduceMul, Nat.reduceSub, Nat.reduceLT, Int.reduceToNat, Int.reduceLT, Int.reduceLE, Int.reduceEq, Int.reduceAdd, Int.reduceSub, Int.reduceNeg, Int.reduceMul, c1, c2]
        refine ⟨k2 - 1, by omega, j + 1, v, by omega, by simp, hu', ?_, hfr⟩
        rw [rowOf_succ, if_neg (by rw [hred]; decide), List.append_nil]
        exact hown2
      · have hred : red c R i j = true := by unfold red; rw [hbit, hvia]; rfl
        simp (disch := omega) only [push_cast, Nat.reduceBEq, Nat.reduceEqDiff, Nat.reduceAdd, Nat.reduceMul, Nat.reduceSub, Nat.reduceLT, Int.reduceToNat, Int.reduceLT, Int.reduceLE, Int.reduceEq, Int.reduceAdd, Int.reduceSub, Int.reduceNeg, Int.reduceMul, c1, c2]
        refine app_pr (hown2.alloc _) (by rw [List.length_append]; omega) (x := prs i j) (Blk.new (cs := pairRow (prs i j))) ?_
        intro v' w3 hown3 hu3 hfr3
        simp (disch := omega) only [push_cast, Nat.reduceBEq, Nat.reduceEqDiff, Nat.reduceAdd, Nat.reduceMul, Nat.reduceSub, Nat.reduceLT, Int.reduceToNat, Int.reduceLT, Int.reduceLE, Int.reduceEq, Int.reduceAdd, Int.reduceSub, Int.reduceNeg, Int.reduceMul]
        have hu4 : Upd (fun b => v.ownBlock = some b) w2 w3 := Upd.alloc.trans hu3 (fun _ _ h => h)
        refine ⟨k2 - 1, by omega, j + 1, v', by omega, by simp, hu'.trans hu4 (fun b h1 h2 => by have := hfr b h2; omega), ?_, ?_⟩
        · rw [rowOf_succ, if_pos hred, ← List.append_assoc]
          exact hown3
        · intro g hg
          have := hu'.size
          rcases hfr3 g hg with h | h
          · exact hfr g h
          · rw [size_alloc] at h; omega
  have hc : c < n := by omega
  have d1 := m2 i c hi hc
  have d2 := m1 c hc
  have d3 := m2 c j hc hj
  cases b1 : R i c
  · rw [b1] at d1
    simp (disch := omega) only [push_cast, Nat.reduceBEq, Nat.reduceEqDiff, Nat.reduceAdd, Nat.reduceMul, Nat.reduceSub, Nat.reduceLT, Int.reduceToNat, Int.reduceLT, Int.reduceLE, Int.reduceEq, Int.reduceAdd, Int.reduceSub, Int.reduceNeg, Int.reduceMul, c1, c2, d1, d2, d3]
    refine ⟨k3 - 1, by omega, c + 1, by omega, ?_, hu2⟩
    rw [via_succ, b1, Bool.false_and, Bool.or_false]
    rfl
  · rw [b1] at d1
    cases b2 : R c j
    · rw [b2] at d3
      simp (disch := omega) only [push_cast, Nat.reduceBEq, Nat.reduceEqDiff, Nat.reduceAdd, Nat.reduceMul, Nat.reduceSub, Nat.reduceLT, Int.reduceToNat, Int.reduceLT, Int.reduceLE, Int.reduceEq, Int.reduceAdd, Int.reduceSub, Int.reduceNeg, Int.reduceMul, c1, c2, d1, d2, d3]
      refine ⟨k3 - 1, by omega, c + 1, by omega, ?_, hu2⟩
      rw [via_succ, b2, Bool.and_false, Bool.or_false]
      rfl
    · rw [b2] at d3
      simp (disch := omega) only [push_cast, Nat.reduceBEq, Nat.reduceEqDiff, Nat.reduceAdd, Nat.reduceMul, Nat.reduceSub, Nat.reduceLT, Int.reduceToNat, Int.reduceLT, Int.reduceLE, Int.reduceEq, Int.reduceAdd, Int.reduceSub, Int.reduceNeg, Int.reduceMul, c1, c2, d1, d2, d3]
      refine ⟨k3 - 1, by omega, c + 1, by omega, ?_, hu2⟩
      rw [via_succ, b1, b2, Bool.and_self, Bool.or_true]
      rfl

set_option maxHeartbeats 1000000 in
theorem orderReduces_ok {w : World} (n : Int) {v : Value} {l : List Pr} (hv : SlP w v l) :
    Ok (den Try.prog 5 #[.int .i64 n, v] w) fun u w' => u = .bool true ∧ Upd (fun _ => False) w w' := by
  have t := fun {a b c : World} (x : Upd (fun _ => False) a b) (y : Upd (fun _ => False) b c) => x.trans y (F := fun _ => False) (fun _ _ h => h)
  refine den_ok (args := [.int .i64 n, v]) rs5 Try.func5 rfl mixed in5 ok5 rfl ?_
  simp (disch := omega) only [push_cast, Nat.reduceBEq, Nat.reduceEqDiff, Nat.reduceAdd, Nat.reduceMul, Nat.reduceSub, Nat.reduceLT, Int.reduceToNat, Int.reduceLT, Int.reduceLE, Int.reduceEq, Int.reduceAdd, Int.reduceSub, Int.reduceNeg, Int.reduceMul]
  refine Ok.use awake_ok ?_
  rintro v1 w1 ⟨rfl, hu1⟩
  simp (disch := omega) only [push_cast, Nat.reduceBEq, Nat.reduceEqDiff, Nat.reduceAdd, Nat.reduceMul, Nat.reduceSub, Nat.reduceLT, Int.reduceToNat, Int.reduceLT, Int.reduceLE, Int.reduceEq, Int.reduceAdd, Int.reduceSub, Int.reduceNeg, Int.reduceMul]
  refine Ok.use (fault_ok n (hv.upd hu1)) ?_
  rintro v1 w2 ⟨rfl, hu2⟩
  by_cases h0 : flt n l = 0
  rotate_left
  · simp (disch := omega) only [push_cast, Nat.reduceBEq, Nat.reduceEqDiff, Nat.reduceAdd, Nat.reduceMul, Nat.reduceSub, Nat.reduceLT, Int.reduceToNat, Int.reduceLT, Int.reduceLE, Int.reduceEq, Int.reduceAdd, Int.reduceSub, Int.reduceNeg, Int.reduceMul]
    exact t hu1 hu2
  obtain ⟨m, rfl, hm, hl4, hall, _, hcy⟩ := flt_zero h0
  rw [h0]
  simp (disch := omega) only [push_cast, Nat.reduceBEq, Nat.reduceEqDiff, Nat.reduceAdd, Nat.reduceMul, Nat.reduceSub, Nat.reduceLT, Int.reduceToNat, Int.reduceLT, Int.reduceLE, Int.reduceEq, Int.reduceAdd, Int.reduceSub, Int.reduceNeg, Int.reduceMul]
  refine Ok.use (Reduction_ok m ((hv.upd hu1).upd hu2)) ?_
  rintro v1 w3 ⟨u0, rfl, hs, hu3, _⟩
  have u3 := t (t hu1 hu2) hu3
  rw [if_pos h0, Int.toNat_natCast] at hs
  rw [h0]
  simp (disch := omega) only [push_cast, Nat.reduceBEq, Nat.reduceEqDiff, Nat.reduceAdd, Nat.reduceMul, Nat.reduceSub, Nat.reduceLT, Int.reduceToNat, Int.reduceLT, Int.reduceLE, Int.reduceEq, Int.reduceAdd, Int.reduceSub, Int.reduceNeg, Int.reduceMul]
  refine Ok.use (less_ok hm (hv.upd u3) hall hl4) ?_
  rintro v1 w4 ⟨hmat, hu4⟩
  simp (disch := omega) only [push_cast, Nat.reduceBEq, Nat.reduceEqDiff, Nat.reduceAdd, Nat.reduceMul, Nat.reduceSub, Nat.reduceLT, Int.reduceToNat, Int.reduceLT, Int.reduceLE, Int.reduceEq, Int.reduceAdd, Int.reduceSub, Int.reduceNeg, Int.reduceMul]
  refine Ok.use (rreduction_ok hmat hm) ?_
  rintro v1 w5 ⟨hp, hu5⟩
  simp (disch := omega) only [push_cast, Nat.reduceBEq, Nat.reduceEqDiff, Nat.reduceAdd, Nat.reduceMul, Nat.reduceSub, Nat.reduceLT, Int.reduceToNat, Int.reduceLT, Int.reduceLE, Int.reduceEq, Int.reduceAdd, Int.reduceSub, Int.reduceNeg, Int.reduceMul]
  have hlen := pairsOf_le (n := m) (m := m) (R := red m (less m l))
  have h64 : m * m ≤ 64 * 64 := Nat.mul_le_mul hm hm
  refine Ok.use (samePairs_ok ((hs.upd hu4).upd hu5) hp (by omega)) ?_
  rintro v1 w6 ⟨rfl, hu6⟩
  rw [show decide (pairsOf m m (red m (less m l)) = pairsOf m m (red m (less m l))) = true from by simp]
  simp (disch := omega) only [push_cast, Nat.reduceBEq, Nat.reduceEqDiff, Nat.reduceAdd, Nat.reduceMul, Nat.reduceSub, Nat.reduceLT, Int.reduceToNat, Int.reduceLT, Int.reduceLE, Int.reduceEq, Int.reduceAdd, Int.reduceSub, Int.reduceNeg, Int.reduceMul]
  exact t (t (t u3 hu4) hu5) hu6
theorem orderReduces_law {w : World} (n : Int) (_ : (Lit.int .i64 n).wf = true) {v : Value} (h : ∃ l, SlP w v l) :
    Ok (den Try.prog 5 #[.int .i64 n, v] w) fun u w' => u = .bool true ∧ Upd (fun _ => False) w w' := by
  obtain ⟨l, h⟩ := h
  exact orderReduces_ok n h
end Go.Proofs.Ytfjccccfkpgmgaa.Fd
