/-
  MaxAntichain.
-/
import Derived.Test.YtfjccccfkpgmgaaOrP
namespace Go.Proofs.Ytfjccccfkpgmgaa.Fd
set_option linter.unusedSimpArgs false
set_option linter.unusedVariables false
open Go
set_option maxRecDepth 100000

theorem bv_andNot {a b : BitVec 64} {x : Nat} : (a &&& ~~~b).getLsbD x = (a.getLsbD x && !b.getLsbD x) := by
  rw [BitVec.getLsbD_and, BitVec.getLsbD_not]
  by_cases h : x < 64
  · simp [h]
  · rw [BitVec.getLsbD_of_ge _ _ (by omega : 64 ≤ x)]; rfl
theorem bv_minus {a : BitVec 64} {i x : Nat} (hi : i < 64) : (a &&& ~~~BitVec.twoPow 64 i).getLsbD x = minus (fun x => a.getLsbD x) i x := by
  rw [bv_andNot, BitVec.getLsbD_twoPow]
  unfold minus
  by_cases h : x = i
  · subst h; simp [hi]
  · have h2 : ¬ i = x := fun e => h e.symm
    simp [h, h2]
set_option maxHeartbeats 2000000 in
theorem MaxAntichain_ok {w : World} (n : Int) {v : Value} {l : List Pr} (hv : SlP w v l) :
    Ok (den Try.prog 31 #[.int .i64 n, v] w) fun u w' => ∃ u0, u = .tuple #[u0, .int .i64 (flt n l)] ∧
      (flt n l = 0 → ∃ W c S left, IsWd (less n l) (fun x => decide (x < n.toNat)) W ∧ AInv n.toNat (less n l) W n.toNat S left c ∧ SlI w' u0 (toI c)) ∧ Upd (fun _ => False) w w' := by
  have t := fun {a b c : World} (x : Upd (fun _ => False) a b) (y : Upd (fun _ => False) b c) => x.trans y (F := fun _ => False) (fun _ _ h => h)
  refine den_ok (args := [.int .i64 n, v]) rs31 Try.func31 rfl mixed in31 ok31 rfl ?_
  simp (disch := omega) only [push_cast, Nat.reduceBEq, Nat.reduceEqDiff, Nat.reduceAdd, Nat.reduceMul, Nat.reduceSub, Nat.reduceLT, Int.reduceToNat, Int.reduceLT, Int.reduceLE, Int.reduceEq, Int.reduceAdd, Int.reduceSub, Int.reduceNeg, Int.reduceMul]
  refine Ok.use (acyclic_ok n hv) ?_
  rintro v w1 ⟨r, rfl, hr, hu1⟩
  have hb2 : Blk (w1.alloc (.cells (tabL fun _ => 0#64).toArray 53 (0, 0))) w1.heap.size (tabL fun _ => 0#64) 53 := Blk.new
  by_cases hc : flt n l = 0
  rotate_left
  · obtain ⟨hb3, hu3⟩ := new_tab (w := w1) (r := r)
    simp (disch := omega) only [push_cast, Nat.reduceBEq, Nat.reduceEqDiff, Nat.reduceAdd, Nat.reduceMul, Nat.reduceSub, Nat.reduceLT, Int.reduceToNat, Int.reduceLT, Int.reduceLE, Int.reduceEq, Int.reduceAdd, Int.reduceSub, Int.reduceNeg, Int.reduceMul, st_tab hb2]
    exact ⟨_, rfl, fun h => absurd h hc, t hu1 hu3⟩
  obtain ⟨m, rfl, hm, hl4, hall, _, hcy⟩ := flt_zero hc
  obtain ⟨r', e1, e2⟩ := tab_norm (hr hc) (fun a b h => by have := less_lt hall h; omega)
  rw [← e1, hc, Int.toNat_natCast]
  obtain ⟨hb3, hu3⟩ := new_tab (w := w1) (r := r')
  have hu13 := t hu1 hu3
  simp (disch := omega) only [push_cast, Nat.reduceBEq, Nat.reduceEqDiff, Nat.reduceAdd, Nat.reduceMul, Nat.reduceSub, Nat.reduceLT, Int.reduceToNat, Int.reduceLT, Int.reduceLE, Int.reduceEq, Int.reduceAdd, Int.reduceSub, Int.reduceNeg, Int.reduceMul, st_tab hb2]
  generalize (w1.alloc (.cells (tabL fun _ => 0#64).toArray 53 (0, 0))).setRow w1.heap.size (tabL r').toArray = w3 at *
  have htr := less_trans hall
  have hir := less_irr hall hcy
  refine Ok.use (whole_ok hm) ?_
  rintro v w3' ⟨rfl, s, rfl, hs⟩
  simp (disch := omega) only [push_cast, Nat.reduceBEq, Nat.reduceEqDiff, Nat.reduceAdd, Nat.reduceMul, Nat.reduceSub, Nat.reduceLT, Int.reduceToNat, Int.reduceLT, Int.reduceLE, Int.reduceEq, Int.reduceAdd, Int.reduceSub, Int.reduceNeg, Int.reduceMul]
  refine Ok.use (width_ok hb3 (by rw [e2]; exact htr) (by rw [e2]; exact hir)) ?_
  rintro v w4 ⟨W, rfl, hW, hu4⟩
  rw [e2, show (fun x => s.getLsbD x) = fun x => decide (x < m) from funext hs] at hW
  have hb4 := hb3.upd hu4 (fun h => h)
  have hu14 := t hu13 hu4
  simp (disch := omega) only [push_cast, Nat.reduceBEq, Nat.reduceEqDiff, Nat.reduceAdd, Nat.reduceMul, Nat.reduceSub, Nat.reduceLT, Int.reduceToNat, Int.reduceLT, Int.reduceLE, Int.reduceEq, Int.reduceAdd, Int.reduceSub, Int.reduceNeg, Int.reduceMul]
  have hW64 : W ≤ 64 := by
    obtain ⟨A, _, _, h⟩ := hW.ex
    rw [← h]
    exact List.length_filter_le _ _
  refine loop_inv (I := fun k st w' => Bx (∃ (i : Nat) (sw : BitVec 64) (left : Nat) (v : Value) (c : List Nat), k + i = m ∧ st = [v, .int .u64 (sw.toNat : Nat), .int .i64 (left : Int), .int .i64 (i : Int)] ∧ Upd (fun _ => False) w4 w' ∧
    w'.ownsRow 0 3 1 v (toI c).length ((toI c).map (Value.int .i64)) ∧ (∀ g, v.ownBlock = some g → w4.heap.size ≤ g) ∧ AInv m (less m l) W i (fun x => sw.getLsbD x) left c) ⟨⟩) ?_ m
    ⟨0, s, W, .slice none 0 0, [], rfl, rfl, Upd.refl, World.ownsRow_nil _ _ _ _, by simp [Value.ownBlock], AInv.start hs (by rw [show (fun x => s.getLsbD x) = fun x => decide (x < m) from funext hs]; exact hW)⟩
  rintro k st w5 ⟨i, sw, left, v, c, hki, rfl, hu5, hown, hfr, hA⟩
  obtain ⟨ov, oc, rfl⟩ := own_slice hown
  by_cases hk0 : k = 0
  · obtain rfl : i = m := by omega
    simp (disch := omega) only [push_cast, Nat.reduceBEq, Nat.reduceEqDiff, Nat.reduceAdd, Nat.reduceMul, Nat.reduceSub, Nat.reduceLT, Int.reduceToNat, Int.reduceLT, Int.reduceLE, Int.reduceEq, Int.reduceAdd, Int.reduceSub, Int.reduceNeg, Int.reduceMul]
    exact ⟨_, rfl, fun _ => ⟨W, c, _, left, hW, hA, SlI.of_own hown⟩, t hu14 hu5⟩
  have hi : i < m := by omega
  have hb5 := hb4.upd hu5 (fun h => h)
  have hclen : c.length ≤ 64 := by have := hA.len; omega
  have hcl : (toI c).length = c.length := toI_length
  rw [hcl] at hfr ⊢
  have hown0 : w5.ownsRow 0 3 1 (.slice ov c.length oc) (toI c).length ((toI c).map (Value.int .i64)) := by
    have := hown
    rw [hcl] at this ⊢
    exact this
  clear hown
  cases hbit : sw.getLsbD i
  · simp (disch := omega) only [push_cast, Nat.reduceBEq, Nat.reduceEqDiff, Nat.reduceAdd, Nat.reduceMul, Nat.reduceSub, Nat.reduceLT, Int.reduceToNat, Int.reduceLT, Int.reduceLE, Int.reduceEq, Int.reduceAdd, Int.reduceSub, Int.reduceNeg, Int.reduceMul, hbit]
    exact ⟨k - 1, by omega, i + 1, sw, left, _, c, by omega, by simp, hu5, hown0, hfr, hA.skip hi hbit⟩
  simp (disch := omega) only [push_cast, Nat.reduceBEq, Nat.reduceEqDiff, Nat.reduceAdd, Nat.reduceMul, Nat.reduceSub, Nat.reduceLT, Int.reduceToNat, Int.reduceLT, Int.reduceLE, Int.reduceEq, Int.reduceAdd, Int.reduceSub, Int.reduceNeg, Int.reduceMul, hbit, hb5.cell, tabL_get]
  have hrow : ∀ a x, (r' a).getLsbD x = less m l a x := fun a x => by rw [← e2]; rfl
  refine loop_inv (I := fun k2 st w' => Bx (∃ (j : Nat) (aw : BitVec 64), k2 + j = m ∧ st = [.int .u64 (aw.toNat : Nat), .int .i64 (j : Int)] ∧ Upd (fun _ => False) w5 w' ∧
    ∀ x, aw.getLsbD x = (minus (fun x => sw.getLsbD x) i x && !less m l i x && !(decide (x < j) && less m l x i))) ⟨⟩) ?_ m
    ⟨0, _, rfl, rfl, Upd.refl, fun x => by rw [bv_andNot, bv_minus (by omega), hrow]; simp⟩
  rintro k2 st w6 ⟨j, aw, hkj, rfl, hu6, haw⟩
  have hb6 := hb5.upd hu6 (fun h => h)
  by_cases hk2 : k2 = 0
  rotate_left
  · have hj : j < m := by omega
    cases hbj : (r' j).getLsbD i
    · simp (disch := omega) only [push_cast, Nat.reduceBEq, Nat.reduceEqDiff, Nat.reduceAdd, Nat.reduceMul, Nat.reduceSub, Nat.reduceLT, Int.reduceToNat, Int.reduceLT, Int.reduceLE, Int.reduceEq, Int.reduceAdd, Int.reduceSub, Int.reduceNeg, Int.reduceMul, hb6.cell, tabL_get, hbj]
      refine ⟨k2 - 1, by omega, j + 1, aw, by omega, by simp, hu6, fun x => ?_⟩
      rw [haw]
      by_cases e : x = j
      · have h1 : less m l x i = false := by rw [e, ← hrow]; exact hbj
        simp [h1]
      · have h2 : decide (x < j + 1) = decide (x < j) := by
          have : (x < j + 1) ↔ (x < j) := by omega
          simp [this]
        rw [h2]
    · simp (disch := omega) only [push_cast, Nat.reduceBEq, Nat.reduceEqDiff, Nat.reduceAdd, Nat.reduceMul, Nat.reduceSub, Nat.reduceLT, Int.reduceToNat, Int.reduceLT, Int.reduceLE, Int.reduceEq, Int.reduceAdd, Int.reduceSub, Int.reduceNeg, Int.reduceMul, hb6.cell, tabL_get, hbj]
      refine ⟨k2 - 1, by omega, j + 1, _, by omega, by simp only [Int.natCast_add, Int.natCast_one]; rfl, hu6, fun x => ?_⟩
      rw [bv_minus (by omega)]
      unfold minus
      dsimp only
      rw [haw]
      by_cases e : x = j
      · have h1 : less m l x i = true := by rw [e, ← hrow]; exact hbj
        simp [e, h1, minus]
        intro _ _ _
        rw [← e]
        exact h1
      · have h2 : decide (x < j + 1) = decide (x < j) := by
          have : (x < j + 1) ↔ (x < j) := by omega
          simp [this]
        have h3 : (x == j) = false := by simpa using e
        rw [h2, h3]
        simp [minus]
  · obtain rfl : j = m := by omega
    have haw' : (fun x => aw.getLsbD x) = away (fun x => sw.getLsbD x) (less j l) i := by
      funext x
      rw [haw]
      unfold away
      by_cases e : x < j
      · simp [e]
      · have h1 : minus (fun x => sw.getLsbD x) i x = false := by
          cases h : minus (fun x => sw.getLsbD x) i x
          · rfl
          · have := (hA.sub x (minus_true.1 h).1).1
            omega
        simp [h1]
    simp (disch := omega) only [push_cast, Nat.reduceBEq, Nat.reduceEqDiff, Nat.reduceAdd, Nat.reduceMul, Nat.reduceSub, Nat.reduceLT, Int.reduceToNat, Int.reduceLT, Int.reduceLE, Int.reduceEq, Int.reduceAdd, Int.reduceSub, Int.reduceNeg, Int.reduceMul]
    refine Ok.use (width_ok hb6 (by rw [e2]; exact htr) (by rw [e2]; exact hir)) ?_
    rintro v w7 ⟨k3, rfl, hk3, hu7⟩
    rw [e2, haw'] at hk3
    have hle := hA.wd.away_le hir (by omega) hbit hk3
    have hu57 := t hu6 hu7
    have hl64 : left ≤ 64 := by have := hA.len; omega
    have hown7 := ownsRow_upd hown0 hu57 (fun _ _ h => h)
    have hs5 := hu5.size
    have hs7 := hu57.size
    by_cases hk : k3 + 1 = left
    · have hk' : (k3 : Int) + 1 = (left : Int) := by omega
      simp (disch := omega) only [push_cast, Nat.reduceBEq, Nat.reduceEqDiff, Nat.reduceAdd, Nat.reduceMul, Nat.reduceSub, Nat.reduceLT, Int.reduceToNat, Int.reduceLT, Int.reduceLE, Int.reduceEq, Int.reduceAdd, Int.reduceSub, Int.reduceNeg, Int.reduceMul, hk']
      refine app_int (hown7.alloc _) (by omega) (x := (i : Int)) Blk.new ?_
      intro v' w8 hown8 hu8 hfr8
      simp (disch := omega) only [push_cast, Nat.reduceBEq, Nat.reduceEqDiff, Nat.reduceAdd, Nat.reduceMul, Nat.reduceSub, Nat.reduceLT, Int.reduceToNat, Int.reduceLT, Int.reduceLE, Int.reduceEq, Int.reduceAdd, Int.reduceSub, Int.reduceNeg, Int.reduceMul]
      have hu78 : Upd (fun b => (Value.slice ov c.length oc).ownBlock = some b) w7 w8 := Upd.alloc.trans hu8 (fun _ _ h => h)
      have hI : toI (c ++ [i]) = toI c ++ [(i : Int)] := by simp [toI]
      refine ⟨k - 1, by omega, i + 1, aw, k3, v', c ++ [i], by omega, ?_, (t hu5 hu57).trans hu78 (fun b h1 h2 => by have := hfr b h2; omega), by rw [hI]; exact hown8, fun g hg => ?_, by rw [haw']; exact hA.pick hir hi hbit hk3 hk⟩
      · have e1 : (left : Int) - 1 = (k3 : Int) := by omega
        simp only [Int.natCast_add, Int.natCast_one, e1]
      · rcases hfr8 g hg with h | h
        · exact hfr g h
        · rw [size_alloc] at h; omega
    · have hk' : ¬ (k3 : Int) + 1 = (left : Int) := by omega
      simp (disch := omega) only [push_cast, Nat.reduceBEq, Nat.reduceEqDiff, Nat.reduceAdd, Nat.reduceMul, Nat.reduceSub, Nat.reduceLT, Int.reduceToNat, Int.reduceLT, Int.reduceLE, Int.reduceEq, Int.reduceAdd, Int.reduceSub, Int.reduceNeg, Int.reduceMul, hk']
      refine ⟨k - 1, by omega, i + 1, _, left, _, c, by omega, by simp only [Int.natCast_add, Int.natCast_one]; rfl, t hu5 hu57, hown7, hfr, ?_⟩
      have e : (fun x => (sw &&& ~~~BitVec.twoPow 64 i).getLsbD x) = minus (fun x => sw.getLsbD x) i := funext fun x => bv_minus (by omega)
      rw [e]
      exact hA.pass hir hi (by omega) hbit hk3 hk
end Go.Proofs.Ytfjccccfkpgmgaa.Fd
