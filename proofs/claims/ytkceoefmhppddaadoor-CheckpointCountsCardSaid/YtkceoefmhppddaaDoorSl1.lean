/-
  The laws' readings of a disk: all, slots.
-/
import Derived.Test.YtkceoefmhppddaaDoorRf2
namespace Go.Proofs.YtkceoefmhppddaaDoor.Fd
set_option linter.unusedSimpArgs false
set_option linter.unusedVariables false
open Go
set_option maxRecDepth 100000
def allD (d : DS) (N : Nat) : List Int := ((List.range N).map d.content).flatten
theorem allD_succ {d : DS} {t : Nat} : allD d (t + 1) = allD d t ++ d.content t := by simp [allD, List.range_succ]
theorem allD_length {d : DS} {sz : Nat} : ∀ {t : Nat}, (∀ a, a < t → (d.content a).length = sz) → (allD d t).length = t * sz
  | 0, _ => by simp [allD]
  | t + 1, h => by rw [allD_succ, List.length_append, allD_length (t := t) fun a ha => h a (by omega), h t (by omega), Nat.succ_mul]
theorem allD_rng {d : DS} {t : Nat} (h : ∀ a, a < t → Rng (d.content a)) : Rng (allD d t) := by
  intro x hx
  obtain ⟨l, hl, hx⟩ := List.mem_flatten.1 hx
  obtain ⟨a, ha, rfl⟩ := List.mem_map.1 hl
  exact h a (List.mem_range.1 ha) x hx
theorem allD_congr {d d' : DS} {t : Nat} (h : ∀ a, a < t → d.content a = d'.content a) : allD d t = allD d' t := by
  unfold allD
  congr 1
  exact List.map_congr_left fun a ha => h a (List.mem_range.1 ha)
set_option maxHeartbeats 2000000 in
theorem all_ok {w : World} {D : Nat → Prop} {p : Nat} {d : DS} (hd : IsDisk w D p d) {N sz i : Nat} (hw : WfD N sz i d) (hi : i ≤ 900000) (hoff : d.off = false) (hN : N ≤ 15) (hz : 0 < sz ∧ sz ≤ 96) :
    Ok (den Tryd.prog 19 #[.pointer (some ⟨p, 0, none⟩)] w) fun v w' => v = .string (strOfNums (allD d N)) ∧ Upd (fun _ => False) w w' := by
  have hdl := hw.sz.dur
  refine den_ok (args := [.pointer (some ⟨p, 0, none⟩)]) rs19 Tryd.func19 rfl mixed in19 ok19 rfl ?_
  simp (config := { maxSteps := 3000000 }) (disch := omega) only [push_cast, Nat.reduceBEq, Nat.reduceEqDiff, Nat.reduceAdd, Nat.reduceMul, Nat.reduceSub, Nat.reduceLT, Int.reduceToNat, Int.reduceLT, Int.reduceLE, Int.reduceEq, Int.reduceAdd, Int.reduceSub, Int.reduceNeg, Int.reduceMul]
  refine loop_inv (I := fun k st w' => Bx (∃ t v, k + t = N ∧ st = [v, .int .i64 ((t : Nat) : Int)] ∧ Fr w w' v (allD d t)) ⟨⟩) ?_ N
    ⟨0, _, by omega, rfl, Fr.nil⟩
  rintro k st w1 ⟨t, v, hk, rfl, h1⟩
  obtain ⟨va, vc, rfl, _⟩ := h1.own.form
  have hd1 := hd.upd h1.upd fun _ _ h => h
  have hal := allD_length (d := d) (t := t) (sz := sz) fun a ha => (hw.content (by omega)).1
  have hts : t * sz ≤ 15 * 96 := Nat.mul_le_mul (by omega) hz.2
  simp (config := { maxSteps := 3000000 }) (disch := omega) only [push_cast, Nat.reduceBEq, Nat.reduceEqDiff, Nat.reduceAdd, Nat.reduceMul, Nat.reduceSub, Nat.reduceLT, Int.reduceToNat, Int.reduceLT, Int.reduceLE, Int.reduceEq, Int.reduceAdd, Int.reduceSub, Int.reduceNeg, Int.reduceMul]
  refine Ok.use (Sectors_ok hd1) ?_
  rintro v _ ⟨rfl, rfl⟩
  rw [hdl]
  by_cases hk0 : k = 0
  · obtain rfl : t = N := by omega
    have hlt : ¬ ((t : Nat) : Int) < (t : Int) := by omega
    have hc := cnv_str h1.slc.1
    simp (config := { maxSteps := 3000000 }) (disch := omega) only [push_cast, Nat.reduceBEq, Nat.reduceEqDiff, Nat.reduceAdd, Nat.reduceMul, Nat.reduceSub, Nat.reduceLT, Int.reduceToNat, Int.reduceLT, Int.reduceLE, Int.reduceEq, Int.reduceAdd, Int.reduceSub, Int.reduceNeg, Int.reduceMul, hlt, hc]
    exact h1.upd
  have hlt : ((t : Nat) : Int) < (N : Int) := by omega
  simp (config := { maxSteps := 3000000 }) (disch := omega) only [push_cast, Nat.reduceBEq, Nat.reduceEqDiff, Nat.reduceAdd, Nat.reduceMul, Nat.reduceSub, Nat.reduceLT, Int.reduceToNat, Int.reduceLT, Int.reduceLE, Int.reduceEq, Int.reduceAdd, Int.reduceSub, Int.reduceNeg, Int.reduceMul, hlt]
  have hread := read_ok hd1 (by rw [hw.sz.size]; exact hz.1) (by have := hw.sz.few; omega) (t : Int)
  have hrd : d.read (t : Int) = (some (d.content t), 0) := by
    unfold DS.read
    rw [if_pos ⟨by omega, by rw [hdl]; omega⟩, hoff]
    simp
  rw [hrd] at hread
  refine Ok.use hread ?_
  rintro v w2 ⟨u, rfl, ⟨nb, rfl, hnge, hnb⟩, hu2⟩
  dsimp only at hnb ⊢
  have hct := (hw.content (y := t) (by omega)).1
  have hs2 : SlB w2 (fun _ => False) (.slice (some ⟨nb, 0, none⟩) (d.content t).length (d.content t).length) (d.content t) := slb_new hnb fun h => h
  unfold CV
  simp (config := { maxSteps := 3000000 }) (disch := omega) only [push_cast, Nat.reduceBEq, Nat.reduceEqDiff, Nat.reduceAdd, Nat.reduceMul, Nat.reduceSub, Nat.reduceLT, Int.reduceToNat, Int.reduceLT, Int.reduceLE, Int.reduceEq, Int.reduceAdd, Int.reduceSub, Int.reduceNeg, Int.reduceMul]
  refine (h1.quiet hu2).app hs2 (by rw [hal, hct]; omega) ?_
  intro v3 w3 h3 _
  simp (config := { maxSteps := 3000000 }) (disch := omega) only [push_cast, Nat.reduceBEq, Nat.reduceEqDiff, Nat.reduceAdd, Nat.reduceMul, Nat.reduceSub, Nat.reduceLT, Int.reduceToNat, Int.reduceLT, Int.reduceLE, Int.reduceEq, Int.reduceAdd, Int.reduceSub, Int.reduceNeg, Int.reduceMul]
  exact ⟨k - 1, by omega, t + 1, v3, by omega, by simp, by rw [allD_succ]; exact h3⟩
theorem slotS_succ {d : DS} {x t : Nat} : slotS d x (t + 1) = slotS d x t ++ [d.content (x + t)] := by simp [slotS, List.range_succ]
theorem slotS_len {d : DS} {x t : Nat} : (slotS d x t).length = t := by simp [slotS]
set_option maxHeartbeats 4000000 in
theorem slots_ok {w : World} {D : Nat → Prop} {p : Nat} {d : DS} (hd : IsDisk w D p d) {N sz i : Nat} (hw : WfD N sz i d) (hi : i ≤ 900000) (hoff : d.off = false) (hN : N ≤ 15) (hz : 0 < sz ∧ sz ≤ 96) {ct n : Nat} (hct : ct = N - 1) (hn : n = ct / 2) (hn1 : 1 ≤ n) :
    Ok (den Tryd.prog 18 #[.pointer (some ⟨p, 0, none⟩), .int .i64 (ct : Int)] w) fun v w' => (∃ u0 u1, v = .agg #[u0, u1] ∧ SlRC w' (fun b => b < w.heap.size) u0 (slotS d 1 n) ∧ SlRC w' (fun b => b < w.heap.size) u1 (slotS d (1 + n) n)) ∧ Upd (fun _ => False) w w' := by
  have hdl := hw.sz.dur
  refine den_okC1 (args := [.pointer (some ⟨p, 0, none⟩), .int .i64 (ct : Int)]) 4 36 Tryd.func18 rfl mixed in18 ok18 rfl ?_
  have e2 : IntKind.i64.wrap ((ct : Int).tdiv 2) = (n : Int) := by
    rw [show (2 : Int) = ((2 : Nat) : Int) from rfl, ← Int.ofNat_tdiv, IntKind.wrap_i64]; omega
  have hob0 : Blk ((w.alloc (.cells [.slice none 0 0, .slice none 0 0].toArray 36 (0, 0))).alloc (.cells [.slice none 0 0, .slice none 0 0].toArray 36 (0, 0))) (w.heap.size + 1) [.slice none 0 0, .slice none 0 0] 36 := by
    have := Blk.new (w := w.alloc (.cells [.slice none 0 0, .slice none 0 0].toArray 36 (0, 0))) (cs := [.slice none 0 0, .slice none 0 0]) (E := 36)
    rw [size_alloc] at this
    exact this
  have hrb0 : Blk ((w.alloc (.cells [.slice none 0 0, .slice none 0 0].toArray 36 (0, 0))).alloc (.cells [.slice none 0 0, .slice none 0 0].toArray 36 (0, 0))) w.heap.size [.slice none 0 0, .slice none 0 0] 36 := Blk.new.alloc _
  have hu0 : Upd (fun _ => False) w ((w.alloc (.cells [.slice none 0 0, .slice none 0 0].toArray 36 (0, 0))).alloc (.cells [.slice none 0 0, .slice none 0 0].toArray 36 (0, 0))) := Upd.alloc.alloc'
  have hsz0 : ((w.alloc (.cells [.slice none 0 0, .slice none 0 0].toArray 36 (0, 0))).alloc (.cells [.slice none 0 0, .slice none 0 0].toArray 36 (0, 0))).heap.size = w.heap.size + 2 := by rw [size_alloc, size_alloc]
  simp (config := { maxSteps := 3000000 }) (disch := omega) only [push_cast, Nat.reduceBEq, Nat.reduceEqDiff, Nat.reduceAdd, Nat.reduceMul, Nat.reduceSub, Nat.reduceLT, Int.reduceToNat, Int.reduceLT, Int.reduceLE, Int.reduceEq, Int.reduceAdd, Int.reduceSub, Int.reduceNeg, Int.reduceMul, e2]
  generalize ((w.alloc (.cells [.slice none 0 0, .slice none 0 0].toArray 36 (0, 0))).alloc (.cells [.slice none 0 0, .slice none 0 0].toArray 36 (0, 0))) = w1 at *
  obtain ⟨ob, hob⟩ : ∃ ob, ob = w.heap.size + 1 := ⟨_, rfl⟩
  rw [← hob] at hob0 ⊢
  refine loop_inv (I := fun k st w' => Bx (∃ t u0 u1, k + t = 2 * n ∧ st = [.int .i64 ((t : Nat) : Int)] ∧ Blk w' ob [u0, u1] 36 ∧ Upd (fun b => b = ob ∨ w1.heap.size ≤ b) w1 w' ∧
      ((t ≤ n ∧ u1 = .slice none 0 0 ∧ RowC w' (fun b => b ≤ ob) u0 (slotS d 1 t)) ∨
       (n ≤ t ∧ ∃ wP, w1.heap.size ≤ wP.heap.size ∧ SlRC wP (fun b => b ≤ ob ∨ wP.heap.size ≤ b) u0 (slotS d 1 n) ∧ Upd (fun b => b = ob ∨ wP.heap.size ≤ b) wP w' ∧ RowC w' (fun b => b < wP.heap.size) u1 (slotS d (1 + n) (t - n))))) ⟨⟩) ?_ (2 * n)
    ⟨0, _, _, by omega, rfl, hob0, Upd.refl, .inl ⟨by omega, rfl, RowC.nil⟩⟩
  clear hob0
  rintro k st w2 ⟨t, u0, u1, hk, rfl, hob2, hu2, hph⟩
  have hs2 := hu2.size
  have hu02 : Upd (fun _ => False) w w2 := hu0.trans hu2 fun b hb h => by omega
  have hd2 := hd.upd hu02 fun _ _ h => h
  have hobl := hob2.lt
  by_cases hk0 : k = 0
  · obtain rfl : t = 2 * n := by omega
    have hge : ¬ ((2 * n : Nat) : Int) < 2 * (n : Int) := by omega
    obtain ⟨z, hz⟩ : ∃ z, z = 2 * n := ⟨_, rfl⟩
    rw [← hz] at hge ⊢
    obtain ⟨_, wP, hP1, hP2, hP3, hP4⟩ : n ≤ 2 * n ∧ ∃ wP, w1.heap.size ≤ wP.heap.size ∧ SlRC wP (fun b => b ≤ ob ∨ wP.heap.size ≤ b) u0 (slotS d 1 n) ∧ Upd (fun b => b = ob ∨ wP.heap.size ≤ b) wP w2 ∧ RowC w2 (fun b => b < wP.heap.size) u1 (slotS d (1 + n) (2 * n - n)) := by
      rcases hph with ⟨h, _⟩ | h
      · omega
      · exact h
    rw [show 2 * n - n = n by omega] at hP4
    have hrb2 := (hrb0.upd hu2 fun h => by omega)
    have hc0 := hob2.cell 0
    have hc1 := hob2.cell 1
    obtain ⟨a0, c0, rfl, _⟩ := id hP2
    obtain ⟨a1, c1, rfl⟩ := hP4.form
    simp (config := { maxSteps := 3000000 }) (disch := omega) only [push_cast, Nat.reduceBEq, Nat.reduceEqDiff, Nat.reduceAdd, Nat.reduceMul, Nat.reduceSub, Nat.reduceLT, Int.reduceToNat, Int.reduceLT, Int.reduceLE, Int.reduceEq, Int.reduceAdd, Int.reduceSub, Int.reduceNeg, Int.reduceMul, hge, hob2.cell, hrb2.cell, hrb2.free]
    have hst : Upd (fun b => b = w.heap.size) w2 ((w2.setCell ⟨w.heap.size, 0, none⟩ (.slice a0 (slotS d 1 n).length c0)).setCell ⟨w.heap.size, 1, none⟩ (.slice a1 (slotS d (1 + n) n).length c1)) := (Upd.set (F := fun b => b = w.heap.size) rfl).setIn rfl
    have hS0 := (hP2.go (F' := fun b => b ≤ w.heap.size) hP3 fun b hb h => by omega).go (F' := fun b => b < w.heap.size) hst fun b hb h => by omega
    have hS1 := (hP4.slrc).go (F' := fun b => b < w.heap.size) hst fun b hb h => by omega
    exact ⟨⟨_, _, rfl, hS0, hS1⟩, hu02.trans hst fun b hb h => by omega⟩
  have hlt : ((t : Nat) : Int) < 2 * (n : Int) := by omega
  have hread := read_ok hd2 (by rw [hw.sz.size]; exact hz.1) (by have := hw.sz.few; omega) ((1 + t : Nat) : Int)
  have hrd : d.read ((1 + t : Nat) : Int) = (some (d.content (1 + t)), 0) := by
    unfold DS.read
    rw [if_pos ⟨by omega, by rw [hdl]; omega⟩, hoff, Int.toNat_natCast]
    simp
  rw [hrd] at hread
  obtain ⟨X, hX⟩ : ∃ X, X = 1 + t := ⟨_, rfl⟩
  have eX : (1 : Int) + ((t : Nat) : Int) = (X : Int) := by omega
  rw [← hX] at hread
  simp (config := { maxSteps := 3000000 }) (disch := omega) only [push_cast, Nat.reduceBEq, Nat.reduceEqDiff, Nat.reduceAdd, Nat.reduceMul, Nat.reduceSub, Nat.reduceLT, Int.reduceToNat, Int.reduceLT, Int.reduceLE, Int.reduceEq, Int.reduceAdd, Int.reduceSub, Int.reduceNeg, Int.reduceMul, hlt, eX]
  refine Ok.use hread ?_
  rintro v w3 ⟨u, rfl, ⟨nb, rfl, hnge, hnb⟩, hu3⟩
  dsimp only at hnb ⊢
  have hob3 := hob2.upd hu3 fun h => h
  have hct := (hw.content (y := X) (by omega)).1
  have hal4 : Upd (fun _ => False) w3 (w3.alloc (.cells [.slice (some ⟨nb, 0, none⟩) (d.content X).length (d.content X).length].toArray 31 (0, 0))).drew := (Upd.alloc (F := fun _ => False)).drew'
  have hob4 := hob3.upd hal4 fun h => h
  have hobl3 := hob3.lt
  have hs3 := hu3.size
  have hs4 := hal4.size
  have hone : ∀ F : Nat → Prop, (∀ b, F b → b < w2.heap.size) → SlRC (w3.alloc (.cells [.slice (some ⟨nb, 0, none⟩) (d.content X).length (d.content X).length].toArray 31 (0, 0))).drew F (.slice (some ⟨w3.heap.size, 0, none⟩) 1 1) [d.content X] := fun F hF => by
    have h1 : SlC w3 F (.slice (some ⟨nb, 0, none⟩) (d.content X).length (d.content X).length) (d.content X) := ⟨slb_new hnb fun h => by have := hF nb h; omega, _, _, rfl, Nat.le_refl _⟩
    exact (slrc_one h1 fun h => by have := hF _ h; omega).go (F' := F) (Upd.drew (F := fun _ => False)) fun b hb h => h.elim (fun h => h.elim) fun h => h
  have hn0 : ¬ (n : Int) = 0 := by omega
  have hu24 : Upd (fun _ => False) w2 (w3.alloc (.cells [.slice (some ⟨nb, 0, none⟩) (d.content X).length (d.content X).length].toArray 31 (0, 0))).drew := hu3.trans hal4 fun _ _ h => h
  unfold CV
  by_cases htn : t < n
  · have ed : ((t : Nat) : Int).tdiv (n : Int) = 0 := by rw [← Int.ofNat_tdiv, Nat.div_eq_of_lt htn]; rfl
    obtain ⟨_, rfl, hR⟩ : t ≤ n ∧ u1 = .slice none 0 0 ∧ RowC w2 (fun b => b ≤ ob) u0 (slotS d 1 t) := by
      rcases hph with h | ⟨h, _⟩
      · exact h
      · omega
    have hR4 := hR.go (F' := fun b => b ≤ ob) hu24 fun b hb h => h.elim (fun h => h.elim) fun h => h
    have hone4 := hone (fun b => b ≤ ob ∨ u0.ownBlock = some b) fun b hb => hb.elim (fun h => by omega) fun h => hR.lt h
    have hnob : u0.ownBlock ≠ some ob := fun h => by
      obtain ⟨_, _, _, _, h4⟩ := hR
      exact h4 ob h (Nat.le_refl _)
    have hown := fun g hg => hR.lt (g := g) hg
    have hownge : ∀ g, u0.ownBlock = some g → ob < g := fun g hg => by
      obtain ⟨_, _, _, _, h4⟩ := hR
      have := h4 g hg
      omega
    obtain ⟨q0, q1, rfl⟩ := hR.form
    simp (config := { maxSteps := 3000000 }) (disch := omega) only [push_cast, Nat.reduceBEq, Nat.reduceEqDiff, Nat.reduceAdd, Nat.reduceMul, Nat.reduceSub, Nat.reduceLT, Int.reduceToNat, Int.reduceLT, Int.reduceLE, Int.reduceEq, Int.reduceAdd, Int.reduceSub, Int.reduceNeg, Int.reduceMul, ed, hob3.cell, hob4.cell]
    generalize (w3.alloc (.cells [.slice (some ⟨nb, 0, none⟩) (d.content X).length (d.content X).length].toArray 31 (0, 0))).drew = w4 at *
    refine app_rowC hR4 hone4 (by rw [slotS_len]; show _ + 1 ≤ _; omega) (fun b hb => by omega) ?_
    intro v5 w5 hR5 hu45 hfr
    have hob5 := hob4.upd hu45 hnob
    have hs5 := hu45.size
    have hU5 : Upd (fun b => b = ob ∨ w1.heap.size ≤ b) w1 w5 := (hu2.trans (hu24.mono (G := fun b => b = ob ∨ w1.heap.size ≤ b) fun _ _ h => h.elim) fun _ _ h => h).trans (hu45.mono (G := fun b => b = ob ∨ w1.heap.size ≤ b) fun b hb h => .inr (by have := hownge b h; omega)) fun _ _ h => h
    obtain ⟨q2, q3, rfl⟩ := hR5.form
    simp (config := { maxSteps := 3000000 }) (disch := omega) only [push_cast, Nat.reduceBEq, Nat.reduceEqDiff, Nat.reduceAdd, Nat.reduceMul, Nat.reduceSub, Nat.reduceLT, Int.reduceToNat, Int.reduceLT, Int.reduceLE, Int.reduceEq, Int.reduceAdd, Int.reduceSub, Int.reduceNeg, Int.reduceMul, ed, hob3.cell, hob4.cell, hob5.cell, hob5.free]
    have hst : Upd (fun b => b = ob) w5 (w5.setCell ⟨ob, 0, none⟩ (.slice q2 (slotS d 1 t ++ [d.content X]).length q3)) := Upd.set rfl
    have hR6 := hR5.go (F' := fun b => b ≤ ob) hst fun b hb h => by omega
    rw [hX, ← slotS_succ] at hR6
    refine ⟨k - 1, by omega, t + 1, _, _, by omega, by simp, hob5.set 0 _, hU5.trans hst fun b hb h => .inl h, .inl ⟨by omega, rfl, by rw [hX, ← slotS_succ]; exact hR6⟩⟩
  · have ed : ((t : Nat) : Int).tdiv (n : Int) = 1 := by rw [← Int.ofNat_tdiv, Nat.div_eq_of_lt_le (k := 1) (by omega) (by omega)]; rfl
    obtain ⟨_, wP, hP1, hP2, hP3, hP4⟩ : n ≤ t ∧ ∃ wP, w1.heap.size ≤ wP.heap.size ∧ SlRC wP (fun b => b ≤ ob ∨ wP.heap.size ≤ b) u0 (slotS d 1 n) ∧ Upd (fun b => b = ob ∨ wP.heap.size ≤ b) wP w2 ∧ RowC w2 (fun b => b < wP.heap.size) u1 (slotS d (1 + n) (t - n)) := by
      rcases hph with ⟨h, rfl, hR⟩ | h
      · obtain rfl : t = n := by omega
        exact ⟨Nat.le_refl _, w2, hs2, (hR.slrc).go (F' := fun b => b ≤ ob ∨ w2.heap.size ≤ b) (Upd.refl (F := fun _ => False)) (fun b hb h => by
          rcases h with h | h | h
          · exact h.elim
          · exact h
          · exact absurd hb (Nat.not_lt.2 h)), Upd.refl, by rw [Nat.sub_self]; exact RowC.nil⟩
      · exact h
    have hsP := hP3.size
    have hR4 := hP4.go (F' := fun b => b < wP.heap.size) hu24 fun b hb h => h.elim (fun h => h.elim) fun h => h
    have hone4 := hone (fun b => b < wP.heap.size ∨ u1.ownBlock = some b) fun b hb => hb.elim (fun h => by omega) fun h => hP4.lt h
    have hownge : ∀ g, u1.ownBlock = some g → wP.heap.size ≤ g := fun g hg => by
      obtain ⟨_, _, _, _, h4⟩ := hP4
      have := h4 g hg
      omega
    have hnob : u1.ownBlock ≠ some ob := fun h => by have := hownge ob h; omega
    obtain ⟨q0, q1, rfl⟩ := hP4.form
    simp (config := { maxSteps := 3000000 }) (disch := omega) only [push_cast, Nat.reduceBEq, Nat.reduceEqDiff, Nat.reduceAdd, Nat.reduceMul, Nat.reduceSub, Nat.reduceLT, Int.reduceToNat, Int.reduceLT, Int.reduceLE, Int.reduceEq, Int.reduceAdd, Int.reduceSub, Int.reduceNeg, Int.reduceMul, ed, hob3.cell, hob4.cell]
    generalize (w3.alloc (.cells [.slice (some ⟨nb, 0, none⟩) (d.content X).length (d.content X).length].toArray 31 (0, 0))).drew = w4 at *
    refine app_rowC hR4 hone4 (by rw [slotS_len]; show _ + 1 ≤ _; omega) (fun b hb => by omega) ?_
    intro v5 w5 hR5 hu45 hfr
    have hob5 := hob4.upd hu45 hnob
    have hs5 := hu45.size
    have hU5 : Upd (fun b => b = ob ∨ w1.heap.size ≤ b) w1 w5 := (hu2.trans (hu24.mono (G := fun b => b = ob ∨ w1.heap.size ≤ b) fun _ _ h => h.elim) fun _ _ h => h).trans (hu45.mono (G := fun b => b = ob ∨ w1.heap.size ≤ b) fun b hb h => .inr (by have := hownge b h; omega)) fun _ _ h => h
    have hUP : Upd (fun b => b = ob ∨ wP.heap.size ≤ b) wP w5 := (hP3.trans (hu24.mono (G := fun b => b = ob ∨ wP.heap.size ≤ b) fun _ _ h => h.elim) fun _ _ h => h).trans (hu45.mono (G := fun b => b = ob ∨ wP.heap.size ≤ b) fun b hb h => .inr (hownge b h)) fun _ _ h => h
    obtain ⟨q2, q3, rfl⟩ := hR5.form
    simp (config := { maxSteps := 3000000 }) (disch := omega) only [push_cast, Nat.reduceBEq, Nat.reduceEqDiff, Nat.reduceAdd, Nat.reduceMul, Nat.reduceSub, Nat.reduceLT, Int.reduceToNat, Int.reduceLT, Int.reduceLE, Int.reduceEq, Int.reduceAdd, Int.reduceSub, Int.reduceNeg, Int.reduceMul, ed, hob3.cell, hob4.cell, hob5.cell, hob5.free]
    have hst : Upd (fun b => b = ob) w5 (w5.setCell ⟨ob, 1, none⟩ (.slice q2 (slotS d (1 + n) (t - n) ++ [d.content X]).length q3)) := Upd.set rfl
    have hR6 := hR5.go (F' := fun b => b < wP.heap.size) hst fun b hb h => by omega
    have eXn : d.content X = d.content (1 + n + (t - n)) := by rw [hX]; congr 1; omega
    have etn : t + 1 - n = t - n + 1 := by omega
    refine ⟨k - 1, by omega, t + 1, _, _, by omega, by simp, hob5.set 1 _, hU5.trans hst fun b hb h => .inl h, .inr ⟨by omega, wP, hP1, hP2, hUP.trans hst fun b hb h => .inl h, by rw [etn, slotS_succ, ← eXn]; exact hR6⟩⟩
theorem Live.load2 {N sz first n : Nat} {d : DS} {c : CS} (h : Live N sz first n d c) : cload c = (c.newest, c.gen) := by
  unfold cload
  rw [h.opn]
  unfold openL
  rcases newestP_cases (a := slotP (slotSL (DurL d) first n)) (b := slotP (slotSL (DurL d) (first + n) n)) with e | ⟨x, hx, e⟩ | ⟨x, hx, e⟩
  · rw [e]; rfl
  · rw [e]
    have := (slotP_pos hx).1
    exact if_neg (by show ¬ x.2 = 0; omega)
  · rw [e]
    have := (slotP_pos hx).1
    exact if_neg (by show ¬ x.2 = 0; omega)
theorem copen2_ok {w : World} (hK : KT w) {D : Nat → Prop} {p : Nat} {d : DS} (hd : IsDisk w D p d) (hD0 : ¬ D 0) {N sz i m ct : Nat} (hw : WfD N sz i d) (hi : i ≤ 900000) (hoff : d.off = false) (hN : 8 ≤ N ∧ N ≤ 15) (hz : 64 ≤ sz ∧ sz ≤ 96) (hct : ct = N - 1) (hm : m = ct / 2) :
    Ok (den Tryd.prog 13 #[.pointer (some ⟨p, 0, none⟩), .int .i64 1, .int .i64 (ct : Int)] w) fun v w' => ∃ cb, w.heap.size ≤ cb ∧ v = .tuple #[.pointer (some ⟨cb, 0, none⟩), .int .i64 0] ∧ CW w' D (fun b => b = cb) p cb (d, openC d 1 m) ∧ Upd (fun _ => False) w w' := by
  have hopen := open_ok hK hd hD0 hw.sz hi (by omega) (by omega) (by omega) (first := 1) (count := ct) (by omega) (by omega) (by omega) (by omega) fun y hy => hw.content hy
  rw [hoff, ← hm] at hopen
  simp only [Bool.false_eq_true, if_false] at hopen
  refine Ok.mono hopen ?_
  rintro v w' ⟨⟨cb, h1, h2, h3⟩, h4⟩
  exact ⟨cb, h1, h2, h3, h4⟩
theorem slotS_good {d : DS} {N sz i x n : Nat} (hw : WfD N sz i d) (h : x + n ≤ N) : RngL (slotS d x n) ∧ ∀ l, l ∈ slotS d x n → l.length = sz := by
  refine ⟨fun l hl => ?_, fun l hl => ?_⟩
  · obtain ⟨a, ha, rfl⟩ := List.mem_map.1 hl
    exact (hw.content (by have := List.mem_range.1 ha; omega)).2
  · obtain ⟨a, ha, rfl⟩ := List.mem_map.1 hl
    exact (hw.content (by have := List.mem_range.1 ha; omega)).1
end Go.Proofs.YtkceoefmhppddaaDoor.Fd
