/-
  The program's block function.
-/
import Derived.Test.YtkceoefmhppddaaDoorSh1
namespace Go.Proofs.YtkceoefmhppddaaDoor.Fd
set_option linter.unusedSimpArgs false
set_option linter.unusedVariables false
open Go
set_option maxRecDepth 100000
/-- The table of constants lies where the program's start laid it. -/
def KT (w : World) : Prop := 0 < w.heap.size ∧ ∀ t, t < 64 → w.cell? ⟨0, t, none⟩ = some (vW (kV t))
theorem KT.upd {w w' : World} {F : Nat → Prop} (h : KT w) (hu : Upd F w w') (hF : ¬ F 0) : KT w' := by
  refine ⟨Nat.lt_of_lt_of_le h.1 hu.size, fun t ht => ?_⟩
  rw [← h.2 t ht]
  exact World.cell?_of_block (hu.block 0 h.1 hF)
theorem lies_at {w : World} {b o : Nat} {B : List Int} (h : Lies w b o B) {j : Nat} (hj : j < B.length) : w.cell? ⟨b, o + j, none⟩ = some (.int .u8 (B.getD j 0)) := by
  rw [h j (by rw [by8_length]; exact hj)]
  simp [by8, List.getD_eq_getElem?_getD, List.getElem?_eq_getElem hj]
theorem bld_words (a b c d e f g h : Int) (w : World) : bldS Tryd.prog 100 #[(0, .int .u32 a), (1, .int .u32 b), (2, .int .u32 c), (3, .int .u32 d), (4, .int .u32 e), (5, .int .u32 f), (6, .int .u32 g), (7, .int .u32 h)] w =
    some (.agg #[.int .u32 a, .int .u32 b, .int .u32 c, .int .u32 d, .int .u32 e, .int .u32 f, .int .u32 g, .int .u32 h], w) := by kernel_rfl
attribute [push_cast] bld_words
set_option maxHeartbeats 4000000 in
theorem block_ok {w : World} (hK : KT w) {s : H8} {F : Nat → Prop} {va : Option Addr} {vc : Nat} {B : List Int} (hl : B.length = 64) (hB : SlB w F (.slice va B.length vc) B) : Ok (den Tryd.prog 57 #[s.val, .slice va B.length vc] w) fun v w' => v = (blkP B s).val ∧ Upd (fun _ => False) w w' := by
  obtain ⟨a', c', hv, hli⟩ := hB
  injection hv with e1 e2 e3
  subst e1
  obtain ⟨gb, o, rfl, hli, _⟩ := hli (by intro e; rw [e] at hl; cases hl)
  rw [hl]
  obtain ⟨a, b, c, d, e, f, g, h⟩ := s
  refine den_okC1 (args := [H8.val ⟨a, b, c, d, e, f, g, h⟩, .slice (some ⟨gb, o, none⟩) 64 vc]) 4 100 Tryd.func57 rfl mixed in57 ok57 rfl ?_
  unfold H8.val H8.row
  simp (config := { maxSteps := 3000000 }) (disch := omega) only [push_cast, Nat.reduceBEq, Nat.reduceEqDiff, Nat.reduceAdd, Nat.reduceMul, Nat.reduceSub, Nat.reduceLT, Int.reduceToNat, Int.reduceLT, Int.reduceLE, Int.reduceEq, Int.reduceAdd, Int.reduceSub, Int.reduceNeg, Int.reduceMul]
  have hgb := hli.lt (by omega)
  have hu0 : Upd (fun _ => False) w (((w.alloc (.cells (H8.row ⟨a, b, c, d, e, f, g, h⟩).toArray 100 (0, 0))).alloc (.cells [Value.int .u32 0, .int .u32 0, .int .u32 0, .int .u32 0, .int .u32 0, .int .u32 0, .int .u32 0, .int .u32 0].toArray 100 (0, 0))).alloc (.cells (List.replicate 64 (Value.int .u32 0)).toArray 93 (0, 0))) := Upd.alloc.alloc'.alloc'
  have hsz : (((w.alloc (.cells (H8.row ⟨a, b, c, d, e, f, g, h⟩).toArray 100 (0, 0))).alloc (.cells [Value.int .u32 0, .int .u32 0, .int .u32 0, .int .u32 0, .int .u32 0, .int .u32 0, .int .u32 0, .int .u32 0].toArray 100 (0, 0))).alloc (.cells (List.replicate 64 (Value.int .u32 0)).toArray 93 (0, 0))).heap.size = w.heap.size + 1 + 1 + 1 := by rw [size_alloc, size_alloc, size_alloc]
  have hbs : Blk (((w.alloc (.cells (H8.row ⟨a, b, c, d, e, f, g, h⟩).toArray 100 (0, 0))).alloc (.cells [Value.int .u32 0, .int .u32 0, .int .u32 0, .int .u32 0, .int .u32 0, .int .u32 0, .int .u32 0, .int .u32 0].toArray 100 (0, 0))).alloc (.cells (List.replicate 64 (Value.int .u32 0)).toArray 93 (0, 0))) w.heap.size (H8.row ⟨a, b, c, d, e, f, g, h⟩) 100 := (Blk.new.alloc _).alloc _
  have hbr : Blk (((w.alloc (.cells (H8.row ⟨a, b, c, d, e, f, g, h⟩).toArray 100 (0, 0))).alloc (.cells [Value.int .u32 0, .int .u32 0, .int .u32 0, .int .u32 0, .int .u32 0, .int .u32 0, .int .u32 0, .int .u32 0].toArray 100 (0, 0))).alloc (.cells (List.replicate 64 (Value.int .u32 0)).toArray 93 (0, 0))) (w.heap.size + 1) [.int .u32 0, .int .u32 0, .int .u32 0, .int .u32 0, .int .u32 0, .int .u32 0, .int .u32 0, .int .u32 0] 100 := by
    have := (Blk.new (w := (w.alloc (.cells (H8.row ⟨a, b, c, d, e, f, g, h⟩).toArray 100 (0, 0)))) (cs := [.int .u32 0, .int .u32 0, .int .u32 0, .int .u32 0, .int .u32 0, .int .u32 0, .int .u32 0, .int .u32 0]) (E := 100)).alloc (.cells (List.replicate 64 (Value.int .u32 0)).toArray 93 (0, 0))
    rw [size_alloc] at this
    exact this
  have hbw : Blk (((w.alloc (.cells (H8.row ⟨a, b, c, d, e, f, g, h⟩).toArray 100 (0, 0))).alloc (.cells [Value.int .u32 0, .int .u32 0, .int .u32 0, .int .u32 0, .int .u32 0, .int .u32 0, .int .u32 0, .int .u32 0].toArray 100 (0, 0))).alloc (.cells (List.replicate 64 (Value.int .u32 0)).toArray 93 (0, 0))) (w.heap.size + 1 + 1) (wRow B 0) 93 := by
    rw [wRow_zero]
    have := Blk.new (w := (w.alloc (.cells (H8.row ⟨a, b, c, d, e, f, g, h⟩).toArray 100 (0, 0))).alloc (.cells [Value.int .u32 0, .int .u32 0, .int .u32 0, .int .u32 0, .int .u32 0, .int .u32 0, .int .u32 0, .int .u32 0].toArray 100 (0, 0))) (cs := List.replicate 64 (Value.int .u32 0)) (E := 93)
    rw [size_alloc, size_alloc] at this
    exact this
  unfold H8.row vW at hu0 hsz hbs hbr hbw
  dsimp only at hbs
  generalize (((w.alloc (.cells [Value.int .u32 (a.toNat : Int), .int .u32 (b.toNat : Int), .int .u32 (c.toNat : Int), .int .u32 (d.toNat : Int), .int .u32 (e.toNat : Int), .int .u32 (f.toNat : Int), .int .u32 (g.toNat : Int), .int .u32 (h.toNat : Int)].toArray 100 (0, 0))).alloc (.cells [Value.int .u32 0, .int .u32 0, .int .u32 0, .int .u32 0, .int .u32 0, .int .u32 0, .int .u32 0, .int .u32 0].toArray 100 (0, 0))).alloc (.cells (List.replicate 64 (Value.int .u32 0)).toArray 93 (0, 0))) = w1 at *
  refine loop_inv (I := fun k st w' => Bx (∃ t, k + t = 16 ∧ st = [.int .i64 ((t : Nat) : Int)] ∧ Blk w' (w.heap.size + 1 + 1) (wRow B t) 93 ∧ Upd (fun x => x = w.heap.size + 1 + 1) w1 w') ⟨⟩) ?_ 16
    ⟨0, by omega, rfl, hbw, Upd.refl⟩
  clear hbw
  rintro k st w2 ⟨t, hk, rfl, hbw, hu2⟩
  have hu02 : Upd (fun _ => False) w w2 := hu0.trans hu2 fun x hx e => by omega
  by_cases hk0 : k = 0
  · obtain rfl : t = 16 := by omega
    simp (config := { maxSteps := 3000000 }) (disch := omega) only [push_cast, Nat.reduceBEq, Nat.reduceEqDiff, Nat.reduceAdd, Nat.reduceMul, Nat.reduceSub, Nat.reduceLT, Int.reduceToNat, Int.reduceLT, Int.reduceLE, Int.reduceEq, Int.reduceAdd, Int.reduceSub, Int.reduceNeg, Int.reduceMul]
    refine loop_inv (I := fun k st w' => Bx (∃ t, k + t = 64 ∧ 16 ≤ t ∧ st = [.int .i64 ((t : Nat) : Int)] ∧ Blk w' (w.heap.size + 1 + 1) (wRow B t) 93 ∧ Upd (fun x => x = w.heap.size + 1 + 1) w1 w') ⟨⟩) ?_ 48
      ⟨16, by omega, Nat.le_refl _, rfl, hbw, hu2⟩
    clear hbw hu2 hu02
    rintro k st w2 ⟨t, hk, ht, rfl, hbw, hu2⟩
    have hu02 : Upd (fun _ => False) w w2 := hu0.trans hu2 fun x hx e => by omega
    by_cases hk0 : k = 0
    · obtain rfl : t = 64 := by omega
      have hbs2 := hbs.upd hu2 (fun h => by omega)
      have hbr2 := hbr.upd hu2 (fun h => by omega)
      have hs12 := hu2.size
      clear hbs hbr
      simp (config := { maxSteps := 3000000 }) (disch := omega) only [push_cast, Nat.reduceBEq, Nat.reduceEqDiff, Nat.reduceAdd, Nat.reduceMul, Nat.reduceSub, Nat.reduceLT, Int.reduceToNat, Int.reduceLT, Int.reduceLE, Int.reduceEq, Int.reduceAdd, Int.reduceSub, Int.reduceNeg, Int.reduceMul, hbs2.cell]
      have hbu3 : Blk (set8 (w2.alloc (.cells [Value.int .u32 0, .int .u32 0, .int .u32 0, .int .u32 0, .int .u32 0, .int .u32 0, .int .u32 0, .int .u32 0].toArray 100 (0, 0))) w2.heap.size ⟨a, b, c, d, e, f, g, h⟩) w2.heap.size (H8.row ⟨a, b, c, d, e, f, g, h⟩) 100 := set8_blk (cs := [Value.int .u32 0, .int .u32 0, .int .u32 0, .int .u32 0, .int .u32 0, .int .u32 0, .int .u32 0, .int .u32 0]) rfl Blk.new
      have hu23 : Upd (fun _ => False) w2 (set8 (w2.alloc (.cells [Value.int .u32 0, .int .u32 0, .int .u32 0, .int .u32 0, .int .u32 0, .int .u32 0, .int .u32 0, .int .u32 0].toArray 100 (0, 0))) w2.heap.size ⟨a, b, c, d, e, f, g, h⟩) := Upd.alloc.trans set8_upd fun x hx e => by omega
      have hs3 : (set8 (w2.alloc (.cells [Value.int .u32 0, .int .u32 0, .int .u32 0, .int .u32 0, .int .u32 0, .int .u32 0, .int .u32 0, .int .u32 0].toArray 100 (0, 0))) w2.heap.size ⟨a, b, c, d, e, f, g, h⟩).heap.size = w2.heap.size + 1 := by rw [set8_size, size_alloc]
      unfold set8 vW at hbu3 hu23 hs3
      dsimp only at hbu3 hu23 hs3
      have hu03 := hu02.trans hu23 fun _ _ h => h
      have hbs3 := hbs2.upd hu23 fun h => h
      have hbr3 := hbr2.upd hu23 fun h => h
      have hbw3 := hbw.upd hu23 fun h => h
      generalize (((((((((w2.alloc (.cells [Value.int .u32 0, .int .u32 0, .int .u32 0, .int .u32 0, .int .u32 0, .int .u32 0, .int .u32 0, .int .u32 0].toArray 100 (0, 0))).setCell ⟨w2.heap.size, 0, none⟩ (.int .u32 (a.toNat : Int))).setCell ⟨w2.heap.size, 1, none⟩ (.int .u32 (b.toNat : Int))).setCell ⟨w2.heap.size, 2, none⟩ (.int .u32 (c.toNat : Int))).setCell ⟨w2.heap.size, 3, none⟩ (.int .u32 (d.toNat : Int))).setCell ⟨w2.heap.size, 4, none⟩ (.int .u32 (e.toNat : Int))).setCell ⟨w2.heap.size, 5, none⟩ (.int .u32 (f.toNat : Int))).setCell ⟨w2.heap.size, 6, none⟩ (.int .u32 (g.toNat : Int))).setCell ⟨w2.heap.size, 7, none⟩ (.int .u32 (h.toNat : Int))) = w3 at *
      obtain ⟨u, hu⟩ : ∃ u, u = w2.heap.size := ⟨_, rfl⟩
      rw [← hu] at hbu3 ⊢
      clear hu23 hbs2 hbr2 hbw
      refine loop_inv (I := fun k st w' => Bx (∃ t, k + t = 64 ∧ st = [.int .i64 ((t : Nat) : Int)] ∧ Blk w' u (rds B ⟨a, b, c, d, e, f, g, h⟩ t).row 100 ∧ Upd (fun x => x = u) w3 w') ⟨⟩) ?_ 64
        ⟨0, by omega, rfl, hbu3, Upd.refl⟩
      clear hbu3
      rintro k st w4 ⟨t, hk, rfl, hbu, hu34⟩
      have hu04 : Upd (fun _ => False) w w4 := hu03.trans hu34 fun x hx e => by omega
      have hbw4 := hbw3.upd hu34 fun h => by omega
      by_cases hk0 : k = 0
      · obtain rfl : t = 64 := by omega
        simp (config := { maxSteps := 3000000 }) (disch := omega) only [push_cast, Nat.reduceBEq, Nat.reduceEqDiff, Nat.reduceAdd, Nat.reduceMul, Nat.reduceSub, Nat.reduceLT, Int.reduceToNat, Int.reduceLT, Int.reduceLE, Int.reduceEq, Int.reduceAdd, Int.reduceSub, Int.reduceNeg, Int.reduceMul]
        have hu : Upd (fun x => x = u) w4 w4 := Upd.refl
        have hblk : blkP B ⟨a, b, c, d, e, f, g, h⟩ = addH (rds B ⟨a, b, c, d, e, f, g, h⟩ 64) ⟨a, b, c, d, e, f, g, h⟩ := rfl
        rw [hblk]
        have hbs4 := hbs3.upd hu34 fun h => by omega
        have hbr4 := hbr3.upd hu34 fun h => by omega
        generalize rds B ⟨a, b, c, d, e, f, g, h⟩ 64 = r at *
        clear hblk hu34 hbw4
        rw [← addTo_zero (s := ⟨a, b, c, d, e, f, g, h⟩)] at hbu
        refine loop_inv (I := fun k st w' => Bx (∃ t, k + t = 8 ∧ st = [.int .i64 ((t : Nat) : Int)] ∧ Blk w' u (addTo r ⟨a, b, c, d, e, f, g, h⟩ t) 100 ∧ Upd (fun x => x = u) w4 w') ⟨⟩) ?_ 8
          ⟨0, by omega, rfl, hbu, hu⟩
        clear hbu hu
        rintro k st w5 ⟨t, hk, rfl, hbu, hu45⟩
        have hbs5 := hbs4.upd hu45 fun h => by omega
        have hbr5 := hbr4.upd hu45 fun h => by omega
        have hu05 : Upd (fun _ => False) w w5 := hu04.trans hu45 fun x hx e => by omega
        by_cases hk0 : k = 0
        · obtain rfl : t = 8 := by omega
          rw [addTo_8] at hbu
          generalize addH r ⟨a, b, c, d, e, f, g, h⟩ = v at *
          obtain ⟨a', b', c', d', e', f', g', h'⟩ := v
          unfold H8.row vW at hbu
          dsimp only at hbu
          simp (config := { maxSteps := 3000000 }) (disch := omega) only [push_cast, Nat.reduceBEq, Nat.reduceEqDiff, Nat.reduceAdd, Nat.reduceMul, Nat.reduceSub, Nat.reduceLT, Int.reduceToNat, Int.reduceLT, Int.reduceLE, Int.reduceEq, Int.reduceAdd, Int.reduceSub, Int.reduceNeg, Int.reduceMul, hbu.cell, hbr5.cell, hbr5.free]
          exact hu05.trans (set8_upd (s := ⟨a', b', c', d', e', f', g', h'⟩)) fun x hx e => by omega
        have ht8 : t < 8 := by omega
        have htl : (t : Int) < 8 := by omega
        have qs := row_at (s := ⟨a, b, c, d, e, f, g, h⟩) ht8
        have qr := addTo_at (r := r) (s := ⟨a, b, c, d, e, f, g, h⟩) ht8
        have hset := addTo_set (r := r) (s := ⟨a, b, c, d, e, f, g, h⟩) ht8
        unfold vW at qr qs hset
        unfold H8.row vW at qs
        dsimp only at qs
        generalize H8.get r t = x at *
        generalize H8.get ⟨a, b, c, d, e, f, g, h⟩ t = y at *
        simp (config := { maxSteps := 3000000 }) (disch := omega) only [push_cast, Nat.reduceBEq, Nat.reduceEqDiff, Nat.reduceAdd, Nat.reduceMul, Nat.reduceSub, Nat.reduceLT, Int.reduceToNat, Int.reduceLT, Int.reduceLE, Int.reduceEq, Int.reduceAdd, Int.reduceSub, Int.reduceNeg, Int.reduceMul, hbu.cell, hbu.free, hbs5.cell, qs, qr]
        exact ⟨k - 1, by omega, t + 1, by omega, by simp, by rw [← hset]; exact (hbu.set t _).drew, (hu45.setIn rfl).drew'⟩
      have htl : (t : Int) < 64 := by omega
      have qw := wRow_at (B := B) (t := 64) (i := t) (by omega) (by omega)
      have qk := (hK.upd hu04 fun h => h).2 t (by omega)
      rw [show rds B ⟨a, b, c, d, e, f, g, h⟩ t = rds B ⟨a, b, c, d, e, f, g, h⟩ t from rfl] at hbu
      have hnext : rds B ⟨a, b, c, d, e, f, g, h⟩ (t + 1) = rnd (kV t) (wS B t) (rds B ⟨a, b, c, d, e, f, g, h⟩ t) := rfl
      generalize rds B ⟨a, b, c, d, e, f, g, h⟩ t = r at *
      obtain ⟨a', b', c', d', e', f', g', h'⟩ := r
      unfold H8.row vW at hbu
      dsimp only at hbu
      unfold vW at qw qk
      simp (config := { maxSteps := 3000000 }) (disch := omega) only [push_cast, Nat.reduceBEq, Nat.reduceEqDiff, Nat.reduceAdd, Nat.reduceMul, Nat.reduceSub, Nat.reduceLT, Int.reduceToNat, Int.reduceLT, Int.reduceLE, Int.reduceEq, Int.reduceAdd, Int.reduceSub, Int.reduceNeg, Int.reduceMul, hbu.cell, hbu.free, hbw4.cell, qw, qk]
      refine Ok.use (rotr_ok (n := 6) (by decide) (by decide)) ?_
      rintro v _ ⟨rfl, rfl⟩
      simp (config := { maxSteps := 3000000 }) (disch := omega) only [push_cast, Nat.reduceBEq, Nat.reduceEqDiff, Nat.reduceAdd, Nat.reduceMul, Nat.reduceSub, Nat.reduceLT, Int.reduceToNat, Int.reduceLT, Int.reduceLE, Int.reduceEq, Int.reduceAdd, Int.reduceSub, Int.reduceNeg, Int.reduceMul, hbu.cell, hbu.free, hbw4.cell, qw, qk]
      refine Ok.use (rotr_ok (n := 11) (by decide) (by decide)) ?_
      rintro v _ ⟨rfl, rfl⟩
      simp (config := { maxSteps := 3000000 }) (disch := omega) only [push_cast, Nat.reduceBEq, Nat.reduceEqDiff, Nat.reduceAdd, Nat.reduceMul, Nat.reduceSub, Nat.reduceLT, Int.reduceToNat, Int.reduceLT, Int.reduceLE, Int.reduceEq, Int.reduceAdd, Int.reduceSub, Int.reduceNeg, Int.reduceMul, hbu.cell, hbu.free, hbw4.cell, qw, qk]
      refine Ok.use (rotr_ok (n := 25) (by decide) (by decide)) ?_
      rintro v _ ⟨rfl, rfl⟩
      simp (config := { maxSteps := 3000000 }) (disch := omega) only [push_cast, Nat.reduceBEq, Nat.reduceEqDiff, Nat.reduceAdd, Nat.reduceMul, Nat.reduceSub, Nat.reduceLT, Int.reduceToNat, Int.reduceLT, Int.reduceLE, Int.reduceEq, Int.reduceAdd, Int.reduceSub, Int.reduceNeg, Int.reduceMul, hbu.cell, hbu.free, hbw4.cell, qw, qk]
      refine Ok.use (rotr_ok (n := 2) (by decide) (by decide)) ?_
      rintro v _ ⟨rfl, rfl⟩
      simp (config := { maxSteps := 3000000 }) (disch := omega) only [push_cast, Nat.reduceBEq, Nat.reduceEqDiff, Nat.reduceAdd, Nat.reduceMul, Nat.reduceSub, Nat.reduceLT, Int.reduceToNat, Int.reduceLT, Int.reduceLE, Int.reduceEq, Int.reduceAdd, Int.reduceSub, Int.reduceNeg, Int.reduceMul, hbu.cell, hbu.free, hbw4.cell, qw, qk]
      refine Ok.use (rotr_ok (n := 13) (by decide) (by decide)) ?_
      rintro v _ ⟨rfl, rfl⟩
      simp (config := { maxSteps := 3000000 }) (disch := omega) only [push_cast, Nat.reduceBEq, Nat.reduceEqDiff, Nat.reduceAdd, Nat.reduceMul, Nat.reduceSub, Nat.reduceLT, Int.reduceToNat, Int.reduceLT, Int.reduceLE, Int.reduceEq, Int.reduceAdd, Int.reduceSub, Int.reduceNeg, Int.reduceMul, hbu.cell, hbu.free, hbw4.cell, qw, qk]
      refine Ok.use (rotr_ok (n := 22) (by decide) (by decide)) ?_
      rintro v _ ⟨rfl, rfl⟩
      simp (config := { maxSteps := 3000000 }) (disch := omega) only [push_cast, Nat.reduceBEq, Nat.reduceEqDiff, Nat.reduceAdd, Nat.reduceMul, Nat.reduceSub, Nat.reduceLT, Int.reduceToNat, Int.reduceLT, Int.reduceLE, Int.reduceEq, Int.reduceAdd, Int.reduceSub, Int.reduceNeg, Int.reduceMul, hbu.cell, hbu.free, hbw4.cell, qw, qk]
      have hb := (set8_blk (s := rnd (kV t) (wS B t) ⟨a', b', c', d', e', f', g', h'⟩) (cs := [.int .u32 (a'.toNat : Int), .int .u32 (b'.toNat : Int), .int .u32 (c'.toNat : Int), .int .u32 (d'.toNat : Int), .int .u32 (e'.toNat : Int), .int .u32 (f'.toNat : Int), .int .u32 (g'.toNat : Int), .int .u32 (h'.toNat : Int)]) rfl hbu).drew.drew
      have hup := (hu34.trans (set8_upd (b := u) (s := rnd (kV t) (wS B t) ⟨a', b', c', d', e', f', g', h'⟩)) fun _ _ h => h).drew'.drew'
      have hrow : (rnd (kV t) (wS B t) ⟨a', b', c', d', e', f', g', h'⟩).row = (rds B ⟨a, b, c, d, e, f, g, h⟩ (t + 1)).row := by rw [hnext]
      rw [hrow] at hb
      clear hrow hnext
      unfold set8 rnd rndT1 rndT2 vW at hb hup
      dsimp only at hb hup
      exact ⟨k - 1, by omega, t + 1, by omega, by simp, hb, hup⟩
    obtain ⟨T15, h15⟩ : ∃ T, T = t - 15 := ⟨_, rfl⟩
    obtain ⟨T2, h2⟩ : ∃ T, T = t - 2 := ⟨_, rfl⟩
    obtain ⟨T7, h7⟩ : ∃ T, T = t - 7 := ⟨_, rfl⟩
    obtain ⟨T16, h16⟩ : ∃ T, T = t - 16 := ⟨_, rfl⟩
    have e15 : (t : Int) - 15 = (T15 : Int) := by omega
    have e2 : (t : Int) - 2 = (T2 : Int) := by omega
    have e7 : (t : Int) - 7 = (T7 : Int) := by omega
    have e16 : (t : Int) - 16 = (T16 : Int) := by omega
    have q15 := wRow_at (B := B) (t := t) (i := T15) (by omega) (by omega)
    have q2 := wRow_at (B := B) (t := t) (i := T2) (by omega) (by omega)
    have q7 := wRow_at (B := B) (t := t) (i := T7) (by omega) (by omega)
    have q16 := wRow_at (B := B) (t := t) (i := T16) (by omega) (by omega)
    have qw := wRow_new (B := B) (t := t) (i := t) (Nat.le_refl _) (by omega)
    have htl : (t : Int) < 64 := by omega
    simp (config := { maxSteps := 3000000 }) (disch := omega) only [push_cast, Nat.reduceBEq, Nat.reduceEqDiff, Nat.reduceAdd, Nat.reduceMul, Nat.reduceSub, Nat.reduceLT, Int.reduceToNat, Int.reduceLT, Int.reduceLE, Int.reduceEq, Int.reduceAdd, Int.reduceSub, Int.reduceNeg, Int.reduceMul, e15, e2, e7, e16, q15, q2, q7, q16, qw, hbw.cell, hbw.free]
    refine Ok.use (rotr_ok (n := 7) (by decide) (by decide)) ?_
    rintro v _ ⟨rfl, rfl⟩
    simp (config := { maxSteps := 3000000 }) (disch := omega) only [push_cast, Nat.reduceBEq, Nat.reduceEqDiff, Nat.reduceAdd, Nat.reduceMul, Nat.reduceSub, Nat.reduceLT, Int.reduceToNat, Int.reduceLT, Int.reduceLE, Int.reduceEq, Int.reduceAdd, Int.reduceSub, Int.reduceNeg, Int.reduceMul, e15, e2, e7, e16, q15, q2, q7, q16, qw, hbw.cell, hbw.free]
    refine Ok.use (rotr_ok (n := 18) (by decide) (by decide)) ?_
    rintro v _ ⟨rfl, rfl⟩
    simp (config := { maxSteps := 3000000 }) (disch := omega) only [push_cast, Nat.reduceBEq, Nat.reduceEqDiff, Nat.reduceAdd, Nat.reduceMul, Nat.reduceSub, Nat.reduceLT, Int.reduceToNat, Int.reduceLT, Int.reduceLE, Int.reduceEq, Int.reduceAdd, Int.reduceSub, Int.reduceNeg, Int.reduceMul, e15, e2, e7, e16, q15, q2, q7, q16, qw, hbw.cell, hbw.free]
    refine Ok.use (rotr_ok (n := 17) (by decide) (by decide)) ?_
    rintro v _ ⟨rfl, rfl⟩
    simp (config := { maxSteps := 3000000 }) (disch := omega) only [push_cast, Nat.reduceBEq, Nat.reduceEqDiff, Nat.reduceAdd, Nat.reduceMul, Nat.reduceSub, Nat.reduceLT, Int.reduceToNat, Int.reduceLT, Int.reduceLE, Int.reduceEq, Int.reduceAdd, Int.reduceSub, Int.reduceNeg, Int.reduceMul, e15, e2, e7, e16, q15, q2, q7, q16, qw, hbw.cell, hbw.free]
    refine Ok.use (rotr_ok (n := 19) (by decide) (by decide)) ?_
    rintro v _ ⟨rfl, rfl⟩
    simp (config := { maxSteps := 3000000 }) (disch := omega) only [push_cast, Nat.reduceBEq, Nat.reduceEqDiff, Nat.reduceAdd, Nat.reduceMul, Nat.reduceSub, Nat.reduceLT, Int.reduceToNat, Int.reduceLT, Int.reduceLE, Int.reduceEq, Int.reduceAdd, Int.reduceSub, Int.reduceNeg, Int.reduceMul, e15, e2, e7, e16, q15, q2, q7, q16, qw, hbw.cell, hbw.free]
    have hbw' := (hbw.set t (vW (wS B t))).drew.drew
    rw [wRow_set (by omega), wRow_64 ht] at hbw'
    unfold sg1 sg0 vW at hbw'
    rw [← h15, ← h2, ← h7, ← h16] at hbw'
    exact ⟨k - 1, by omega, t + 1, by omega, by omega, by simp, hbw', ((hu2.setIn rfl).drew').drew'⟩
  have ht : t < 16 := by omega
  obtain ⟨T0, h0⟩ : ∃ T, T = 4 * t := ⟨_, rfl⟩
  obtain ⟨T1, h1⟩ : ∃ T, T = 4 * t + 1 := ⟨_, rfl⟩
  obtain ⟨T2, h2⟩ : ∃ T, T = 4 * t + 2 := ⟨_, rfl⟩
  obtain ⟨T3, h3⟩ : ∃ T, T = 4 * t + 3 := ⟨_, rfl⟩
  have e0 : 4 * (t : Int) = (T0 : Int) := by omega
  have e1 : (T0 : Int) + 1 = (T1 : Int) := by omega
  have e2 : (T0 : Int) + 2 = (T2 : Int) := by omega
  have e3 : (T0 : Int) + 3 = (T3 : Int) := by omega
  have q0 := lies_at (hli.upd hu02 hgb fun h => h) (j := T0) (by omega)
  have q1 := lies_at (hli.upd hu02 hgb fun h => h) (j := T1) (by omega)
  have q2 := lies_at (hli.upd hu02 hgb fun h => h) (j := T2) (by omega)
  have q3 := lies_at (hli.upd hu02 hgb fun h => h) (j := T3) (by omega)
  have qw := wRow_new (B := B) (t := t) (i := t) (Nat.le_refl _) (by omega)
  simp (config := { maxSteps := 3000000 }) (disch := omega) only [push_cast, Nat.reduceBEq, Nat.reduceEqDiff, Nat.reduceAdd, Nat.reduceMul, Nat.reduceSub, Nat.reduceLT, Int.reduceToNat, Int.reduceLT, Int.reduceLE, Int.reduceEq, Int.reduceAdd, Int.reduceSub, Int.reduceNeg, Int.reduceMul, e0, e1, e2, e3, q0, q1, q2, q3, hbw.cell, hbw.free, qw]
  have hbw' := (hbw.set t (vW (wS B t))).drew
  rw [wRow_set (by omega), wRow_16 ht] at hbw'
  unfold w0 byW vW at hbw'
  rw [← h1, ← h2, ← h3, ← h0] at hbw'
  exact ⟨k - 1, by omega, t + 1, by omega, by simp, hbw', (hu2.setIn rfl).drew'⟩
end Go.Proofs.YtkceoefmhppddaaDoor.Fd
