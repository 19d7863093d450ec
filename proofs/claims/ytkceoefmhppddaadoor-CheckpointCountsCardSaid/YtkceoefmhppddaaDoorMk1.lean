/-
  A disk with given contents: make64.
-/
import Derived.Test.YtkceoefmhppddaaDoorSp4
namespace Go.Proofs.YtkceoefmhppddaaDoor.Fd
set_option linter.unusedSimpArgs false
set_option linter.unusedVariables false
open Go
set_option maxRecDepth 100000
def wr64 (sz : Nat) (ls : List (List Int)) (i : Nat) : List Int := pad sz ((ls.getD i []).take sz)
def ops64 (N sz : Nat) (ls : List (List Int)) : List DOp := (List.range (min ls.length N)).map fun i => some (i, wr64 sz ls i)
def M64 (N sz : Nat) (ls : List (List Int)) : DS := (runOps (DS.new N sz) (ops64 N sz ls ++ [none])).1
theorem wr64_len {sz i : Nat} {ls : List (List Int)} : (wr64 sz ls i).length = sz := pad_length (by rw [List.length_take]; omega)
theorem wr64_rng {sz i : Nat} {ls : List (List Int)} (h : RngL ls) : Rng (wr64 sz ls i) := by
  refine pad_rng (Rng.take ?_ _)
  rw [List.getD_eq_getElem?_getD]
  cases hi : ls[i]? with
  | none => exact fun x hx => by cases hx
  | some l => exact h l (List.mem_of_getElem? hi)
theorem ops64_drop {N sz t : Nat} {ls : List (List Int)} (h : t < min ls.length N) : (ops64 N sz ls).drop t = some (t, wr64 sz ls t) :: (ops64 N sz ls).drop (t + 1) := by
  rw [List.drop_eq_getElem_cons (by simp [ops64]; omega)]
  simp [ops64]
theorem ops64_length {N sz : Nat} {ls : List (List Int)} : (ops64 N sz ls).length = min ls.length N := by simp [ops64]
theorem cell_lt {w : World} {b o : Nat} {v : Value} (h : w.cell? ⟨b, o, none⟩ = some v) : b < w.heap.size := by
  rcases Nat.lt_or_ge b w.heap.size with hh | hh
  · exact hh
  · have hn : w.heap[b]? = none := Array.getElem?_eq_none hh
    simp [World.cell?, hn] at h
theorem cell_upd {w w' : World} {F : Nat → Prop} {b o : Nat} {v : Value} (h : w.cell? ⟨b, o, none⟩ = some v) (hu : Upd F w w') (hF : ¬ F b) : w'.cell? ⟨b, o, none⟩ = some v := by
  rw [← h]
  exact World.cell?_of_block (hu.block b (cell_lt h) hF)
/-- The first t cells of a row that is filled. -/
def zRow (sz : Nat) (m : List Int) (t : Nat) : List Value := by8 (m.take t ++ List.replicate (sz - t) 0)
theorem zRow_zero {sz : Nat} {m : List Int} : zRow sz m 0 = List.replicate sz (.int .u8 0) := by simp [zRow, by8]
theorem zRow_at {sz : Nat} {m : List Int} {t : Nat} (h : t < sz) (hm : t ≤ m.length) : (zRow sz m t)[t]? = some (.int .u8 0) := by
  rw [zRow, by8, List.getElem?_map, List.getElem?_append_right (by rw [List.length_take]; omega), List.length_take, Nat.min_eq_left hm, Nat.sub_self, List.getElem?_replicate, if_pos (by omega)]
  rfl
theorem zRow_set {sz : Nat} {m : List Int} {t : Nat} {x : Int} (h : t < sz) (hx : m[t]? = some x) : (zRow sz m t).set t (.int .u8 x) = zRow sz m (t + 1) := by
  obtain ⟨hm, hx⟩ := List.getElem?_eq_some_iff.1 hx
  have ht : (m.take t).length = t := by rw [List.length_take]; omega
  rw [zRow, by8_append, List.set_append_right _ _ (by rw [by8_length, ht]; exact Nat.le_refl _), by8_length, ht, Nat.sub_self]
  rw [show sz - t = (sz - (t + 1)) + 1 by omega, List.replicate_succ, zRow, List.take_succ_eq_append_getElem hm, hx, by8_append, by8_append, List.append_assoc]
  rfl
theorem zRow_end {sz : Nat} {m : List Int} : zRow sz m (min m.length sz) = by8 (pad sz (m.take sz)) := by
  rw [zRow, pad, List.length_take]
  rcases Nat.le_total m.length sz with h | h
  · rw [Nat.min_eq_left h, List.take_of_length_le (Nat.le_refl _), List.take_of_length_le h, Nat.min_eq_right h]
  · rw [Nat.min_eq_right h, Nat.min_eq_left h]
/-- A disk that is on, quiet and without a limit. -/
structure Fresh (N sz i : Nat) (d : DS) : Prop where
  wf : WfD N sz i d
  off : d.off = false
  cnt : d.cnt = none
theorem Fresh.write {N sz i : Nat} {d : DS} (h : Fresh N sz i d) {x : Nat} {l : List Int} (hx : x < N) (hl : l.length = sz) (hr : Rng l) : Fresh N sz (i + 1) (d.write x l).1 ∧ (d.write x l).2 = 0 := by
  rcases write_cases d h.off (x := x) (l := l) (by rw [h.wf.sz.dur]; exact hx) (by rw [h.wf.sz.size]; exact hl) with ⟨s1, s2, s3, s4, s5, s6⟩ | ⟨s1, s2, s3, s4, s5, s6⟩
  · exact ⟨⟨h.wf.write hr, s2, s6 h.cnt⟩, s1⟩
  · exact absurd h.cnt s6
theorem Fresh.sync {N sz i : Nat} {d : DS} (h : Fresh N sz i d) : Fresh N sz 0 d.sync.1 ∧ d.sync.2 = 0 ∧ d.sync.1.cache = [] := by
  rcases sync_cases d h.off with ⟨s1, s2, s3, s4, s5, s6, s7⟩ | ⟨s1, s2, s3, s4, s5, s6⟩
  · refine ⟨⟨?_, s2, s7 h.cnt⟩, s1, s5⟩
    have := h.wf.sync
    exact ⟨⟨this.sz.dur, this.sz.size, by rw [s5]; exact Nat.le_refl _, this.sz.cnt⟩, this.dur, this.cache⟩
  · exact absurd h.cnt s6
theorem Fresh.mono {N sz i j : Nat} {d : DS} (h : Fresh N sz i d) (hij : i ≤ j) : Fresh N sz j d := ⟨h.wf.mono hij, h.off, h.cnt⟩
theorem Fresh.new {N sz : Nat} : Fresh N sz 0 (DS.new N sz) := ⟨WfD.new, rfl, rfl⟩
theorem M64_fresh {N sz : Nat} {ls : List (List Int)} (hr : RngL ls) : Fresh N sz 0 (M64 N sz ls) ∧ (M64 N sz ls).cache = [] := by
  have key : ∀ k t i (d : DS), k + t = min ls.length N → Fresh N sz i d → Fresh N sz 0 (runOps d ((ops64 N sz ls).drop t ++ [none])).1 ∧ (runOps d ((ops64 N sz ls).drop t ++ [none])).1.cache = [] := by
    intro k
    induction k with
    | zero =>
      intro t i d hk h
      rw [List.drop_of_length_le (by rw [ops64_length]; omega), List.nil_append]
      have hs := h.sync
      rw [runOps_ok (show (d.op none).2 = 0 from hs.2.1)]
      exact ⟨hs.1, hs.2.2⟩
    | succ k ih =>
      intro t i d hk h
      rw [ops64_drop (by omega), List.cons_append]
      have hw := h.write (x := t) (l := wr64 sz ls t) (by omega) wr64_len (wr64_rng hr)
      rw [runOps_ok (show (d.op (some (t, wr64 sz ls t))).2 = 0 from hw.2)]
      exact ih (t + 1) _ _ (by omega) hw.1
  have := key (min ls.length N) 0 0 (DS.new N sz) (by omega) Fresh.new
  rw [List.drop_zero] at this
  exact this
def Mk64 (w w' : World) (N sz : Nat) (ls : List (List Int)) (u : Value) : Prop := if 20 < ls.length then u = .pointer none else ∃ p D, u = .pointer (some ⟨p, 0, none⟩) ∧ IsDisk w' D p (M64 N sz ls) ∧ (∀ b, D b → w.heap.size ≤ b)
set_option maxHeartbeats 2000000 in
theorem make64_ok {w : World} {F : Nat → Prop} {s : Nat} (hs : s < 256) {v : Value} {ls : List (List Int)} (hv : SlR w F v ls) (hr : RngL ls) (hF : ∀ b, w.heap.size ≤ b → F b) :
    Ok (den Tryd.prog 11 #[.int .u8 (s : Int), v] w) fun u w' => Mk64 w w' (8 + s % 8) (64 + s / 8) ls u ∧ Upd (fun _ => False) w w' := by
  obtain ⟨va, vc, rfl, _⟩ := id hv
  refine den_ok (args := [.int .u8 (s : Int), .slice va ls.length vc]) rs11 Tryd.func11 rfl mixed in11 ok11 rfl ?_
  obtain ⟨r, hr0⟩ : ∃ r, r = s % 8 := ⟨_, rfl⟩
  obtain ⟨q, hq0⟩ : ∃ q, q = s / 8 := ⟨_, rfl⟩
  have e1 : (s : Int).tmod 8 = (r : Int) := by rw [hr0, show (8 : Int) = ((8 : Nat) : Int) from rfl, ← Int.ofNat_tmod]
  have e2 : (s : Int).tdiv 8 = (q : Int) := by rw [hq0, show (8 : Int) = ((8 : Nat) : Int) from rfl, ← Int.ofNat_tdiv]
  rw [← hr0, ← hq0]
  obtain ⟨N, hN⟩ : ∃ N, N = 8 + r := ⟨_, rfl⟩
  obtain ⟨sz, hsz⟩ : ∃ sz, sz = 64 + q := ⟨_, rfl⟩
  have e3 : (8 : Int) + (r : Int) = (N : Int) := by omega
  have e4 : (64 : Int) + (q : Int) = (sz : Int) := by omega
  have hN1 : 8 ≤ N ∧ N ≤ 15 := by omega
  have hz1 : 64 ≤ sz ∧ sz ≤ 96 := by omega
  rw [← hN, ← hsz]
  have e5 : IntKind.u8.wrap (q : Int) = (q : Int) := by rw [IntKind.wrap_u8]; omega
  simp (config := { maxSteps := 3000000 }) (disch := omega) only [push_cast, Nat.reduceBEq, Nat.reduceEqDiff, Nat.reduceAdd, Nat.reduceMul, Nat.reduceSub, Nat.reduceLT, Int.reduceToNat, Int.reduceLT, Int.reduceLE, Int.reduceEq, Int.reduceAdd, Int.reduceSub, Int.reduceNeg, Int.reduceMul, e1, e2, e3, e4, e5]
  clear e5 e1 e2 e3 e4 hN hsz hr0 hq0
  refine Ok.use (new_ok (n := N) (size := sz) (by omega) (by omega) (by omega) (by omega)) ?_
  rintro v w1 ⟨p, rfl, hd1, hu1⟩
  by_cases h20 : 20 < ls.length
  · have h20i : (20 : Int) < (ls.length : Int) := by omega
    simp (config := { maxSteps := 3000000 }) (disch := omega) only [push_cast, Nat.reduceBEq, Nat.reduceEqDiff, Nat.reduceAdd, Nat.reduceMul, Nat.reduceSub, Nat.reduceLT, Int.reduceToNat, Int.reduceLT, Int.reduceLE, Int.reduceEq, Int.reduceAdd, Int.reduceSub, Int.reduceNeg, Int.reduceMul, h20i]
    refine ⟨?_, hu1⟩
    unfold Mk64
    rw [if_pos h20]
  have h20i : ¬ (20 : Int) < (ls.length : Int) := by omega
  simp (config := { maxSteps := 3000000 }) (disch := omega) only [push_cast, Nat.reduceBEq, Nat.reduceEqDiff, Nat.reduceAdd, Nat.reduceMul, Nat.reduceSub, Nat.reduceLT, Int.reduceToNat, Int.reduceLT, Int.reduceLE, Int.reduceEq, Int.reduceAdd, Int.reduceSub, Int.reduceNeg, Int.reduceMul, h20i]
  have hD1 : ∀ b, gr (fun _ => False) w w1 b → w.heap.size ≤ b := fun b hb => hb.elim (fun h => h.elim) fun h => h.1
  generalize gr (fun _ => False) w w1 = D1 at *
  have hops : M64 N sz ls = (runOps (DS.new N sz) ((ops64 N sz ls).drop 0 ++ [none])).1 := by rw [List.drop_zero, M64]
  have hv1 := hv.go (F' := F) hu1 fun b hb h => h.elim (fun h => h.elim) fun h => h
  refine loop_inv (I := fun k st w' => Bx (∃ t d D, k + t = min ls.length N ∧ st = [.int .i64 ((t : Nat) : Int)] ∧ IsDisk w' D p d ∧ (∀ b, D b → w.heap.size ≤ b) ∧ Fresh N sz t d ∧ M64 N sz ls = (runOps d ((ops64 N sz ls).drop t ++ [none])).1 ∧ Upd (fun _ => False) w w') ⟨⟩) ?_ (min ls.length N)
    ⟨0, DS.new N sz, D1, by omega, rfl, hd1, hD1, Fresh.new, hops, hu1⟩
  rintro k st w2 ⟨t, d, D, hk, rfl, hd2, hD2, hf2, hops2, hu2⟩
  have hv2 := hv.go (F' := F) hu2 fun b hb h => h.elim (fun h => h.elim) fun h => h
  have hsz2 := hf2.wf.sz.size
  have hdl2 := hf2.wf.sz.dur
  by_cases hk0 : k = 0
  · obtain rfl : t = min ls.length N := by omega
    have fin : Okk (den Tryd.prog 28 #[.pointer (some ⟨p, 0, none⟩)] w2) fun x => x.1 = .int .i64 0 ∧ (∃ D', IsDisk x.2 D' p (M64 N sz ls) ∧ ∀ b, D' b → w.heap.size ≤ b) ∧ Upd (fun _ => False) w x.2 := by
      have hs := hf2.sync
      rw [List.drop_of_length_le (by rw [ops64_length]; exact Nat.le_refl _), List.nil_append, runOps_ok (show (d.op none).2 = 0 from hs.2.1)] at hops2
      refine Ok.use (sync_ok hd2 (by have := hf2.wf.sz.few; omega) hf2.wf.sz.cnt) ?_
      rintro v w3 ⟨rfl, hd3, hu3⟩
      refine ⟨by rw [hs.2.1], ⟨gr D w2 w3, by rw [hops2]; exact hd3, fun b hb => hb.elim (hD2 b) fun h => by have := hu2.size; have := h.1; omega⟩, hu2.trans hu3 fun b hb h => by have := hD2 b h; omega⟩
    by_cases hlN : ls.length ≤ N
    · have hlt : ¬ ((min ls.length N : Nat) : Int) < (ls.length : Int) := by omega
      obtain ⟨z, hz⟩ : ∃ z, z = min ls.length N := ⟨_, rfl⟩
      rw [← hz] at hlt ⊢
      simp (config := { maxSteps := 3000000 }) (disch := omega) only [push_cast, Nat.reduceBEq, Nat.reduceEqDiff, Nat.reduceAdd, Nat.reduceMul, Nat.reduceSub, Nat.reduceLT, Int.reduceToNat, Int.reduceLT, Int.reduceLE, Int.reduceEq, Int.reduceAdd, Int.reduceSub, Int.reduceNeg, Int.reduceMul, hlt]
      refine Okk.mono fin ?_
      rintro ⟨v, w3⟩ ⟨rfl, ⟨D3, hd3, hD3⟩, hu3⟩
      simp (config := { maxSteps := 3000000 }) (disch := omega) only [push_cast, Nat.reduceBEq, Nat.reduceEqDiff, Nat.reduceAdd, Nat.reduceMul, Nat.reduceSub, Nat.reduceLT, Int.reduceToNat, Int.reduceLT, Int.reduceLE, Int.reduceEq, Int.reduceAdd, Int.reduceSub, Int.reduceNeg, Int.reduceMul]
      refine ⟨?_, hu3⟩
      unfold Mk64
      rw [if_neg h20]
      exact ⟨p, D3, rfl, hd3, hD3⟩
    · have hlt : ((min ls.length N : Nat) : Int) < (ls.length : Int) := by omega
      have hlt2 : ¬ ((min ls.length N : Nat) : Int) < (N : Int) := by omega
      obtain ⟨z, hz⟩ : ∃ z, z = min ls.length N := ⟨_, rfl⟩
      rw [← hz] at hlt hlt2 ⊢
      simp (config := { maxSteps := 3000000 }) (disch := omega) only [push_cast, Nat.reduceBEq, Nat.reduceEqDiff, Nat.reduceAdd, Nat.reduceMul, Nat.reduceSub, Nat.reduceLT, Int.reduceToNat, Int.reduceLT, Int.reduceLE, Int.reduceEq, Int.reduceAdd, Int.reduceSub, Int.reduceNeg, Int.reduceMul, hlt]
      refine Ok.use (Sectors_ok hd2) ?_
      rintro v _ ⟨rfl, rfl⟩
      rw [hdl2]
      simp (config := { maxSteps := 3000000 }) (disch := omega) only [push_cast, Nat.reduceBEq, Nat.reduceEqDiff, Nat.reduceAdd, Nat.reduceMul, Nat.reduceSub, Nat.reduceLT, Int.reduceToNat, Int.reduceLT, Int.reduceLE, Int.reduceEq, Int.reduceAdd, Int.reduceSub, Int.reduceNeg, Int.reduceMul, hlt2]
      refine Okk.mono fin ?_
      rintro ⟨v, w3⟩ ⟨rfl, ⟨D3, hd3, hD3⟩, hu3⟩
      simp (config := { maxSteps := 3000000 }) (disch := omega) only [push_cast, Nat.reduceBEq, Nat.reduceEqDiff, Nat.reduceAdd, Nat.reduceMul, Nat.reduceSub, Nat.reduceLT, Int.reduceToNat, Int.reduceLT, Int.reduceLE, Int.reduceEq, Int.reduceAdd, Int.reduceSub, Int.reduceNeg, Int.reduceMul]
      refine ⟨?_, hu3⟩
      unfold Mk64
      rw [if_neg h20]
      exact ⟨p, D3, rfl, hd3, hD3⟩
  have hlt : ((t : Nat) : Int) < (ls.length : Int) := by omega
  have hlt2 : ((t : Nat) : Int) < (N : Int) := by omega
  simp (config := { maxSteps := 3000000 }) (disch := omega) only [push_cast, Nat.reduceBEq, Nat.reduceEqDiff, Nat.reduceAdd, Nat.reduceMul, Nat.reduceSub, Nat.reduceLT, Int.reduceToNat, Int.reduceLT, Int.reduceLE, Int.reduceEq, Int.reduceAdd, Int.reduceSub, Int.reduceNeg, Int.reduceMul, hlt]
  refine Ok.use (Sectors_ok hd2) ?_
  rintro v _ ⟨rfl, rfl⟩
  rw [hdl2]
  simp (config := { maxSteps := 3000000 }) (disch := omega) only [push_cast, Nat.reduceBEq, Nat.reduceEqDiff, Nat.reduceAdd, Nat.reduceMul, Nat.reduceSub, Nat.reduceLT, Int.reduceToNat, Int.reduceLT, Int.reduceLE, Int.reduceEq, Int.reduceAdd, Int.reduceSub, Int.reduceNeg, Int.reduceMul, hlt2]
  refine Ok.use (Size_ok hd2) ?_
  rintro v _ ⟨rfl, rfl⟩
  rw [hsz2]
  have ht0 : ls[t]? = some (ls[t]'(by omega)) := List.getElem?_eq_getElem _
  obtain ⟨l, hl⟩ : ∃ l, l = ls[t]'(by omega) := ⟨_, rfl⟩
  rw [← hl] at ht0
  obtain ⟨gb, go, ea, ec, rfl, hcell, hsl⟩ := hv2.at_ ht0
  have hgd : ls.getD t [] = l := by rw [List.getD_eq_getElem?_getD, ht0]; rfl
  have hnew : Blk (w2.alloc (.cells (List.replicate sz (Value.int .u8 0)).toArray 5 (0, 0))) w2.heap.size (zRow sz l 0) 5 := by rw [zRow_zero]; exact Blk.new
  have hal : Upd (fun _ => False) w2 (w2.alloc (.cells (List.replicate sz (Value.int .u8 0)).toArray 5 (0, 0))) := Upd.alloc
  simp (config := { maxSteps := 3000000 }) (disch := omega) only [push_cast, Nat.reduceBEq, Nat.reduceEqDiff, Nat.reduceAdd, Nat.reduceMul, Nat.reduceSub, Nat.reduceLT, Int.reduceToNat, Int.reduceLT, Int.reduceLE, Int.reduceEq, Int.reduceAdd, Int.reduceSub, Int.reduceNeg, Int.reduceMul]
  generalize (w2.alloc (.cells (List.replicate sz (Value.int .u8 0)).toArray 5 (0, 0))) = w3 at *
  obtain ⟨nb, hnb⟩ : ∃ nb, nb = w2.heap.size := ⟨_, rfl⟩
  rw [← hnb] at hnew ⊢
  refine loop_inv (I := fun k st w' => Bx (∃ j, k + j = min l.length sz ∧ st = [.int .i64 ((j : Nat) : Int)] ∧ Blk w' nb (zRow sz l j) 5 ∧ Upd (fun x => x = nb) w3 w') ⟨⟩) ?_ (min l.length sz)
    ⟨0, by omega, rfl, hnew, Upd.refl⟩
  clear hnew
  rintro k' st w4 ⟨j, hk', rfl, hb4, hu34⟩
  have hu24 : Upd (fun _ => False) w2 w4 := hal.trans hu34 fun x hx e => by omega
  have hcell4 : w4.cell? ⟨gb, go + t, none⟩ = some (.slice ea l.length ec) := cell_upd hcell hu24 fun h => h
  have hsl4 := hsl.upd hu24 fun _ h => h.elim
  by_cases hk0 : k' = 0
  · obtain rfl : j = min l.length sz := by omega
    rw [zRow_end] at hb4
    have fin : Okk (den Tryd.prog 25 #[.pointer (some ⟨p, 0, none⟩), .int .i64 ((t : Nat) : Int), .slice (some ⟨nb, 0, none⟩) sz sz] w4) fun x => x.1 = .int .i64 0 ∧ ∃ d' D', IsDisk x.2 D' p d' ∧ (∀ b, D' b → w.heap.size ≤ b) ∧ Fresh N sz (t + 1) d' ∧ M64 N sz ls = (runOps d' ((ops64 N sz ls).drop (t + 1) ++ [none])).1 ∧ Upd (fun _ => False) w x.2 := by
      have hwl := wr64_len (sz := sz) (i := t) (ls := ls)
      have hck : SlB w4 D (.slice (some ⟨nb, 0, none⟩) sz sz) (wr64 sz ls t) := by
        have := slb_new (l := wr64 sz ls t) (by rw [wr64, hgd]; exact hb4) (c := sz) (F := D) (fun hd => by have := hd2.bd nb hd; omega)
        rw [hwl] at this
        exact this
      have hw := hf2.write (x := t) (l := wr64 sz ls t) (by omega) hwl (wr64_rng hr)
      refine Ok.use (write_ok (hd2.upd hu24 fun _ _ h => h) (by omega) (by have := hf2.wf.sz.few; omega) hf2.wf.sz.cnt (t : Int) hck) ?_
      rintro v w5 ⟨rfl, hd5, hu5⟩
      refine ⟨by rw [hw.2], _, gr D w4 w5, hd5, fun b hb => hb.elim (hD2 b) fun h => by have := hu2.size; have := hu24.size; have := h.1; omega, hw.1, ?_, (hu2.trans hu24 fun _ _ h => h).trans hu5 fun b hb h => by have := hD2 b h; omega⟩
      rw [hops2, ops64_drop (by omega), List.cons_append, runOps_ok (show (d.op (some (t, wr64 sz ls t))).2 = 0 from hw.2)]
      rfl
    rcases Nat.le_total sz l.length with hh | hh
    · have hge : ¬ ((min l.length sz : Nat) : Int) < (sz : Int) := by omega
      obtain ⟨z, hz⟩ : ∃ z, z = min l.length sz := ⟨_, rfl⟩
      rw [← hz] at hge ⊢
      simp (config := { maxSteps := 3000000 }) (disch := omega) only [push_cast, Nat.reduceBEq, Nat.reduceEqDiff, Nat.reduceAdd, Nat.reduceMul, Nat.reduceSub, Nat.reduceLT, Int.reduceToNat, Int.reduceLT, Int.reduceLE, Int.reduceEq, Int.reduceAdd, Int.reduceSub, Int.reduceNeg, Int.reduceMul, hge]
      refine Okk.mono fin ?_
      rintro ⟨v, w5⟩ ⟨rfl, d', D', q1, q2, q3, q4, q5⟩
      simp (config := { maxSteps := 3000000 }) (disch := omega) only [push_cast, Nat.reduceBEq, Nat.reduceEqDiff, Nat.reduceAdd, Nat.reduceMul, Nat.reduceSub, Nat.reduceLT, Int.reduceToNat, Int.reduceLT, Int.reduceLE, Int.reduceEq, Int.reduceAdd, Int.reduceSub, Int.reduceNeg, Int.reduceMul]
      exact ⟨k - 1, by omega, t + 1, d', D', by omega, by simp, q1, q2, q3, q4, q5⟩
    · have hge2 : ¬ ((min l.length sz : Nat) : Int) < (l.length : Int) := by omega
      by_cases hh2 : l.length < sz
      · have hge : ((min l.length sz : Nat) : Int) < (sz : Int) := by omega
        obtain ⟨z, hz⟩ : ∃ z, z = min l.length sz := ⟨_, rfl⟩
        rw [← hz] at hge hge2 ⊢
        simp (config := { maxSteps := 3000000 }) (disch := omega) only [push_cast, Nat.reduceBEq, Nat.reduceEqDiff, Nat.reduceAdd, Nat.reduceMul, Nat.reduceSub, Nat.reduceLT, Int.reduceToNat, Int.reduceLT, Int.reduceLE, Int.reduceEq, Int.reduceAdd, Int.reduceSub, Int.reduceNeg, Int.reduceMul, hge, hge2, hcell4]
        refine Okk.mono fin ?_
        rintro ⟨v, w5⟩ ⟨rfl, d', D', q1, q2, q3, q4, q5⟩
        simp (config := { maxSteps := 3000000 }) (disch := omega) only [push_cast, Nat.reduceBEq, Nat.reduceEqDiff, Nat.reduceAdd, Nat.reduceMul, Nat.reduceSub, Nat.reduceLT, Int.reduceToNat, Int.reduceLT, Int.reduceLE, Int.reduceEq, Int.reduceAdd, Int.reduceSub, Int.reduceNeg, Int.reduceMul]
        exact ⟨k - 1, by omega, t + 1, d', D', by omega, by simp, q1, q2, q3, q4, q5⟩
      · have hge : ¬ ((min l.length sz : Nat) : Int) < (sz : Int) := by omega
        obtain ⟨z, hz⟩ : ∃ z, z = min l.length sz := ⟨_, rfl⟩
        rw [← hz] at hge ⊢
        simp (config := { maxSteps := 3000000 }) (disch := omega) only [push_cast, Nat.reduceBEq, Nat.reduceEqDiff, Nat.reduceAdd, Nat.reduceMul, Nat.reduceSub, Nat.reduceLT, Int.reduceToNat, Int.reduceLT, Int.reduceLE, Int.reduceEq, Int.reduceAdd, Int.reduceSub, Int.reduceNeg, Int.reduceMul, hge]
        refine Okk.mono fin ?_
        rintro ⟨v, w5⟩ ⟨rfl, d', D', q1, q2, q3, q4, q5⟩
        simp (config := { maxSteps := 3000000 }) (disch := omega) only [push_cast, Nat.reduceBEq, Nat.reduceEqDiff, Nat.reduceAdd, Nat.reduceMul, Nat.reduceSub, Nat.reduceLT, Int.reduceToNat, Int.reduceLT, Int.reduceLE, Int.reduceEq, Int.reduceAdd, Int.reduceSub, Int.reduceNeg, Int.reduceMul]
        exact ⟨k - 1, by omega, t + 1, d', D', by omega, by simp, q1, q2, q3, q4, q5⟩
  have j1 : ((j : Nat) : Int) < (sz : Int) := by omega
  have j2 : ((j : Nat) : Int) < (l.length : Int) := by omega
  have hx : l[j]? = some (l[j]'(by omega)) := List.getElem?_eq_getElem _
  generalize l[j]'(by omega) = x at *
  obtain ⟨_, _, e, hli⟩ := hsl4
  injection e with e1 e2 e3
  obtain ⟨lb, lo, e4, hlies, _⟩ := hli (by intro h; rw [h] at hx; simp at hx)
  rw [← e1] at e4
  subst e4
  have hxc := hlies j (by rw [by8_length]; omega)
  rw [by8, List.getElem?_map, hx] at hxc
  simp only [Option.map_some] at hxc
  have hat := zRow_at (sz := sz) (m := l) (t := j) (by omega) (by omega)
  have hset := zRow_set (sz := sz) (m := l) (t := j) (by omega) hx
  simp (config := { maxSteps := 3000000 }) (disch := omega) only [push_cast, Nat.reduceBEq, Nat.reduceEqDiff, Nat.reduceAdd, Nat.reduceMul, Nat.reduceSub, Nat.reduceLT, Int.reduceToNat, Int.reduceLT, Int.reduceLE, Int.reduceEq, Int.reduceAdd, Int.reduceSub, Int.reduceNeg, Int.reduceMul, j1, j2, hcell4, hxc, hb4.cell, hb4.free, hat]
  exact ⟨k' - 1, by omega, j + 1, by omega, by simp, by rw [← hset]; exact hb4.set j _, hu34.setIn rfl⟩
end Go.Proofs.YtkceoefmhppddaaDoor.Fd
