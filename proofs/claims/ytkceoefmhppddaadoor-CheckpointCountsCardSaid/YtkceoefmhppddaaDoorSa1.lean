/-
  The specification's Saves; two disks.
-/
import Derived.Test.YtkceoefmhppddaaDoorSl1
namespace Go.Proofs.YtkceoefmhppddaaDoor.Fd
set_option linter.unusedSimpArgs false
set_option linter.unusedVariables false
open Go
set_option maxRecDepth 100000
def cell2 (x : Int × Value) : List Value := [.int .i64 x.1, x.2]
theorem cell2_len : ∀ {l : List (Int × Value)}, (l.flatMap cell2).length = 2 * l.length
  | [] => rfl
  | x :: l => by rw [List.flatMap_cons, List.length_append, cell2_len (l := l), List.length_cons]; show 2 + _ = _; omega
theorem cell2_at : ∀ {l : List (Int × Value)} {j : Nat} {x : Int × Value}, l[j]? = some x → (l.flatMap cell2)[j * 2]? = some (.int .i64 x.1) ∧ (l.flatMap cell2)[j * 2 + 1]? = some x.2
  | [], j, x, h => by simp at h
  | y :: l, 0, x, h => by
    simp at h
    subst h
    exact ⟨rfl, rfl⟩
  | y :: l, j + 1, x, h => by
    rw [List.getElem?_cons_succ] at h
    have := cell2_at h
    rw [List.flatMap_cons]
    have e1 : (cell2 y).length = 2 := rfl
    rw [List.getElem?_append_right (by rw [e1]; omega), List.getElem?_append_right (by rw [e1]; omega), e1, show (j + 1) * 2 - 2 = j * 2 by omega, show (j + 1) * 2 + 1 - 2 = j * 2 + 1 by omega]
    exact this
/-- A row of writes of one's own. -/
def RowW (w : World) (F : Nat → Prop) (v : Value) (ops : List (Int × List Int)) : Prop := ∃ us : List (Int × Value), w.ownsRow 0 45 2 v us.length (us.flatMap cell2) ∧ us.length = ops.length ∧
  (∀ (j : Nat) (u : Int × Value) (x : Int × List Int), us[j]? = some u → ops[j]? = some x → u.1 = x.1 ∧ SlB w (fun b => F b ∨ v.ownBlock = some b) u.2 x.2) ∧ ∀ g, v.ownBlock = some g → ¬ F g
theorem RowW.go {w w' : World} {F F' G : Nat → Prop} {v : Value} {ops : List (Int × List Int)} (h : RowW w F v ops) (hu : Upd G w w') (hG : ∀ b, b < w.heap.size → G b ∨ F' b → F b) : RowW w' F' v ops := by
  obtain ⟨us, h1, h2, h3, h4⟩ := h
  refine ⟨us, ownsRow_upd h1 hu fun g hg h => h4 g hg (hG g (World.ownsRow.lt h1 g hg).2 (.inl h)), h2, fun j u x hu2 hl => ⟨(h3 j u x hu2 hl).1, (h3 j u x hu2 hl).2.go hu fun b hb h => ?_⟩, fun g hg h => h4 g hg (hG g (World.ownsRow.lt h1 g hg).2 (.inr h))⟩
  rcases h with h | h | h
  · exact .inl (hG b hb (.inl h))
  · exact .inl (hG b hb (.inr h))
  · exact .inr h
theorem RowW.form {w : World} {F : Nat → Prop} {v : Value} {ops : List (Int × List Int)} (h : RowW w F v ops) : ∃ a c, v = .slice a ops.length c := by
  obtain ⟨us, h1, h2, _⟩ := h
  obtain ⟨a, c, hv⟩ := own_slice h1
  exact ⟨a, c, by rw [← h2]; exact hv⟩
theorem RowW.lt {w : World} {F : Nat → Prop} {v : Value} {ops : List (Int × List Int)} (h : RowW w F v ops) {g : Nat} (hg : v.ownBlock = some g) : g < w.heap.size := by
  obtain ⟨us, h1, _⟩ := h
  exact (World.ownsRow.lt h1 g hg).2
/-- A slice of writes that can be read. -/
def SlW (w : World) (F : Nat → Prop) (v : Value) (ops : List (Int × List Int)) : Prop := ∃ a c, v = .slice a ops.length c ∧ ∀ j x, ops[j]? = some x → ∃ b o u, a = some ⟨b, o, none⟩ ∧ w.cell? ⟨b, o + j * 2, none⟩ = some (.int .i64 x.1) ∧ w.cell? ⟨b, o + j * 2 + 1, none⟩ = some u ∧ SlB w F u x.2 ∧ ¬ F b
theorem RowW.slw {w : World} {F : Nat → Prop} {v : Value} {ops : List (Int × List Int)} (h : RowW w F v ops) : SlW w F v ops := by
  obtain ⟨us, h1, h2, h3, h4⟩ := h
  rcases h1.2 with ⟨rfl, h0⟩ | ⟨g, cap, cur, rfl, _, hg, _, _, _, htake⟩
  · have : ops = [] := List.eq_nil_of_length_eq_zero (by omega)
    subst this
    exact ⟨none, 0, rfl, fun j x hj => by simp at hj⟩
  · refine ⟨_, cap, by rw [h2], fun j x hj => ?_⟩
    have hjl := (List.getElem?_eq_some_iff.1 hj).1
    have hju : us[j]? = some (us[j]'(by omega)) := List.getElem?_eq_getElem _
    obtain ⟨q1, q2⟩ := h3 j _ x hju hj
    have hB : Blk w g cur.toList 45 := by show _ = _; rw [hg]
    obtain ⟨r1, r2⟩ := cell2_at hju
    have hlen := cell2_len (l := us)
    have hget : ∀ i, i < us.length * 2 → cur.toList[i]? = (us.flatMap cell2)[i]? := fun i hi => by
      conv => rhs; rw [← htake]
      rw [List.getElem?_take_of_lt (by omega)]
    refine ⟨g, 0, _, rfl, ?_, ?_, q2.mono fun b _ h => .inl h, h4 g rfl⟩
    · rw [hB.cell, Nat.zero_add, hget _ (by omega), r1, q1]
    · rw [hB.cell, Nat.zero_add, hget _ (by omega), r2]
theorem app_rowW {w : World} {F : Nat → Prop} {v : Value} {ops : List (Int × List Int)} (h : RowW w F v ops) {b c : Nat} {news : List (Int × Value)} {nops : List (Int × List Int)} (hb : Blk w b (news.flatMap cell2) 45) (hl : news.length = nops.length)
    (hels : ∀ (j : Nat) (u : Int × Value) (x : Int × List Int), news[j]? = some u → nops[j]? = some x → u.1 = x.1 ∧ SlB w (fun b => F b ∨ v.ownBlock = some b) u.2 x.2) (hlen : ops.length + nops.length ≤ 1000000) (hF : ∀ b, F b → b < w.heap.size) {ty : TypeId}
    {K : Value × World → Prop} (hk : ∀ v' w', RowW w' F v' (ops ++ nops) → Upd (fun b => v.ownBlock = some b) w w' → (∀ g, v'.ownBlock = some g → v.ownBlock = some g ∨ (w.heap.size ≤ g ∧ g < w'.heap.size)) → K (v', w')) :
    Okk (appS Tryd.prog #[42, 42] ty v (.slice (some ⟨b, 0, none⟩) news.length c) w) K := by
  obtain ⟨us, h1, h2, h3, h4⟩ := h
  have hk0 : Tryd.prog.underlying 42 = some (.slice 45) := Tryd.underlying42
  have hone : ∀ u ∈ news.flatMap cell2, u.oneCell' = true := by
    intro u hu
    obtain ⟨x, hx, hux⟩ := List.mem_flatMap.1 hu
    obtain ⟨j, hj⟩ := List.mem_iff_getElem?.1 hx
    have hjl := (List.getElem?_eq_some_iff.1 hj).1
    obtain ⟨_, q⟩ := hels j x _ hj (List.getElem?_eq_getElem (by omega : j < nops.length))
    obtain ⟨a, cc, e, _⟩ := q
    rcases List.mem_cons.1 hux with e2 | e2
    · rw [e2]; rfl
    · rw [List.mem_singleton] at e2
      rw [e2, e]; rfl
  have src : Src Tryd.prog 2 42 (.slice (some ⟨b, 0, none⟩) news.length c) news.length (news.flatMap cell2) w :=
    Src.ofSlice w hk0 ⟨b, 0, none⟩ news.length c (news.flatMap cell2) (by rw [cell2_len, Nat.mul_comm]) (fun j u hj => by
      rw [← hj, ← hb.cell j]
      congr 1
      unfold Addr.add
      split
      · rename_i h0; rw [h0]
      · simp) hone
  refine app_src (by_ := 32) t42_e t45_s t45_b t45_z rfl (by omega) h1 src (by omega) (by unfold maxLen; omega) ?_
  intro v' w' g1 g2 g3
  have hlt : ∀ g, v.ownBlock = some g → g < w.heap.size := fun g hg => (World.ownsRow.lt h1 g hg).2
  have mv : ∀ {u : Value} {l : List Int}, SlB w (fun b => F b ∨ v.ownBlock = some b) u l → SlB w' (fun b => F b ∨ v'.ownBlock = some b) u l := by
    intro u l hs
    refine hs.go g2 fun b hb h => ?_
    rcases h with h | h | h
    · exact .inr h
    · exact .inl h
    · rcases g3 b h with h | h
      · exact .inr h
      · omega
  refine hk v' w' ⟨us ++ news, by rw [List.length_append, List.flatMap_append]; exact g1, by rw [List.length_append, List.length_append, h2, hl], fun j u x hj hx => ?_, fun g hg hFg => ?_⟩ g2 g3
  · by_cases hj2 : j < us.length
    · rw [List.getElem?_append_left hj2] at hj
      rw [List.getElem?_append_left (by omega)] at hx
      exact ⟨(h3 j u x hj hx).1, mv (h3 j u x hj hx).2⟩
    · rw [List.getElem?_append_right (by omega)] at hj
      rw [List.getElem?_append_right (by omega)] at hx
      rw [h2] at hj
      exact ⟨(hels _ u x hj hx).1, mv (hels _ u x hj hx).2⟩
  · rcases g3 g hg with h | h
    · exact h4 g h hFg
    · have := hF g hFg; omega
def savesP (sz start : Nat) (b : List Int) (g : Nat) : List (Int × List Int) :=
  [((start : Int), List.replicate sz 0), (-1, [])] ++ (List.range (nch sz b.length)).map (fun i => (((start + 1 + i : Nat) : Int), chunk sz b i)) ++ [(-1, []), ((start : Int), hdrP sz b g), (-1, [])]
theorem bld_w1 (x : Int) (w : World) : bldS Tryd.prog 45 #[(0, .int .i64 x)] w = some (.agg #[.int .i64 x, .slice none 0 0], w) := by kernel_rfl
theorem bld_w2 (x : Int) (a : Option Addr) (n c : Nat) (w : World) : bldS Tryd.prog 45 #[(0, .int .i64 x), (1, .slice a n c)] w = some (.agg #[.int .i64 x, .slice a n c], w) := by kernel_rfl
theorem bsl_w1 (x : Int) (a : Option Addr) (n c : Nat) (w : World) : bslS Tryd.prog 42 1 #[(0, .agg #[.int .i64 x, .slice a n c])] w = some (.slice (some ⟨w.heap.size, 0, none⟩) 1 1, w.alloc (.cells [.int .i64 x, .slice a n c].toArray 45 (0, 0))) := by kernel_rfl
theorem bsl_w2 (x y : Int) (a a' : Option Addr) (n c n' c' : Nat) (w : World) : bslS Tryd.prog 42 2 #[(0, .agg #[.int .i64 x, .slice a n c]), (1, .agg #[.int .i64 y, .slice a' n' c'])] w = some (.slice (some ⟨w.heap.size, 0, none⟩) 2 2, w.alloc (.cells [.int .i64 x, .slice a n c, .int .i64 y, .slice a' n' c'].toArray 45 (0, 0))) := by kernel_rfl
theorem bsl_w3 (x y z : Int) (a a' a'' : Option Addr) (n c n' c' n'' c'' : Nat) (w : World) : bslS Tryd.prog 42 3 #[(0, .agg #[.int .i64 x, .slice a n c]), (1, .agg #[.int .i64 y, .slice a' n' c']), (2, .agg #[.int .i64 z, .slice a'' n'' c''])] w = some (.slice (some ⟨w.heap.size, 0, none⟩) 3 3, w.alloc (.cells [.int .i64 x, .slice a n c, .int .i64 y, .slice a' n' c', .int .i64 z, .slice a'' n'' c''].toArray 45 (0, 0))) := by kernel_rfl
attribute [push_cast] bld_w1 bld_w2 bsl_w1 bsl_w2 bsl_w3
set_option maxHeartbeats 4000000 in
theorem rSaves_ok {w : World} {y : Value} {b : List Int} (hy : SlB w (fun b => w.heap.size ≤ b) y b) (hl : b.length ≤ 2000) (hr : Rng b) {g : Nat} (hg : g < 2 ^ 63) {start sz : Nat} (hs : start ≤ 1000) (hz : 64 ≤ sz ∧ sz ≤ 96) :
    Ok (den Tryd.prog 24 #[y, .int .i64 (g : Int), .int .i64 (start : Int), .int .i64 (sz : Int)] w) fun v w' => RowW w' (fun b => b < w.heap.size) v (savesP sz start b g) ∧ Upd (fun _ => False) w w' := by
  obtain ⟨ya, yc, rfl, _⟩ := id hy
  have hq : Blk (((w.alloc (.cells [.int .i64 0, .slice none 0 0].toArray 45 (0, 0))).setCell ⟨w.heap.size, 0, none⟩ (.int .i64 (-1))).setCell ⟨w.heap.size, 1, none⟩ (.slice none 0 0)) w.heap.size [.int .i64 (-1), .slice none 0 0] 45 := ((Blk.new (w := w) (cs := [.int .i64 0, .slice none 0 0]) (E := 45)).set 0 (.int .i64 (-1))).set 1 (.slice none 0 0)
  have hu1 : Upd (fun _ => False) w (((w.alloc (.cells [.int .i64 0, .slice none 0 0].toArray 45 (0, 0))).setCell ⟨w.heap.size, 0, none⟩ (.int .i64 (-1))).setCell ⟨w.heap.size, 1, none⟩ (.slice none 0 0)) := Upd.alloc.trans ((Upd.set (F := fun x => x = w.heap.size) rfl).setIn rfl) fun x hx e => by omega
  have hs1 : (((w.alloc (.cells [.int .i64 0, .slice none 0 0].toArray 45 (0, 0))).setCell ⟨w.heap.size, 0, none⟩ (.int .i64 (-1))).setCell ⟨w.heap.size, 1, none⟩ (.slice none 0 0)).heap.size = w.heap.size + 1 := by rw [size_set, size_set, size_alloc]
  refine den_ok (args := [.slice ya b.length yc, .int .i64 (g : Int), .int .i64 (start : Int), .int .i64 (sz : Int)]) rs24 Tryd.func24 rfl mixed in24 ok24 rfl ?_
  have hqa := hq.alloc (.cells (List.replicate sz (Value.int .u8 0)).toArray 5 (0, 0))
  have hqd := hqa.drew
  have hs2 : ((((w.alloc (.cells [.int .i64 0, .slice none 0 0].toArray 45 (0, 0))).setCell ⟨w.heap.size, 0, none⟩ (.int .i64 (-1))).setCell ⟨w.heap.size, 1, none⟩ (.slice none 0 0)).alloc (.cells (List.replicate sz (Value.int .u8 0)).toArray 5 (0, 0))).heap.size = w.heap.size + 2 := by rw [size_alloc, hs1]
  have hzb : Blk ((((w.alloc (.cells [.int .i64 0, .slice none 0 0].toArray 45 (0, 0))).setCell ⟨w.heap.size, 0, none⟩ (.int .i64 (-1))).setCell ⟨w.heap.size, 1, none⟩ (.slice none 0 0)).alloc (.cells (List.replicate sz (Value.int .u8 0)).toArray 5 (0, 0))) (w.heap.size + 1) (by8 (List.replicate sz 0)) 5 := by
    have := Blk.new (w := (((w.alloc (.cells [.int .i64 0, .slice none 0 0].toArray 45 (0, 0))).setCell ⟨w.heap.size, 0, none⟩ (.int .i64 (-1))).setCell ⟨w.heap.size, 1, none⟩ (.slice none 0 0))) (cs := List.replicate sz (.int .u8 0)) (E := 5)
    rw [hs1] at this
    rw [by8_zeros]
    exact this
  have hrow : Blk (((((w.alloc (.cells [.int .i64 0, .slice none 0 0].toArray 45 (0, 0))).setCell ⟨w.heap.size, 0, none⟩ (.int .i64 (-1))).setCell ⟨w.heap.size, 1, none⟩ (.slice none 0 0)).alloc (.cells (List.replicate sz (Value.int .u8 0)).toArray 5 (0, 0))).alloc (.cells [.int .i64 (start : Int), .slice (some ⟨w.heap.size + 1, 0, none⟩) sz sz, .int .i64 (-1), .slice none 0 0].toArray 45 (0, 0))).drew (w.heap.size + 1 + 1) [.int .i64 (start : Int), .slice (some ⟨w.heap.size + 1, 0, none⟩) sz sz, .int .i64 (-1), .slice none 0 0] 45 := by
    have := (Blk.new (w := ((((w.alloc (.cells [.int .i64 0, .slice none 0 0].toArray 45 (0, 0))).setCell ⟨w.heap.size, 0, none⟩ (.int .i64 (-1))).setCell ⟨w.heap.size, 1, none⟩ (.slice none 0 0)).alloc (.cells (List.replicate sz (Value.int .u8 0)).toArray 5 (0, 0)))) (cs := [.int .i64 (start : Int), .slice (some ⟨w.heap.size + 1, 0, none⟩) sz sz, .int .i64 (-1), .slice none 0 0]) (E := 45)).drew
    rw [hs2] at this
    exact this
  have hu23 : Upd (fun _ => False) ((((w.alloc (.cells [.int .i64 0, .slice none 0 0].toArray 45 (0, 0))).setCell ⟨w.heap.size, 0, none⟩ (.int .i64 (-1))).setCell ⟨w.heap.size, 1, none⟩ (.slice none 0 0)).alloc (.cells (List.replicate sz (Value.int .u8 0)).toArray 5 (0, 0))) (((((w.alloc (.cells [.int .i64 0, .slice none 0 0].toArray 45 (0, 0))).setCell ⟨w.heap.size, 0, none⟩ (.int .i64 (-1))).setCell ⟨w.heap.size, 1, none⟩ (.slice none 0 0)).alloc (.cells (List.replicate sz (Value.int .u8 0)).toArray 5 (0, 0))).alloc (.cells [.int .i64 (start : Int), .slice (some ⟨w.heap.size + 1, 0, none⟩) sz sz, .int .i64 (-1), .slice none 0 0].toArray 45 (0, 0))).drew := (Upd.alloc (F := fun _ => False)).drew'
  have hu3 : Upd (fun _ => False) w (((((w.alloc (.cells [.int .i64 0, .slice none 0 0].toArray 45 (0, 0))).setCell ⟨w.heap.size, 0, none⟩ (.int .i64 (-1))).setCell ⟨w.heap.size, 1, none⟩ (.slice none 0 0)).alloc (.cells (List.replicate sz (Value.int .u8 0)).toArray 5 (0, 0))).alloc (.cells [.int .i64 (start : Int), .slice (some ⟨w.heap.size + 1, 0, none⟩) sz sz, .int .i64 (-1), .slice none 0 0].toArray 45 (0, 0))).drew := (hu1.trans (Upd.alloc (F := fun _ => False)) fun _ _ h => h).trans hu23 fun _ _ h => h
  have hz3 := hzb.upd hu23 fun h => h
  have hq3 := hqa.upd hu23 fun h => h
  simp (config := { maxSteps := 3000000 }) (disch := omega) only [push_cast, Nat.reduceBEq, Nat.reduceEqDiff, Nat.reduceAdd, Nat.reduceMul, Nat.reduceSub, Nat.reduceLT, Int.reduceToNat, Int.reduceLT, Int.reduceLE, Int.reduceEq, Int.reduceAdd, Int.reduceSub, Int.reduceNeg, Int.reduceMul, hqa.cell, hqd.cell]
  generalize (((((w.alloc (.cells [.int .i64 0, .slice none 0 0].toArray 45 (0, 0))).setCell ⟨w.heap.size, 0, none⟩ (.int .i64 (-1))).setCell ⟨w.heap.size, 1, none⟩ (.slice none 0 0)).alloc (.cells (List.replicate sz (Value.int .u8 0)).toArray 5 (0, 0))).alloc (.cells [.int .i64 (start : Int), .slice (some ⟨w.heap.size + 1, 0, none⟩) sz sz, .int .i64 (-1), .slice none 0 0].toArray 45 (0, 0))).drew = w3 at *
  clear hq hqa hqd hzb hu23 hu1 hs1 hs2
  have hl3 := hrow.lt
  have hR3 : RowW w3 (fun b => b ≤ w.heap.size) (.slice (some ⟨w.heap.size + 1 + 1, 0, none⟩) 2 2) ([((start : Int), List.replicate sz 0), (-1, [])] ++ (List.range 0).map fun i => (((start + 1 + i : Nat) : Int), chunk sz b i)) := by
    refine ⟨[((start : Int), .slice (some ⟨w.heap.size + 1, 0, none⟩) sz sz), (-1, .slice none 0 0)], ⟨rfl, .inr ⟨w.heap.size + 1 + 1, 2, _, rfl, by omega, hrow, Nat.le_refl _, by decide, rfl, rfl⟩⟩, rfl, fun j u x hj hx => ?_, fun gg hg => ?_⟩
    · match j, hj, hx with
      | 0, hj, hx =>
        simp at hj hx
        subst hj hx
        refine ⟨rfl, ?_⟩
        have := slb_new hz3 (c := sz) (F := fun b => b ≤ w.heap.size ∨ (Value.slice (some ⟨w.heap.size + 1 + 1, 0, none⟩) 2 2).ownBlock = some b) (fun h => h.elim (fun h => by omega) fun h => by have := ownB h; omega)
        rw [List.length_replicate] at this
        exact this
      | 1, hj, hx =>
        simp at hj hx
        subst hj hx
        exact ⟨rfl, ⟨none, 0, rfl, fun h => absurd rfl h⟩⟩
    · have := ownB hg; omega
  have hnl : nch sz b.length ≤ 40 := by
    have := nch_bound (sz := sz) (len := b.length) (m := 40) (by omega) (by omega)
    exact this
  refine loop_inv (I := fun k st w' => Bx (∃ t v, k + t = nch sz b.length ∧ st = [v, .int .i64 ((t : Nat) : Int)] ∧ RowW w' (fun b => b ≤ w.heap.size) v ([((start : Int), List.replicate sz 0), (-1, [])] ++ (List.range t).map fun i => (((start + 1 + i : Nat) : Int), chunk sz b i)) ∧ Blk w' w.heap.size [.int .i64 (-1), .slice none 0 0] 45 ∧ Upd (fun _ => False) w w') ⟨⟩) ?_ (nch sz b.length)
    ⟨0, _, by omega, rfl, hR3, hq3, hu3⟩
  clear hR3 hq3 hu3 hrow hz3 hl3
  rintro k st w4 ⟨t, v, hk, rfl, hR4, hq4, hu4⟩
  have hy4 := hy.upd hu4 fun _ h => h.elim
  obtain ⟨zt, hzt⟩ : ∃ zt, zt = sz * t := ⟨_, rfl⟩
  have ezt : ((t : Nat) : Int) * (sz : Int) = (zt : Int) := by rw [hzt, Int.natCast_mul, Int.mul_comm]
  have hztb : zt ≤ 96 * 40 := by rw [hzt]; exact Nat.mul_le_mul (by omega) (by omega)
  have hs4 := hu4.size
  by_cases hk0 : k = 0
  · obtain rfl : t = nch sz b.length := by omega
    have hge : ¬ ((zt : Nat) : Int) < (b.length : Int) := fun hh => absurd ((nch_le (by omega)).2 (by omega : sz * nch sz b.length < b.length)) (by omega)
    have hq4d := hq4.drew
    have hud : Upd (fun _ => False) w4 w4.drew := Upd.drew
    have hyd := hy4.upd hud fun _ h => h.elim
    simp (config := { maxSteps := 3000000 }) (disch := omega) only [push_cast, Nat.reduceBEq, Nat.reduceEqDiff, Nat.reduceAdd, Nat.reduceMul, Nat.reduceSub, Nat.reduceLT, Int.reduceToNat, Int.reduceLT, Int.reduceLE, Int.reduceEq, Int.reduceAdd, Int.reduceSub, Int.reduceNeg, Int.reduceMul, ezt, hge, hq4.cell, hq4d.cell]
    refine Ok.use (rHeader_ok hyd (by omega) hg (by omega) (by omega)) ?_
    rintro u w5 hF5
    have hu5 := hF5.upd
    obtain ⟨ua, uc, rfl, _⟩ := hF5.slb (F := fun _ => False) fun _ h => h.elim
    have hq5 := hq4d.upd hu5 fun h => h
    have hq5d := hq5.drew
    simp (config := { maxSteps := 3000000 }) (disch := omega) only [push_cast, Nat.reduceBEq, Nat.reduceEqDiff, Nat.reduceAdd, Nat.reduceMul, Nat.reduceSub, Nat.reduceLT, Int.reduceToNat, Int.reduceLT, Int.reduceLE, Int.reduceEq, Int.reduceAdd, Int.reduceSub, Int.reduceNeg, Int.reduceMul, hq4.cell, hq4d.cell, hq5.cell, hq5d.cell]
    have hv4 : ∀ g, v.ownBlock = some g → g < w4.heap.size := fun g hg => hR4.lt hg
    have hq4l := hq4.lt
    have hRA := hR4.go (F' := fun b => b ≤ w.heap.size) (((hud.trans hu5 fun _ _ h => h).alloc' (o := .cells [.int .i64 (-1), .slice none 0 0, .int .i64 (start : Int), .slice ua (hdrP sz b g).length uc, .int .i64 (-1), .slice none 0 0].toArray 45 (0, 0)))) fun b _ h => h.elim (fun h => h.elim) fun h => h
    have hBn : Blk (w5.alloc (.cells [.int .i64 (-1), .slice none 0 0, .int .i64 (start : Int), .slice ua (hdrP sz b g).length uc, .int .i64 (-1), .slice none 0 0].toArray 45 (0, 0))) w5.heap.size (List.flatMap cell2 [((-1 : Int), Value.slice none 0 0), ((start : Int), .slice ua (hdrP sz b g).length uc), ((-1 : Int), Value.slice none 0 0)]) 45 := Blk.new
    have hd5 := (hF5.slb (F := fun b => b ≤ w.heap.size ∨ v.ownBlock = some b) fun b h => h.elim (fun h => Nat.lt_of_le_of_lt h hq4l) fun h => hv4 b h).upd (Upd.alloc (F := fun _ => False) (o := .cells [.int .i64 (-1), .slice none 0 0, .int .i64 (start : Int), .slice ua (hdrP sz b g).length uc, .int .i64 (-1), .slice none 0 0].toArray 45 (0, 0))) fun _ h => h.elim
    have hu5a : Upd (fun _ => False) w (w5.alloc (.cells [.int .i64 (-1), .slice none 0 0, .int .i64 (start : Int), .slice ua (hdrP sz b g).length uc, .int .i64 (-1), .slice none 0 0].toArray 45 (0, 0))) := ((hu4.trans hud fun _ _ h => h).trans hu5 fun _ _ h => h).alloc'
    have hvn : ∀ g, v.ownBlock = some g → ¬ g ≤ w.heap.size := hR4.choose_spec.2.2.2
    refine app_rowW (nops := [(-1, []), ((start : Int), hdrP sz b g), (-1, [])]) hRA hBn rfl (fun j u x hj hx => ?_) ?_ ?_ ?_
    · match j, hj, hx with
      | 0, hj, hx => 
        simp at hj hx
        subst hj hx
        exact ⟨rfl, ⟨none, 0, rfl, fun h => absurd rfl h⟩⟩
      | 1, hj, hx =>
        simp at hj hx
        subst hj hx
        exact ⟨rfl, hd5⟩
      | 2, hj, hx =>
        simp at hj hx
        subst hj hx
        exact ⟨rfl, ⟨none, 0, rfl, fun h => absurd rfl h⟩⟩
    · simp; omega
    · have := hu5a.size; have := (hud.trans hu5 fun _ _ h => h).size; intro b hb; show b < _; rw [size_alloc]; omega
    intro v6 w6 hR6 hu6 _
    have hq6 := (hq5.alloc (.cells [.int .i64 (-1), .slice none 0 0, .int .i64 (start : Int), .slice ua (hdrP sz b g).length uc, .int .i64 (-1), .slice none 0 0].toArray 45 (0, 0))).upd hu6 fun h => hvn _ h (Nat.le_refl _)
    have hq6d := hq6.drew
    have hfin := hR6.go (F' := fun b => b < w.heap.size) (Upd.refl (F := fun _ => False)) fun b _ h => h.elim (fun h => h.elim) fun h => Nat.le_of_lt h
    have hufin := hu5a.trans hu6 fun b hb h => hvn b h (Nat.le_of_lt hb)
    simp (config := { maxSteps := 3000000 }) (disch := omega) only [push_cast, Nat.reduceBEq, Nat.reduceEqDiff, Nat.reduceAdd, Nat.reduceMul, Nat.reduceSub, Nat.reduceLT, Int.reduceToNat, Int.reduceLT, Int.reduceLE, Int.reduceEq, Int.reduceAdd, Int.reduceSub, Int.reduceNeg, Int.reduceMul, hq6.cell, hq6d.cell, hq5d.cell]
    exact ⟨hfin, hufin⟩
  have hltN : zt < b.length := by rw [hzt]; exact (nch_le (by omega)).1 (by omega)
  have hlt : ((zt : Nat) : Int) < (b.length : Int) := by omega
  have hq4d := hq4.drew
  simp (config := { maxSteps := 3000000 }) (disch := omega) only [push_cast, Nat.reduceBEq, Nat.reduceEqDiff, Nat.reduceAdd, Nat.reduceMul, Nat.reduceSub, Nat.reduceLT, Int.reduceToNat, Int.reduceLT, Int.reduceLE, Int.reduceEq, Int.reduceAdd, Int.reduceSub, Int.reduceNeg, Int.reduceMul, ezt, hlt]
  have hx0 : Blk (w4.alloc (.cells (List.replicate sz (.int .u8 0)).toArray 5 (0, 0))) w4.heap.size (zRow sz (b.drop zt) 0) 5 := by
    rw [zRow_zero]
    exact Blk.new
  refine loop_inv (I := fun k2 st w' => Bx (∃ j, k2 + j = min (b.length - zt) sz ∧ st = [.int .i64 ((j : Nat) : Int)] ∧ Blk w' w4.heap.size (zRow sz (b.drop zt) j) 5 ∧ Upd (fun _ => False) w4 w') ⟨⟩) ?_ (min (b.length - zt) sz)
    ⟨0, by omega, rfl, hx0, Upd.alloc⟩
  rintro k2 st w5 ⟨j, hk2, rfl, hx5, hu5⟩
  have hdl : (b.drop zt).length = b.length - zt := List.length_drop
  have hq4l := hq4.lt
  have hx5l := hx5.lt
  have hs5 := hu5.size
  by_cases hk20 : k2 = 0
  · have hnot : (j : Int) < (sz : Int) → ¬ (zt : Int) + (j : Int) < (b.length : Int) := fun h1 h2 => by omega
    have hj : j = min (b.drop zt).length sz := by omega
    have hx6 : Blk w5 w4.heap.size (by8 (chunk sz b t)) 5 := by
      have := hx5
      rw [hj, zRow_end, hzt] at this
      exact this
    have hv4 : ∀ g, v.ownBlock = some g → g < w4.heap.size := fun g hg => hR4.lt hg
    have hvn : ∀ g, v.ownBlock = some g → ¬ g ≤ w.heap.size := hR4.choose_spec.2.2.2
    have fin : Okk (appS Tryd.prog #[42, 42] 42 v (.slice (some ⟨w5.heap.size, 0, none⟩) 1 1) (w5.alloc (.cells [.int .i64 ((start : Int) + 1 + (t : Int)), .slice (some ⟨w4.heap.size, 0, none⟩) sz sz].toArray 45 (0, 0)))) fun p => RowW p.2 (fun b => b ≤ w.heap.size) p.1 ([((start : Int), List.replicate sz 0), (-1, [])] ++ (List.range (t + 1)).map fun i => (((start + 1 + i : Nat) : Int), chunk sz b i)) ∧ Blk p.2 w.heap.size [.int .i64 (-1), .slice none 0 0] 45 ∧ Upd (fun _ => False) w p.2 := by
      have hRA := hR4.go (F' := fun b => b ≤ w.heap.size) (hu5.alloc' (o := .cells [.int .i64 ((start : Int) + 1 + (t : Int)), .slice (some ⟨w4.heap.size, 0, none⟩) sz sz].toArray 45 (0, 0))) fun b _ h => h.elim (fun h => h.elim) fun h => h
      have hBn : Blk (w5.alloc (.cells [.int .i64 ((start : Int) + 1 + (t : Int)), .slice (some ⟨w4.heap.size, 0, none⟩) sz sz].toArray 45 (0, 0))) w5.heap.size (List.flatMap cell2 [((start : Int) + 1 + (t : Int), Value.slice (some ⟨w4.heap.size, 0, none⟩) sz sz)]) 45 := Blk.new
      have hd5 := slb_new (hx6.alloc (.cells [.int .i64 ((start : Int) + 1 + (t : Int)), .slice (some ⟨w4.heap.size, 0, none⟩) sz sz].toArray 45 (0, 0))) (c := sz) (F := fun b => b ≤ w.heap.size ∨ v.ownBlock = some b) (fun h => h.elim (fun h => by omega) fun h => by have := hv4 _ h; omega)
      rw [chunk_length] at hd5
      refine app_rowW (nops := [(((start + 1 + t : Nat) : Int), chunk sz b t)]) hRA hBn rfl (fun j u x hj hx => ?_) ?_ ?_ ?_
      · match j, hj, hx with
        | 0, hj, hx =>
          simp only [List.getElem?_cons_zero, Option.some.injEq] at hj hx
          subst hj hx
          exact ⟨by simp, hd5⟩
      · simp; omega
      · intro b hb; show b < _; rw [size_alloc]; omega
      intro v6 w6 hR6 hu6 _
      refine ⟨?_, ?_, ?_⟩
      · rw [List.range_succ, List.map_append, ← List.append_assoc]
        exact hR6
      · exact (((hq4.upd hu5 fun h => h).alloc _).upd hu6 fun h => hvn _ h (Nat.le_refl _))
      · exact (((hu4.trans hu5 fun _ _ h => h).alloc' (o := .cells [.int .i64 ((start : Int) + 1 + (t : Int)), .slice (some ⟨w4.heap.size, 0, none⟩) sz sz].toArray 45 (0, 0)))).trans hu6 fun b hb h => hvn b h (Nat.le_of_lt hb)
    by_cases hjz : (j : Int) < (sz : Int)
    · have hn2 := hnot hjz
      simp (config := { maxSteps := 3000000 }) (disch := omega) only [push_cast, Nat.reduceBEq, Nat.reduceEqDiff, Nat.reduceAdd, Nat.reduceMul, Nat.reduceSub, Nat.reduceLT, Int.reduceToNat, Int.reduceLT, Int.reduceLE, Int.reduceEq, Int.reduceAdd, Int.reduceSub, Int.reduceNeg, Int.reduceMul, ezt, hjz, hn2, hq4.cell]
      refine Okk.mono fin ?_
      rintro ⟨v6, w6⟩ ⟨hR6, hq6, hu6⟩
      simp (config := { maxSteps := 3000000 }) (disch := omega) only [push_cast, Nat.reduceBEq, Nat.reduceEqDiff, Nat.reduceAdd, Nat.reduceMul, Nat.reduceSub, Nat.reduceLT, Int.reduceToNat, Int.reduceLT, Int.reduceLE, Int.reduceEq, Int.reduceAdd, Int.reduceSub, Int.reduceNeg, Int.reduceMul]
      exact ⟨k - 1, by omega, t + 1, v6, by omega, by simp, hR6, hq6, hu6⟩
    · simp (config := { maxSteps := 3000000 }) (disch := omega) only [push_cast, Nat.reduceBEq, Nat.reduceEqDiff, Nat.reduceAdd, Nat.reduceMul, Nat.reduceSub, Nat.reduceLT, Int.reduceToNat, Int.reduceLT, Int.reduceLE, Int.reduceEq, Int.reduceAdd, Int.reduceSub, Int.reduceNeg, Int.reduceMul, ezt, hjz]
      refine Okk.mono fin ?_
      rintro ⟨v6, w6⟩ ⟨hR6, hq6, hu6⟩
      simp (config := { maxSteps := 3000000 }) (disch := omega) only [push_cast, Nat.reduceBEq, Nat.reduceEqDiff, Nat.reduceAdd, Nat.reduceMul, Nat.reduceSub, Nat.reduceLT, Int.reduceToNat, Int.reduceLT, Int.reduceLE, Int.reduceEq, Int.reduceAdd, Int.reduceSub, Int.reduceNeg, Int.reduceMul]
      exact ⟨k - 1, by omega, t + 1, v6, by omega, by simp, hR6, hq6, hu6⟩
  have j1 : (j : Int) < (sz : Int) := by omega
  obtain ⟨jj, hjj⟩ : ∃ jj, jj = zt + j := ⟨_, rfl⟩
  have ejj : (zt : Int) + (j : Int) = (jj : Int) := by omega
  have j2 : (jj : Int) < (b.length : Int) := by omega
  have hx : (b.drop zt)[j]? = some ((b.drop zt)[j]'(by omega)) := List.getElem?_eq_getElem _
  generalize (b.drop zt)[j]'(by omega) = x at *
  have hbx : b[jj]? = some x := by rw [← hx, List.getElem?_drop, hjj]
  obtain ⟨_, _, e, hli⟩ := hy4.upd hu5 fun _ h => h.elim
  injection e with e1 e2 e3
  obtain ⟨lb, lo, e4, hlies, _⟩ := hli (by intro h; rw [h] at hbx; simp at hbx)
  rw [← e1] at e4
  subst e4
  have hxc := hlies jj (by rw [by8_length]; omega)
  rw [by8, List.getElem?_map, hbx] at hxc
  simp only [Option.map_some] at hxc
  have hat := zRow_at (sz := sz) (m := b.drop zt) (t := j) (by omega) (by omega)
  have hset := zRow_set (sz := sz) (m := b.drop zt) (t := j) (by omega) hx
  simp (config := { maxSteps := 3000000 }) (disch := omega) only [push_cast, Nat.reduceBEq, Nat.reduceEqDiff, Nat.reduceAdd, Nat.reduceMul, Nat.reduceSub, Nat.reduceLT, Int.reduceToNat, Int.reduceLT, Int.reduceLE, Int.reduceEq, Int.reduceAdd, Int.reduceSub, Int.reduceNeg, Int.reduceMul, ezt, j1, ejj, j2, hxc, hx5.cell, hx5.free, hat]
  exact ⟨k2 - 1, by omega, j + 1, by omega, by simp, by rw [← hset]; exact hx5.set j _, hu5.setNew (Nat.le_refl _)⟩
set_option maxHeartbeats 200000
theorem SlW.go {w w' : World} {F F' G : Nat → Prop} {v : Value} {ops : List (Int × List Int)} (h : SlW w F v ops) (hu : Upd G w w') (hG : ∀ b, b < w.heap.size → G b ∨ F' b → F b) : SlW w' F' v ops := by
  obtain ⟨a, c, rfl, h⟩ := h
  refine ⟨a, c, rfl, fun j x hj => ?_⟩
  obtain ⟨b, o, u, rfl, h1, h2, h3, h4⟩ := h j x hj
  have hb := cell_lt h1
  have hn : ¬ G b := fun hg => h4 (hG b hb (.inl hg))
  exact ⟨b, o, u, rfl, cell_upd h1 hu hn, cell_upd h2 hu hn, h3.go hu hG, fun hg => h4 (hG b hb (.inr hg))⟩
theorem Fresh.writeC {N sz i : Nat} {d : DS} (h : Fresh N sz i d) {x : Nat} {l : List Int} (hx : x < N) (hl : l.length = sz) (a : Nat) : (d.write x l).1.content a = if x = a then l else d.content a := by
  rcases write_cases d h.off (x := x) (l := l) (by rw [h.wf.sz.dur]; exact hx) (by rw [h.wf.sz.size]; exact hl) with ⟨s1, s2, s3, s4, s5, s6⟩ | ⟨s1, s2, s3, s4, s5, s6⟩
  · exact content_snoc s3 s4
  · exact absurd h.cnt s6
theorem open_target {L : Nat → List Int} {first n : Nat} : (openL L first n).target = 1 - (openL L first n).slot ∧ (openL L first n).slot ≤ 1 := by
  unfold CS.target openL
  dsimp only
  generalize hA : slotP (slotSL L first n) = a
  generalize hB : slotP (slotSL L (first + n) n) = b
  cases a with
  | none => cases b <;> simp [newestP]
  | some x =>
    have := (slotP_pos hA).1
    cases b with
    | none => simp [newestP]; omega
    | some y => simp only [newestP]; split <;> simp <;> omega
/-- The contents after some writes. -/
def wrC1 (C : Nat → List Int) (x : Int × List Int) : Nat → List Int := fun a => if x.1 = (a : Int) then x.2 else C a
def wrC (C : Nat → List Int) (ops : List (Int × List Int)) : Nat → List Int := ops.foldl wrC1 C
theorem wrC_append {C : Nat → List Int} {l r : List (Int × List Int)} : wrC C (l ++ r) = wrC (wrC C l) r := List.foldl_append
theorem wrC_take {C : Nat → List Int} {l : List (Int × List Int)} {i : Nat} {x : Int × List Int} (h : l[i]? = some x) : wrC C (l.take (i + 1)) = wrC1 (wrC C (l.take i)) x := by
  obtain ⟨h1, rfl⟩ := List.getElem?_eq_some_iff.1 h
  rw [List.take_succ_eq_append_getElem h1, wrC_append]
  rfl
theorem wrC_chunks {C : Nat → List Int} {sz start : Nat} {b : List Int} {a : Nat} : ∀ {n : Nat}, wrC C ((List.range n).map fun i => (((start + 1 + i : Nat) : Int), chunk sz b i)) a = if start + 1 ≤ a ∧ a < start + 1 + n then chunk sz b (a - (start + 1)) else C a
  | 0 => by rw [if_neg (by omega)]; rfl
  | n + 1 => by
    rw [List.range_succ, List.map_append, wrC_append]
    show wrC1 _ _ a = _
    unfold wrC1
    dsimp only
    by_cases h : start + 1 + n = a
    · rw [if_pos (by omega), if_pos (by omega), show a - (start + 1) = n by omega]
    · rw [if_neg (by omega), wrC_chunks]
      by_cases h2 : start + 1 ≤ a ∧ a < start + 1 + n
      · rw [if_pos h2, if_pos (by omega)]
      · rw [if_neg h2, if_neg (by omega)]
theorem wrC_saves {C : Nat → List Int} {sz start g : Nat} {b : List Int} {a : Nat} :
    wrC C (savesP sz start b g) a = if a = start then hdrP sz b g else if start + 1 ≤ a ∧ a < start + 1 + nch sz b.length then chunk sz b (a - (start + 1)) else C a := by
  unfold savesP
  rw [wrC_append, wrC_append]
  have e3 : ∀ {C : Nat → List Int} {x y z : Int × List Int}, wrC C [x, y, z] = wrC1 (wrC1 (wrC1 C x) y) z := rfl
  have e2 : ∀ {C : Nat → List Int} {x y : Int × List Int}, wrC C [x, y] = wrC1 (wrC1 C x) y := rfl
  have en : ∀ {C : Nat → List Int} {l : List Int}, wrC1 C (-1, l) a = C a := fun {C l} => by unfold wrC1; dsimp only; rw [if_neg (by omega)]
  rw [e3, en]
  by_cases h : a = start
  · rw [if_pos h]; unfold wrC1; dsimp only; rw [if_pos (by omega)]
  · have es : ∀ {C : Nat → List Int} {l : List Int}, wrC1 C ((start : Int), l) a = C a := fun {C l} => by unfold wrC1; dsimp only; rw [if_neg (by omega)]
    rw [if_neg h, es, en, wrC_chunks]
    by_cases h2 : start + 1 ≤ a ∧ a < start + 1 + nch sz b.length
    · rw [if_pos h2, if_pos h2]
    · rw [if_neg h2, if_neg h2, e2, en, es]
theorem saves_mem {sz start g N : Nat} {b : List Int} (hz : 44 ≤ sz) (hN : start + 1 + nch sz b.length ≤ N) (hr : Rng b) : ∀ x, x ∈ savesP sz start b g → x.1 = -1 ∨ ∃ a : Nat, x.1 = (a : Int) ∧ a < N ∧ x.2.length = sz ∧ Rng x.2 := by
  intro x hx
  have hh : (hdrP sz b g).length = sz ∧ Rng (hdrP sz b g) := ⟨hdrP_length hz, hdrP_rng⟩
  rcases List.mem_append.1 hx with hx | hx
  · rcases List.mem_append.1 hx with hx | hx
    · rcases List.mem_cons.1 hx with e | hx
      · exact .inr ⟨start, by rw [e], by omega, by rw [e]; simp, by rw [e]; intro y hy; rw [List.eq_of_mem_replicate hy]; omega⟩
      · rw [List.mem_singleton] at hx
        exact .inl (by rw [hx])
    · obtain ⟨i, hi, e⟩ := List.mem_map.1 hx
      have := List.mem_range.1 hi
      exact .inr ⟨start + 1 + i, by rw [← e], by omega, by rw [← e]; exact chunk_length, by rw [← e]; exact chunk_rng hr⟩
  · rcases List.mem_cons.1 hx with e | hx
    · exact .inl (by rw [e])
    · rcases List.mem_cons.1 hx with e | hx
      · exact .inr ⟨start, by rw [e], by omega, by rw [e]; exact hh.1, by rw [e]; exact hh.2⟩
      · rw [List.mem_singleton] at hx
        exact .inl (by rw [hx])
theorem saves_len {sz start g : Nat} {b : List Int} : (savesP sz start b g).length = nch sz b.length + 5 := by
  simp [savesP]
/-- Another disk has changed. -/
theorem CW.other {w w' : World} {D E : Nat → Prop} {p cb : Nat} {s : DS × CS} (h : CW w D (fun b => b = cb ∨ E b) p cb s) (hu : Upd E w w') (hcb : ¬ E cb) (hE : ∀ b, gr E w w' b → ¬ D b) : CW w' D (fun b => b = cb ∨ gr E w w' b) p cb s := by
  obtain ⟨sv, h1, h2, h3⟩ := h.obj
  have hs := hu.size
  refine ⟨h.disk.upd hu fun b hb he => hE b (.inl he) hb, ⟨sv, h1.upd hu hcb, ⟨h2.1.go hu fun b hb hh => ?_, h2.2⟩, h3⟩, .inl rfl, fun b hb => ⟨?_, ?_⟩, h.kt.upd hu fun h0 => h.k0.2 (.inr h0), h.k0.1, fun h0 => ?_⟩
  · rcases hh with hh | hh | hh | hh | hh
    · exact .inr (.inr hh)
    · exact .inl hh
    · exact .inr (.inl hh)
    · exact .inr (.inr hh)
    · omega
  · rcases hb with hb | hb
    · exact (h.sep b (.inl hb)).1
    · exact hE b hb
  · rcases hb with hb | hb | hb
    · have := (h.sep b (.inl hb)).2; omega
    · have := (h.sep b (.inr hb)).2; omega
    · exact hb.2
  · rcases h0 with h0 | h0 | h0
    · exact h.k0.2 (.inl h0)
    · exact h.k0.2 (.inr h0)
    · have := h.kt.1; omega
theorem CW.two {w : World} {D E : Nat → Prop} {p cb : Nat} {s : DS × CS} (h : CW w (fun b => D b ∨ E b) (fun b => b = cb) p cb s) (hd : IsDisk w D p s.1) (hDE : ∀ b, E b → ¬ D b) (hE : ∀ b, E b → b < w.heap.size) : CW w D (fun b => b = cb ∨ E b) p cb s := by
  obtain ⟨sv, h1, h2, h3⟩ := h.obj
  refine ⟨hd, ⟨sv, h1, ⟨h2.1.mono fun b _ hh => ?_, h2.2⟩, h3⟩, .inl rfl, fun b hb => ⟨fun hD => ?_, ?_⟩, h.kt, fun h0 => h.k0.1 (.inl h0), fun h0 => ?_⟩
  · rcases hh with hh | hh | hh
    · exact .inl (.inl hh)
    · exact .inr hh
    · exact .inl (.inr hh)
  · rcases hb with hb | hb
    · exact (h.sep b hb).1 (.inl hD)
    · exact hDE b hb hD
  · rcases hb with hb | hb
    · exact (h.sep b hb).2
    · exact hE b hb
  · rcases h0 with h0 | h0
    · exact h.k0.2 h0
    · exact h.k0.1 (.inr h0)
end Go.Proofs.YtkceoefmhppddaaDoor.Fd
