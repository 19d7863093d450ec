/-
  Lists of byte strings; split, zeros, Same, Stream.
-/
import Derived.Test.YtlnladcfgieggaaJn5
namespace Go.Proofs.Ytlnladcfgieggaa.Fd
set_option linter.unusedSimpArgs false
set_option linter.unusedVariables false
open Go
set_option maxRecDepth 100000

theorem SlB.go {w w' : World} {F F' G : Nat → Prop} {v : Value} {l : List Int} (h : SlB w F v l) (hu : Upd G w w') (hG : ∀ b, b < w.heap.size → G b ∨ F' b → F b) : SlB w' F' v l := by
  obtain ⟨a, c, hv, hl⟩ := h
  refine ⟨a, c, hv, fun h0 => ?_⟩
  obtain ⟨b, o, h1, h2, h3⟩ := hl h0
  have hb := h2.lt (List.length_pos_iff.2 h0)
  exact ⟨b, o, h1, h2.upd hu hb fun h => h3 (hG b hb (.inl h)), fun h => h3 (hG b hb (.inr h))⟩
theorem SlC.go {w w' : World} {F F' G : Nat → Prop} {v : Value} {l : List Int} (h : SlC w F v l) (hu : Upd G w w') (hG : ∀ b, b < w.heap.size → G b ∨ F' b → F b) : SlC w' F' v l := ⟨h.1.go hu hG, h.2⟩
/-- A slice of byte strings that can be read. -/
def SlR (w : World) (F : Nat → Prop) (v : Value) (ls : List (List Int)) : Prop := ∃ a c, v = .slice a ls.length c ∧ (ls ≠ [] → ∃ b o, a = some ⟨b, o, none⟩ ∧ b < w.heap.size ∧ ¬ F b ∧ ∀ j l, ls[j]? = some l → ∃ u, w.cell? ⟨b, o + j, none⟩ = some u ∧ SlB w F u l)
theorem SlR.go {w w' : World} {F F' G : Nat → Prop} {v : Value} {ls : List (List Int)} (h : SlR w F v ls) (hu : Upd G w w') (hG : ∀ b, b < w.heap.size → G b ∨ F' b → F b) : SlR w' F' v ls := by
  obtain ⟨a, c, hv, hl⟩ := h
  refine ⟨a, c, hv, fun h0 => ?_⟩
  obtain ⟨b, o, h1, h2, h3, h4⟩ := hl h0
  refine ⟨b, o, h1, Nat.lt_of_lt_of_le h2 hu.size, fun h => h3 (hG b h2 (.inr h)), fun j l hj => ?_⟩
  obtain ⟨u, h5, h6⟩ := h4 j l hj
  exact ⟨u, by rw [World.cell?_of_block (hu.block b h2 fun h => h3 (hG b h2 (.inl h)))]; exact h5, h6.go hu hG⟩
theorem SlR.nil {w : World} {F : Nat → Prop} {a : Option Addr} {c : Nat} : SlR w F (.slice a 0 c) [] := ⟨a, c, rfl, fun h => absurd rfl h⟩
theorem SlR.at_ {w : World} {F : Nat → Prop} {a : Option Addr} {n c : Nat} {ls : List (List Int)} (h : SlR w F (.slice a n c) ls) {j : Nat} {l : List Int} (hj : ls[j]? = some l) : ∃ b o ea ec, a = some ⟨b, o, none⟩ ∧ w.cell? ⟨b, o + j, none⟩ = some (.slice ea l.length ec) ∧ SlB w F (.slice ea l.length ec) l := by
  obtain ⟨a', c', hv, hl⟩ := h
  injection hv with e1 e2 e3
  subst e1
  obtain ⟨b, o, h1, h2, h3, h4⟩ := hl (by intro e; rw [e] at hj; simp at hj)
  obtain ⟨u, h5, h6⟩ := h4 j l hj
  obtain ⟨ea, ec, rfl, _⟩ := id h6
  exact ⟨b, o, ea, ec, h1, h5, h6⟩
/-- A row of byte strings of one's own. -/
def RowB (w : World) (F : Nat → Prop) (v : Value) (ls : List (List Int)) : Prop := ∃ us : List Value, w.ownsRow 0 46 1 v us.length us ∧ us.length = ls.length ∧
  (∀ (j : Nat) (u : Value) (l : List Int), us[j]? = some u → ls[j]? = some l → SlB w (fun b => F b ∨ v.ownBlock = some b) u l) ∧ ∀ g, v.ownBlock = some g → ¬ F g
theorem RowB.go {w w' : World} {F F' G : Nat → Prop} {v : Value} {ls : List (List Int)} (h : RowB w F v ls) (hu : Upd G w w') (hG : ∀ b, b < w.heap.size → G b ∨ F' b → F b) : RowB w' F' v ls := by
  obtain ⟨us, h1, h2, h3, h4⟩ := h
  refine ⟨us, ownsRow_upd h1 hu fun g hg h => h4 g hg (hG g (World.ownsRow.lt h1 g hg).2 (.inl h)), h2, fun j u l hu2 hl => (h3 j u l hu2 hl).go hu fun b hb h => ?_, fun g hg h => h4 g hg (hG g (World.ownsRow.lt h1 g hg).2 (.inr h))⟩
  rcases h with h | h | h
  · exact .inl (hG b hb (.inl h))
  · exact .inl (hG b hb (.inr h))
  · exact .inr h
theorem RowB.nil {w : World} {F : Nat → Prop} : RowB w F (.slice none 0 0) [] := ⟨[], World.ownsRow_nil _ _ _ _, rfl, by simp, by simp [Value.ownBlock]⟩
theorem RowB.empty {w : World} {F : Nat → Prop} {g : Nat} (h : Blk w g [] 46) (hF : ¬ F g) : RowB w F (.slice (some ⟨g, 0, none⟩) 0 0) [] :=
  ⟨[], ⟨rfl, .inr ⟨g, 0, #[], rfl, Nat.zero_le _, h, Nat.le_refl _, Nat.zero_le _, rfl, rfl⟩⟩, rfl, by simp, fun g' hg => by rw [← ownB hg]; exact hF⟩
theorem RowB.slr {w : World} {F : Nat → Prop} {v : Value} {ls : List (List Int)} (h : RowB w F v ls) : SlR w F v ls := by
  obtain ⟨us, h1, h2, h3, h4⟩ := h
  rcases h1.2 with ⟨rfl, h0⟩ | ⟨g, cap, cur, rfl, _, hg, _, _, _, htake⟩
  · have : ls = [] := List.eq_nil_of_length_eq_zero (by omega)
    subst this
    exact .nil
  · refine ⟨_, cap, by rw [h2], fun _ => ⟨g, 0, rfl, (Array.getElem?_eq_some_iff.1 hg).1, h4 g rfl, fun j l hj => ?_⟩⟩
    have hjl := (List.getElem?_eq_some_iff.1 hj).1
    have hju : j < us.length := by omega
    refine ⟨us[j], ?_, (h3 j _ l (List.getElem?_eq_getElem hju) hj).mono fun b _ h => .inl h⟩
    have hB : Blk w g cur.toList 46 := by show _ = _; rw [hg]
    have hj2 : cur.toList[j]? = us[j]? := by
      conv => rhs; rw [← htake]
      rw [List.getElem?_take_of_lt (by omega)]
    rw [hB.cell, Nat.zero_add, hj2, List.getElem?_eq_getElem hju]
theorem RowB.form {w : World} {F : Nat → Prop} {v : Value} {ls : List (List Int)} (h : RowB w F v ls) : ∃ a c, v = .slice a ls.length c := by
  obtain ⟨us, h1, h2, _⟩ := h
  obtain ⟨a, c, hv⟩ := own_slice h1
  exact ⟨a, c, by rw [← h2]; exact hv⟩
theorem RowB.lt {w : World} {F : Nat → Prop} {v : Value} {ls : List (List Int)} (h : RowB w F v ls) {g : Nat} (hg : v.ownBlock = some g) : g < w.heap.size := by
  obtain ⟨us, h1, _⟩ := h
  exact (World.ownsRow.lt h1 g hg).2
theorem bsl_b1 (a : Option Addr) (n c : Nat) (w : World) : bslS Try.prog 34 1 #[(0, .slice a n c)] w = some (.slice (some ⟨w.heap.size, 0, none⟩) 1 1, w.alloc (.cells [.slice a n c].toArray 46 (0, 0))) := by kernel_rfl
theorem bsl_b0 (w : World) : bslS Try.prog 34 0 #[] w = some (.slice (some ⟨w.heap.size, 0, none⟩) 0 0, w.alloc (.cells #[] 46 (0, 0))) := by kernel_rfl
attribute [push_cast] bsl_b1 bsl_b0
theorem choose_list {α : Type} {n : Nat} {p : Nat → α → Prop} (h : ∀ i, i < n → ∃ x, p i x) : ∃ l : List α, l.length = n ∧ ∀ i x, l[i]? = some x → p i x := by
  induction n with
  | zero => exact ⟨[], rfl, by simp⟩
  | succ n ih =>
    obtain ⟨l, h1, h2⟩ := ih (fun i hi => h i (by omega))
    obtain ⟨x, hx⟩ := h n (by omega)
    refine ⟨l ++ [x], by simp [h1], fun i y hy => ?_⟩
    rcases Nat.lt_or_ge i n with hi | hi
    · rw [List.getElem?_append_left (by omega)] at hy
      exact h2 i y hy
    · rw [List.getElem?_append_right (by omega)] at hy
      have e : i = n := by
        have := (List.getElem?_eq_some_iff.1 hy).1
        simp at this
        omega
      subst e
      simp [h1] at hy
      subst hy
      exact hx
theorem SlR.src {w : World} {F : Nat → Prop} {y : Value} {ms : List (List Int)} (hy : SlR w F y ms) : ∃ news, Src Try.prog 1 34 y ms.length news w ∧ news.length = ms.length ∧ ∀ (j : Nat) (u : Value) (l : List Int), news[j]? = some u → ms[j]? = some l → SlB w F u l := by
  obtain ⟨a, c, rfl, hl⟩ := hy
  have hk : Try.prog.underlying 34 = some (.slice 46) := Try.underlying34
  by_cases h0 : ms = []
  · subst h0
    refine ⟨[], ?_, rfl, by simp⟩
    cases a with
    | none => exact Src.ofNil w hk c
    | some a => exact Src.ofSlice w hk a 0 c [] rfl (by simp) (by simp)
  · obtain ⟨b, o, rfl, _, _, h4⟩ := hl h0
    obtain ⟨news, n1, n2⟩ := choose_list (n := ms.length) (p := fun j u => w.cell? ⟨b, o + j, none⟩ = some u ∧ (∃ ea en ec, u = .slice ea en ec) ∧ ∀ l, ms[j]? = some l → SlB w F u l) fun i hi => by
      obtain ⟨u, h5, h6⟩ := h4 i _ (List.getElem?_eq_getElem hi)
      obtain ⟨ea, ec, hu, _⟩ := id h6
      exact ⟨u, h5, ⟨ea, _, ec, hu⟩, fun l hl => by rw [List.getElem?_eq_getElem hi] at hl; cases hl; exact h6⟩
    refine ⟨news, Src.ofSlice w hk ⟨b, o, none⟩ ms.length c news (by rw [n1, Nat.mul_one]) (fun j u hj => ?_) (fun u hu => ?_), n1, fun j u l hj hl => (n2 j u hj).2.2 l hl⟩
    · rw [← (n2 j u hj).1]
      congr 1
      unfold Addr.add
      split
      · rename_i h0; rw [h0]; rfl
      · rfl
    · obtain ⟨j, hj⟩ := List.mem_iff_getElem?.1 hu
      obtain ⟨_, ⟨ea, en, ec, rfl⟩, _⟩ := n2 j u hj
      rfl
/-- An append of byte strings that lie somewhere. -/
theorem app_row {w : World} {F : Nat → Prop} {v : Value} {ls : List (List Int)} (h : RowB w F v ls) {y : Value} {ms : List (List Int)} (hy : SlR w (fun b => F b ∨ v.ownBlock = some b) y ms) (hlen : ls.length + ms.length ≤ 1000000) (hF : ∀ b, F b → b < w.heap.size) {ty : TypeId}
    {K : Value × World → Prop} (hk : ∀ v' w', RowB w' F v' (ls ++ ms) → Upd (fun b => v.ownBlock = some b) w w' → (∀ g, v'.ownBlock = some g → v.ownBlock = some g ∨ (w.heap.size ≤ g ∧ g < w'.heap.size)) → K (v', w')) :
    Okk (appS Try.prog #[34, 34] ty v y w) K := by
  obtain ⟨us, h1, h2, h3, h4⟩ := h
  obtain ⟨news, s1, s2, s3⟩ := hy.src
  refine app_src (by_ := 24) t34_e t46_s t46_b t46_z rfl (by omega) h1 s1 (by omega) (by unfold maxLen; omega) ?_
  intro v' w' g1 g2 g3
  have hlt : ∀ g, v.ownBlock = some g → g < w.heap.size := fun g hg => (World.ownsRow.lt h1 g hg).2
  have mv : ∀ {u : Value} {l : List Int}, SlB w (fun b => F b ∨ v.ownBlock = some b) u l → SlB w' (fun b => F b ∨ v'.ownBlock = some b) u l := by
    intro u l hs
    refine hs.go g2 fun b hb h => ?_
    rcases h with h | h | h
    · exact .inr h
    · exact .inl h
    · rcases g3 b h with h | h
      · exact .inr h
      · omega
  refine hk v' w' ⟨us ++ news, by rw [List.length_append, s2]; exact g1, by rw [List.length_append, List.length_append, h2, s2], fun j u l hj hl => mv ?_, fun g hg hFg => ?_⟩ g2 g3
  · by_cases hj2 : j < us.length
    · rw [List.getElem?_append_left hj2] at hj
      rw [List.getElem?_append_left (by omega)] at hl
      exact h3 j u l hj hl
    · rw [List.getElem?_append_right (by omega)] at hj
      rw [List.getElem?_append_right (by omega)] at hl
      rw [h2] at hj
      exact s3 _ u l hj hl
  · rcases g3 g hg with h | h
    · exact h4 g h hFg
    · have := hF g hFg; omega
theorem slr_one {w : World} {F : Nat → Prop} {a : Option Addr} {c : Nat} {l : List Int} (h : SlB w F (.slice a l.length c) l) (hF : ¬ F w.heap.size) : SlR (w.alloc (.cells [.slice a l.length c].toArray 46 (0, 0))) F (.slice (some ⟨w.heap.size, 0, none⟩) 1 1) [l] := by
  refine ⟨_, 1, rfl, fun _ => ⟨w.heap.size, 0, rfl, by rw [size_alloc]; omega, hF, fun j l' hj => ?_⟩⟩
  have hj0 : j = 0 := by have := (List.getElem?_eq_some_iff.1 hj).1; simpa using this
  subst hj0
  simp at hj
  subst hj
  exact ⟨_, (Blk.new (cs := [Value.slice a l.length c])).cell 0, h.go (Upd.alloc (F := fun _ => False)) fun b _ h => h.elim False.elim id⟩
theorem zeros_ok {w : World} {F : Nat → Prop} {v : Value} {l : List Int} (h : SlB w F v l) (hl : l.length ≤ 1000000) : Ok (den Try.prog 61 #[v] w) fun u w' => u = .bool (zer0 l) ∧ Upd (fun _ => False) w w' := by
  obtain ⟨a, c, rfl, hli⟩ := id h
  refine den_ok (args := [.slice a l.length c]) rs61 Try.func61 rfl mixed in61 ok61 rfl ?_
  simp (disch := omega) only [push_cast, Nat.reduceBEq, Nat.reduceEqDiff, Nat.reduceAdd, Nat.reduceMul, Nat.reduceSub, Nat.reduceLT, Int.reduceToNat, Int.reduceLT, Int.reduceLE, Int.reduceEq, Int.reduceAdd, Int.reduceSub, Int.reduceNeg, Int.reduceMul]
  refine loop_inv (I := fun k st w' => Bx (∃ i, k + i = l.length ∧ st = [.int .i64 (i : Int)] ∧ Upd (fun _ => False) w w' ∧ zer0 (l.take i) = true) ⟨⟩) ?_ l.length ⟨0, rfl, rfl, Upd.refl, by simp [zer0]⟩
  rintro k st w' ⟨i, hki, rfl, hu, hz⟩
  by_cases hk0 : k = 0
  · obtain rfl : i = l.length := by omega
    rw [List.take_length] at hz
    simp (disch := omega) only [push_cast, Nat.reduceBEq, Nat.reduceEqDiff, Nat.reduceAdd, Nat.reduceMul, Nat.reduceSub, Nat.reduceLT, Int.reduceToNat, Int.reduceLT, Int.reduceLE, Int.reduceEq, Int.reduceAdd, Int.reduceSub, Int.reduceNeg, Int.reduceMul]
    exact ⟨by rw [hz], hu⟩
  have hi : i < l.length := by omega
  have hx := List.getElem?_eq_getElem hi
  have hxm := List.getElem_mem hi
  generalize l[i] = x at hx hxm
  have q := (h.upd hu (fun _ h => h.elim))
  obtain ⟨a', c', hv, hl2⟩ := q
  injection hv with e1 _ _
  subst e1
  obtain ⟨g, o, rfl, h2, _⟩ := hl2 (by intro e; rw [e] at hi; simp at hi)
  have q0 : w'.cell? ⟨g, o + i, none⟩ = some (.int .u8 x) := by rw [h2 i (by rw [by8_length]; exact hi), by8, List.getElem?_map, hx]; rfl
  by_cases hx0 : x = 0
  · simp (disch := omega) only [push_cast, Nat.reduceBEq, Nat.reduceEqDiff, Nat.reduceAdd, Nat.reduceMul, Nat.reduceSub, Nat.reduceLT, Int.reduceToNat, Int.reduceLT, Int.reduceLE, Int.reduceEq, Int.reduceAdd, Int.reduceSub, Int.reduceNeg, Int.reduceMul, q0]
    refine ⟨k - 1, by omega, i + 1, by omega, by simp, hu, ?_⟩
    rw [zer0, List.take_add_one, hx, List.all_append, ← zer0, hz]
    simp [hx0]
  · simp (disch := omega) only [push_cast, Nat.reduceBEq, Nat.reduceEqDiff, Nat.reduceAdd, Nat.reduceMul, Nat.reduceSub, Nat.reduceLT, Int.reduceToNat, Int.reduceLT, Int.reduceLE, Int.reduceEq, Int.reduceAdd, Int.reduceSub, Int.reduceNeg, Int.reduceMul, q0]
    refine ⟨?_, hu⟩
    have : zer0 l = false := by
      rw [← Bool.not_eq_true]
      intro h
      unfold zer0 at h
      have := List.all_eq_true.1 h x hxm
      simp at this
      exact hx0 this
    rw [this]
theorem rzeros_ok {w : World} {F : Nat → Prop} {v : Value} {l : List Int} (h : SlB w F v l) (hl : l.length ≤ 1000000) : Ok (den Try.prog 54 #[v] w) fun u w' => u = .bool (zer0 l) ∧ Upd (fun _ => False) w w' := by
  obtain ⟨a, c, rfl, hli⟩ := id h
  refine den_ok (args := [.slice a l.length c]) rs54 Try.func54 rfl mixed in54 ok54 rfl ?_
  simp (disch := omega) only [push_cast, Nat.reduceBEq, Nat.reduceEqDiff, Nat.reduceAdd, Nat.reduceMul, Nat.reduceSub, Nat.reduceLT, Int.reduceToNat, Int.reduceLT, Int.reduceLE, Int.reduceEq, Int.reduceAdd, Int.reduceSub, Int.reduceNeg, Int.reduceMul]
  refine loop_inv (I := fun k st w' => Bx (∃ i, k + i = l.length ∧ st = [.int .i64 (i : Int)] ∧ Upd (fun _ => False) w w' ∧ zer0 (l.take i) = true) ⟨⟩) ?_ l.length ⟨0, rfl, rfl, Upd.refl, by simp [zer0]⟩
  rintro k st w' ⟨i, hki, rfl, hu, hz⟩
  by_cases hk0 : k = 0
  · obtain rfl : i = l.length := by omega
    rw [List.take_length] at hz
    simp (disch := omega) only [push_cast, Nat.reduceBEq, Nat.reduceEqDiff, Nat.reduceAdd, Nat.reduceMul, Nat.reduceSub, Nat.reduceLT, Int.reduceToNat, Int.reduceLT, Int.reduceLE, Int.reduceEq, Int.reduceAdd, Int.reduceSub, Int.reduceNeg, Int.reduceMul]
    exact ⟨by rw [hz], hu⟩
  have hi : i < l.length := by omega
  have hx := List.getElem?_eq_getElem hi
  have hxm := List.getElem_mem hi
  generalize l[i] = x at hx hxm
  have q := (h.upd hu (fun _ h => h.elim))
  obtain ⟨a', c', hv, hl2⟩ := q
  injection hv with e1 _ _
  subst e1
  obtain ⟨g, o, rfl, h2, _⟩ := hl2 (by intro e; rw [e] at hi; simp at hi)
  have q0 : w'.cell? ⟨g, o + i, none⟩ = some (.int .u8 x) := by rw [h2 i (by rw [by8_length]; exact hi), by8, List.getElem?_map, hx]; rfl
  by_cases hx0 : x = 0
  · simp (disch := omega) only [push_cast, Nat.reduceBEq, Nat.reduceEqDiff, Nat.reduceAdd, Nat.reduceMul, Nat.reduceSub, Nat.reduceLT, Int.reduceToNat, Int.reduceLT, Int.reduceLE, Int.reduceEq, Int.reduceAdd, Int.reduceSub, Int.reduceNeg, Int.reduceMul, q0]
    refine ⟨k - 1, by omega, i + 1, by omega, by simp, hu, ?_⟩
    rw [zer0, List.take_add_one, hx, List.all_append, ← zer0, hz]
    simp [hx0]
  · simp (disch := omega) only [push_cast, Nat.reduceBEq, Nat.reduceEqDiff, Nat.reduceAdd, Nat.reduceMul, Nat.reduceSub, Nat.reduceLT, Int.reduceToNat, Int.reduceLT, Int.reduceLE, Int.reduceEq, Int.reduceAdd, Int.reduceSub, Int.reduceNeg, Int.reduceMul, q0]
    refine ⟨?_, hu⟩
    have : zer0 l = false := by
      rw [← Bool.not_eq_true]
      intro h
      unfold zer0 at h
      have := List.all_eq_true.1 h x hxm
      simp at this
      exact hx0 this
    rw [this]
theorem u8_inj {x y : Int} (hx : 0 ≤ x ∧ x < 256) (hy : 0 ≤ y ∧ y < 256) (h : UInt8.ofNat x.toNat = UInt8.ofNat y.toNat) : x = y := by
  have := congrArg UInt8.toNat h
  simp at this
  omega
theorem str_inj : ∀ {l m : List Int}, Rng l → Rng m → (l.map fun n => UInt8.ofNat n.toNat) = m.map (fun n => UInt8.ofNat n.toNat) → l = m
  | [], [], _, _, _ => rfl
  | [], _ :: _, _, _, h => by simp at h
  | _ :: _, [], _, _, h => by simp at h
  | x :: l, y :: m, h1, h2, h => by
    simp only [List.map_cons, List.cons.injEq] at h
    rw [u8_inj (h1 x List.mem_cons_self) (h2 y List.mem_cons_self) h.1, str_inj (fun z hz => h1 z (List.mem_cons_of_mem _ hz)) (fun z hz => h2 z (List.mem_cons_of_mem _ hz)) h.2]
theorem str_eq {l m : List Int} (h1 : Rng l) (h2 : Rng m) : ((strOfNums l).toList == (strOfNums m).toList) = decide (l = m) := by
  rw [ByteArray.toList_eq, ByteArray.toList_eq]
  by_cases h : l = m
  · subst h; simp
  · rw [decide_eq_false h, ← Bool.not_eq_true, beq_iff_eq]
    intro e
    exact h (str_inj h1 h2 (by simpa [strOfNums] using e))
def RngL (ls : List (List Int)) : Prop := ∀ l, l ∈ ls → Rng l
theorem Same_ok {w : World} {F F' : Nat → Prop} {v1 v2 : Value} {ls1 ls2 : List (List Int)} (h1 : SlR w F v1 ls1) (h2 : SlR w F' v2 ls2) (r1 : RngL ls1) (r2 : RngL ls2) (hl : ls1.length ≤ 1000000) :
    Ok (den Try.prog 18 #[v1, v2] w) fun u w' => u = .bool (decide (ls1 = ls2)) ∧ Upd (fun _ => False) w w' := by
  obtain ⟨a1, c1, rfl, _⟩ := id h1
  obtain ⟨a2, c2, rfl, _⟩ := id h2
  refine den_ok (args := [.slice a1 ls1.length c1, .slice a2 ls2.length c2]) rs18 Try.func18 rfl mixed in18 ok18 rfl ?_
  by_cases hlen : ls1.length = ls2.length
  rotate_left
  · have hlen' : ¬ (ls1.length : Int) = (ls2.length : Int) := by omega
    simp (config := { maxSteps := 3000000 }) (disch := omega) only [push_cast, Nat.reduceBEq, Nat.reduceEqDiff, Nat.reduceAdd, Nat.reduceMul, Nat.reduceSub, Nat.reduceLT, Int.reduceToNat, Int.reduceLT, Int.reduceLE, Int.reduceEq, Int.reduceAdd, Int.reduceSub, Int.reduceNeg, Int.reduceMul]
    refine ⟨?_, Upd.refl⟩
    rw [decide_eq_false fun h => hlen (by rw [h])]
  have hlen' : (ls1.length : Int) = (ls2.length : Int) := by omega
  simp (config := { maxSteps := 3000000 }) (disch := omega) only [push_cast, Nat.reduceBEq, Nat.reduceEqDiff, Nat.reduceAdd, Nat.reduceMul, Nat.reduceSub, Nat.reduceLT, Int.reduceToNat, Int.reduceLT, Int.reduceLE, Int.reduceEq, Int.reduceAdd, Int.reduceSub, Int.reduceNeg, Int.reduceMul]
  refine loop_inv (I := fun k st w' => Bx (∃ i, k + i = ls1.length ∧ st = [.int .i64 (i : Int)] ∧ Upd (fun _ => False) w w' ∧ ls1.take i = ls2.take i) ⟨⟩) ?_ ls1.length ⟨0, rfl, rfl, Upd.refl, rfl⟩
  rintro k st w' ⟨i, hki, rfl, hu, hz⟩
  by_cases hk0 : k = 0
  · have e : ls1 = ls2 := by rw [← List.take_length (l := ls1), ← List.take_length (l := ls2), ← hlen, show ls1.length = i from by omega]; exact hz
    have e' := decide_eq_true e
    simp (config := { maxSteps := 3000000 }) (disch := omega) only [push_cast, Nat.reduceBEq, Nat.reduceEqDiff, Nat.reduceAdd, Nat.reduceMul, Nat.reduceSub, Nat.reduceLT, Int.reduceToNat, Int.reduceLT, Int.reduceLE, Int.reduceEq, Int.reduceAdd, Int.reduceSub, Int.reduceNeg, Int.reduceMul, e']
    exact hu
  have hi : i < ls1.length := by omega
  have hi2 : i < ls2.length := by omega
  have hx := List.getElem?_eq_getElem hi
  have hy := List.getElem?_eq_getElem hi2
  have rx := r1 _ (List.getElem_mem hi)
  have ry := r2 _ (List.getElem_mem hi2)
  generalize ls1[i] = x at hx rx
  generalize ls2[i] = y at hy ry
  obtain ⟨b, o, ea, ec, rfl, q0, s0⟩ := (h1.go hu (F' := F) fun b _ h => h.elim False.elim id).at_ hx
  obtain ⟨b2, o2, ea2, ec2, rfl, q1, s1⟩ := (h2.go hu (F' := F') fun b _ h => h.elim False.elim id).at_ hy
  have hs := str_eq rx ry
  have t0 := s0.upd (Upd.drew (F := fun _ => False)) (fun _ h => h.elim)
  have t1 := s1.upd (Upd.drew (F := fun _ => False)) (fun _ h => h.elim)
  by_cases e : x = y
  · rw [decide_eq_true e] at hs
    simp (config := { maxSteps := 3000000 }) (disch := omega) only [push_cast, Nat.reduceBEq, Nat.reduceEqDiff, Nat.reduceAdd, Nat.reduceMul, Nat.reduceSub, Nat.reduceLT, Int.reduceToNat, Int.reduceLT, Int.reduceLE, Int.reduceEq, Int.reduceAdd, Int.reduceSub, Int.reduceNeg, Int.reduceMul, q0, q1, cnv_str s0, cnv_str s1, cnv_str t0, cnv_str t1, hs]
    refine ⟨k - 1, by omega, i + 1, by omega, by simp, by first | exact hu | exact hu.drew', ?_⟩
    rw [List.take_add_one, List.take_add_one, hx, hy, hz, e]
  · rw [decide_eq_false e] at hs
    simp (config := { maxSteps := 3000000 }) (disch := omega) only [push_cast, Nat.reduceBEq, Nat.reduceEqDiff, Nat.reduceAdd, Nat.reduceMul, Nat.reduceSub, Nat.reduceLT, Int.reduceToNat, Int.reduceLT, Int.reduceLE, Int.reduceEq, Int.reduceAdd, Int.reduceSub, Int.reduceNeg, Int.reduceMul, q0, q1, cnv_str s0, cnv_str s1, cnv_str t0, cnv_str t1, hs]
    refine ⟨?_, by first | exact hu | exact hu.drew'⟩
    have hne : ls1 ≠ ls2 := by
      intro h
      rw [h, hy] at hx
      exact e (Option.some.inj hx).symm
    rw [decide_eq_false hne]
end Go.Proofs.Ytlnladcfgieggaa.Fd
