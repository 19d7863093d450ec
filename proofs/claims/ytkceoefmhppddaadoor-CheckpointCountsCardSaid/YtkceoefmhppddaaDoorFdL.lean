/-
  Lists of bytes and lists of lists of bytes: reading, moving, appending, comparing. (the same lines as in the journal's texts)
-/
import Derived.Test.YtkceoefmhppddaaDoorFdJ
import Derived.Test.YtkceoefmhppddaaDoorFdE
import Derived.Test.YtkceoefmhppddaaDoorDk4
namespace Go.Proofs.YtkceoefmhppddaaDoor.Fd
set_option linter.unusedSimpArgs false
set_option linter.unusedVariables false
open Go
set_option maxRecDepth 100000

/-- Bytes are in range. -/
def Rng (l : List Int) : Prop := ∀ x, x ∈ l → 0 ≤ x ∧ x < 256
theorem Rng.append {l m : List Int} (h1 : Rng l) (h2 : Rng m) : Rng (l ++ m) := by
  intro x hx
  rcases List.mem_append.1 hx with h | h
  · exact h1 x h
  · exact h2 x h
theorem Rng.left {l m : List Int} (h : Rng (l ++ m)) : Rng l := fun x hx => h x (List.mem_append.2 (.inl hx))
theorem Rng.take {l : List Int} (h : Rng l) (n : Nat) : Rng (l.take n) := fun x hx => h x (List.mem_of_mem_take hx)
theorem Rng.drop {l : List Int} (h : Rng l) (n : Nat) : Rng (l.drop n) := fun x hx => h x (List.mem_of_mem_drop hx)
theorem Rng.zeros {n : Nat} : Rng (List.replicate n 0) := fun x hx => by rw [List.eq_of_mem_replicate hx]; omega
theorem bsl_u8 (x : Int) (w : World) : bslS Tryd.prog 31 1 #[(0, .int .u8 x)] w = some (.slice (some ⟨w.heap.size, 0, none⟩) 1 1, w.alloc (.cells [.int .u8 x].toArray 5 (0, 0))) := by kernel_rfl
theorem cnv_i_u64 {k : IntKind} {n : Int} {w : World} : cnvS Tryd.prog 3 75 (.int k n) w = some (.int .u64 (IntKind.u64.wrap n), w) := cnv_int (by kernel_rfl) (by kernel_rfl)
theorem cnv_u64_i {k : IntKind} {n : Int} {w : World} : cnvS Tryd.prog 75 3 (.int k n) w = some (.int .i64 (IntKind.i64.wrap n), w) := cnv_int (by kernel_rfl) (by kernel_rfl)
theorem cnv_u64_u8 {k : IntKind} {n : Int} {w : World} : cnvS Tryd.prog 75 5 (.int k n) w = some (.int .u8 (IntKind.u8.wrap n), w) := cnv_int (by kernel_rfl) (by kernel_rfl)
theorem cnv_u8_u64 {k : IntKind} {n : Int} {w : World} : cnvS Tryd.prog 5 75 (.int k n) w = some (.int .u64 (IntKind.u64.wrap n), w) := cnv_int (by kernel_rfl) (by kernel_rfl)
theorem cnv_u8_i {k : IntKind} {n : Int} {w : World} : cnvS Tryd.prog 5 3 (.int k n) w = some (.int .i64 (IntKind.i64.wrap n), w) := cnv_int (by kernel_rfl) (by kernel_rfl)
theorem cnv_i_u {k : IntKind} {n : Int} {w : World} : cnvS Tryd.prog 3 84 (.int k n) w = some (.int .u64 (IntKind.u64.wrap n), w) := cnv_int (by kernel_rfl) (by kernel_rfl)
attribute [push_cast] bsl_u8 cnv_i_u64 cnv_u64_i cnv_u64_u8 cnv_u8_u64 cnv_u8_i cnv_i_u
theorem slb_new {w : World} {b : Nat} {l : List Int} (h : Blk w b (by8 l) 5) {c : Nat} {F : Nat → Prop} (hF : ¬ F b) : SlB w F (.slice (some ⟨b, 0, none⟩) l.length c) l :=
  ⟨_, c, rfl, fun _ => ⟨b, 0, rfl, Lies.of_blk h, hF⟩⟩
theorem slb_one {w : World} {x : Int} {F : Nat → Prop} (hF : ¬ F w.heap.size) : SlB (w.alloc (.cells [.int .u8 x].toArray 5 (0, 0))) F (.slice (some ⟨w.heap.size, 0, none⟩) 1 1) [x] := slb_new (l := [x]) Blk.new hF
theorem ownB {b o n c g : Nat} (h : (Value.slice (some ⟨b, o, none⟩) n c).ownBlock = some g) : b = g := Option.some.inj h
theorem u8_wrap_nat {m : Nat} : IntKind.u8.wrap (m : Int) = ((m % 256 : Nat) : Int) := by
  rw [IntKind.wrap_u8]; omega
theorem cnv_str {w : World} {F : Nat → Prop} {v : Value} {l : List Int} (h : SlB w F v l) : cnvS Tryd.prog 31 9 v w = some (.string (strOfNums l), w) :=
  cnv_bytes Tryd.underlying31 Tryd.underlying5 Tryd.underlying9 h
/-- Bytes that may be read and sliced. -/
def SlC (w : World) (F : Nat → Prop) (v : Value) (d : List Int) : Prop := SlB w F v d ∧ ∃ a c, v = .slice a d.length c ∧ d.length ≤ c
theorem SlC.upd {w w' : World} {F G : Nat → Prop} {v : Value} {l : List Int} (h : SlC w F v l) (hu : Upd G w w') (hG : ∀ b, G b → F b) : SlC w' F v l := ⟨h.1.upd hu hG, h.2⟩
theorem SlC.mono {w : World} {F G : Nat → Prop} {v : Value} {l : List Int} (h : SlC w F v l) (hG : ∀ b, b < w.heap.size → G b → F b) : SlC w G v l := ⟨h.1.mono hG, h.2⟩
theorem Bow.slc {w : World} {v : Value} {l : List Int} (h : Bow w v l) {F : Nat → Prop} (hF : ∀ g, v.ownBlock = some g → ¬ F g) : SlC w F v l := ⟨h.slb hF, h.form⟩
theorem SlC.at_ {w : World} {F : Nat → Prop} {v : Value} {d : List Int} (h : SlC w F v d) {j : Nat} {x : Int} (hx : d[j]? = some x) : ∃ g o c, v = .slice (some ⟨g, o, none⟩) d.length c ∧ w.cell? ⟨g, o + j, none⟩ = some (.int .u8 x) := by
  have hj := (List.getElem?_eq_some_iff.1 hx).1
  obtain ⟨⟨a, c, hv, hl⟩, _⟩ := h
  obtain ⟨g, o, rfl, h1, _⟩ := hl (by intro e; rw [e] at hj; simp at hj)
  refine ⟨g, o, c, hv, ?_⟩
  have := h1 j (by rw [by8_length]; exact hj)
  rw [this, by8, List.getElem?_map, hx]
  rfl
theorem Rng.nat {l : List Int} (h : Rng l) {j : Nat} {x : Int} (hx : l[j]? = some x) : ∃ y : Nat, x = y ∧ y < 256 := by
  have := h x (List.mem_of_getElem? hx)
  exact ⟨x.toNat, by omega, by omega⟩
theorem SlB.go {w w' : World} {F F' G : Nat → Prop} {v : Value} {l : List Int} (h : SlB w F v l) (hu : Upd G w w') (hG : ∀ b, b < w.heap.size → G b ∨ F' b → F b) : SlB w' F' v l := by
  obtain ⟨a, c, hv, hl⟩ := h
  refine ⟨a, c, hv, fun h0 => ?_⟩
  obtain ⟨b, o, h1, h2, h3⟩ := hl h0
  have hb := h2.lt (List.length_pos_iff.2 h0)
  exact ⟨b, o, h1, h2.upd hu hb fun h => h3 (hG b hb (.inl h)), fun h => h3 (hG b hb (.inr h))⟩
theorem SlC.go {w w' : World} {F F' G : Nat → Prop} {v : Value} {l : List Int} (h : SlC w F v l) (hu : Upd G w w') (hG : ∀ b, b < w.heap.size → G b ∨ F' b → F b) : SlC w' F' v l := ⟨h.1.go hu hG, h.2⟩
/-- A slice of byte strings that can be read. -/
def SlR (w : World) (F : Nat → Prop) (v : Value) (ls : List (List Int)) : Prop := ∃ a c, v = .slice a ls.length c ∧ (ls ≠ [] → ∃ b o, a = some ⟨b, o, none⟩ ∧ b < w.heap.size ∧ ¬ F b ∧ ∀ j l, ls[j]? = some l → ∃ u, w.cell? ⟨b, o + j, none⟩ = some u ∧ SlB w F u l)
theorem SlR.go {w w' : World} {F F' G : Nat → Prop} {v : Value} {ls : List (List Int)} (h : SlR w F v ls) (hu : Upd G w w') (hG : ∀ b, b < w.heap.size → G b ∨ F' b → F b) : SlR w' F' v ls := by
  obtain ⟨a, c, hv, hl⟩ := h
  refine ⟨a, c, hv, fun h0 => ?_⟩
  obtain ⟨b, o, h1, h2, h3, h4⟩ := hl h0
  refine ⟨b, o, h1, Nat.lt_of_lt_of_le h2 hu.size, fun h => h3 (hG b h2 (.inr h)), fun j l hj => ?_⟩
  obtain ⟨u, h5, h6⟩ := h4 j l hj
  exact ⟨u, by rw [World.cell?_of_block (hu.block b h2 fun h => h3 (hG b h2 (.inl h)))]; exact h5, h6.go hu hG⟩
theorem SlR.nil {w : World} {F : Nat → Prop} {a : Option Addr} {c : Nat} : SlR w F (.slice a 0 c) [] := ⟨a, c, rfl, fun h => absurd rfl h⟩
theorem SlR.at_ {w : World} {F : Nat → Prop} {a : Option Addr} {n c : Nat} {ls : List (List Int)} (h : SlR w F (.slice a n c) ls) {j : Nat} {l : List Int} (hj : ls[j]? = some l) : ∃ b o ea ec, a = some ⟨b, o, none⟩ ∧ w.cell? ⟨b, o + j, none⟩ = some (.slice ea l.length ec) ∧ SlB w F (.slice ea l.length ec) l := by
  obtain ⟨a', c', hv, hl⟩ := h
  injection hv with e1 e2 e3
  subst e1
  obtain ⟨b, o, h1, h2, h3, h4⟩ := hl (by intro e; rw [e] at hj; simp at hj)
  obtain ⟨u, h5, h6⟩ := h4 j l hj
  obtain ⟨ea, ec, rfl, _⟩ := id h6
  exact ⟨b, o, ea, ec, h1, h5, h6⟩
/-- A row of byte strings of one's own. -/
def RowB (w : World) (F : Nat → Prop) (v : Value) (ls : List (List Int)) : Prop := ∃ us : List Value, w.ownsRow 0 31 1 v us.length us ∧ us.length = ls.length ∧
  (∀ (j : Nat) (u : Value) (l : List Int), us[j]? = some u → ls[j]? = some l → SlB w (fun b => F b ∨ v.ownBlock = some b) u l) ∧ ∀ g, v.ownBlock = some g → ¬ F g
theorem RowB.go {w w' : World} {F F' G : Nat → Prop} {v : Value} {ls : List (List Int)} (h : RowB w F v ls) (hu : Upd G w w') (hG : ∀ b, b < w.heap.size → G b ∨ F' b → F b) : RowB w' F' v ls := by
  obtain ⟨us, h1, h2, h3, h4⟩ := h
  refine ⟨us, ownsRow_upd h1 hu fun g hg h => h4 g hg (hG g (World.ownsRow.lt h1 g hg).2 (.inl h)), h2, fun j u l hu2 hl => (h3 j u l hu2 hl).go hu fun b hb h => ?_, fun g hg h => h4 g hg (hG g (World.ownsRow.lt h1 g hg).2 (.inr h))⟩
  rcases h with h | h | h
  · exact .inl (hG b hb (.inl h))
  · exact .inl (hG b hb (.inr h))
  · exact .inr h
theorem RowB.nil {w : World} {F : Nat → Prop} : RowB w F (.slice none 0 0) [] := ⟨[], World.ownsRow_nil _ _ _ _, rfl, by simp, by simp [Value.ownBlock]⟩
theorem RowB.empty {w : World} {F : Nat → Prop} {g : Nat} (h : Blk w g [] 31) (hF : ¬ F g) : RowB w F (.slice (some ⟨g, 0, none⟩) 0 0) [] :=
  ⟨[], ⟨rfl, .inr ⟨g, 0, #[], rfl, Nat.zero_le _, h, Nat.le_refl _, Nat.zero_le _, rfl, rfl⟩⟩, rfl, by simp, fun g' hg => by rw [← ownB hg]; exact hF⟩
theorem RowB.slr {w : World} {F : Nat → Prop} {v : Value} {ls : List (List Int)} (h : RowB w F v ls) : SlR w F v ls := by
  obtain ⟨us, h1, h2, h3, h4⟩ := h
  rcases h1.2 with ⟨rfl, h0⟩ | ⟨g, cap, cur, rfl, _, hg, _, _, _, htake⟩
  · have : ls = [] := List.eq_nil_of_length_eq_zero (by omega)
    subst this
    exact .nil
  · refine ⟨_, cap, by rw [h2], fun _ => ⟨g, 0, rfl, (Array.getElem?_eq_some_iff.1 hg).1, h4 g rfl, fun j l hj => ?_⟩⟩
    have hjl := (List.getElem?_eq_some_iff.1 hj).1
    have hju : j < us.length := by omega
    refine ⟨us[j], ?_, (h3 j _ l (List.getElem?_eq_getElem hju) hj).mono fun b _ h => .inl h⟩
    have hB : Blk w g cur.toList 31 := by show _ = _; rw [hg]
    have hj2 : cur.toList[j]? = us[j]? := by
      conv => rhs; rw [← htake]
      rw [List.getElem?_take_of_lt (by omega)]
    rw [hB.cell, Nat.zero_add, hj2, List.getElem?_eq_getElem hju]
theorem RowB.form {w : World} {F : Nat → Prop} {v : Value} {ls : List (List Int)} (h : RowB w F v ls) : ∃ a c, v = .slice a ls.length c := by
  obtain ⟨us, h1, h2, _⟩ := h
  obtain ⟨a, c, hv⟩ := own_slice h1
  exact ⟨a, c, by rw [← h2]; exact hv⟩
theorem RowB.lt {w : World} {F : Nat → Prop} {v : Value} {ls : List (List Int)} (h : RowB w F v ls) {g : Nat} (hg : v.ownBlock = some g) : g < w.heap.size := by
  obtain ⟨us, h1, _⟩ := h
  exact (World.ownsRow.lt h1 g hg).2
theorem bsl_b1 (a : Option Addr) (n c : Nat) (w : World) : bslS Tryd.prog 22 1 #[(0, .slice a n c)] w = some (.slice (some ⟨w.heap.size, 0, none⟩) 1 1, w.alloc (.cells [.slice a n c].toArray 31 (0, 0))) := by kernel_rfl
theorem bsl_b0 (w : World) : bslS Tryd.prog 22 0 #[] w = some (.slice (some ⟨w.heap.size, 0, none⟩) 0 0, w.alloc (.cells #[] 31 (0, 0))) := by kernel_rfl
attribute [push_cast] bsl_b1 bsl_b0
theorem choose_list {α : Type} {n : Nat} {p : Nat → α → Prop} (h : ∀ i, i < n → ∃ x, p i x) : ∃ l : List α, l.length = n ∧ ∀ i x, l[i]? = some x → p i x := by
  induction n with
  | zero => exact ⟨[], rfl, by simp⟩
  | succ n ih =>
    obtain ⟨l, h1, h2⟩ := ih (fun i hi => h i (by omega))
    obtain ⟨x, hx⟩ := h n (by omega)
    refine ⟨l ++ [x], by simp [h1], fun i y hy => ?_⟩
    rcases Nat.lt_or_ge i n with hi | hi
    · rw [List.getElem?_append_left (by omega)] at hy
      exact h2 i y hy
    · rw [List.getElem?_append_right (by omega)] at hy
      have e : i = n := by
        have := (List.getElem?_eq_some_iff.1 hy).1
        simp at this
        omega
      subst e
      simp [h1] at hy
      subst hy
      exact hx
theorem SlR.src {w : World} {F : Nat → Prop} {y : Value} {ms : List (List Int)} (hy : SlR w F y ms) : ∃ news, Src Tryd.prog 1 22 y ms.length news w ∧ news.length = ms.length ∧ ∀ (j : Nat) (u : Value) (l : List Int), news[j]? = some u → ms[j]? = some l → SlB w F u l := by
  obtain ⟨a, c, rfl, hl⟩ := hy
  have hk : Tryd.prog.underlying 22 = some (.slice 31) := Tryd.underlying22
  by_cases h0 : ms = []
  · subst h0
    refine ⟨[], ?_, rfl, by simp⟩
    cases a with
    | none => exact Src.ofNil w hk c
    | some a => exact Src.ofSlice w hk a 0 c [] rfl (by simp) (by simp)
  · obtain ⟨b, o, rfl, _, _, h4⟩ := hl h0
    obtain ⟨news, n1, n2⟩ := choose_list (n := ms.length) (p := fun j u => w.cell? ⟨b, o + j, none⟩ = some u ∧ (∃ ea en ec, u = .slice ea en ec) ∧ ∀ l, ms[j]? = some l → SlB w F u l) fun i hi => by
      obtain ⟨u, h5, h6⟩ := h4 i _ (List.getElem?_eq_getElem hi)
      obtain ⟨ea, ec, hu, _⟩ := id h6
      exact ⟨u, h5, ⟨ea, _, ec, hu⟩, fun l hl => by rw [List.getElem?_eq_getElem hi] at hl; cases hl; exact h6⟩
    refine ⟨news, Src.ofSlice w hk ⟨b, o, none⟩ ms.length c news (by rw [n1, Nat.mul_one]) (fun j u hj => ?_) (fun u hu => ?_), n1, fun j u l hj hl => (n2 j u hj).2.2 l hl⟩
    · rw [← (n2 j u hj).1]
      congr 1
      unfold Addr.add
      split
      · rename_i h0; rw [h0]; rfl
      · rfl
    · obtain ⟨j, hj⟩ := List.mem_iff_getElem?.1 hu
      obtain ⟨_, ⟨ea, en, ec, rfl⟩, _⟩ := n2 j u hj
      rfl
/-- An append of byte strings that lie somewhere. -/
theorem app_row {w : World} {F : Nat → Prop} {v : Value} {ls : List (List Int)} (h : RowB w F v ls) {y : Value} {ms : List (List Int)} (hy : SlR w (fun b => F b ∨ v.ownBlock = some b) y ms) (hlen : ls.length + ms.length ≤ 1000000) (hF : ∀ b, F b → b < w.heap.size) {ty : TypeId}
    {K : Value × World → Prop} (hk : ∀ v' w', RowB w' F v' (ls ++ ms) → Upd (fun b => v.ownBlock = some b) w w' → (∀ g, v'.ownBlock = some g → v.ownBlock = some g ∨ (w.heap.size ≤ g ∧ g < w'.heap.size)) → K (v', w')) :
    Okk (appS Tryd.prog #[22, 22] ty v y w) K := by
  obtain ⟨us, h1, h2, h3, h4⟩ := h
  obtain ⟨news, s1, s2, s3⟩ := hy.src
  refine app_src (by_ := 24) t22_e t31_s t31_b t31_z rfl (by omega) h1 s1 (by omega) (by unfold maxLen; omega) ?_
  intro v' w' g1 g2 g3
  have hlt : ∀ g, v.ownBlock = some g → g < w.heap.size := fun g hg => (World.ownsRow.lt h1 g hg).2
  have mv : ∀ {u : Value} {l : List Int}, SlB w (fun b => F b ∨ v.ownBlock = some b) u l → SlB w' (fun b => F b ∨ v'.ownBlock = some b) u l := by
    intro u l hs
    refine hs.go g2 fun b hb h => ?_
    rcases h with h | h | h
    · exact .inr h
    · exact .inl h
    · rcases g3 b h with h | h
      · exact .inr h
      · omega
  refine hk v' w' ⟨us ++ news, by rw [List.length_append, s2]; exact g1, by rw [List.length_append, List.length_append, h2, s2], fun j u l hj hl => mv ?_, fun g hg hFg => ?_⟩ g2 g3
  · by_cases hj2 : j < us.length
    · rw [List.getElem?_append_left hj2] at hj
      rw [List.getElem?_append_left (by omega)] at hl
      exact h3 j u l hj hl
    · rw [List.getElem?_append_right (by omega)] at hj
      rw [List.getElem?_append_right (by omega)] at hl
      rw [h2] at hj
      exact s3 _ u l hj hl
  · rcases g3 g hg with h | h
    · exact h4 g h hFg
    · have := hF g hFg; omega
theorem slr_one {w : World} {F : Nat → Prop} {a : Option Addr} {c : Nat} {l : List Int} (h : SlB w F (.slice a l.length c) l) (hF : ¬ F w.heap.size) : SlR (w.alloc (.cells [.slice a l.length c].toArray 31 (0, 0))) F (.slice (some ⟨w.heap.size, 0, none⟩) 1 1) [l] := by
  refine ⟨_, 1, rfl, fun _ => ⟨w.heap.size, 0, rfl, by rw [size_alloc]; omega, hF, fun j l' hj => ?_⟩⟩
  have hj0 : j = 0 := by have := (List.getElem?_eq_some_iff.1 hj).1; simpa using this
  subst hj0
  simp at hj
  subst hj
  exact ⟨_, (Blk.new (cs := [Value.slice a l.length c])).cell 0, h.go (Upd.alloc (F := fun _ => False)) fun b _ h => h.elim False.elim id⟩
theorem u8_inj {x y : Int} (hx : 0 ≤ x ∧ x < 256) (hy : 0 ≤ y ∧ y < 256) (h : UInt8.ofNat x.toNat = UInt8.ofNat y.toNat) : x = y := by
  have := congrArg UInt8.toNat h
  simp at this
  omega
theorem str_inj : ∀ {l m : List Int}, Rng l → Rng m → (l.map fun n => UInt8.ofNat n.toNat) = m.map (fun n => UInt8.ofNat n.toNat) → l = m
  | [], [], _, _, _ => rfl
  | [], _ :: _, _, _, h => by simp at h
  | _ :: _, [], _, _, h => by simp at h
  | x :: l, y :: m, h1, h2, h => by
    simp only [List.map_cons, List.cons.injEq] at h
    rw [u8_inj (h1 x List.mem_cons_self) (h2 y List.mem_cons_self) h.1, str_inj (fun z hz => h1 z (List.mem_cons_of_mem _ hz)) (fun z hz => h2 z (List.mem_cons_of_mem _ hz)) h.2]
theorem str_eq {l m : List Int} (h1 : Rng l) (h2 : Rng m) : ((strOfNums l).toList == (strOfNums m).toList) = decide (l = m) := by
  rw [ByteArray.toList_eq, ByteArray.toList_eq]
  by_cases h : l = m
  · subst h; simp
  · rw [decide_eq_false h, ← Bool.not_eq_true, beq_iff_eq]
    intro e
    exact h (str_inj h1 h2 (by simpa [strOfNums] using e))
def RngL (ls : List (List Int)) : Prop := ∀ l, l ∈ ls → Rng l
end Go.Proofs.YtkceoefmhppddaaDoor.Fd
