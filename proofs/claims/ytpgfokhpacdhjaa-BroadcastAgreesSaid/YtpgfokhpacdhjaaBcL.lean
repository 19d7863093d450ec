/-
  The law's events, opened.
-/
import Derived.Test.YtpgfokhpacdhjaaBcJ
import Derived.SizedLaws
import Derived.Deep.Slices
import Derived.Deep.Strs
namespace Go.Proofs.Ytpgfokhpacdhjaa.Fd
set_option linter.unusedSimpArgs false
set_option linter.unusedVariables false
open Go Go.ChangeMaps
set_option maxRecDepth 100000

theorem w_each {H : Type} {P : Program} : ∀ {ts : List TypeId} {ds : List (DataW H)} {j : Nat} {t : TypeId} {d : DataW H}, ts[j]? = some t → ds[j]? = some d → ∀ x, x ∈ DataW.weights P t d → x ∈ DataW.weightsEach P ts ds
  | [], _, _, _, _, h, _ => by simp at h
  | _ :: _, [], _, _, _, _, h => by simp at h
  | t0 :: ts, d0 :: ds, 0, t, d, h1, h2 => by
    simp at h1 h2
    subst h1
    subst h2
    intro x hx
    rw [DataW.weightsEach]
    exact List.mem_append_left _ hx
  | t0 :: ts, d0 :: ds, j + 1, t, d, h1, h2 => by
    intro x hx
    rw [DataW.weightsEach]
    exact List.mem_append_right _ (w_each (j := j) (by simpa using h1) (by simpa using h2) x hx)
theorem w_all {H : Type} {P : Program} {e : TypeId} {d : DataW H} : ∀ {ds : List (DataW H)}, d ∈ ds → ∀ x, x ∈ DataW.weights P e d → x ∈ DataW.weightsAll P e ds
  | [], h => by cases h
  | d0 :: ds, h => by
    intro x hx
    rw [DataW.weightsAll]
    rcases List.mem_cons.1 h with rfl | h
    · exact List.mem_append_left _ hx
    · exact List.mem_append_right _ (w_all h x hx)
def SlV (w : World) (v : Value) (xs : List Ev) : Prop := ∃ a c, v = .slice a xs.length c ∧ (xs ≠ [] → ∃ b o, a = some ⟨b, o, none⟩ ∧ b < w.heap.size ∧ ∀ (j : Nat) x, xs[j]? = some x →
  w.cell? ⟨b, o + j * 3, none⟩ = some (.int .i64 x.k) ∧ w.cell? ⟨b, o + j * 3 + 1, none⟩ = some (.int .i64 x.A) ∧ ∃ pv, w.cell? ⟨b, o + j * 3 + 2, none⟩ = some pv ∧ PB w.heap.size w pv x.l)
theorem pb_open {H : Type} {enc : TypeId × Value → H} {w : World} {v : Value} {n : Nat} {x : DataW H × List MemPlace} (h : DataW.trod enc Try.prog w 0 (fun _ => true) true n 28 [v] = some x) :
    ∃ l, PB w.heap.size w v l ∧ ((∀ y, y ∈ DataW.weights Try.prog 28 x.1 → y ≤ reachBytes) → l.length ≤ 140737488351232) := by
  obtain ⟨l, ⟨a, c, hv, hl⟩, h2⟩ := bytes_at Try.underlying28 Try.underlying5 (by kernel_rfl) h
  refine ⟨l, ⟨fun y hy => ?_, a, c, hv, fun h0 => ?_⟩, ?_⟩
  · have := h2 y hy
    simp only [Lit.wf, Bool.and_eq_true, decide_eq_true_eq] at this
    obtain ⟨h3, h4⟩ := this
    have h3 : (0 : Int) ≤ y := h3
    have h4 : y ≤ 255 := h4
    omega
  · obtain ⟨b, o, e, hli, hF⟩ := hl h0
    have hlt := hli.lt (List.length_pos_iff.2 h0)
    exact ⟨b, o, e, ⟨hlt, .inl hlt⟩, hli⟩
  · intro hw
    rcases Go.Deep.open_slice Try.underlying28 h with ⟨h1, _⟩ | ⟨a', len, cap, m, n', D, Pl, h1, _, _, _, _, hx, _⟩
    · have h1 : v = _ := (List.cons.inj h1).1
      rw [h1] at hv
      injection hv with _ e _
      omega
    · have h1 : v = _ := (List.cons.inj h1).1
      rw [h1] at hv
      injection hv with _ e _
      have hx1 := (Prod.mk.inj hx).1
      rw [hx1] at hw
      have := hw (((List.range len).map D).length * Try.prog.bytesOf 5 + (((List.range (m - len)).map fun j => D (len + j)).length) * Try.prog.bytesOf 5) (by
        simp only [DataW.weights, Try.underlying28]
        rw [Nat.add_mul]
        exact List.mem_cons_self)
      have hb : Try.prog.bytesOf 5 = 1 := by kernel_rfl
      rw [hb, Nat.mul_one, List.length_map, List.length_range] at this
      have hr : reachBytes = 140737488351232 := rfl
      omega
theorem choose_list {α : Type} {n : Nat} {p : Nat → α → Prop} (h : ∀ i, i < n → ∃ x, p i x) : ∃ l : List α, l.length = n ∧ ∀ (i : Nat) x, l[i]? = some x → p i x := by
  induction n with
  | zero => exact ⟨[], rfl, by simp⟩
  | succ n ih =>
    obtain ⟨l, h1, h2⟩ := ih (fun i hi => h i (by omega))
    obtain ⟨x, hx⟩ := h n (by omega)
    refine ⟨l ++ [x], by simp [h1], fun i y hy => ?_⟩
    rcases Nat.lt_or_ge i n with hi | hi
    · rw [List.getElem?_append_left (by omega)] at hy
      exact h2 i y hy
    · have hil : i < (l ++ [x]).length := (List.getElem?_eq_some_iff.1 hy).1
      rw [List.length_append, List.length_singleton, h1] at hil
      have : i = n := by omega
      subst this
      rw [List.getElem?_append_right (by omega), h1, Nat.sub_self] at hy
      simp at hy
      subst hy
      exact hx
theorem open_events {H : Type} {enc : TypeId × Value → H} {w : World} {v : Value} {r : Reach} {b0 : Nat} {d : DataW H} {ps : List MemPlace}
    (hval : Value.okWide Try.prog w r b0 22 v) (h : DataW.Trod enc Try.prog w 0 (fun _ => true) true 22 v d ps) (hbk : ∀ y, y ∈ DataW.weights Try.prog 22 d → y ≤ reachBytes) : ∃ l, SlV w v l ∧ ∀ x, x ∈ l → x.l.length ≤ 140737488351232 := by
  obtain ⟨a', l', c', rfl⟩ := Go.WideShapes.okWide_slice Try.underlying22 hval
  obtain ⟨n, h⟩ := h
  have c1 : Try.prog.cellsOf 30 = 3 := by kernel_rfl
  rcases Go.Deep.open_slice Try.underlying22 h with ⟨h1, _⟩ | ⟨a, len, cap, m, n', D, Pl, h1, _, hl, _, hm, hd, hx⟩
  · have h1 : Value.slice a' l' c' = _ := (List.cons.inj (show [Value.slice a' l' c'] = _ from h1)).1
    exact ⟨[], ⟨none, 0, h1, fun h => absurd rfl h⟩, fun x hx => by cases hx⟩
  · have h1 : Value.slice a' l' c' = _ := (List.cons.inj (show [Value.slice a' l' c'] = _ from h1)).1
    simp only [if_true] at hm
    subst hm
    rw [c1] at hx
    have hd1 := (Prod.mk.inj hd).1
    rw [hd1] at hbk
    simp only [DataW.weights, Try.underlying22] at hbk
    have hDb : ∀ j, j < len → ∀ y, y ∈ DataW.weights Try.prog 30 (D j) → y ≤ reachBytes := fun j hj y hy =>
      hbk y (List.mem_cons_of_mem _ (List.mem_append_left _ (w_all (d := D j) (ds := (List.range len).map D) (List.mem_map.2 ⟨j, List.mem_range.2 hj, rfl⟩) y hy)))
    rcases Nat.eq_zero_or_pos len with h0 | h0
    · subst h0
      exact ⟨[], ⟨some a, m, h1, fun h => absurd rfl h⟩, fun x hx => by cases hx⟩
    have ha : ∃ b o, a = ⟨b, o, none⟩ ∧ b < w.heap.size := by
      obtain ⟨cs, h2, _⟩ := hx 0 (by omega)
      obtain ⟨_, h3, h4⟩ := World.cells?_some h2
      have h5 := h4 0 (by omega)
      obtain ⟨b, o, e, hb, _⟩ := cells_add (n := 1) (a := a) (V := fun _ => cs[0]) (fun i hi => by
        obtain rfl : i = 0 := by omega
        have : (a.add (0 * 3)).add 0 = a.add 0 := rfl
        rw [← this, h5, List.getElem?_eq_getElem]) (by omega)
      exact ⟨b, o, e, hb⟩
    obtain ⟨b, o, rfl, hb⟩ := ha
    obtain ⟨l, hl1, hl2⟩ := choose_list (n := len) (p := fun j (x : Ev) => (w.cell? ⟨b, o + j * 3, none⟩ = some (.int .i64 x.k) ∧ w.cell? ⟨b, o + j * 3 + 1, none⟩ = some (.int .i64 x.A) ∧ ∃ pv, w.cell? ⟨b, o + j * 3 + 2, none⟩ = some pv ∧ PB w.heap.size w pv x.l) ∧ x.l.length ≤ 140737488351232) (by
      intro j hj
      obtain ⟨cs, h2, h3⟩ := hx j (by omega)
      obtain ⟨_, h4, h5⟩ := World.cells?_some h2
      obtain ⟨y0, y1, y2, n2, hy, _, t0, t1, t2⟩ := Go.Deep.trod_struct3 Try.underlying30 h3
      match cs, h4 with
      | [c0, c1, c2], _ =>
        have e0 : Try.prog.cellsOf 3 = 1 := by kernel_rfl
        have e2 : Try.prog.cellsOf 28 = 1 := by kernel_rfl
        simp only [e0, e2] at t0 t1 t2
        obtain ⟨kind, g0, _, _⟩ := DataW.trod_int Try.underlying3 t0
        have g0 : c0 = _ := (List.cons.inj (show [c0] = _ from g0)).1
        obtain ⟨at_, g1, _, _⟩ := DataW.trod_int Try.underlying3 t1
        have g1 : c1 = _ := (List.cons.inj (show [c1] = _ from g1)).1
        obtain ⟨bs, hbs, hbl⟩ := pb_open (v := c2) t2
        have hc : ∀ i, i < 3 → w.cell? ⟨b, o + j * 3 + i, none⟩ = [c0, c1, c2][i]? := by
          intro i hi
          rw [← h5 i hi]
          congr 1
          unfold Addr.add
          by_cases hj0 : j * 3 = 0
          · by_cases hi0 : i = 0
            · simp [hj0, hi0]
            · simp [hj0, hi0]
          · by_cases hi0 : i = 0
            · simp [hj0, hi0]
            · simp [hj0, hi0]
        have hDj := hDb j hj
        have hyD := (Prod.mk.inj hy).1
        rw [hyD] at hDj
        simp only [DataW.weights, Try.underlying30] at hDj
        have hbl := hbl fun y hy => hDj y (w_each (j := 2) rfl rfl y hy)
        exact ⟨⟨kind, at_, bs⟩, ⟨by rw [← g0]; exact hc 0 (by omega), by rw [← g1]; exact hc 1 (by omega), c2, hc 2 (by omega), hbs⟩, by show bs.length ≤ _; exact hbl⟩)
    exact ⟨l, ⟨_, _, by rw [hl1]; exact h1, fun _ => ⟨b, o, rfl, hb, fun j x hj => (hl2 j x hj).1⟩⟩, fun x hx => by obtain ⟨j, hj⟩ := List.getElem?_of_mem hx; exact (hl2 j x hj).2⟩
end Go.Proofs.Ytpgfokhpacdhjaa.Fd
