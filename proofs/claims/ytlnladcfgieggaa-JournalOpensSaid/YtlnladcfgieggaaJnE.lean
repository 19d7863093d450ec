/-
  Openers of the laws' lists of operations.
-/
import Derived.Test.YtlnladcfgieggaaJnD
import Derived.Lib.SmallJoins
namespace Go.Proofs.Ytlnladcfgieggaa.Fd
set_option linter.unusedSimpArgs false
set_option linter.unusedVariables false
open Go Go.ChangeMaps Go.ChangeShapes Go.WideShapes
set_option maxRecDepth 100000

theorem rng_of_wf {l : List Int} (h : ∀ x ∈ l, (Lit.int .u8 x).wf = true) : Rng l := by
  intro x hx
  have h1 := h x hx
  simp only [Lit.wf, Bool.and_eq_true, decide_eq_true_eq] at h1
  have h2 : IntKind.u8.max = 255 := by decide
  have h3 : IntKind.u8.min = 0 := by decide
  omega
theorem slr_of {w : World} {a : Addr} {len cap : Nat} {V : Nat → Value} (h : ∀ i, i < len → w.cell? (a.add i) = some (V i) ∧ ∃ l, SlB w (fun b => w.heap.size ≤ b) (V i) l ∧ Rng l) : ∃ ls, SlR w (fun b => w.heap.size ≤ b) (.slice (some a) len cap) ls ∧ RngL ls := by
  obtain ⟨ls, h1, h2⟩ := choose_list (n := len) (p := fun i l => SlB w (fun b => w.heap.size ≤ b) (V i) l ∧ Rng l) fun i hi => (h i hi).2
  refine ⟨ls, ⟨some a, cap, by rw [h1], fun h0 => ?_⟩, fun l hl => ?_⟩
  · have hp : 0 < len := by
      rcases Nat.eq_zero_or_pos len with e | e
      · subst e; exact absurd (List.eq_nil_of_length_eq_zero h1) h0
      · exact e
    obtain ⟨b, o, e1, e2, e3⟩ := cells_add (V := V) (fun i hi => (h i hi).1) hp
    refine ⟨b, o, by rw [e1], e2, by omega, fun j l hj => ?_⟩
    have hjl := (List.getElem?_eq_some_iff.1 hj).1
    exact ⟨V j, e3 j (by omega), (h2 j l hj).1⟩
  · obtain ⟨j, hj⟩ := List.mem_iff_getElem?.1 hl
    exact (h2 j l hj).2
section
variable {H : Type} {enc : TypeId × Value → H} {w : World} {v : Value} {r : Reach} {b0 : Nat} {d : DataW H} {ps : List MemPlace}
theorem rows_at {n : Nat} {x : DataW H × List MemPlace} (h : DataW.trod enc Try.prog w 0 (fun _ => true) true n 34 [v] = some x) : ∃ ls, SlR w (fun b => w.heap.size ≤ b) v ls ∧ RngL ls := by
  rcases Go.Deep.open_slice1 Try.underlying34 (by kernel_rfl) h with ⟨h1, _⟩ | ⟨a, len, cap, m, n', V, D, Pl, h1, _, hl, _, hm, _, hx⟩
  · have h1 : v = _ := (List.cons.inj h1).1
    exact ⟨[], by rw [h1]; exact .nil, fun l hl => by simp at hl⟩
  · have h1 : v = _ := (List.cons.inj h1).1
    simp only [if_true] at hm
    subst hm
    rw [h1]
    refine slr_of (V := V) fun i hi => ?_
    obtain ⟨h2, h3⟩ := hx i (by omega)
    obtain ⟨l, hl1, hl2⟩ := bytes_at (v := V i) Try.underlying46 Try.underlying5 (by kernel_rfl) h3
    exact ⟨h2, l, hl1, rng_of_wf hl2⟩
/-- An operation of a law. -/
structure OpJ where
  reset : Bool
  recs : List (List Int)
def OpV (w : World) (F : Nat → Prop) (x : OpJ) (v0 v1 : Value) : Prop := v0 = .bool x.reset ∧ SlR w F v1 x.recs ∧ RngL x.recs
def SlO (w : World) (v : Value) (l : List OpJ) : Prop := ∃ a c, v = .slice a l.length c ∧ (l ≠ [] → ∃ b o, a = some ⟨b, o, none⟩ ∧ b < w.heap.size ∧ ∀ j x, l[j]? = some x → ∃ u, w.cell? ⟨b, o + j * 2, none⟩ = some (.bool x.reset) ∧ w.cell? ⟨b, o + j * 2 + 1, none⟩ = some u ∧ SlR w (fun b => w.heap.size ≤ b) u x.recs ∧ RngL x.recs)
theorem open_op {n : Nat} {x : DataW H × List MemPlace} {c0 c1 : Value} (h : DataW.trod enc Try.prog w 0 (fun _ => true) true n 38 [c0, c1] = some x) : ∃ y : OpJ, OpV w (fun b => w.heap.size ≤ b) y c0 c1 := by
  obtain ⟨y0, y1, n2, _, _, t0, t1⟩ := trod_struct2 Try.underlying38 h
  have e0 : Try.prog.cellsOf 4 = 1 := by kernel_rfl
  have e1 : Try.prog.cellsOf 34 = 1 := by kernel_rfl
  simp only [e0, e1] at t0 t1
  obtain ⟨b, g0, _⟩ := DataW.trod_bool Try.underlying4 t0
  have g0 : c0 = _ := (List.cons.inj (show [c0] = _ from g0)).1
  obtain ⟨ls, h1, h2⟩ := rows_at (v := c1) t1
  exact ⟨⟨b, ls⟩, g0, h1, h2⟩
theorem open_opsJ (hval : Value.okWide Try.prog w r b0 22 v) (h : DataW.Trod enc Try.prog w 0 (fun _ => true) true 22 v d ps) : ∃ l, SlO w v l := by
  obtain ⟨a', l', c', rfl⟩ := Go.WideShapes.okWide_slice Try.underlying22 hval
  obtain ⟨n, h⟩ := h
  have c1 : Try.prog.cellsOf 38 = 2 := by kernel_rfl
  rcases Go.Deep.open_slice Try.underlying22 h with ⟨h1, _⟩ | ⟨a, len, cap, m, n', D, Pl, h1, _, hl, _, hm, _, hx⟩
  · have h1 : Value.slice a' l' c' = _ := (List.cons.inj (show [Value.slice a' l' c'] = _ from h1)).1
    exact ⟨[], none, 0, h1, fun h => absurd rfl h⟩
  · have h1 : Value.slice a' l' c' = _ := (List.cons.inj (show [Value.slice a' l' c'] = _ from h1)).1
    simp only [if_true] at hm
    subst hm
    rw [c1] at hx
    rcases Nat.eq_zero_or_pos len with h0 | h0
    · subst h0
      exact ⟨[], some a, m, h1, fun h => absurd rfl h⟩
    have ha : ∃ b o, a = ⟨b, o, none⟩ ∧ b < w.heap.size := by
      obtain ⟨cs, h2, _⟩ := hx 0 (by omega)
      obtain ⟨_, h3, h4⟩ := World.cells?_some h2
      have h5 := h4 0 (by omega)
      obtain ⟨b, o, e, hb, _⟩ := cells_add (n := 1) (a := a) (V := fun _ => cs[0]) (fun i hi => by
        obtain rfl : i = 0 := by omega
        have : (a.add (0 * 2)).add 0 = a.add 0 := rfl
        rw [← this, h5, List.getElem?_eq_getElem]) (by omega)
      exact ⟨b, o, e, hb⟩
    obtain ⟨b, o, rfl, hb⟩ := ha
    obtain ⟨l, hl1, hl2⟩ := choose_list (n := len) (p := fun j (x : OpJ) => ∃ u, w.cell? ⟨b, o + j * 2, none⟩ = some (.bool x.reset) ∧ w.cell? ⟨b, o + j * 2 + 1, none⟩ = some u ∧ SlR w (fun b => w.heap.size ≤ b) u x.recs ∧ RngL x.recs) (by
      intro j hj
      obtain ⟨cs, h2, h3⟩ := hx j (by omega)
      obtain ⟨_, h4, h5⟩ := World.cells?_some h2
      match cs, h4 with
      | [c0, c1], _ =>
        obtain ⟨y, g0, g1, g2⟩ := open_op h3
        have hc : ∀ i, i < 2 → w.cell? ⟨b, o + j * 2 + i, none⟩ = [c0, c1][i]? := by
          intro i hi
          rw [← h5 i hi]
          congr 1
          unfold Addr.add
          by_cases hj0 : j * 2 = 0
          · by_cases hi0 : i = 0
            · simp [hj0, hi0]
            · simp [hj0, hi0]
          · by_cases hi0 : i = 0
            · simp [hj0, hi0]
            · simp [hj0, hi0]
        exact ⟨y, c1, by rw [← g0]; exact hc 0 (by omega), hc 1 (by omega), g1, g2⟩)
    exact ⟨l, _, _, by rw [hl1]; exact h1, fun _ => ⟨b, o, rfl, hb, fun j x hj => hl2 j x hj⟩⟩
end
end Go.Proofs.Ytlnladcfgieggaa.Fd
