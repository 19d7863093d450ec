/-
  Openers of the laws' arguments.
-/
import Derived.Test.YtkceoefmhppddaaDoorEv1
import Derived.Lib.SmallJoins
namespace Go.Proofs.YtkceoefmhppddaaDoor.Fd
set_option linter.unusedSimpArgs false
set_option linter.unusedVariables false
open Go Go.ChangeMaps Go.ChangeShapes Go.WideShapes
set_option maxRecDepth 100000
theorem rng_of_wf {l : List Int} (h : ∀ x ∈ l, (Lit.int .u8 x).wf = true) : Rng l := by
  intro x hx
  have h1 := h x hx
  simp only [Lit.wf, Bool.and_eq_true, decide_eq_true_eq] at h1
  have h2 : IntKind.u8.max = 255 := by decide
  have h3 : IntKind.u8.min = 0 := by decide
  omega
/-- A slice of byte strings that can be read and sliced. -/
def SlRC (w : World) (F : Nat → Prop) (v : Value) (ls : List (List Int)) : Prop := ∃ a c, v = .slice a ls.length c ∧ (ls ≠ [] → ∃ b o, a = some ⟨b, o, none⟩ ∧ b < w.heap.size ∧ ¬ F b ∧ ∀ j l, ls[j]? = some l → ∃ u, w.cell? ⟨b, o + j, none⟩ = some u ∧ SlC w F u l)
theorem SlRC.slr {w : World} {F : Nat → Prop} {v : Value} {ls : List (List Int)} (h : SlRC w F v ls) : SlR w F v ls := by
  obtain ⟨a, c, hv, hli⟩ := h
  refine ⟨a, c, hv, fun h0 => ?_⟩
  obtain ⟨b, o, h1, h2, h3, h4⟩ := hli h0
  refine ⟨b, o, h1, h2, h3, fun j l hj => ?_⟩
  obtain ⟨u, g1, g2⟩ := h4 j l hj
  exact ⟨u, g1, g2.1⟩
theorem slrc_of {w : World} {a : Addr} {len cap : Nat} {V : Nat → Value} (h : ∀ i, i < len → w.cell? (a.add i) = some (V i) ∧ ∃ l, SlC w (fun b => w.heap.size ≤ b) (V i) l ∧ Rng l) : ∃ ls, SlRC w (fun b => w.heap.size ≤ b) (.slice (some a) len cap) ls ∧ RngL ls := by
  obtain ⟨ls, h1, h2⟩ := choose_list (n := len) (p := fun i l => SlC w (fun b => w.heap.size ≤ b) (V i) l ∧ Rng l) fun i hi => (h i hi).2
  refine ⟨ls, ⟨some a, cap, by rw [h1], fun h0 => ?_⟩, fun l hl => ?_⟩
  · have hp : 0 < len := by
      rcases Nat.eq_zero_or_pos len with e | e
      · subst e; exact absurd (List.eq_nil_of_length_eq_zero h1) h0
      · exact e
    obtain ⟨b, o, e1, e2, e3⟩ := cells_add (V := V) (fun i hi => (h i hi).1) hp
    refine ⟨b, o, by rw [e1], e2, by omega, fun j l hj => ?_⟩
    have hjl := (List.getElem?_eq_some_iff.1 hj).1
    exact ⟨V j, e3 j (by omega), (h2 j l hj).1⟩
  · obtain ⟨j, hj⟩ := List.mem_iff_getElem?.1 hl
    exact (h2 j l hj).2
section
variable {H : Type} {enc : TypeId × Value → H} {w : World} {v : Value} {r : Reach} {b0 : Nat} {d : DataW H} {ps : List MemPlace}
theorem bytesC_at {t e : TypeId} {P : Program} {n : Nat} {x : DataW H × List MemPlace} (ht : P.underlying t = some (.slice e)) (he : P.underlying e = some (.int .u8)) (hc : P.cellsOf e = 1) (h : DataW.trod enc P w 0 (fun _ => true) true n t [v] = some x) :
    ∃ l, SlC w (fun b => w.heap.size ≤ b) v l ∧ Rng l := by
  obtain ⟨l, h1, h2⟩ := bytes_at ht he hc h
  refine ⟨l, ⟨h1, ?_⟩, rng_of_wf h2⟩
  rcases Go.ChangeShapes.open_ints ht he hc h with ⟨e1, _⟩ | ⟨a, len, cap, zs, e1, _, hl, _, hz, _, hx, hw⟩
  · have e1 : v = _ := (List.cons.inj e1).1
    obtain ⟨a', c', e2, _⟩ := h1
    rw [e1] at e2
    injection e2 with q1 q2 q3
    exact ⟨none, 0, by rw [e1, q2], by omega⟩
  · have e1 : v = _ := (List.cons.inj e1).1
    obtain ⟨a', c', e2, _⟩ := h1
    rw [e1] at e2
    injection e2 with q1 q2 q3
    exact ⟨some a, cap, by rw [e1, q2], by omega⟩
theorem open_bytes27 (hval : Value.okWide Tryd.prog w r b0 31 v) (h : DataW.Trod enc Tryd.prog w 0 (fun _ => true) true 31 v d ps) : ∃ l, SlC w (fun b => w.heap.size ≤ b) v l ∧ Rng l := by
  obtain ⟨a', l', c', rfl⟩ := Go.WideShapes.okWide_slice Tryd.underlying31 hval
  obtain ⟨n, h⟩ := h
  exact bytesC_at Tryd.underlying31 Tryd.underlying5 (by kernel_rfl) h
theorem open_bools27 (hval : Value.okWide Tryd.prog w r b0 56 v) (h : DataW.Trod enc Tryd.prog w 0 (fun _ => true) true 56 v d ps) : ∃ l, SlT w (fun b => w.heap.size ≤ b) v l :=
  open_boolsG Tryd.underlying56 Tryd.underlying4 (by kernel_rfl) hval h
theorem rowsC_at {n : Nat} {x : DataW H × List MemPlace} (h : DataW.trod enc Tryd.prog w 0 (fun _ => true) true n 22 [v] = some x) : ∃ ls, SlRC w (fun b => w.heap.size ≤ b) v ls ∧ RngL ls := by
  rcases Go.Deep.open_slice1 Tryd.underlying22 (by kernel_rfl) h with ⟨h1, _⟩ | ⟨a, len, cap, m, n', V, D, Pl, h1, _, hl, _, hm, _, hx⟩
  · have h1 : v = _ := (List.cons.inj h1).1
    exact ⟨[], by rw [h1]; exact ⟨none, 0, rfl, fun h => absurd rfl h⟩, fun l hl => by simp at hl⟩
  · have h1 : v = _ := (List.cons.inj h1).1
    simp only [if_true] at hm
    subst hm
    rw [h1]
    refine slrc_of (V := V) fun i hi => ?_
    obtain ⟨h2, h3⟩ := hx i (by omega)
    obtain ⟨l, hl1, hl2⟩ := bytesC_at (v := V i) Tryd.underlying31 Tryd.underlying5 (by kernel_rfl) h3
    exact ⟨h2, l, hl1, hl2⟩
theorem open_rows27 (hval : Value.okWide Tryd.prog w r b0 22 v) (h : DataW.Trod enc Tryd.prog w 0 (fun _ => true) true 22 v d ps) : ∃ ls, SlRC w (fun b => w.heap.size ≤ b) v ls ∧ RngL ls := by
  obtain ⟨a', l', c', rfl⟩ := Go.WideShapes.okWide_slice Tryd.underlying22 hval
  obtain ⟨n, h⟩ := h
  exact rowsC_at h
theorem u8_of {x : Int} (h : (Lit.int .u8 x).wf = true) : ∃ s : Nat, x = s ∧ s < 256 := by
  simp only [Lit.wf, Bool.and_eq_true, decide_eq_true_eq] at h
  have h2 : IntKind.u8.max = 255 := by decide
  have h3 : IntKind.u8.min = 0 := by decide
  exact ⟨x.toNat, by omega, by omega⟩
end
theorem SlT.form {w : World} {F : Nat → Prop} {v : Value} {l : List Bool} (h : SlT w F v l) : ∃ a c, v = .slice a l.length c := by
  obtain ⟨a, c, hv, _⟩ := h
  exact ⟨a, c, hv⟩
end Go.Proofs.YtkceoefmhppddaaDoor.Fd
