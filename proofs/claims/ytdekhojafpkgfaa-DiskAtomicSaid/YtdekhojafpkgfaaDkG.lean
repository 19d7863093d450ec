/-
  The law DiskAtomic, as a reading.
-/
import Derived.Test.YtdekhojafpkgfaaDkF
namespace Go.Proofs.Ytdekhojafpkgfaa.Fd
set_option linter.unusedSimpArgs false
set_option linter.unusedVariables false
open Go Go.ChangeMaps
set_option maxRecDepth 100000

theorem bsl_row1 (a : Option Addr) (n c : Nat) (w : World) : bslS Try.prog 39 1 #[(0, .slice a n c)] w =
    some (.slice (some ⟨w.heap.size, 0, none⟩) 1 1, w.alloc (.cells [.slice a n c].toArray 32 (0, 0))) := by kernel_rfl
attribute [push_cast] bsl_row1

/-- Where a row of contents lies. -/
structure RowP where
  g : Nat
  o : Nat
  cap : Nat
  els : List (Value × List Int)
def RowP.val (r : RowP) : Value := .slice (some ⟨r.g, r.o, none⟩) r.els.length r.cap
/-- The blocks that are written: the disk's, the row of rows, the rows. -/
def Wr2 (F : Nat → Prop) (q n : Nat) (rows : Nat → RowP) (b : Nat) : Prop := F b ∨ b = q ∨ ∃ k, k < n ∧ b = (rows k).g
structure MayAt (w0 w : World) (F : Nat → Prop) (q n : Nat) (rows : Nat → RowP) : Prop where
  head : Blk w q ((List.range n).map fun k => (rows k).val) 39
  row : ∀ k, k < n → Row1 w 32 (rows k).val (rows k).g (rows k).o (rows k).els.length (rows k).cap ((rows k).els.map (·.1)) ∧ 0 < (rows k).els.length
  apart : ∀ k, k < n → (rows k).g ≠ q ∧ ¬ F (rows k).g ∧ w0.heap.size ≤ (rows k).g
  inj : ∀ j k, j < n → k < n → (rows j).g = (rows k).g → j = k
  qF : ¬ F q ∧ w0.heap.size ≤ q
  cont : ∀ k, k < n → ∀ x ∈ (rows k).els, SlB w (Wr2 F q n rows) x.1 x.2
theorem MayAt.disk {w0 w w' : World} {F : Nat → Prop} {q n : Nat} {rows : Nat → RowP} (h : MayAt w0 w F q n rows) (hu : Upd F w w') : MayAt w0 w' (gr F w w') q n rows := by
  have hg : ∀ b, b < w.heap.size → gr F w w' b → F b := fun b hb h => h.elim id fun x => by omega
  refine ⟨h.head.upd hu h.qF.1, fun k hk => ⟨(h.row k hk).1.upd hu (h.apart k hk).2.1, (h.row k hk).2⟩, fun k hk => ⟨(h.apart k hk).1, fun hF => (h.apart k hk).2.1 (hg _ (h.row k hk).1.lt hF), (h.apart k hk).2.2⟩, h.inj,
    ⟨fun hF => h.qF.1 (hg _ h.head.lt hF), h.qF.2⟩, fun k hk x hx => ?_⟩
  have h1 := (h.cont k hk x hx)
  obtain ⟨a, c, hv, hl⟩ := h1
  refine ⟨a, c, hv, fun h0 => ?_⟩
  obtain ⟨b, o, e1, e2, e3⟩ := hl h0
  have hb := e2.lt (List.length_pos_iff.2 h0)
  refine ⟨b, o, e1, e2.upd hu hb (fun hF => e3 (.inl hF)), fun h5 => e3 ?_⟩
  rcases h5 with h5 | h5
  · exact .inl (hg b hb h5)
  · exact .inr h5
theorem MayAt.quiet {w0 w w' : World} {F : Nat → Prop} {q n : Nat} {rows : Nat → RowP} (h : MayAt w0 w F q n rows) (hu : Upd (fun _ => False) w w') : MayAt w0 w' F q n rows :=
  ⟨h.head.upd hu (fun h => h), fun k hk => ⟨(h.row k hk).1.upd hu (fun h => h), (h.row k hk).2⟩, h.apart, h.inj, h.qF, fun k hk x hx => (h.cont k hk x hx).upd hu (fun _ h => h.elim)⟩
/-- A row turned: in its own block, or in a new one. -/
theorem MayAt.turn {w0 w w' : World} {F : Nat → Prop} {q n : Nat} {rows : Nat → RowP} (h : MayAt w0 w F q n rows) {k : Nat} (hk : k < n) {r : RowP} (hu : Upd (fun b => b = (rows k).g) w w') (hbF : ∀ b, F b → b < w.heap.size)
    (hr : Row1 w' 32 r.val r.g r.o r.els.length r.cap (r.els.map (·.1))) (hr0 : 0 < r.els.length) (hg : r.g = (rows k).g ∨ (w.heap.size ≤ r.g ∧ r.g < w'.heap.size)) (hw0 : w0.heap.size ≤ w.heap.size)
    (hc : ∀ x ∈ r.els, SlB w (Wr2 F q n rows) x.1 x.2) : MayAt w0 (w'.setCell ⟨q, k, none⟩ r.val) F q n (fun j => if j = k then r else rows j) := by
  have hql := h.head.lt
  have hrl : r.g ≠ q ∧ ¬ F r.g ∧ w0.heap.size ≤ r.g := by
    rcases hg with e | e
    · rw [e]; exact h.apart k hk
    · exact ⟨by omega, fun hF => by have := hbF _ hF; omega, by omega⟩
  have hset : Upd (fun b => b = q) w' (w'.setCell ⟨q, k, none⟩ r.val) := Upd.set rfl
  have hqg : (rows k).g ≠ q := (h.apart k hk).1
  have huu : Upd (fun b => b = (rows k).g ∨ b = q) w (w'.setCell ⟨q, k, none⟩ r.val) := (hu.mono (fun _ _ h => .inl h)).trans hset (fun _ _ h => .inr h)
  have hcont : ∀ x : Value × List Int, SlB w (Wr2 F q n rows) x.1 x.2 → SlB (w'.setCell ⟨q, k, none⟩ r.val) (Wr2 F q n (fun j => if j = k then r else rows j)) x.1 x.2 := by
    intro x hx
    obtain ⟨a, c, hv, hl⟩ := hx
    refine ⟨a, c, hv, fun h0 => ?_⟩
    obtain ⟨b, o, e1, e2, e3⟩ := hl h0
    have hb := e2.lt (List.length_pos_iff.2 h0)
    refine ⟨b, o, e1, e2.upd huu hb (fun h5 => e3 ?_), fun h5 => ?_⟩
    · rcases h5 with h5 | h5
      · exact .inr (.inr ⟨k, hk, h5⟩)
      · exact .inr (.inl h5)
    · rcases h5 with h5 | h5 | ⟨j, hj, h5⟩
      · exact e3 (.inl h5)
      · exact e3 (.inr (.inl h5))
      · dsimp only at h5
        by_cases e : j = k
        · rw [if_pos e] at h5
          rcases hg with e4 | e4
          · exact e3 (.inr (.inr ⟨k, hk, by rw [h5, e4]⟩))
          · omega
        · rw [if_neg e] at h5
          exact e3 (.inr (.inr ⟨j, hj, h5⟩))
  have hne : ∀ j, j < n → j ≠ k → (rows j).g ≠ (rows k).g := fun j hj e h5 => e (h.inj j k hj hk h5)
  refine ⟨?_, fun j hj => ?_, fun j hj => ?_, fun i j hi hj e => ?_, h.qF, fun j hj x hx => ?_⟩
  · have h1 := (h.head.upd hu (fun e => hqg e.symm)).set k r.val
    have e : ((List.range n).map fun k => (rows k).val).set k r.val = (List.range n).map fun j => (if j = k then r else rows j).val := by
      apply List.ext_getElem?
      intro i
      rw [List.getElem?_set]
      by_cases e : k = i
      · subst e
        simp [hk]
      · rw [if_neg e]
        by_cases hi : i < n
        · simp [hi, Ne.symm e]
        · simp [hi]
    rw [← e]
    exact h1
  · by_cases e : j = k
    · rw [if_pos e]
      exact ⟨hr.upd hset hrl.1, hr0⟩
    · rw [if_neg e]
      obtain ⟨h1, h2⟩ := h.row j hj
      exact ⟨(h1.upd hu (hne j hj e)).upd hset (h.apart j hj).1, h2⟩
  · by_cases e : j = k
    · rw [if_pos e]; exact hrl
    · rw [if_neg e]; exact h.apart j hj
  · have lt : ∀ j, j < n → j ≠ k → (rows j).g ≠ r.g := by
      intro j hj e h5
      rcases hg with e4 | e4
      · exact hne j hj e (by rw [h5, e4])
      · have := (h.row j hj).1.lt; omega
    by_cases e1 : i = k
    · by_cases e2 : j = k
      · omega
      · rw [if_pos e1, if_neg e2] at e
        exact absurd e.symm (lt j hj e2)
    · by_cases e2 : j = k
      · rw [if_neg e1, if_pos e2] at e
        exact absurd e (lt i hi e1)
      · rw [if_neg e1, if_neg e2] at e
        exact h.inj i j hi hj e
  · by_cases e : j = k
    · rw [if_pos e] at hx
      exact hcont x (hc x hx)
    · rw [if_neg e] at hx
      exact hcont x (h.cont j hj x hx)
end Go.Proofs.Ytdekhojafpkgfaa.Fd
