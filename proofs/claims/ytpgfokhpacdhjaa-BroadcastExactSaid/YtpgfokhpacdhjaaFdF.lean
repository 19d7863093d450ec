/-
  Slices of slices: s[:h] and s[l:].
-/
import Derived.Test.YtpgfokhpacdhjaaFdE
import Derived.Laws.Slices
namespace Go.Proofs.Ytpgfokhpacdhjaa.Fd
set_option linter.unusedSimpArgs false
set_option linter.unusedVariables false
open Go
set_option maxRecDepth 100000

section
variable {P : Program} {D : Den} {w : World} {ty : TypeId} {e : Operand → Value} {t : TypeId}
def slcS (P : Program) (t : TypeId) (x : Value) (lo hi : Option Value) (w : World) : Option (Value × World) := lift ((Instr.sliceAt t x lo hi none).run P w)
theorem opX_sliceH {x h : Operand} : opX P D (.slice t x none (some h) none) ty e w = slcS P t (e x) none (some (e h)) w := by
  simp only [opX, opS, execOp, slcS, lift]
  simp
  generalize Instr.sliceAt t (e x) none (some (e h)) none = s
  cases s.run P w <;> simp
theorem opX_sliceL {x l : Operand} : opX P D (.slice t x (some l) none none) ty e w = slcS P t (e x) (some (e l)) none w := by
  simp only [opX, opS, execOp, slcS, lift]
  simp
  generalize Instr.sliceAt t (e x) (some (e l)) none none = s
  cases s.run P w <;> simp
theorem elt_elem {el : TypeId} (ht : elt P t = some el) : P.underlying t = some (.slice el) := by
  unfold elt at ht
  split at ht
  · rename_i e h; cases ht; exact h
  · cases ht
theorem size_of {el : TypeId} {s : Nat} (hs : siz P el = some s) : (sizeOf el).run P w = .ok s w := by
  unfold siz at hs
  cases hi : P.info? el with
  | none => rw [hi] at hs; cases hs
  | some i =>
    rw [hi] at hs
    simp only [Option.map_some, Option.some.injEq] at hs
    subst hs
    simp [sizeOf, typeInfo, hi]
def slcFar (P : Program) (t : TypeId) (x : Value) (lo hi : Option Value) (w : World) : Option (Value × World) := slcS P t x lo hi w
theorem slc_hi {b o n c : Nat} {k : IntKind} {h : Int} (h0 : 0 ≤ h) (h1 : h ≤ c) : slcS P t (.slice (some ⟨b, o, none⟩) n c) none (some (.int k h)) w =
    orK (elt P t) (fun el => orK (siz P el) (fun _ => some (.slice (some ⟨b, o, none⟩) h.toNat c, w)) (slcFar P t (.slice (some ⟨b, o, none⟩) n c) none (some (.int k h)) w)) (slcFar P t (.slice (some ⟨b, o, none⟩) n c) none (some (.int k h)) w) := by
  cases ht : elt P t with
  | none => rfl
  | some el =>
    simp only [orK]
    cases hs : siz P el with
    | none => rfl
    | some s =>
      dsimp only
      have hu := elt_elem ht
      have he : P.elem t = el := by simp [Program.elem, hu]
      have hu' : P.underlying t = some (.slice (P.elem t)) := by rw [he]; exact hu
      unfold slcS lift
      rw [run_sliceAt_slice w t _ _ _ _ hu', run_slice_h w t _ _ _ hu' _ _ h0 h1, he, size_of hs]
      have ha : (⟨b, o, none⟩ : Addr).add 0 = ⟨b, o, none⟩ := rfl
      simp [sliced, ha]
theorem slc_lo {b o n c : Nat} {k : IntKind} {l : Int} (h0 : 0 ≤ l) (h1 : l ≤ n) : slcS P t (.slice (some ⟨b, o, none⟩) n c) (some (.int k l)) none w =
    orK (elt P t) (fun el => orK (siz P el) (fun s => some (.slice (some ⟨b, if c = l.toNat then o else o + l.toNat * s, none⟩) (n - l.toNat) (c - l.toNat), w)) (slcFar P t (.slice (some ⟨b, o, none⟩) n c) (some (.int k l)) none w)) (slcFar P t (.slice (some ⟨b, o, none⟩) n c) (some (.int k l)) none w) := by
  cases ht : elt P t with
  | none => rfl
  | some el =>
    simp only [orK]
    cases hs : siz P el with
    | none => rfl
    | some s =>
      dsimp only
      have hu := elt_elem ht
      have he : P.elem t = el := by simp [Program.elem, hu]
      have hu' : P.underlying t = some (.slice (P.elem t)) := by rw [he]; exact hu
      unfold slcS lift
      rw [run_sliceAt_slice w t _ _ _ _ hu', run_slice_l w t _ _ _ hu' _ _ h0 h1, he, size_of hs]
      have ha : (⟨b, o, none⟩ : Addr).add (l.toNat * s) = ⟨b, o + l.toNat * s, none⟩ := by
        unfold Addr.add
        by_cases h0 : l.toNat * s = 0
        · simp [h0]
        · simp [h0]
      by_cases hc : c = l.toNat
      · simp [sliced, hc]
      · simp [sliced, ha, hc]
end
attribute [push_cast] opX_sliceH opX_sliceL slc_hi slc_lo
end Go.Proofs.Ytpgfokhpacdhjaa.Fd
