/-
  What the program's walk over a linear extension collects.
-/
import Derived.Test.YtfjccccfkpgmgaaDs1
namespace Go.Proofs.Ytfjccccfkpgmgaa.Fd
set_option linter.unusedSimpArgs false
set_option linter.unusedVariables false
open Go
def addS (S : Nat → Bool) (x : Nat) : Nat → Bool := fun a => S a || decide (a = x)
/-- Sets collected over the rest of the order, S being chosen so far; lt a b: a is below b. -/
def wSets (n : Nat) (lt : Nat → Nat → Bool) : List Nat → (Nat → Bool) → List (List Nat)
  | [], S => [(List.range n).filter S]
  | x :: o, S => wSets n lt o S ++ (if (List.range n).any (fun a => lt a x && !S a) then [] else wSets n lt o (addS S x))
/-- The order is a linear extension of what is left. -/
def Ext (n : Nat) (lt : Nat → Nat → Bool) : List Nat → Prop
  | [] => True
  | x :: o => x < n ∧ x ∉ o ∧ (∀ a, a < n → lt a x = true → a ≠ x ∧ a ∉ o) ∧ Ext n lt o
theorem wSets_mem {n : Nat} {lt : Nat → Nat → Bool} : ∀ {o : List Nat} {S : Nat → Bool} {l : List Nat}, Ext n lt o →
    (l ∈ wSets n lt o S ↔ ∃ T : Nat → Bool, (∀ a, a ∉ o → T a = S a) ∧ (∀ x, x ∈ o → T x = true → S x = true ∨ ∀ a, a < n → lt a x = true → T a = true) ∧ (∀ x, x ∈ o → S x = true → T x = true) ∧ l = (List.range n).filter T)
  | [], S, l, _ => by
    rw [wSets, List.mem_singleton]
    constructor
    · intro h
      exact ⟨S, fun _ _ => rfl, fun x hx => by simp at hx, fun x hx => by simp at hx, h⟩
    · rintro ⟨T, h1, _, _, rfl⟩
      rw [show T = S from funext fun a => h1 a (by simp)]
  | x :: o, S, l, hE => by
    obtain ⟨hx, hxo, hp, hE'⟩ := hE
    rw [wSets, List.mem_append, wSets_mem hE']
    constructor
    · rintro (⟨T, h1, h2, h3, h4⟩ | h)
      · refine ⟨T, fun a ha => h1 a fun h => ha (List.mem_cons_of_mem _ h), fun y hy hT => ?_, fun y hy hS => ?_, h4⟩
        · rcases List.mem_cons.1 hy with e | hy
          · left; rw [e] at hT ⊢; rw [← h1 x hxo]; exact hT
          · exact h2 y hy hT
        · rcases List.mem_cons.1 hy with e | hy
          · rw [e] at hS ⊢; rw [h1 x hxo]; exact hS
          · exact h3 y hy hS
      · split at h
        · cases h
        · rename_i hno
          obtain ⟨T, h1, h2, h3, h4⟩ := (wSets_mem hE').1 h
          have hall : ∀ a, a < n → lt a x = true → S a = true := fun a ha hl => by
            cases hS : S a with
            | true => rfl
            | false => exact absurd (List.any_eq_true.2 ⟨a, List.mem_range.2 ha, by rw [hl, hS]; rfl⟩) hno
          refine ⟨T, fun a ha => ?_, fun y hy hT => ?_, fun y hy hS => ?_, h4⟩
          · rw [h1 a fun h => ha (List.mem_cons_of_mem _ h)]
            unfold addS
            rw [decide_eq_false (fun e => ha (by rw [e]; exact List.mem_cons_self ..)), Bool.or_false]
          · rcases List.mem_cons.1 hy with e | hy
            · right
              intro a ha hl
              rw [e] at hl
              rw [h1 a (hp a ha hl).2]
              unfold addS
              rw [hall a ha hl]; rfl
            · have hne : y ≠ x := fun e => hxo (by rw [← e]; exact hy)
              rcases h2 y hy hT with h | h
              · left
                unfold addS at h
                rw [decide_eq_false hne, Bool.or_false] at h
                exact h
              · exact .inr h
          · rcases List.mem_cons.1 hy with e | hy
            · rw [e, h1 x hxo]
              unfold addS
              simp
            · exact h3 y hy (by unfold addS; rw [hS]; rfl)
    · rintro ⟨T, h1, h2, h3, h4⟩
      cases hTx : T x with
      | false =>
        left
        have hSx : S x = false := by
          cases hS : S x with
          | false => rfl
          | true => rw [h3 x (List.mem_cons_self ..) hS] at hTx; cases hTx
        refine ⟨T, fun a ha => ?_, fun y hy => h2 y (List.mem_cons_of_mem _ hy), fun y hy => h3 y (List.mem_cons_of_mem _ hy), h4⟩
        by_cases e : a = x
        · rw [e, hTx, hSx]
        · exact h1 a fun h => (List.mem_cons.1 h).elim e ha
      | true =>
        by_cases hSx : S x = true
        · left
          refine ⟨T, fun a ha => ?_, fun y hy => h2 y (List.mem_cons_of_mem _ hy), fun y hy => h3 y (List.mem_cons_of_mem _ hy), h4⟩
          by_cases e : a = x
          · rw [e, hTx, hSx]
          · exact h1 a fun h => (List.mem_cons.1 h).elim e ha
        · right
          have hcl := (h2 x (List.mem_cons_self ..) hTx).resolve_left hSx
          rw [if_neg (fun h => by
            obtain ⟨a, ha, hb⟩ := List.any_eq_true.1 h
            have ha := List.mem_range.1 ha
            simp only [Bool.and_eq_true, Bool.not_eq_true'] at hb
            obtain ⟨q1, q2⟩ := hp a ha hb.1
            have := hcl a ha hb.1
            rw [h1 a (fun h => (List.mem_cons.1 h).elim q1 q2), hb.2] at this
            cases this), wSets_mem hE']
          refine ⟨T, fun a ha => ?_, fun y hy hT => ?_, fun y hy hS => ?_, h4⟩
          · unfold addS
            by_cases e : a = x
            · rw [e, hTx]; simp
            · rw [h1 a fun h => (List.mem_cons.1 h).elim e ha, decide_eq_false e, Bool.or_false]
          · rcases h2 y (List.mem_cons_of_mem _ hy) hT with h | h
            · left; unfold addS; rw [h]; rfl
            · exact .inr h
          · have hne : y ≠ x := fun e => hxo (by rw [← e]; exact hy)
            unfold addS at hS
            rw [decide_eq_false hne, Bool.or_false] at hS
            exact h3 y (List.mem_cons_of_mem _ hy) hS
theorem filter_eq {n : Nat} {S T : Nat → Bool} (h : (List.range n).filter S = (List.range n).filter T) {a : Nat} (ha : a < n) : S a = T a := by
  have m : a ∈ (List.range n).filter S ↔ a ∈ (List.range n).filter T := by rw [h]
  simp only [List.mem_filter, List.mem_range, ha, true_and] at m
  cases hS : S a <;> cases hT : T a <;> simp [hS, hT] at m <;> rfl
theorem wSets_nodup {n : Nat} {lt : Nat → Nat → Bool} : ∀ {o : List Nat} {S : Nat → Bool}, Ext n lt o → (∀ x, x ∈ o → S x = false) → (wSets n lt o S).Nodup
  | [], _, _, _ => by rw [wSets]; simp
  | x :: o, S, hE, hS => by
    obtain ⟨hx, hxo, hp, hE'⟩ := id hE
    have hSo : ∀ y, y ∈ o → S y = false := fun y hy => hS y (List.mem_cons_of_mem _ hy)
    have hAo : ∀ y, y ∈ o → addS S x y = false := fun y hy => by
      unfold addS
      rw [hSo y hy, decide_eq_false (fun e => hxo (by rw [← e]; exact hy))]; rfl
    rw [wSets, List.nodup_append]
    refine ⟨wSets_nodup hE' hSo, ?_, fun l hl r hr e => ?_⟩
    · split
      · simp
      · exact wSets_nodup hE' hAo
    · split at hr
      · cases hr
      · obtain ⟨T, h1, _, _, h4⟩ := (wSets_mem hE').1 hl
        obtain ⟨U, g1, _, _, g4⟩ := (wSets_mem hE').1 hr
        have := filter_eq (h4.symm.trans (e.trans g4)) hx
        rw [h1 x hxo, g1 x hxo, hS x (List.mem_cons_self ..)] at this
        simp [addS] at this
end Go.Proofs.Ytfjccccfkpgmgaa.Fd
