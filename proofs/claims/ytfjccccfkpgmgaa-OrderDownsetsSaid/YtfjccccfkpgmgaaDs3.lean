/-
  The walk's sets, sorted, are the specification's list.
-/
import Derived.Test.YtfjccccfkpgmgaaDs2
namespace Go.Proofs.Ytfjccccfkpgmgaa.Fd
set_option linter.unusedSimpArgs false
set_option linter.unusedVariables false
open Go
def dnP (n : Nat) (lt : Nat → Nat → Bool) (l : List Nat) : Bool := l.all fun x => (List.range n).all fun a => !lt a x || decide (a ∈ l)
def specD (n : Nat) (lt : Nat → Nat → Bool) : List (List Nat) := (if dnP n lt [] then [[]] else []) ++ gSets n (dnP n lt) n []
theorem asc_unique : ∀ {s r : List Nat}, s.Pairwise (· < ·) → r.Pairwise (· < ·) → (∀ x, x ∈ s ↔ x ∈ r) → s = r
  | [], [], _, _, _ => rfl
  | [], y :: r, _, _, h => absurd ((h y).2 (List.mem_cons_self ..)) (by simp)
  | x :: s, [], _, _, h => absurd ((h x).1 (List.mem_cons_self ..)) (by simp)
  | x :: s, y :: r, h1, h2, h => by
    rw [List.pairwise_cons] at h1 h2
    have e : x = y := by
      have hx := (h x).1 (List.mem_cons_self ..)
      have hy := (h y).2 (List.mem_cons_self ..)
      rcases List.mem_cons.1 hx with e | hx
      · exact e
      · rcases List.mem_cons.1 hy with e | hy
        · exact e.symm
        · have := h1.1 y hy; have := h2.1 x hx; omega
    subst e
    rw [asc_unique h1.2 h2.2 fun z => ⟨fun hz => ?_, fun hz => ?_⟩]
    · rcases List.mem_cons.1 ((h z).1 (List.mem_cons_of_mem _ hz)) with e | hz2
      · have := h1.1 z hz; omega
      · exact hz2
    · rcases List.mem_cons.1 ((h z).2 (List.mem_cons_of_mem _ hz)) with e | hz2
      · have := h2.1 z hz; omega
      · exact hz2
theorem asc_filter {n : Nat} {T : Nat → Bool} : ((List.range n).filter T).Pairwise (· < ·) := List.Pairwise.filter _ List.pairwise_lt_range
theorem asc_as {n : Nat} {l : List Nat} (h : l.Pairwise (· < ·)) (hn : ∀ x, x ∈ l → x < n) : l = (List.range n).filter fun a => decide (a ∈ l) :=
  asc_unique h asc_filter fun x => by
    rw [List.mem_filter, List.mem_range, decide_eq_true_iff]
    exact ⟨fun hx => ⟨hn x hx, hx⟩, fun hx => hx.2⟩
theorem dnP_iff {n : Nat} {lt : Nat → Nat → Bool} {l : List Nat} : dnP n lt l = true ↔ ∀ x, x ∈ l → ∀ a, a < n → lt a x = true → a ∈ l := by
  unfold dnP
  rw [List.all_eq_true]
  constructor
  · intro h x hx a ha hl
    have := List.all_eq_true.1 (h x hx) a (List.mem_range.2 ha)
    rw [hl] at this
    simpa using this
  · intro h x hx
    rw [List.all_eq_true]
    intro a ha
    cases hl : lt a x with
    | false => rfl
    | true => simpa using h x hx a (List.mem_range.1 ha) hl
/-- The specification's list: the ascending lists below n that are down-closed. -/
theorem specD_mem {n : Nat} {lt : Nat → Nat → Bool} {l : List Nat} : l ∈ specD n lt ↔ dnP n lt l = true ∧ l.Pairwise (· < ·) ∧ ∀ x, x ∈ l → x < n := by
  unfold specD
  rw [List.mem_append, gSets_mem (Nat.le_refl _)]
  constructor
  · rintro (h | ⟨h1, m, r, e, h2, h3⟩)
    · split at h
      · rename_i hd
        rw [List.mem_singleton] at h
        subst h
        exact ⟨hd, List.Pairwise.nil, fun x hx => by cases hx⟩
      · cases h
    · rw [List.nil_append] at e
      subst e
      exact ⟨h1, h2, fun x hx => (h3 x hx).2⟩
  · rintro ⟨h1, h2, h3⟩
    cases l with
    | nil => left; rw [if_pos h1]; exact List.mem_singleton.2 rfl
    | cons m r => right; exact ⟨h1, m, r, rfl, h2, fun x hx => ⟨by omega, h3 x hx⟩⟩
theorem specD_sorted {n : Nat} {lt : Nat → Nat → Bool} : (specD n lt).Pairwise (fun a b => lexL a b = true) := by
  unfold specD
  rw [List.pairwise_append]
  refine ⟨by split <;> simp, gSets_sorted (Nat.le_refl _), fun a ha b hb => ?_⟩
  split at ha
  · rw [List.mem_singleton] at ha
    obtain ⟨_, m, r, e, _⟩ := (gSets_mem (Nat.le_refl _)).1 hb
    rw [ha, e]
    rfl
  · cases ha
theorem ext_lt {n : Nat} {lt : Nat → Nat → Bool} : ∀ {o : List Nat}, Ext n lt o → ∀ x, x ∈ o → x < n
  | [], _, x, hx => by cases hx
  | y :: o, h, x, hx => by
    rcases List.mem_cons.1 hx with e | hx
    · rw [e]; exact h.1
    · exact ext_lt h.2.2.2 x hx
theorem wSets_iff {n : Nat} {lt : Nat → Nat → Bool} {o : List Nat} (hE : Ext n lt o) (hall : ∀ a, a < n → a ∈ o) {l : List Nat} : l ∈ wSets n lt o (fun _ => false) ↔ l ∈ specD n lt := by
  rw [wSets_mem hE, specD_mem, dnP_iff]
  constructor
  · rintro ⟨T, h1, h2, _, rfl⟩
    refine ⟨fun x hx a ha hl => ?_, asc_filter, fun x hx => List.mem_range.1 (List.mem_filter.1 hx).1⟩
    obtain ⟨hx1, hx2⟩ := List.mem_filter.1 hx
    rcases h2 x (hall x (List.mem_range.1 hx1)) hx2 with h | h
    · cases h
    · exact List.mem_filter.2 ⟨List.mem_range.2 ha, h a ha hl⟩
  · rintro ⟨h1, h2, h3⟩
    refine ⟨fun a => decide (a ∈ l), fun a ha => ?_, fun x hx hT => .inr fun a ha hl => ?_, fun x hx hS => (by cases hS), asc_as h2 h3⟩
    · exact decide_eq_false fun h => ha (hall a (h3 a h))
    · exact decide_eq_true (h1 x (of_decide_eq_true hT) a ha hl)
/-- Whatever sorts the walk's sets gives the specification's list. -/
theorem downs_eq {n : Nat} {lt : Nat → Nat → Bool} {o : List Nat} (hE : Ext n lt o) (hall : ∀ a, a < n → a ∈ o) {s : List (List Nat)} (hp : s.Perm (wSets n lt o fun _ => false)) (hs : s.Pairwise (fun a b => lexL b a = false)) : s = specD n lt := by
  have hnd : s.Nodup := hp.nodup_iff.2 (wSets_nodup hE fun _ _ => rfl)
  refine lex_unique ?_ specD_sorted fun x => by rw [hp.mem_iff, wSets_iff hE hall]
  refine (hs.and hnd).imp fun {a b} h => ?_
  cases hab : lexL a b with
  | true => rfl
  | false => exact absurd (lexL_total hab h.1) h.2
theorem downs_len {n : Nat} {lt : Nat → Nat → Bool} {o : List Nat} (hE : Ext n lt o) (hall : ∀ a, a < n → a ∈ o) : (wSets n lt o fun _ => false).length = (specD n lt).length := by
  have h1 := wSets_nodup (o := o) (S := fun _ => false) hE fun _ _ => rfl
  have h2 : (specD n lt).Nodup := (specD_sorted (n := n) (lt := lt)).imp fun {a b} h e => by rw [e, lexL_irrefl] at h; cases h
  exact ((List.perm_ext_iff_of_nodup h1 h2).2 fun x => wSets_iff hE hall).length_eq
/-- The walk with its limit, as the program has it. -/
def walkP (n : Nat) (lt : Nat → Nat → Bool) (limit : Nat) : List Nat → (Nat → Bool) → List (List Nat) → Option (List (List Nat))
  | [], S, acc => if acc.length = limit then none else some (acc ++ [(List.range n).filter S])
  | x :: o, S, acc => (walkP n lt limit o S acc).bind fun acc' => if (List.range n).any (fun a => lt a x && !S a) then some acc' else walkP n lt limit o (addS S x) acc'
theorem walkP_eq {n : Nat} {lt : Nat → Nat → Bool} {limit : Nat} : ∀ {o : List Nat} {S : Nat → Bool} {acc : List (List Nat)}, acc.length ≤ limit →
    walkP n lt limit o S acc = if acc.length + (wSets n lt o S).length ≤ limit then some (acc ++ wSets n lt o S) else none
  | [], S, acc, h => by
    rw [walkP, wSets, List.length_singleton]
    by_cases h1 : acc.length = limit
    · rw [if_pos h1, if_neg (by omega)]
    · rw [if_neg h1, if_pos (by omega)]
  | x :: o, S, acc, h => by
    rw [walkP, wSets, walkP_eq h, List.length_append]
    by_cases h1 : acc.length + (wSets n lt o S).length ≤ limit
    · rw [if_pos h1, Option.bind_some]
      split
      · rw [List.length_nil, Nat.add_zero, if_pos h1, List.append_nil]
      · rw [walkP_eq (by rw [List.length_append]; exact h1), List.length_append, Nat.add_assoc, List.append_assoc]
    · rw [if_neg h1, Option.bind_none, if_neg (by omega)]
/-- slices.Compare. -/
def cmpL : List Nat → List Nat → Int
  | [], [] => 0
  | [], _ :: _ => -1
  | _ :: _, [] => 1
  | x :: a, y :: b => if x < y then -1 else if y < x then 1 else cmpL a b
theorem cmpL_neg : ∀ {a b : List Nat}, decide (cmpL a b < 0) = lexL a b
  | [], [] => rfl
  | [], _ :: _ => rfl
  | _ :: _, [] => rfl
  | x :: a, y :: b => by
    rw [cmpL, lexL]
    by_cases h1 : x < y
    · rw [if_pos h1, if_pos h1]; rfl
    · rw [if_neg h1, if_neg h1]
      by_cases h2 : y < x
      · rw [if_pos h2, if_pos h2]; rfl
      · rw [if_neg h2, if_neg h2]; exact cmpL_neg
theorem lexL_ntrans {a b c : List Nat} (h1 : lexL a b = false) (h2 : lexL b c = false) : lexL a c = false := by
  cases h : lexL a c with
  | false => rfl
  | true =>
    cases h3 : lexL c b with
    | true => rw [lexL_trans h h3] at h1; cases h1
    | false => rw [lexL_total h2 h3, h] at h1; cases h1
end Go.Proofs.Ytfjccccfkpgmgaa.Fd
