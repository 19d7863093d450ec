/-
  Plain facts of lists in lexicographic order; the specification's list of down-closed sets.
-/
import Derived.Test.YtfjccccfkpgmgaaFd1
namespace Go.Proofs.Ytfjccccfkpgmgaa.Fd
set_option linter.unusedSimpArgs false
set_option linter.unusedVariables false
open Go
/-- a comes before b, as lists are compared. -/
def lexL : List Nat → List Nat → Bool
  | [], [] => false
  | [], _ :: _ => true
  | _ :: _, [] => false
  | x :: a, y :: b => if x < y then true else if y < x then false else lexL a b
theorem lexL_irrefl : ∀ a, lexL a a = false
  | [] => rfl
  | x :: a => by rw [lexL, if_neg (Nat.lt_irrefl x), if_neg (Nat.lt_irrefl x)]; exact lexL_irrefl a
theorem lexL_trans : ∀ {a b c : List Nat}, lexL a b = true → lexL b c = true → lexL a c = true
  | [], [], _, h, _ => by simp [lexL] at h
  | [], _ :: _, [], _, h => by simp [lexL] at h
  | [], _ :: _, _ :: _, _, _ => rfl
  | _ :: _, [], _, h, _ => by simp [lexL] at h
  | _ :: _, _ :: _, [], _, h => by simp [lexL] at h
  | x :: a, y :: b, z :: c, h1, h2 => by
    rw [lexL] at h1 h2 ⊢
    by_cases q1 : x < y
    · by_cases q2 : y < z
      · rw [if_pos (by omega)]
      · rw [if_neg q2] at h2
        by_cases q3 : z < y
        · rw [if_pos q3] at h2; cases h2
        · rw [if_pos (by omega)]
    · rw [if_neg q1] at h1
      by_cases q2 : y < x
      · rw [if_pos q2] at h1; cases h1
      · rw [if_neg q2] at h1
        have : x = y := by omega
        subst this
        by_cases q3 : x < z
        · rw [if_pos q3]
        · rw [if_neg q3] at h2 ⊢
          by_cases q4 : z < x
          · rw [if_pos q4] at h2; cases h2
          · rw [if_neg q4] at h2 ⊢
            exact lexL_trans h1 h2
theorem lexL_total : ∀ {a b : List Nat}, lexL a b = false → lexL b a = false → a = b
  | [], [], _, _ => rfl
  | [], _ :: _, h, _ => by simp [lexL] at h
  | _ :: _, [], _, h => by simp [lexL] at h
  | x :: a, y :: b, h1, h2 => by
    rw [lexL] at h1 h2
    by_cases q1 : x < y
    · rw [if_pos q1] at h1; cases h1
    · by_cases q2 : y < x
      · rw [if_pos q2] at h2; cases h2
      · rw [if_neg q1, if_neg q2] at h1
        rw [if_neg q2, if_neg q1] at h2
        rw [show x = y by omega, lexL_total h1 h2]
theorem lexL_ext {a : List Nat} {x : Nat} {b : List Nat} : lexL a (a ++ x :: b) = true := by
  induction a with
  | nil => rfl
  | cons y a ih => rw [List.cons_append, lexL, if_neg (Nat.lt_irrefl y), if_neg (Nat.lt_irrefl y)]; exact ih
theorem lexL_app {a : List Nat} {x y : Nat} {b c : List Nat} (h : x < y) : lexL (a ++ x :: b) (a ++ y :: c) = true := by
  induction a with
  | nil => show lexL (x :: b) (y :: c) = true; rw [lexL, if_pos h]
  | cons z a ih => rw [List.cons_append, List.cons_append, lexL, if_neg (Nat.lt_irrefl z), if_neg (Nat.lt_irrefl z)]; exact ih
/-- Two strictly sorted lists with the same members are the same. -/
theorem lex_unique : ∀ {s r : List (List Nat)}, s.Pairwise (fun a b => lexL a b = true) → r.Pairwise (fun a b => lexL a b = true) → (∀ x, x ∈ s ↔ x ∈ r) → s = r
  | [], [], _, _, _ => rfl
  | [], y :: r, _, _, h => absurd ((h y).2 (List.mem_cons_self ..)) (by simp)
  | x :: s, [], _, _, h => absurd ((h x).1 (List.mem_cons_self ..)) (by simp)
  | x :: s, y :: r, h1, h2, h => by
    rw [List.pairwise_cons] at h1 h2
    have e : x = y := by
      have hx := (h x).1 (List.mem_cons_self ..)
      have hy := (h y).2 (List.mem_cons_self ..)
      rcases List.mem_cons.1 hx with e | hx
      · exact e
      · rcases List.mem_cons.1 hy with e | hy
        · exact e.symm
        · have := lexL_trans (h1.1 y hy) (h2.1 x hx)
          rw [lexL_irrefl] at this
          cases this
    subst e
    rw [lex_unique h1.2 h2.2 fun z => ⟨fun hz => ?_, fun hz => ?_⟩]
    · rcases List.mem_cons.1 ((h z).1 (List.mem_cons_of_mem _ hz)) with e | hz2
      · have := h1.1 z hz
        rw [e, lexL_irrefl] at this
        cases this
      · exact hz2
    · rcases List.mem_cons.1 ((h z).2 (List.mem_cons_of_mem _ hz)) with e | hz2
      · have := h2.1 z hz
        rw [e, lexL_irrefl] at this
        cases this
      · exact hz2
/-- The sets that continue l by elements from n - k on, in order; dn: is the set down-closed. -/
def gSets (n : Nat) (dn : List Nat → Bool) : Nat → List Nat → List (List Nat)
  | 0, _ => []
  | k + 1, l => (if dn (l ++ [n - (k + 1)]) then [l ++ [n - (k + 1)]] else []) ++ gSets n dn k (l ++ [n - (k + 1)]) ++ gSets n dn k l
theorem gSets_mem {n : Nat} {dn : List Nat → Bool} : ∀ {k : Nat} {l x : List Nat}, k ≤ n → (x ∈ gSets n dn k l ↔ dn x = true ∧ ∃ m r, x = l ++ m :: r ∧ (m :: r).Pairwise (· < ·) ∧ ∀ y, y ∈ m :: r → n - k ≤ y ∧ y < n)
  | 0, l, x, _ => by
    refine Iff.intro (fun h => absurd (show x ∈ ([] : List (List Nat)) from h) (by simp)) ?_
    rintro ⟨_, m, r, _, _, h⟩
    have := h m (List.mem_cons_self ..)
    omega
  | k + 1, l, x, hk => by
    rw [gSets, List.mem_append, List.mem_append, gSets_mem (by omega), gSets_mem (by omega)]
    constructor
    · rintro ((h | ⟨h1, m, r, e, h2, h3⟩) | ⟨h1, m, r, e, h2, h3⟩)
      · split at h
        · rename_i hd
          rw [List.mem_singleton] at h
          subst h
          refine ⟨hd, n - (k + 1), [], rfl, by simp, fun y hy => ?_⟩
          rw [List.mem_singleton] at hy
          omega
        · cases h
      · refine ⟨h1, n - (k + 1), m :: r, by rw [e]; simp, ?_, fun y hy => ?_⟩
        · rw [List.pairwise_cons]
          exact ⟨fun y hy => by have := h3 y hy; omega, h2⟩
        · rcases List.mem_cons.1 hy with e | hy
          · omega
          · have := h3 y hy; omega
      · exact ⟨h1, m, r, e, h2, fun y hy => by have := h3 y hy; omega⟩
    · rintro ⟨h1, m, r, e, h2, h3⟩
      by_cases hm : m = n - (k + 1)
      · left
        cases r with
        | nil =>
          left
          rw [← hm, ← e, if_pos h1]
          exact List.mem_singleton.2 rfl
        | cons m' r' =>
          right
          rw [List.pairwise_cons] at h2
          refine ⟨h1, m', r', by rw [e, hm]; simp, h2.2, fun y hy => ?_⟩
          have := h2.1 y hy
          have := h3 y (List.mem_cons_of_mem _ hy)
          omega
      · right
        refine ⟨h1, m, r, e, h2, fun y hy => ?_⟩
        have hm0 := h3 m (List.mem_cons_self ..)
        rcases List.mem_cons.1 hy with e | hy2
        · omega
        · rw [List.pairwise_cons] at h2
          have := h2.1 y hy2
          have := h3 y hy
          omega
theorem gSets_sorted {n : Nat} {dn : List Nat → Bool} : ∀ {k : Nat} {l : List Nat}, k ≤ n → (gSets n dn k l).Pairwise (fun a b => lexL a b = true)
  | 0, _, _ => List.Pairwise.nil
  | k + 1, l, hk => by
    rw [gSets, List.pairwise_append]
    refine ⟨?_, gSets_sorted (by omega), fun a ha b hb => ?_⟩
    · rw [List.pairwise_append]
      refine ⟨by split <;> simp, gSets_sorted (by omega), fun a ha b hb => ?_⟩
      split at ha
      · rw [List.mem_singleton] at ha
        obtain ⟨_, m, r, e, _⟩ := (gSets_mem (by omega)).1 hb
        rw [ha, e]
        exact lexL_ext
      · cases ha
    · obtain ⟨_, m, r, e, _, h3⟩ := (gSets_mem (by omega)).1 hb
      have hm := h3 m (List.mem_cons_self ..)
      have key : ∀ q, lexL (l ++ (n - (k + 1)) :: q) b = true := fun q => by rw [e]; exact lexL_app (by omega)
      rcases List.mem_append.1 ha with ha | ha
      · split at ha
        · rw [List.mem_singleton] at ha
          rw [ha]
          exact key []
        · cases ha
      · obtain ⟨_, m', r', e', _⟩ := (gSets_mem (by omega)).1 ha
        rw [e', List.append_assoc]
        exact key _
end Go.Proofs.Ytfjccccfkpgmgaa.Fd
