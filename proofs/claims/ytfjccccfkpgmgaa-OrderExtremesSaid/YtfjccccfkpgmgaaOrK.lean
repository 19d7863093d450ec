/-
  Matchings by augmenting paths, as plain facts: what one search does.
-/
import Derived.Test.YtfjccccfkpgmgaaOrJ
namespace Go.Proofs.Ytfjccccfkpgmgaa.Fd
set_option linter.unusedSimpArgs false
set_option linter.unusedVariables false
open Go
set_option maxRecDepth 100000

/-- Right side to left side (prev), left side to right side (next). -/
abbrev Mt := Nat → Option Nat
structure TryPre (E : Rel) (seen : Nat → Bool) (P Q : Mt) (a : Nat) : Prop where
  edge : ∀ b x, P b = some x → E x b = true
  inj : ∀ b b' x, seen b = false → seen b' = false → P b = some x → P b' = some x → b = b'
  new : ∀ b, seen b = false → P b ≠ some a
  link : ∀ b x, seen b = false → P b = some x → Q x = some b
structure TryNo (E : Rel) (seen : Nat → Bool) (P : Mt) (a : Nat) (seen' : Nat → Bool) : Prop where
  up : ∀ b, seen b = true → seen' b = true
  all : ∀ b, E a b = true → seen' b = true
  shut : ∀ b, seen' b = true → seen b = false → ∃ x, P b = some x ∧ ∀ b', E x b' = true → seen' b' = true
def Shut (E : Rel) (P : Mt) (C : Nat → Prop) : Prop := ∀ b, C b → ∃ x, P b = some x ∧ ∀ b', E x b' = true → C b'
structure TryYes (E : Rel) (seen : Nat → Bool) (P Q : Mt) (a : Nat) (seen' : Nat → Bool) (P' Q' : Mt) : Prop where
  up : ∀ b, seen b = true → seen' b = true
  old : ∀ b, seen b = true → P' b = P b
  edge : ∀ b x, P' b = some x → E x b = true
  inj : ∀ b b' x, seen b = false → seen b' = false → P' b = some x → P' b' = some x → b = b'
  img : ∀ x, (∃ b, seen b = false ∧ P' b = some x) ↔ (x = a ∨ ∃ b, seen b = false ∧ P b = some x)
  link : ∀ b x, seen b = false → P' b = some x → Q' x = some b
  rest : ∀ x, (¬ ∃ b, seen b = false ∧ P' b = some x) → Q' x = Q x
  shut : ∀ C : Nat → Prop, Shut E P C → (∀ b, C b → P' b = P b) ∧ ∃ b, E a b = true ∧ ¬ C b
def mark (seen : Nat → Bool) (j : Nat) : Nat → Bool := fun b => b == j || seen b
def put1 (P : Mt) (j x : Nat) : Mt := fun b => if b = j then some x else P b
theorem mark_false {seen : Nat → Bool} {j b : Nat} : mark seen j b = false ↔ b ≠ j ∧ seen b = false := by
  unfold mark
  rw [Bool.or_eq_false_iff, beq_eq_false_iff_ne]
theorem mark_self {seen : Nat → Bool} {j : Nat} : mark seen j j = true := by simp [mark]
theorem mark_up {seen : Nat → Bool} {j b : Nat} (h : seen b = true) : mark seen j b = true := by simp [mark, h]

/-- What holds at the search's round j: nothing is changed, what was visited is shut. -/
structure TryMid (E : Rel) (seen : Nat → Bool) (P : Mt) (a j : Nat) (s : Nat → Bool) : Prop where
  up : ∀ b, seen b = true → s b = true
  all : ∀ b, b < j → E a b = true → s b = true
  shut : ∀ b, s b = true → seen b = false → ∃ x, P b = some x ∧ ∀ b', E x b' = true → s b' = true
theorem TryMid.skip {E : Rel} {seen s : Nat → Bool} {P : Mt} {a j : Nat} (h : TryMid E seen P a j s) (hj : E a j = true → s j = true) : TryMid E seen P a (j + 1) s :=
  ⟨h.up, fun b hb hE => by
    by_cases e : b = j
    · subst e; exact hj hE
    · exact h.all b (by omega) hE, h.shut⟩
theorem TryMid.done {E : Rel} {seen s : Nat → Bool} {P : Mt} {a n : Nat} (hE : ∀ x b, E x b = true → b < n) (h : TryMid E seen P a n s) : TryNo E seen P a s :=
  ⟨h.up, fun b hb => h.all b (hE a b hb) hb, h.shut⟩
/-- A free place is found. -/
theorem TryMid.free {E : Rel} {seen s : Nat → Bool} {P Q : Mt} {a j : Nat} (hp : TryPre E seen P Q a) (h : TryMid E seen P a j s) (hE : E a j = true) (hs : s j = false) (hP : P j = none) :
    TryYes E seen P Q a (mark s j) (put1 P j a) (put1 Q a j) := by
  have hsj : seen j = false := by
    cases e : seen j
    · rfl
    · rw [h.up j e] at hs; cases hs
  have hput : ∀ b, b ≠ j → put1 P j a b = P b := fun b hb => by unfold put1; rw [if_neg hb]
  have hputj : put1 P j a j = some a := by unfold put1; rw [if_pos rfl]
  refine ⟨fun b hb => mark_up (h.up b hb), fun b hb => hput b (fun e => by subst e; rw [hsj] at hb; cases hb), fun b x hx => ?_, fun b b' x h1 h2 h3 h4 => ?_, fun x => ?_, fun b x h1 h2 => ?_, fun x hx => ?_, fun C hC => ⟨fun b hb => hput b (fun e => ?_), j, hE, fun hC' => ?_⟩⟩
  · by_cases e : b = j
    · subst e; rw [hputj] at hx; cases hx; exact hE
    · rw [hput b e] at hx; exact hp.edge b x hx
  · by_cases e1 : b = j
    · by_cases e2 : b' = j
      · omega
      · subst e1; rw [hputj] at h3; cases h3; rw [hput b' e2] at h4; exact absurd h4 (hp.new b' h2)
    · by_cases e2 : b' = j
      · subst e2; rw [hputj] at h4; cases h4; rw [hput b e1] at h3; exact absurd h3 (hp.new b h1)
      · rw [hput b e1] at h3; rw [hput b' e2] at h4; exact hp.inj b b' x h1 h2 h3 h4
  · constructor
    · rintro ⟨b, h1, h2⟩
      by_cases e : b = j
      · subst e; rw [hputj] at h2; cases h2; exact .inl rfl
      · rw [hput b e] at h2; exact .inr ⟨b, h1, h2⟩
    · rintro (rfl | ⟨b, h1, h2⟩)
      · exact ⟨j, hsj, hputj⟩
      · have e : b ≠ j := fun e => by subst e; rw [hP] at h2; cases h2
        exact ⟨b, h1, by rw [hput b e]; exact h2⟩
  · by_cases e : b = j
    · subst e; rw [hputj] at h2; cases h2; unfold put1; rw [if_pos rfl]
    · rw [hput b e] at h2
      have hxa : x ≠ a := fun e => by subst e; exact hp.new b h1 h2
      unfold put1
      rw [if_neg hxa]
      exact hp.link b x h1 h2
  · have hxa : x ≠ a := fun e => by subst e; exact hx ⟨j, hsj, hputj⟩
    unfold put1
    rw [if_neg hxa]
  · subst e
    obtain ⟨x, hx, _⟩ := hC b hb
    rw [hP] at hx
    cases hx
  · obtain ⟨x, hx, _⟩ := hC j hC'
    rw [hP] at hx
    cases hx
/-- What the search from the partner may assume. -/
theorem TryMid.pre {E : Rel} {seen s : Nat → Bool} {P Q : Mt} {a j x : Nat} (hp : TryPre E seen P Q a) (h : TryMid E seen P a j s) (hs : s j = false) (hP : P j = some x) : TryPre E (mark s j) P Q x := by
  have hsj : ∀ b, s b = false → seen b = false := fun b hb => by
    cases e : seen b
    · rfl
    · rw [h.up b e] at hb; cases hb
  refine ⟨hp.edge, fun b b' y h1 h2 => hp.inj b b' y (hsj b (mark_false.1 h1).2) (hsj b' (mark_false.1 h2).2), fun b hb e => ?_, fun b y hb => hp.link b y (hsj b (mark_false.1 hb).2)⟩
  have := hp.inj b j x (hsj b (mark_false.1 hb).2) (hsj j hs) e hP
  exact (mark_false.1 hb).1 this
theorem TryMid.failed {E : Rel} {seen s s2 : Nat → Bool} {P : Mt} {a j x : Nat} (h : TryMid E seen P a j s) (hP : P j = some x) (h2 : TryNo E (mark s j) P x s2) : TryMid E seen P a (j + 1) s2 := by
  refine ⟨fun b hb => h2.up b (mark_up (h.up b hb)), fun b hb hE => ?_, fun b hb hs => ?_⟩
  · by_cases e : b = j
    · subst e; exact h2.up b mark_self
    · exact h2.up b (mark_up (h.all b (by omega) hE))
  · by_cases e : b = j
    · subst e
      exact ⟨x, hP, h2.all⟩
    · cases e2 : s b
      · exact h2.shut b hb (mark_false.2 ⟨e, e2⟩)
      · obtain ⟨y, h3, h4⟩ := h.shut b e2 hs
        exact ⟨y, h3, fun b' hb' => h2.up b' (mark_up (h4 b' hb'))⟩
/-- The partner found another place. -/
theorem TryMid.moved {E : Rel} {seen s s2 : Nat → Bool} {P Q P2 Q2 : Mt} {a j x : Nat} (hp : TryPre E seen P Q a) (h : TryMid E seen P a j s) (hE : E a j = true) (hs : s j = false) (hP : P j = some x)
    (h2 : TryYes E (mark s j) P Q x s2 P2 Q2) : TryYes E seen P Q a s2 (put1 P2 j a) (put1 Q2 a j) := by
  have hsn : ∀ b, s b = false → seen b = false := fun b hb => by
    cases e : seen b
    · rfl
    · rw [h.up b e] at hb; cases hb
  have hsj := hsn j hs
  have hxa : x ≠ a := fun e => by subst e; exact hp.new j hsj hP
  have hput : ∀ b, b ≠ j → put1 P2 j a b = P2 b := fun b hb => by unfold put1; rw [if_neg hb]
  have hputj : put1 P2 j a j = some a := by unfold put1; rw [if_pos rfl]
  have hkeep : ∀ b, s b = true → P2 b = P b := fun b hb => h2.old b (mark_up hb)
  -- where an image lies among the places not seen by the partner's search
  have himg : ∀ b y, b ≠ j → s b = false → P2 b = some y → y = x ∨ ∃ c, mark s j c = false ∧ P c = some y := fun b y h1 h3 h4 => (h2.img y).1 ⟨b, mark_false.2 ⟨h1, h3⟩, h4⟩
  have hnoa : ∀ b, b ≠ j → seen b = false → P2 b ≠ some a := by
    intro b h1 h3 h4
    cases e : s b
    · rcases himg b a h1 e h4 with h5 | ⟨c, h5, h6⟩
      · exact hxa h5.symm
      · exact hp.new c (hsn c (mark_false.1 h5).2) h6
    · rw [hkeep b e] at h4
      exact hp.new b h3 h4
  -- a place that was visited before and one that was not never share an image
  have hcross : ∀ b b' y, b ≠ j → b' ≠ j → seen b = false → s b = true → s b' = false → P b = some y → P2 b' = some y → False := by
    intro b b' y h1 h3 h4 h5 h6 h7 h8
    rcases himg b' y h3 h6 h8 with rfl | ⟨c, h9, h10⟩
    · exact h1 (hp.inj b j y h4 hsj h7 hP)
    · have := hp.inj b c y h4 (hsn c (mark_false.1 h9).2) h7 h10
      subst this
      rw [(mark_false.1 h9).2] at h5
      cases h5
  refine ⟨fun b hb => h2.up b (mark_up (h.up b hb)), fun b hb => ?_, fun b y hy => ?_, fun b b' y h1 h3 h4 h5 => ?_, fun y => ?_, fun b y h1 h3 => ?_, fun y hy => ?_, fun C hC => ?_⟩
  · rw [hput b (fun e => by subst e; rw [hsj] at hb; cases hb)]
    exact hkeep b (h.up b hb)
  · by_cases e : b = j
    · subst e; rw [hputj] at hy; cases hy; exact hE
    · rw [hput b e] at hy; exact h2.edge b y hy
  · by_cases e1 : b = j
    · by_cases e2 : b' = j
      · omega
      · subst e1; rw [hputj] at h4; cases h4; rw [hput b' e2] at h5; exact absurd h5 (hnoa b' e2 h3)
    · by_cases e2 : b' = j
      · subst e2; rw [hputj] at h5; cases h5; rw [hput b e1] at h4; exact absurd h4 (hnoa b e1 h1)
      · rw [hput b e1] at h4; rw [hput b' e2] at h5
        cases f1 : s b
        · cases f2 : s b'
          · exact h2.inj b b' y (mark_false.2 ⟨e1, f1⟩) (mark_false.2 ⟨e2, f2⟩) h4 h5
          · rw [hkeep b' f2] at h5
            exact (hcross b' b y e2 e1 h3 f2 f1 h5 h4).elim
        · rw [hkeep b f1] at h4
          cases f2 : s b'
          · exact (hcross b b' y e1 e2 h1 f1 f2 h4 h5).elim
          · rw [hkeep b' f2] at h5
            exact hp.inj b b' y h1 h3 h4 h5
  · constructor
    · rintro ⟨b, h1, h3⟩
      by_cases e : b = j
      · subst e; rw [hputj] at h3; cases h3; exact .inl rfl
      · rw [hput b e] at h3
        cases f : s b
        · rcases himg b y e f h3 with rfl | ⟨c, h4, h5⟩
          · exact .inr ⟨j, hsj, hP⟩
          · exact .inr ⟨c, hsn c (mark_false.1 h4).2, h5⟩
        · rw [hkeep b f] at h3
          exact .inr ⟨b, h1, h3⟩
    · rintro (rfl | ⟨b, h1, h3⟩)
      · exact ⟨j, hsj, hputj⟩
      · have hin : ∀ z, (z = x ∨ ∃ c, mark s j c = false ∧ P c = some z) → ∃ b, seen b = false ∧ put1 P2 j a b = some z := by
          intro z hz
          obtain ⟨c, h4, h5⟩ := (h2.img z).2 hz
          obtain ⟨h6, h7⟩ := mark_false.1 h4
          exact ⟨c, hsn c h7, by rw [hput c h6]; exact h5⟩
        by_cases e : b = j
        · subst e
          rw [hP] at h3
          cases h3
          exact hin _ (.inl rfl)
        · cases f : s b
          · exact hin y (.inr ⟨b, mark_false.2 ⟨e, f⟩, h3⟩)
          · exact ⟨b, h1, by rw [hput b e, hkeep b f]; exact h3⟩
  · by_cases e : b = j
    · subst e; rw [hputj] at h3; cases h3; unfold put1; rw [if_pos rfl]
    · rw [hput b e] at h3
      have hya : y ≠ a := fun e2 => by subst e2; exact hnoa b e h1 h3
      unfold put1
      rw [if_neg hya]
      cases f : s b
      · exact h2.link b y (mark_false.2 ⟨e, f⟩) h3
      · rw [hkeep b f] at h3
        rw [h2.rest y ?_]
        · exact hp.link b y h1 h3
        · rintro ⟨c, h4, h5⟩
          obtain ⟨h6, h7⟩ := mark_false.1 h4
          exact hcross b c y e h6 h1 f h7 h3 h5
  · have hya : y ≠ a := fun e => by subst e; exact hy ⟨j, hsj, hputj⟩
    unfold put1
    rw [if_neg hya]
    refine h2.rest y ?_
    rintro ⟨c, h4, h5⟩
    obtain ⟨h6, h7⟩ := mark_false.1 h4
    exact hy ⟨c, hsn c h7, by rw [hput c h6]; exact h5⟩
  · obtain ⟨h3, b, h4, h5⟩ := h2.shut C hC
    have hjC : ¬ C j := by
      intro hj
      obtain ⟨z, h6, h7⟩ := hC j hj
      rw [hP] at h6
      cases h6
      exact h5 (h7 b h4)
    refine ⟨fun c hc => ?_, j, hE, hjC⟩
    have e : c ≠ j := fun e => by subst e; exact hjC hc
    rw [hput c e]
    exact h3 c hc
end Go.Proofs.Ytfjccccfkpgmgaa.Fd
