/-
  Koenig and Dilworth, as plain facts about a matching that cannot grow.
-/
import Derived.Test.YtfjccccfkpgmgaaOrM
namespace Go.Proofs.Ytfjccccfkpgmgaa.Fd
set_option linter.unusedSimpArgs false
set_option linter.unusedVariables false
open Go
set_option maxRecDepth 100000

def cnt (f : Nat → Bool) : Nat := ((List.range 64).filter f).length
theorem cntM_cnt {Q : Mt} : cntM Q = cnt fun x => (Q x).isSome := rfl
theorem nodup_sub : ∀ {l m : List Nat}, l.Nodup → (∀ x, x ∈ l → x ∈ m) → l.length ≤ m.length
  | [], _, _, _ => Nat.zero_le _
  | a :: l, m, hn, hs => by
    obtain ⟨h1, h2⟩ := List.nodup_cons.1 hn
    have h3 := nodup_sub (m := m.erase a) h2 fun x hx => (List.mem_erase_of_ne (fun e => h1 (by rw [← e]; exact hx))).2 (hs x (List.mem_cons_of_mem _ hx))
    have h4 := hs a List.mem_cons_self
    rw [List.length_erase_of_mem h4] at h3
    have := List.length_pos_of_mem h4
    rw [List.length_cons]
    omega
theorem cnt_inj {f g : Nat → Bool} (i : Nat → Nat) (h : ∀ x, x < 64 → f x = true → i x < 64 ∧ g (i x) = true) (hi : ∀ x y, x < 64 → y < 64 → f x = true → f y = true → i x = i y → x = y) : cnt f ≤ cnt g := by
  unfold cnt
  have hl : (((List.range 64).filter f).map i).length = ((List.range 64).filter f).length := List.length_map ..
  rw [← hl]
  apply nodup_sub
  · have hn : ((List.range 64).filter f).Nodup := List.nodup_range.filter _
    unfold List.Nodup at hn ⊢
    rw [List.pairwise_map]
    refine hn.imp_of_mem fun {a b} ha hb hne e => hne ?_
    have ha := List.mem_filter.1 ha
    have hb := List.mem_filter.1 hb
    exact hi a b (List.mem_range.1 ha.1) (List.mem_range.1 hb.1) ha.2 hb.2 e
  · intro y hy
    obtain ⟨x, hx, rfl⟩ := List.mem_map.1 hy
    have hx := List.mem_filter.1 hx
    have := h x (List.mem_range.1 hx.1) hx.2
    exact List.mem_filter.2 ⟨List.mem_range.2 this.1, this.2⟩
theorem cnt_mono {f g : Nat → Bool} (h : ∀ x, x < 64 → f x = true → g x = true) : cnt f ≤ cnt g :=
  cnt_inj id (fun x hx hf => ⟨hx, h x hx hf⟩) fun _ _ _ _ _ _ e => e
theorem cnt_congr {f g : Nat → Bool} (h : ∀ x, x < 64 → f x = g x) : cnt f = cnt g :=
  Nat.le_antisymm (cnt_mono fun x hx hf => by rw [← h x hx]; exact hf) (cnt_mono fun x hx hf => by rw [h x hx]; exact hf)
theorem cnt_split {f g : Nat → Bool} : cnt f = cnt (fun x => f x && g x) + cnt (fun x => f x && !g x) := by
  unfold cnt
  generalize List.range 64 = l
  induction l with
  | nil => rfl
  | cons a l ih =>
    simp only [List.filter_cons]
    cases f a <;> cases g a <;> simp <;> omega
theorem cnt_lt {f g : Nat → Bool} (h : ∀ x, x < 64 → f x = true → g x = true) {j : Nat} (hj : j < 64) (h1 : f j = false) (h2 : g j = true) : cnt f < cnt g := by
  rw [cnt_split (f := g) (g := f)]
  have e1 : cnt f ≤ cnt fun x => g x && f x := cnt_mono fun x hx hf => by simp [h x hx hf, hf]
  have e2 : 0 < cnt fun x => g x && !f x := by
    unfold cnt
    exact List.length_pos_of_mem (List.mem_filter.2 ⟨List.mem_range.2 hj, by simp [h1, h2]⟩)
  omega
def Sub (A S : Nat → Bool) : Prop := ∀ x, A x = true → S x = true
def Anti (R : Rel) (A : Nat → Bool) : Prop := ∀ a b, A a = true → A b = true → R a b = false
structure IsWd (R : Rel) (S : Nat → Bool) (k : Nat) : Prop where
  ex : ∃ A, Sub A S ∧ Anti R A ∧ cnt A = k
  le : ∀ A, Sub A S → Anti R A → cnt A ≤ k
theorem IsWd.unique {R : Rel} {S : Nat → Bool} {k k' : Nat} (h : IsWd R S k) (h' : IsWd R S k') : k = k' := by
  obtain ⟨A, h1, h2, h3⟩ := h.ex
  obtain ⟨B, g1, g2, g3⟩ := h'.ex
  have := h'.le A h1 h2
  have := h.le B g1 g2
  omega

def itP (P : Mt) : Nat → Nat → Option Nat
  | 0, y => some y
  | k + 1, y => (itP P k y).bind P
theorem itP_add {P : Mt} {y : Nat} : ∀ (l k x : Nat), itP P k y = some x → itP P (k + l) y = itP P l x
  | 0, k, x, h => h
  | l + 1, k, x, h => by
    show (itP P (k + l) y).bind P = (itP P l x).bind P
    rw [itP_add l k x h]
theorem itP_less {E : Rel} {P : Mt} (hE : ∀ b x, P b = some x → E x b = true) (ht : ∀ a b c, E a c = true → E c b = true → E a b = true) : ∀ (k y x : Nat), itP P k y = some x → x = y ∧ k = 0 ∨ E x y = true
  | 0, y, x, h => by cases h; exact .inl ⟨rfl, rfl⟩
  | k + 1, y, x, h => by
    have h : (itP P k y).bind P = some x := h
    cases hc : itP P k y with
    | none => rw [hc] at h; cases h
    | some c =>
      rw [hc] at h
      have h' : P c = some x := h
      rcases itP_less hE ht k y c hc with ⟨rfl, _⟩ | h1
      · exact .inr (hE _ _ h')
      · exact .inr (ht _ _ _ (hE _ _ h') h1)
/-- The last element of a chain. -/
theorem chain_end {E : Rel} {S : Nat → Bool} {P Q : Mt} {C : Nat → Prop} (h : GInv E S 64 P Q C) (ht : ∀ a b c, E a c = true → E c b = true → E a b = true) (hir : ∀ a, E a a = false) (hES : ∀ a b, E a b = true → S b = true) (hS : ∀ x, S x = true → x < 64) :
    ∀ (n x : Nat), cnt (E x) ≤ n → S x = true → ∃ y k, Q y = none ∧ S y = true ∧ itP P k y = some x := by
  intro n
  induction n using Nat.strongRecOn with
  | _ n ih =>
    intro x hn hx
    cases hq : Q x with
    | none => exact ⟨x, 0, hq, hx, rfl⟩
    | some b =>
      have hp := h.q.1 hq
      have hE := h.edge b x hp
      have hb := hES x b hE
      have hlt : cnt (E b) < cnt (E x) := cnt_lt (fun c _ hc => ht _ _ _ hE hc) (hS b hb) (hir b) hE
      obtain ⟨y, k, h1, h2, h3⟩ := ih (cnt (E b)) (by omega) b (Nat.le_refl _) hb
      refine ⟨y, k + 1, h1, h2, ?_⟩
      show (itP P k y).bind P = some x
      rw [h3]
      exact hp
theorem konig {R E : Rel} {S : Nat → Bool} {P Q : Mt} {C : Nat → Prop} (hE : ∀ a b, E a b = (R a b && S b)) (hS : ∀ x, S x = true → x < 64)
    (htr : ∀ a b c, R a c = true → R c b = true → R a b = true) (hir : ∀ a, R a a = false) (h : GInv E S 64 P Q C) : cntM Q ≤ cnt S ∧ IsWd R S (cnt S - cntM Q) := by
  have hES : ∀ a b, E a b = true → R a b = true ∧ S b = true := fun a b e => by rw [hE, Bool.and_eq_true] at e; exact e
  have het : ∀ a b c, E a c = true → E c b = true → E a b = true := fun a b c h1 h2 => by
    rw [hE, htr _ _ _ (hES _ _ h1).1 (hES _ _ h2).1, (hES _ _ h2).2]; rfl
  have hei : ∀ a, E a a = false := fun a => by rw [hE, hir]; rfl
  have hQS : ∀ x b, Q x = some b → S x = true ∧ x < 64 ∧ S b = true ∧ b < 64 := fun x b hq => by
    have hp := h.q.1 hq
    have h1 := h.dom b x hp
    have h2 := (hES _ _ (h.edge b x hp)).2
    exact ⟨h1.2, h1.1, h2, hS b h2⟩
  have hsplit : cnt S = cntM Q + cnt fun x => S x && !(Q x).isSome := by
    rw [cnt_split (f := S) (g := fun x => (Q x).isSome), cntM_cnt]
    congr 1
    apply cnt_congr
    intro x _
    cases hq : Q x with
    | none => simp
    | some b => simp [(hQS x b hq).1]
  have upper : ∀ A, Sub A S → Anti R A → cnt A ≤ cnt S - cntM Q := by
    intro A hAS hAn
    have hend := fun x hx => chain_end h het hei (fun a b e => (hES a b e).2) hS (cnt (E x)) x (Nat.le_refl _) hx
    let f : Nat → Nat := fun x => if hx : S x = true then (hend x hx).choose else 0
    have hf : ∀ x, S x = true → Q (f x) = none ∧ S (f x) = true ∧ ∃ k, itP P k (f x) = some x := by
      intro x hx
      have e : f x = (hend x hx).choose := dif_pos hx
      rw [e]
      obtain ⟨k, h1, h2, h3⟩ := (hend x hx).choose_spec
      exact ⟨h1, h2, k, h3⟩
    have h1 : cnt A ≤ cnt fun x => S x && !(Q x).isSome := by
      refine cnt_inj f (fun x _ hx => ?_) (fun x y _ _ hx hy e => ?_)
      · obtain ⟨h1, h2, _⟩ := hf x (hAS x hx)
        exact ⟨hS _ h2, by rw [h1, h2]; rfl⟩
      · obtain ⟨_, _, k, h3⟩ := hf x (hAS x hx)
        obtain ⟨_, _, l, h4⟩ := hf y (hAS y hy)
        rw [e] at h3
        have key : ∀ (k l x y z : Nat), A x = true → A y = true → itP P k z = some x → itP P l z = some y → k ≤ l → x = y := by
          intro k l x y z hx hy h3 h4 hkl
          obtain ⟨d, rfl⟩ := Nat.exists_eq_add_of_le hkl
          rw [itP_add d k x h3] at h4
          rcases itP_less h.edge het d x y h4 with ⟨e, _⟩ | e
          · exact e.symm
          · have := (hES _ _ e).1
            rw [hAn y x hy hx] at this
            cases this
        rcases Nat.le_total k l with hkl | hkl
        · exact key k l x y _ hx hy h3 h4 hkl
        · exact (key l k y x _ hy hx h4 h3 hkl).symm
    omega
  refine ⟨by omega, ⟨?_, upper⟩⟩
  · -- the antichain
    let A : Nat → Bool := fun x => @decide (S x = true ∧ ¬ C x ∧ ∀ b, Q x = some b → C b) (Classical.propDecidable _)
    have hA : ∀ x, A x = true ↔ (S x = true ∧ ¬ C x ∧ ∀ b, Q x = some b → C b) := fun x => @decide_eq_true_iff _ (Classical.propDecidable _)
    have hAn : Anti R A := by
      intro a b ha hb
      obtain ⟨a1, a2, a3⟩ := (hA a).1 ha
      obtain ⟨b1, b2, _⟩ := (hA b).1 hb
      cases hR : R a b
      · rfl
      · exfalso
        have he : E a b = true := by rw [hE, hR, b1]; rfl
        cases hq : Q a with
        | none => exact b2 (h.out a (hS a a1) a1 hq b he)
        | some c =>
          obtain ⟨x, h1, h2⟩ := h.shut c (a3 c hq)
          rw [h.q.1 hq] at h1
          cases h1
          exact b2 (h2 b he)
    refine ⟨A, fun x hx => ((hA x).1 hx).1, hAn, ?_⟩
    · have e0 : cnt S = cnt A + cnt fun x => S x && !A x := by
        rw [cnt_split (f := S) (g := A)]
        congr 1
        apply cnt_congr
        intro x _
        cases hx : A x
        · simp
        · simp [((hA x).1 hx).1]
      have e1 : (cnt fun x => S x && !A x) ≤ cntM Q := by
        rw [cntM_cnt]
        refine cnt_inj (fun x => @ite _ (C x) (Classical.propDecidable _) ((P x).getD 0) x) (fun x hx hf => ?_) (fun x y hx hy hf hg e => ?_)
        · by_cases hC : C x
          · rw [if_pos hC]
            obtain ⟨z, h1, _⟩ := h.shut x hC
            rw [h1]
            have := h.link x z h1
            exact ⟨(h.dom x z h1).1, by show (Q z).isSome = true; rw [this]; rfl⟩
          · rw [if_neg hC]
            refine ⟨hx, ?_⟩
            cases hq : Q x with
            | some b => rfl
            | none =>
              exfalso
              rw [Bool.and_eq_true, Bool.not_eq_true'] at hf
              have : A x = true := (hA x).2 ⟨hf.1, hC, fun b e => by rw [hq] at e; cases e⟩
              rw [hf.2] at this
              cases this
        · have key : ∀ z, z < 64 → (S z && !A z) = true → ¬ C z → ∃ b, Q z = some b ∧ ¬ C b := by
            intro z hz hz2 hC
            rw [Bool.and_eq_true, Bool.not_eq_true'] at hz2
            apply Classical.byContradiction
            intro hno
            have : A z = true := (hA z).2 ⟨hz2.1, hC, fun b e => Classical.byContradiction fun hb => hno ⟨b, e, hb⟩⟩
            rw [hz2.2] at this
            cases this
          by_cases hC : C x
          · rw [if_pos hC] at e
            obtain ⟨z, h1, _⟩ := h.shut x hC
            rw [h1] at e
            have hz := h.link x z h1
            by_cases hD : C y
            · rw [if_pos hD] at e
              obtain ⟨z2, h2, _⟩ := h.shut y hD
              rw [h2] at e
              have e : z = z2 := e
              subst e
              exact h.inj x y z h1 h2
            · rw [if_neg hD] at e
              obtain ⟨b, h2, h3⟩ := key y hy hg hD
              have e : z = y := e
              subst e
              rw [hz] at h2
              cases h2
              exact absurd hC h3
          · rw [if_neg hC] at e
            by_cases hD : C y
            · rw [if_pos hD] at e
              obtain ⟨z2, h2, _⟩ := h.shut y hD
              rw [h2] at e
              have e : x = z2 := e
              subst e
              obtain ⟨b, h3, h4⟩ := key x hx hf hC
              rw [h.link y x h2] at h3
              cases h3
              exact absurd hD h4
            · rw [if_neg hD] at e
              exact e
      have e2 := upper A (fun x hx => ((hA x).1 hx).1) hAn
      omega
end Go.Proofs.Ytfjccccfkpgmgaa.Fd
