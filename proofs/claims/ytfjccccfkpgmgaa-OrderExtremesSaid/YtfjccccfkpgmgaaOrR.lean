/-
  Covers by chains, as plain facts.
-/
import Derived.Test.YtfjccccfkpgmgaaOrQ
namespace Go.Proofs.Ytfjccccfkpgmgaa.Fd
set_option linter.unusedSimpArgs false
set_option linter.unusedVariables false
open Go
set_option maxRecDepth 100000

/-- A chain from a to its end. -/
structure ChQ (Q : Mt) (a : Nat) (c : List Nat) : Prop where
  head : c[0]? = some a
  step : ∀ (i x y : Nat), c[i]? = some x → c[i + 1]? = some y → Q x = some y
  last : ∀ x, c[c.length - 1]? = some x → Q x = none
theorem itP_first {P : Mt} {x : Nat} : ∀ k, itP P (k + 1) x = (P x).bind (itP P k)
  | 0 => by
    show P x = (P x).bind some
    cases P x <;> rfl
  | k + 1 => by
    show (itP P (k + 1) x).bind P = (P x).bind fun y => (itP P k y).bind P
    rw [itP_first k, Option.bind_assoc]
theorem ChQ.back {E : Rel} {S : Nat → Bool} {P Q : Mt} {C : Nat → Prop} (h : GInv E S 64 P Q C) {a : Nat} {c : List Nat} (hc : ChQ Q a c) : ∀ (k x : Nat), c[k]? = some x → itP P k x = some a
  | 0, x, hx => by rw [hc.head] at hx; exact hx.symm
  | k + 1, x, hx => by
    have hlt := (List.getElem?_eq_some_iff.1 hx).1
    have hy := List.getElem?_eq_getElem (l := c) (i := k) (by omega)
    generalize c[k]'(by omega) = y at hy
    rw [itP_first, h.q.1 (hc.step k y x hy hx)]
    exact ChQ.back h hc k y hy
theorem ChQ.fwd {E : Rel} {S : Nat → Bool} {P Q : Mt} {C : Nat → Prop} (h : GInv E S 64 P Q C) {a : Nat} {c : List Nat} (hc : ChQ Q a c) : ∀ (k x : Nat), itP P k x = some a → c[k]? = some x
  | 0, x, hx => by cases hx; exact hc.head
  | k + 1, x, hx => by
    rw [itP_first] at hx
    cases hp : P x with
    | none => rw [hp] at hx; cases hx
    | some y =>
      rw [hp] at hx
      have ih := ChQ.fwd h hc k y hx
      have hq := h.link x y hp
      have hlt := (List.getElem?_eq_some_iff.1 ih).1
      by_cases e : k + 1 < c.length
      · have hz := List.getElem?_eq_getElem e
        generalize c[k + 1] = z at hz
        have := hc.step k y z ih hz
        rw [hq] at this
        cases this
        exact hz
      · have := hc.last y (by rw [show c.length - 1 = k from by omega]; exact ih)
        rw [hq] at this
        cases this
theorem chain_start {E : Rel} {S : Nat → Bool} {P Q : Mt} {C : Nat → Prop} (h : GInv E S 64 P Q C) (ht : ∀ a b c, E a c = true → E c b = true → E a b = true) (hir : ∀ a, E a a = false) :
    ∀ (n x : Nat), cnt (fun y => E y x) ≤ n → S x = true → ∃ a k, P a = none ∧ S a = true ∧ itP P k x = some a := by
  intro n
  induction n using Nat.strongRecOn with
  | _ n ih =>
    intro x hn hx
    cases hp : P x with
    | none => exact ⟨x, 0, hp, hx, rfl⟩
    | some y =>
      have hE := h.edge x y hp
      have hy := h.dom x y hp
      have hlt : cnt (fun z => E z y) < cnt (fun z => E z x) := cnt_lt (fun c _ hc => ht _ _ _ hc hE) hy.1 (hir y) hE
      obtain ⟨a, k, h1, h2, h3⟩ := ih _ (by omega) y (Nat.le_refl _) hy.2
      refine ⟨a, k + 1, h1, h2, ?_⟩
      rw [itP_first, hp]
      exact h3
structure Cover (n : Nat) (R : Rel) (css : List (List Nat)) : Prop where
  ne : ∀ (i : Nat) (c : List Nat), css[i]? = some c → 0 < c.length
  up : ∀ (i : Nat) (c c' : List Nat) (x x' : Nat), css[i]? = some c → css[i + 1]? = some c' → c[0]? = some x → c'[0]? = some x' → x < x'
  step : ∀ (i : Nat) (c : List Nat), css[i]? = some c → ∀ (k x y : Nat), c[k]? = some x → c[k + 1]? = some y → R x y = true
  lt : ∀ (i : Nat) (c : List Nat), css[i]? = some c → ∀ (k x : Nat), c[k]? = some x → x < n
  nodup : css.flatten.Nodup
  all : css.flatten.length = n
def firsts (P : Mt) (a : Nat) : List Nat := (List.range a).filter fun x => (P x).isNone
theorem firsts_len {E : Rel} {P Q : Mt} {C : Nat → Prop} {n : Nat} (hn : n ≤ 64) (hE : ∀ a b, E a b = true → b < n) (h : GInv E (fun x => decide (x < n)) 64 P Q C) :
    (firsts P n).length = cnt (fun x => decide (x < n)) - cntM Q := by
  have e1 : cntM Q = cnt fun x => (P x).isSome := by
    rw [cntM_cnt]
    have hk : ∀ x, (Q x).isSome = true → ∃ b, Q x = some b := fun x hx => Option.isSome_iff_exists.1 hx
    have hl : ∀ x, (P x).isSome = true → ∃ b, P x = some b := fun x hx => Option.isSome_iff_exists.1 hx
    refine Nat.le_antisymm (cnt_inj (fun x => (Q x).getD 0) (fun x hx hq => ?_) (fun x y hx hy h1 h2 e => ?_)) (cnt_inj (fun x => (P x).getD 0) (fun x hx hq => ?_) (fun x y hx hy h1 h2 e => ?_))
    · obtain ⟨b, hb⟩ := hk x hq
      have hp := h.q.1 hb
      have := hE _ _ (h.edge b x hp)
      simp only [hb, Option.getD_some, hp]
      exact ⟨by omega, rfl⟩
    · obtain ⟨b, hb⟩ := hk x h1
      obtain ⟨b', hb'⟩ := hk y h2
      simp only [hb, hb', Option.getD_some] at e
      subst e
      have := h.q.1 hb
      rw [h.q.1 hb'] at this
      cases this
      rfl
    · obtain ⟨b, hb⟩ := hl x hq
      simp only [hb, Option.getD_some]
      exact ⟨(h.dom x b hb).1, by rw [h.link x b hb]; rfl⟩
    · obtain ⟨b, hb⟩ := hl x h1
      obtain ⟨b', hb'⟩ := hl y h2
      simp only [hb, hb', Option.getD_some] at e
      subst e
      exact h.inj x y b hb hb'
  have e2 : cnt (fun x => decide (x < n)) = cnt (fun x => (P x).isSome) + cnt (fun x => decide (x < n) && !(P x).isSome) := by
    rw [cnt_split (f := fun x => decide (x < n)) (g := fun x => (P x).isSome)]
    congr 1
    apply cnt_congr
    intro x _
    cases hp : P x with
    | none => simp
    | some y =>
      have := hE _ _ (h.edge x y hp)
      simp [this]
  have e3 : (firsts P n).length = cnt (fun x => decide (x < n) && !(P x).isSome) := by
    unfold firsts cnt
    have key : ∀ k, k ≤ n → ((List.range k).filter fun x => decide (x < n) && !(P x).isSome) = (List.range k).filter fun x => (P x).isNone := by
      intro k hk
      apply List.filter_congr
      intro x hx
      have := List.mem_range.1 hx
      have h2 : x < n := by omega
      rw [decide_eq_true h2]
      cases P x <;> rfl
    have h3 : ∀ d, ((List.range (n + d)).filter fun x => decide (x < n) && !(P x).isSome) = (List.range n).filter fun x => (P x).isNone := by
      intro d
      induction d with
      | zero => exact key n (Nat.le_refl n)
      | succ d ih =>
        have h4 : ¬ n + d < n := by omega
        rw [← Nat.add_assoc, List.range_succ, List.filter_append, ih, List.filter_cons, decide_eq_false h4]
        simp
    have h5 := h3 (64 - n)
    rw [show n + (64 - n) = 64 from by omega] at h5
    rw [h5]
  omega
theorem cover_of {E R : Rel} {P Q : Mt} {C : Nat → Prop} {n : Nat} {css : List (List Nat)} (hE : ∀ a b, E a b = true → R a b = true ∧ b < n) (ht : ∀ a b c, E a c = true → E c b = true → E a b = true) (hir : ∀ a, E a a = false)
    (h : GInv E (fun x => decide (x < n)) 64 P Q C) (hl : css.length = (firsts P n).length) (hc : ∀ (i : Nat) c, css[i]? = some c → ∃ a, (firsts P n)[i]? = some a ∧ ChQ Q a c) : Cover n R css := by
  have hf : ∀ a, a ∈ firsts P n ↔ a < n ∧ P a = none := by
    intro a
    unfold firsts
    rw [List.mem_filter, List.mem_range, Option.isNone_iff_eq_none]
  have hup : (firsts P n).Pairwise (· < ·) := List.pairwise_lt_range.filter _
  have hlt : ∀ (i : Nat) c, css[i]? = some c → ∀ (k x : Nat), c[k]? = some x → x < n := by
    intro i c hi k x hx
    obtain ⟨a, ha, hq⟩ := hc i c hi
    cases k with
    | zero =>
      rw [hq.head] at hx
      cases hx
      exact ((hf _).1 (List.mem_of_getElem? ha)).1
    | succ k =>
      have hl2 := (List.getElem?_eq_some_iff.1 hx).1
      have hy := List.getElem?_eq_getElem (l := c) (i := k) (by omega)
      generalize c[k]'(by omega) = y at hy
      exact (hE _ _ (h.edge x y (h.q.1 (hq.step k y x hy hx)))).2
  -- where an element lies
  have huniq : ∀ (i i' k k' : Nat) c c' x, css[i]? = some c → css[i']? = some c' → c[k]? = some x → c'[k']? = some x → k ≤ k' → i = i' ∧ k = k' := by
    intro i i' k k' c c' x hi hi' hx hx' hk
    obtain ⟨a, ha, hq⟩ := hc i c hi
    obtain ⟨a', ha', hq'⟩ := hc i' c' hi'
    have h1 := hq.back h k x hx
    have h2 := hq'.back h k' x hx'
    obtain ⟨d, rfl⟩ := Nat.exists_eq_add_of_le hk
    rw [itP_add d k a h1] at h2
    have hd : d = 0 := by
      cases d with
      | zero => rfl
      | succ d =>
        rw [itP_first, ((hf a).1 (List.mem_of_getElem? ha)).2] at h2
        cases h2
    subst hd
    cases h2
    refine ⟨?_, rfl⟩
    obtain ⟨j1, g1⟩ := List.getElem?_eq_some_iff.1 ha
    obtain ⟨j2, g2⟩ := List.getElem?_eq_some_iff.1 ha'
    have hnd : (firsts P n).Nodup := hup.imp fun hab => by omega
    exact (List.getElem_inj hnd).1 (g1.trans g2.symm)
  have huniq2 : ∀ (i i' k k' : Nat) c c' x, css[i]? = some c → css[i']? = some c' → c[k]? = some x → c'[k']? = some x → i = i' ∧ k = k' := by
    intro i i' k k' c c' x hi hi' hx hx'
    rcases Nat.le_total k k' with hk | hk
    · exact huniq i i' k k' c c' x hi hi' hx hx' hk
    · have := huniq i' i k' k c' c x hi' hi hx' hx hk
      exact ⟨this.1.symm, this.2.symm⟩
  have hnd : css.flatten.Nodup := by
    unfold List.Nodup
    rw [List.pairwise_flatten]
    refine ⟨fun c hcm => ?_, ?_⟩
    · obtain ⟨i, hi⟩ := List.mem_iff_getElem?.1 hcm
      rw [List.pairwise_iff_getElem]
      intro k k' h1 h2 hk e
      have := (huniq2 i i k k' c c _ hi hi (List.getElem?_eq_getElem h1) (by rw [e]; exact List.getElem?_eq_getElem h2)).2
      omega
    · rw [List.pairwise_iff_getElem]
      intro i i' h1 h2 hi x hx y hy e
      subst e
      obtain ⟨k, hk⟩ := List.mem_iff_getElem?.1 hx
      obtain ⟨k', hk'⟩ := List.mem_iff_getElem?.1 hy
      have := (huniq2 i i' k k' _ _ x (List.getElem?_eq_getElem h1) (List.getElem?_eq_getElem h2) hk hk').1
      omega
  refine ⟨fun i c hi => ?_, fun i c c' x x' hi hi' hx hx' => ?_, fun i c hi k x y hx hy => ?_, hlt, hnd, ?_⟩
  · obtain ⟨a, _, hq⟩ := hc i c hi
    exact (List.getElem?_eq_some_iff.1 hq.head).1
  · obtain ⟨a, ha, hq⟩ := hc i c hi
    obtain ⟨a', ha', hq'⟩ := hc (i + 1) c' hi'
    rw [hq.head] at hx
    rw [hq'.head] at hx'
    cases hx
    cases hx'
    obtain ⟨j1, g1⟩ := List.getElem?_eq_some_iff.1 ha
    obtain ⟨j2, g2⟩ := List.getElem?_eq_some_iff.1 ha'
    have := List.pairwise_iff_getElem.1 hup i (i + 1) j1 j2 (by omega)
    rw [g1, g2] at this
    exact this
  · obtain ⟨a, _, hq⟩ := hc i c hi
    exact (hE _ _ (h.edge y x (h.q.1 (hq.step k x y hx hy)))).1
  · refine Nat.le_antisymm (nodup_le n css.flatten hnd fun x hx => ?_) ?_
    · obtain ⟨c, hcm, hx⟩ := List.mem_flatten.1 hx
      obtain ⟨i, hi⟩ := List.mem_iff_getElem?.1 hcm
      obtain ⟨k, hk⟩ := List.mem_iff_getElem?.1 hx
      exact hlt i c hi k x hk
    · have := nodup_sub (l := List.range n) (m := css.flatten) List.nodup_range fun x hx => ?_
      · simpa using this
      · have hx := List.mem_range.1 hx
        obtain ⟨a, k, h1, h2, h3⟩ := chain_start h ht hir _ x (Nat.le_refl _) (by simpa using hx)
        have hm := (hf a).2 ⟨by simpa using h2, h1⟩
        obtain ⟨i, hi⟩ := List.mem_iff_getElem?.1 hm
        have hil := (List.getElem?_eq_some_iff.1 hi).1
        have hci := List.getElem?_eq_getElem (l := css) (i := i) (by omega)
        obtain ⟨a', ha', hq⟩ := hc i _ hci
        rw [hi] at ha'
        cases ha'
        have := hq.fwd h k x h3
        exact List.mem_flatten.2 ⟨_, List.mem_of_getElem? hci, List.mem_of_getElem? this⟩
end Go.Proofs.Ytfjccccfkpgmgaa.Fd
