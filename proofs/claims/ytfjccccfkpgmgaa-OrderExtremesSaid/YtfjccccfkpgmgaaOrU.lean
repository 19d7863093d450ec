/-
  Plain facts of the longest chain and the largest antichain that come first in the order of lists.
-/
import Derived.Test.YtfjccccfkpgmgaaOrT
namespace Go.Proofs.Ytfjccccfkpgmgaa.Fd
set_option linter.unusedSimpArgs false
set_option linter.unusedVariables false
open Go
set_option maxRecDepth 100000

def befo : List Nat → List Nat → Bool
  | [], d => decide (0 < d.length)
  | _ :: _, [] => false
  | a :: c, b :: d => if a = b then befo c d else decide (a < b)
theorem befo_self : ∀ {c : List Nat}, befo c c = false
  | [] => rfl
  | a :: c => by simp [befo, befo_self (c := c)]
theorem befo_trans : ∀ {c d e : List Nat}, befo c d = false → befo d e = false → befo c e = false
  | [], [], e, _, h2 => h2
  | [], _ :: _, _, h1, _ => by simp [befo] at h1
  | _ :: _, _, [], _, _ => rfl
  | a :: c, [], b :: e, _, h2 => by simp [befo] at h2
  | a :: c, b :: d, x :: e, h1, h2 => by
    simp only [befo] at h1 h2 ⊢
    by_cases h3 : a = b
    · rw [if_pos h3] at h1
      subst h3
      by_cases h4 : a = x
      · rw [if_pos h4] at h2 ⊢; exact befo_trans h1 h2
      · rw [if_neg h4] at h2 ⊢; exact h2
    · rw [if_neg h3, decide_eq_false_iff_not] at h1
      by_cases h4 : b = x
      · subst h4; rw [if_neg h3, decide_eq_false_iff_not]; exact h1
      · rw [if_neg h4, decide_eq_false_iff_not] at h2
        rw [if_neg (by omega), decide_eq_false_iff_not]
        omega
theorem befo_eq : ∀ {c d : List Nat}, c.length = d.length → befo c d = false → befo d c = false → c = d
  | [], [], _, _, _ => rfl
  | [], _ :: _, h, _, _ => by simp at h
  | _ :: _, [], h, _, _ => by simp at h
  | a :: c, b :: d, h, h1, h2 => by
    simp only [befo] at h1 h2
    by_cases h3 : a = b
    · subst h3
      rw [if_pos rfl] at h1 h2
      rw [befo_eq (by simpa using h) h1 h2]
    · rw [if_neg h3, decide_eq_false_iff_not] at h1
      rw [if_neg (Ne.symm h3), decide_eq_false_iff_not] at h2
      omega
/-- c is longer than d, or as long and before it. -/
def bett (c d : List Nat) : Bool := decide (d.length < c.length) || (decide (c.length = d.length) && befo c d)
theorem bett_false {c d : List Nat} : bett c d = false ↔ c.length < d.length ∨ (c.length = d.length ∧ befo c d = false) := by
  unfold bett
  rw [Bool.or_eq_false_iff, Bool.and_eq_false_iff, decide_eq_false_iff_not, decide_eq_false_iff_not]
  constructor
  · rintro ⟨h1, h2 | h2⟩
    · exact .inl (by omega)
    · by_cases h : c.length = d.length
      · exact .inr ⟨h, h2⟩
      · exact .inl (by omega)
  · rintro (h | ⟨h1, h2⟩)
    · exact ⟨by omega, .inl (by omega)⟩
    · exact ⟨by omega, .inr h2⟩
theorem bett_self {c : List Nat} : bett c c = false := bett_false.2 (.inr ⟨rfl, befo_self⟩)
theorem befo_asymm : ∀ {c d : List Nat}, befo c d = true → befo d c = false
  | [], [], h => by simp [befo] at h
  | [], _ :: _, _ => rfl
  | _ :: _, [], h => by simp [befo] at h
  | a :: c, b :: d, h => by
    simp only [befo] at h ⊢
    by_cases h3 : a = b
    · subst h3
      rw [if_pos rfl] at h ⊢
      exact befo_asymm h
    · rw [if_neg h3, decide_eq_true_eq] at h
      rw [if_neg (Ne.symm h3), decide_eq_false_iff_not]
      omega
theorem bett_asymm {c d : List Nat} (h : bett c d = true) : bett d c = false := by
  unfold bett at h
  rw [Bool.or_eq_true, Bool.and_eq_true, decide_eq_true_eq, decide_eq_true_eq] at h
  refine bett_false.2 ?_
  rcases h with h | ⟨h1, h2⟩
  · exact .inl h
  · exact .inr ⟨h1.symm, befo_asymm h2⟩
theorem bett_trans {c d e : List Nat} (h1 : bett c d = false) (h2 : bett d e = false) : bett c e = false := by
  rw [bett_false] at *
  rcases h1 with h1 | ⟨h1, h1'⟩ <;> rcases h2 with h2 | ⟨h2, h2'⟩
  · exact .inl (by omega)
  · exact .inl (by omega)
  · exact .inl (by omega)
  · exact .inr ⟨by omega, befo_trans h1' h2'⟩
theorem bett_eq {c d : List Nat} (h1 : bett c d = false) (h2 : bett d c = false) : c = d := by
  rw [bett_false] at *
  rcases h1 with h1 | ⟨h1, h1'⟩ <;> rcases h2 with h2 | ⟨h2, h2'⟩
  · omega
  · omega
  · omega
  · exact befo_eq h1 h1' h2'

/-! chains and antichains as lists -/
structure Good (ch : Bool) (n : Nat) (R : Rel) (c : List Nat) : Prop where
  lt : ∀ x, x ∈ c → x < n
  up : c.Pairwise fun x y => if ch then R x y = true else x < y
  anti : ch = false → ∀ x y, x ∈ c → y ∈ c → R x y = false
theorem Good.nil {ch : Bool} {n : Nat} {R : Rel} : Good ch n R [] := ⟨by simp, List.Pairwise.nil, by simp⟩
/-- Two lists with the same elements, both strictly sorted by the same order, are equal. -/
theorem sort_eq {S : Nat → Nat → Prop} (hir : ∀ a, ¬ S a a) (htr : ∀ a b c, S a b → S b c → S a c) : ∀ {c d : List Nat}, c.Pairwise S → d.Pairwise S → (∀ x, x ∈ c ↔ x ∈ d) → c = d
  | [], [], _, _, _ => rfl
  | [], b :: d, _, _, h => by have := (h b).2 List.mem_cons_self; simp at this
  | a :: c, [], _, _, h => by have := (h a).1 List.mem_cons_self; simp at this
  | a :: c, b :: d, h1, h2, h => by
    obtain ⟨h1, h1'⟩ := List.pairwise_cons.1 h1
    obtain ⟨h2, h2'⟩ := List.pairwise_cons.1 h2
    have e : a = b := by
      rcases List.mem_cons.1 ((h a).1 List.mem_cons_self) with e | h3
      · exact e
      · rcases List.mem_cons.1 ((h b).2 List.mem_cons_self) with e | h4
        · exact e.symm
        · exact absurd (htr _ _ _ (h2 a h3) (h1 b h4)) (hir _)
    subst e
    have hc : ∀ x, x ∈ c ↔ x ∈ d := by
      intro x
      constructor
      · intro hx
        rcases List.mem_cons.1 ((h x).1 (List.mem_cons_of_mem _ hx)) with e | h3
        · subst e; exact absurd (h1 x hx) (hir x)
        · exact h3
      · intro hx
        rcases List.mem_cons.1 ((h x).2 (List.mem_cons_of_mem _ hx)) with e | h3
        · subst e; exact absurd (h2 x hx) (hir x)
        · exact h3
    rw [sort_eq hir htr h1' h2' hc]
theorem Good.eq {ch : Bool} {n : Nat} {R : Rel} (hir : ∀ a, R a a = false) (htr : ∀ a b c, R a c = true → R c b = true → R a b = true) {c d : List Nat} (h1 : Good ch n R c) (h2 : Good ch n R d) (h : ∀ x, x ∈ c ↔ x ∈ d) : c = d := by
  refine sort_eq (S := fun x y => if ch then R x y = true else x < y) (fun a => ?_) (fun a b c g1 g2 => ?_) h1.up h2.up h
  · cases ch <;> simp [hir]
  · cases ch
    · simp at g1 g2 ⊢; omega
    · simp at g1 g2 ⊢; exact htr _ _ _ g1 g2
theorem Good.nodup {ch : Bool} {n : Nat} {R : Rel} (hir : ∀ a, R a a = false) {c : List Nat} (h : Good ch n R c) : c.Nodup := by
  refine h.up.imp ?_
  intro a b g e
  subst e
  cases ch <;> simp [hir] at g
/-- The elements of a mask. -/
def Mk (k : Nat) (c : List Nat) : Prop := ∀ x, x ∈ c ↔ k.testBit x = true
theorem mask_of {n : Nat} : ∀ {c : List Nat}, (∀ x, x ∈ c → x < n) → ∃ k, k < 2 ^ n ∧ Mk k c
  | [], _ => ⟨0, Nat.two_pow_pos n, fun x => by simp⟩
  | a :: c, h => by
    obtain ⟨k, h1, h2⟩ := mask_of (n := n) (c := c) (fun x hx => h x (List.mem_cons_of_mem _ hx))
    have ha := h a List.mem_cons_self
    refine ⟨k ||| 2 ^ a, Nat.or_lt_two_pow h1 (Nat.pow_lt_pow_right (by omega) ha), fun x => ?_⟩
    rw [List.mem_cons, Nat.testBit_or, Nat.testBit_two_pow, Bool.or_eq_true, decide_eq_true_eq, h2 x]
    constructor
    · rintro (h | h)
      · exact .inr h.symm
      · exact .inl h
    · rintro (h | h)
      · exact .inr h
      · exact .inl h.symm
/-- The best of the masks below k. -/
structure BestI (ch : Bool) (n : Nat) (R : Rel) (k : Nat) (B : List Nat) : Prop where
  good : Good ch n R B
  top : ∀ c j, Good ch n R c → j < k → Mk j c → bett c B = false
theorem BestI.start {ch : Bool} {n : Nat} {R : Rel} : BestI ch n R 0 [] := ⟨.nil, fun _ _ _ h => by omega⟩
theorem BestI.keep {ch : Bool} {n k : Nat} {R : Rel} {B : List Nat} (h : BestI ch n R k B) (h1 : ∀ c, Good ch n R c → Mk k c → bett c B = false) : BestI ch n R (k + 1) B := by
  refine ⟨h.good, fun c j hc hj hm => ?_⟩
  by_cases e : j = k
  · subst e; exact h1 c hc hm
  · exact h.top c j hc (by omega) hm
theorem BestI.take {ch : Bool} {n k : Nat} {R : Rel} {B d : List Nat} (hir : ∀ a, R a a = false) (htr : ∀ a b c, R a c = true → R c b = true → R a b = true) (h : BestI ch n R k B) (hd : Good ch n R d) (hm : Mk k d) (hb : bett d B = true) : BestI ch n R (k + 1) d := by
  refine ⟨hd, fun c j hc hj hm2 => ?_⟩
  by_cases e : j = k
  · subst e
    rw [hc.eq hir htr hd (fun x => (hm2 x).trans (hm x).symm)]
    exact bett_self
  · exact bett_trans (h.top c j hc (by omega) hm2) (bett_asymm hb)
theorem BestI.done {ch : Bool} {n : Nat} {R : Rel} {B c : List Nat} (h : BestI ch n R (2 ^ n) B) (hc : Good ch n R c) (htop : ∀ d, Good ch n R d → bett d c = false) : c = B := by
  obtain ⟨k, hk, hm⟩ := mask_of hc.lt
  exact bett_eq (h.top c k hc hk hm) (htop B h.good)

/-! the program's lists are the best -/
theorem good_up {n : Nat} {R : Rel} {f : Nat → Nat} (hf : IsUp n R f) : ∀ {d : List Nat}, (∀ x, x ∈ d → x < n) → (d.Pairwise fun x y => R x y = true) → ∀ x r, d = x :: r → d.length ≤ f x
  | [], _, _, x, r, e => by cases e
  | [y], h, _, x, r, e => by
    injection e with e1 e2
    subst e1
    exact hf.pos y (h y List.mem_cons_self)
  | y :: z :: d, h, hp, x, r, e => by
    injection e with e1 e2
    subst e1
    obtain ⟨h1, h2⟩ := List.pairwise_cons.1 hp
    have h3 := good_up hf (d := z :: d) (fun x hx => h x (List.mem_cons_of_mem _ hx)) h2 z d rfl
    have h4 := hf.le y z (h y List.mem_cons_self) (h z (List.mem_cons_of_mem _ List.mem_cons_self)) (h1 z List.mem_cons_self)
    simp only [List.length_cons] at h3 ⊢
    omega
theorem chain_least {n : Nat} {R : Rel} {f : Nat → Nat} (hf : IsUp n R f) : ∀ {K : Nat} {c d : List Nat} (p : Nat → Prop), c.length = K → d.length = K → (∀ x, x ∈ d → x < n) → (d.Pairwise fun x y => R x y = true) → (∀ x r, d = x :: r → p x) → (∀ x, x < n → p x → f x ≤ K) →
    (∀ i x b, c[i]? = some x → b < n → f b + i = K → (0 < i → ∀ y, c[i - 1]? = some y → R y b = true) → (i = 0 → p b) → x ≤ b) → befo d c = false
  | K, [], [], _, _, _, _, _, _, _, _ => rfl
  | K, [], _ :: _, _, h1, h2, _, _, _, _, _ => by simp at h1 h2; omega
  | K, _ :: _, [], _, h1, h2, _, _, _, _, _ => by simp at h1 h2; omega
  | K, a :: c, b :: d, p, h1, h2, h3, h4, h5, h6, h7 => by
    simp only [befo]
    have hb := h3 b List.mem_cons_self
    have hup := good_up hf h3 h4 b d rfl
    have hpb := h5 b d rfl
    have hle := h6 b hb hpb
    have hfb : f b = K := by omega
    have hab := h7 0 a b rfl hb (by omega) (fun h => by omega) (fun _ => hpb)
    by_cases e : b = a
    · rw [if_pos e]
      subst e
      obtain ⟨g1, g2⟩ := List.pairwise_cons.1 h4
      obtain ⟨L, rfl⟩ : ∃ L, K = L + 1 := ⟨K - 1, by simp at h1; omega⟩
      refine chain_least hf (K := L) (c := c) (d := d) (fun x => R b x = true) (by simpa using h1) (by simpa using h2) (fun x hx => h3 x (List.mem_cons_of_mem _ hx)) g2 (fun x r e => g1 x (by rw [e]; exact List.mem_cons_self)) (fun x hx hR => ?_) (fun i x y hx hy hfy hR hp => ?_)
      · have := hf.le b x hb hx hR; omega
      · refine h7 (i + 1) x y (by simpa using hx) hy (by omega) (fun _ z hz => ?_) (fun h => by omega)
        by_cases h0 : i = 0
        · subst h0
          simp at hz
          rw [← hz]
          exact hp rfl
        · have : (b :: c)[i + 1 - 1]? = c[i - 1]? := by
            obtain ⟨j, rfl⟩ : ∃ j, i = j + 1 := ⟨i - 1, by omega⟩
            simp
          rw [this] at hz
          exact hR (by omega) z hz
    · rw [if_neg e, decide_eq_false_iff_not]
      omega
/-- Two ascending lists: the first difference is an element that d lacks. -/
theorem befo_lack : ∀ {c d : List Nat} {e : Nat}, c.length = d.length → c.Pairwise (· < ·) → d.Pairwise (· < ·) → (∀ x, x < e → (x ∈ d ↔ x ∈ c)) → e ∈ c → e ∉ d → befo d c = false
  | [], _, e, _, _, _, _, h, _ => by simp at h
  | a :: c, [], e, h, _, _, _, _, _ => by simp at h
  | a :: c, b :: d, e, h, h1, h2, h3, h4, h5 => by
    simp only [befo]
    obtain ⟨g1, g2⟩ := List.pairwise_cons.1 h1
    obtain ⟨g3, g4⟩ := List.pairwise_cons.1 h2
    by_cases hab : b = a
    · rw [if_pos hab]
      subst hab
      have hne : e ≠ b := fun h => h5 (by rw [h]; exact List.mem_cons_self)
      refine befo_lack (e := e) (by simpa using h) g2 g4 (fun x hx => ?_) ?_ (fun h => h5 (List.mem_cons_of_mem _ h))
      · have := h3 x hx
        rw [List.mem_cons, List.mem_cons] at this
        constructor
        · intro h
          have := g3 x h
          exact (‹x = b ∨ x ∈ d ↔ x = b ∨ x ∈ c›.1 (.inr h)).resolve_left (by omega)
        · intro h
          have := g1 x h
          exact (‹x = b ∨ x ∈ d ↔ x = b ∨ x ∈ c›.2 (.inr h)).resolve_left (by omega)
      · exact (List.mem_cons.1 h4).resolve_left hne
    · rw [if_neg hab, decide_eq_false_iff_not]
      intro hlt
      have ha : ∀ x, x ∈ a :: c → a ≤ x := by
        intro x hx
        rcases List.mem_cons.1 hx with rfl | hx
        · exact Nat.le_refl _
        · exact Nat.le_of_lt (g1 x hx)
      have := ha e h4
      have := ha b ((h3 b (by omega)).1 List.mem_cons_self)
      omega
theorem anti_best {n W left : Nat} {R : Rel} {S : Nat → Bool} {c d : List Nat} (hn : n ≤ 64) (hir : ∀ a, R a a = false) (hW : IsWd R (fun x => decide (x < n)) W) (hA : AInv n R W n S left c) (hd : Good false n R d) : bett d c = false := by
  have hcl := hA.done
  have hdn := hd.nodup hir
  have hcnt : d.length = cnt fun x => d.contains x := by
    unfold cnt
    refine Nat.le_antisymm (nodup_sub hdn fun x hx => ?_) (nodup_sub (List.nodup_range.filter _) fun x hx => ?_)
    · rw [List.mem_filter, List.mem_range]
      exact ⟨by have := hd.lt x hx; omega, List.contains_iff_mem.2 hx⟩
    · exact List.contains_iff_mem.1 (List.mem_filter.1 hx).2
  have hsub : ∀ x, d.contains x = true → x < n := fun x hx => hd.lt x (List.contains_iff_mem.1 hx)
  have hanti : ∀ a b, d.contains a = true → d.contains b = true → R a b = false := fun a b ha hb => hd.anti rfl a b (List.contains_iff_mem.1 ha) (List.contains_iff_mem.1 hb)
  have hle := hW.le (fun x => d.contains x) (fun x hx => by simpa using hsub x hx) hanti
  rw [bett_false]
  by_cases hlt : d.length < c.length
  · exact .inl hlt
  have hlen : d.length = c.length := by omega
  refine .inr ⟨hlen, ?_⟩
  have hup : d.Pairwise (· < ·) := by simpa using hd.up
  rcases hA.least (fun x => d.contains x) (fun x hx => hsub x hx) hanti (by omega) with h | ⟨e, h1, h2, h3, h4⟩
  · have : d = c := sort_eq (S := (· < ·)) (fun a => Nat.lt_irrefl a) (fun a b c => Nat.lt_trans) hup hA.up fun x => ?_
    · rw [this]; exact befo_self
    · by_cases hx : x < n
      · have := h x hx
        rw [← List.contains_iff_mem, ← List.contains_iff_mem, this]
      · exact ⟨fun h => absurd (hd.lt x h) hx, fun h => absurd (hA.lt x h).2 hx⟩
  · refine befo_lack (e := e) hlen.symm hA.up hup (fun x hx => ?_) h3 (fun h => ?_)
    · have := h2 x hx
      rw [← List.contains_iff_mem, ← List.contains_iff_mem, this]
    · have := List.contains_iff_mem.2 h
      rw [h4] at this
      cases this
theorem anti_good {n W left : Nat} {R : Rel} {S : Nat → Bool} {c : List Nat} (hA : AInv n R W n S left c) : Good false n R c :=
  ⟨fun x hx => (hA.lt x hx).2, by simpa using hA.up, fun _ x y hx hy => hA.anti x y hx hy⟩
theorem chain_good {n K : Nat} {R : Rel} {f : Nat → Nat} {c : List Nat} (htr : ∀ a b c, R a c = true → R c b = true → R a b = true) (h : Chain n R f K c) : Good true n R c := by
  refine ⟨fun x hx => ?_, ?_, by simp⟩
  · obtain ⟨i, hi⟩ := List.mem_iff_getElem?.1 hx
    exact h.lt i x hi
  · have key : ∀ k i x y, c[i]? = some x → c[i + 1 + k]? = some y → R x y = true := by
      intro k
      induction k with
      | zero => intro i x y; exact h.step i x y
      | succ k ih =>
        intro i x y hx hy
        have hl := (List.getElem?_eq_some_iff.1 hy).1
        have hz := List.getElem?_eq_getElem (l := c) (i := i + 1 + k) (by omega)
        exact htr _ _ _ (ih i x _ hx hz) (h.step _ _ _ hz hy)
    rw [List.pairwise_iff_getElem]
    intro i j hi hj hij
    simp only [if_true]
    refine key (j - i - 1) i _ _ (List.getElem?_eq_getElem hi) ?_
    rw [show i + 1 + (j - i - 1) = j from by omega]
    exact List.getElem?_eq_getElem hj
theorem chain_best {n : Nat} {R : Rel} {f : Nat → Nat} {c d : List Nat} (hf : IsUp n R f) (hK : ∀ x, x < n → f x ≤ c.length) (hc : Chain n R f c.length c) (hd : Good true n R d) : bett d c = false := by
  have hup : d.Pairwise fun x y => R x y = true := by simpa using hd.up
  rw [bett_false]
  have hle : d.length ≤ c.length := by
    cases hdd : d with
    | nil => simp
    | cons x r =>
      have := good_up hf hd.lt hup x r hdd
      have := hK x (hd.lt x (by rw [hdd]; exact List.mem_cons_self))
      rw [← hdd]
      omega
  by_cases hlt : d.length < c.length
  · exact .inl hlt
  refine .inr ⟨by omega, chain_least hf (K := c.length) (fun _ => True) rfl (by omega) hd.lt hup (fun _ _ _ => trivial) (fun x hx _ => hK x hx) fun i x b hx hb hfb hR _ => ?_⟩
  exact hc.min i x b hx hb hfb fun h y hy => hR h y hy
end Go.Proofs.Ytfjccccfkpgmgaa.Fd
