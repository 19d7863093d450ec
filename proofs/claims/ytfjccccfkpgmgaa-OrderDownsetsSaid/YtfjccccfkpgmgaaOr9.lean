/-
  What the least topological order satisfies; the law OrderSorts, as a reading.
-/
import Derived.Test.YtfjccccfkpgmgaaOr8
namespace Go.Proofs.Ytfjccccfkpgmgaa.Fd
set_option linter.unusedSimpArgs false
set_option linter.unusedVariables false
open Go
set_option maxRecDepth 100000

theorem nodup_le : ∀ (n : Nat) (l : List Nat), l.Nodup → (∀ x ∈ l, x < n) → l.length ≤ n := by
  intro n
  induction n with
  | zero =>
    intro l _ h
    cases l with
    | nil => simp
    | cons x r => have := h x (by simp); omega
  | succ n ih =>
    intro l hn h
    have h1 := ih (l.erase n) (hn.erase n) fun x hx => by
      have h2 := h x (List.mem_of_mem_erase hx)
      have h3 : x ≠ n := fun e => by subst e; exact hn.not_mem_erase hx
      omega
    rw [List.length_erase] at h1
    split at h1 <;> omega
/-- A topological order that is the least one. -/
structure Topo (n : Nat) (R : Rel) (s : Nat → Nat) : Prop where
  lt : ∀ j, j < n → s j < n
  inj : ∀ i j, i < n → j < n → s i = s j → i = j
  surj : ∀ x, x < n → ∃ j, j < n ∧ s j = x
  free : ∀ j, j < n → ∀ a, a < n → R a (s j) = true → ∃ i, i < j ∧ s i = a
  least : ∀ j, j < n → ∀ x, x < s j → (∃ i, i < j ∧ s i = x) ∨ ∃ a, a < n ∧ R a x = true ∧ ¬ ∃ i, i < j ∧ s i = a
theorem sortL_step {n : Nat} {R : Rel} (ht : ∀ a b c, R a c = true → R c b = true → R a b = true) (hi : ∀ a, R a a = false) {k : Nat} (hk : k < n) :
    ∃ b, nextOf n R (sortL n R k) = some b ∧ sortL n R (k + 1) = sortL n R k ++ [b] := by
  have h1 := sortL_length ht hi k (by omega : k ≤ n)
  obtain ⟨x, hx, hxo⟩ := left_over (n := n) (out := sortL n R k) (by omega)
  obtain ⟨b, hb, hg⟩ := next_any ht hi hx hxo
  cases h2 : nextOf n R (sortL n R k) with
  | some c =>
    refine ⟨c, rfl, ?_⟩
    show (match nextOf n R (sortL n R k) with | some b => sortL n R k ++ [b] | none => sortL n R k) = _
    rw [h2]
  | none =>
    exfalso
    unfold nextOf at h2
    exact List.find?_eq_none.1 h2 b (List.mem_range.2 hb) hg
theorem sortL_get {n : Nat} {R : Rel} (ht : ∀ a b c, R a c = true → R c b = true → R a b = true) (hi : ∀ a, R a a = false) : ∀ {k i : Nat}, k ≤ n → i < k → (sortL n R k)[i]? = nextOf n R (sortL n R i) := by
  intro k
  induction k with
  | zero => intro i _ h; omega
  | succ k ih =>
    intro i hk h
    obtain ⟨b, h1, h2⟩ := sortL_step ht hi (n := n) (R := R) (k := k) (by omega)
    have hl := sortL_length ht hi k (by omega : k ≤ n)
    rw [h2]
    by_cases e : i = k
    · subst e
      rw [List.getElem?_append_right (by omega), hl, h1]
      simp
    · rw [List.getElem?_append_left (by omega)]
      exact ih (by omega) (by omega)
theorem topo_sortL {n : Nat} {R : Rel} (ht : ∀ a b c, R a c = true → R c b = true → R a b = true) (hi : ∀ a, R a a = false) :
    Topo n R (fun j => (sortL n R n).getD j 0) ∧ ∀ j, j < n → (toI (sortL n R n))[j]? = some (((sortL n R n).getD j 0 : Nat) : Int) := by
  have hl := sortL_length ht hi n (Nat.le_refl n)
  have hg : ∀ j, j < n → nextOf n R (sortL n R j) = some ((sortL n R n).getD j 0) := by
    intro j hj
    rw [← sortL_get ht hi (Nat.le_refl n) hj, List.getD_eq_getElem?_getD, List.getElem?_eq_getElem (by omega)]
    rfl
  have hmem : ∀ j x, j ≤ n → ((sortL n R j).contains x = true ↔ ∃ i, i < j ∧ (sortL n R n).getD i 0 = x) := by
    intro j x hj
    have hlj := sortL_length ht hi j hj
    rw [List.contains_iff_mem, List.mem_iff_getElem?]
    constructor
    · rintro ⟨i, h⟩
      have hij : i < j := by have := (List.getElem?_eq_some_iff.1 h).1; omega
      rw [sortL_get ht hi hj hij, hg i (by omega)] at h
      exact ⟨i, hij, Option.some.inj h⟩
    · rintro ⟨i, hij, rfl⟩
      exact ⟨i, by rw [sortL_get ht hi hj hij, hg i (by omega)]⟩
  have hsp : ∀ j, j < n → (sortL n R n).getD j 0 < n ∧ canGo n R (sortL n R j) ((sortL n R n).getD j 0) = true ∧ ∀ c, c < (sortL n R n).getD j 0 → canGo n R (sortL n R j) c = false := fun j hj => nextOf_spec (hg j hj)
  have hinj : ∀ i j, i < j → j < n → (sortL n R n).getD i 0 ≠ (sortL n R n).getD j 0 := by
    intro i j hij hj e
    have h1 := (hsp j hj).2.1
    have h2 := (hmem j ((sortL n R n).getD j 0) (by omega)).2 ⟨i, hij, e⟩
    unfold canGo at h1
    rw [h2] at h1
    cases h1
  refine ⟨⟨fun j hj => (hsp j hj).1, ?_, ?_, ?_, ?_⟩, ?_⟩
  · intro i j hi' hj e
    rcases Nat.lt_trichotomy i j with h | h | h
    · exact absurd e (hinj i j h hj)
    · exact h
    · exact absurd e.symm (hinj j i h hi')
  · intro x hx
    apply Classical.byContradiction
    intro hc
    have hnd : (x :: sortL n R n).Nodup := by
      rw [List.nodup_cons]
      refine ⟨fun hm => hc ((hmem n x (Nat.le_refl n)).1 (List.contains_iff_mem.2 hm)), ?_⟩
      rw [List.Nodup, List.pairwise_iff_getElem]
      intro i j h1 h2 hij e
      have e1 := List.getElem?_eq_getElem h1
      have e2 := List.getElem?_eq_getElem h2
      rw [sortL_get ht hi (Nat.le_refl n) (by omega), hg i (by omega)] at e1
      rw [sortL_get ht hi (Nat.le_refl n) (by omega), hg j (by omega)] at e2
      exact hinj i j hij (by omega) (by rw [Option.some.inj e1, Option.some.inj e2, e])
    have := nodup_le n _ hnd fun y hy => by
      rcases List.mem_cons.1 hy with rfl | hy
      · exact hx
      · obtain ⟨i, hi', rfl⟩ := (hmem n y (Nat.le_refl n)).1 (List.contains_iff_mem.2 hy)
        exact (hsp i hi').1
    simp only [List.length_cons] at this
    omega
  · intro j hj a ha hR
    have h1 := (hsp j hj).2.1
    unfold canGo isFree at h1
    simp only [Bool.and_eq_true, List.all_eq_true] at h1
    have h2 := h1.2 a (List.mem_range.2 ha)
    rw [hR, Bool.not_true, Bool.or_false] at h2
    exact (hmem j a (by omega)).1 h2
  · intro j hj x hx
    have h1 := (hsp j hj).2.2 x hx
    unfold canGo isFree at h1
    cases hc : (sortL n R j).contains x
    · right
      rw [hc, Bool.not_false, Bool.true_and, List.all_eq_false] at h1
      obtain ⟨a, ha, h2⟩ := h1
      refine ⟨a, List.mem_range.1 ha, ?_, fun h3 => ?_⟩
      · cases h4 : R a x
        · rw [h4] at h2; simp at h2
        · rfl
      · rw [(hmem j a (by omega)).2 h3] at h2
        simp at h2
    · exact .inl ((hmem j x (by omega)).1 hc)
  · intro j hj
    unfold toI
    rw [List.getElem?_map, List.getD_eq_getElem?_getD, List.getElem?_eq_getElem (by omega)]
    rfl

/-! a row of ints that a law writes -/
def atL (n : Nat) (f : Nat → Int) : List Value := (List.range n).map fun x => .int .i64 (f x)
theorem atL_length {n : Nat} {f : Nat → Int} : (atL n f).length = n := by simp [atL]
theorem atL_get {n b : Nat} {f : Nat → Int} (h : b < n) : (atL n f)[b]? = some (.int .i64 (f b)) := by simp [atL, h]
theorem atL_set {n b : Nat} {f : Nat → Int} {x : Int} : (atL n f).set b (.int .i64 x) = atL n (fun i => if i = b then x else f i) := by
  apply List.ext_getElem?
  intro i
  rw [List.getElem?_set]
  by_cases h : b = i
  · subst h
    by_cases ha : b < n
    · simp [atL, ha]
    · simp [atL, ha]
  · rw [if_neg h]
    by_cases hi : i < n
    · rw [atL_get hi, atL_get hi, if_neg (Ne.symm h)]
    · simp [atL, hi]
theorem atL_zero {n : Nat} : List.replicate n (Value.int .i64 0) = atL n fun _ => 0 := by
  rw [eq_comm, atL, List.eq_replicate_iff]
  refine ⟨by simp, ?_⟩
  intro x hx
  obtain ⟨a, _, rfl⟩ := List.mem_map.1 hx
  rfl
theorem any_take {l : List Pr} {i : Nat} {x : Pr} (h : l[i]? = some x) {p : Pr → Bool} : (l.take (i + 1)).any p = ((l.take i).any p || p x) := by
  rw [List.take_add_one, h]
  simp
/-- What must come before x is not earlier. -/
theorem topo_waits {n : Nat} {l : List Pr} {s : Nat → Nat} (hall : l.all (inR n) = true) (ht : Topo n (less n l) s) {f : Nat → Int} (hf : ∀ j, j < n → f (s j) = j) {i x : Nat} (hi : i < n) (hx : x < s i) (hw : ¬ f x < i) :
    l.any (fun p => p.2 == (x : Int) && decide ((i : Int) ≤ f p.1.toNat)) = true := by
  have hlate : ∀ c, c < n → (¬ ∃ j, j < i ∧ s j = c) → (i : Int) ≤ f c := by
    intro c hc h
    obtain ⟨j, hj, rfl⟩ := ht.surj c hc
    rw [hf j hj]
    have : ¬ j < i := fun h2 => h ⟨j, h2, rfl⟩
    omega
  have hxn : x < n := by have := ht.lt i hi; omega
  rcases ht.least i hi x hx with ⟨j, hj, rfl⟩ | ⟨a, ha, hR, hna⟩
  · rw [hf j (by omega)] at hw; omega
  · obtain ⟨c, h1, h2⟩ := clos_last hR
    have hcn := (relOf_lt hall h1).1
    have hnc : ¬ ∃ j, j < i ∧ s j = c := by
      rintro ⟨j, hj, rfl⟩
      rcases h2 with rfl | h2
      · exact hna ⟨j, hj, rfl⟩
      · obtain ⟨j2, hj2, e⟩ := ht.free j (by omega) a ha h2
        exact hna ⟨j2, by omega, e⟩
    unfold relOf at h1
    obtain ⟨p, hp, h3⟩ := List.any_eq_true.1 h1
    simp at h3
    rw [List.any_eq_true]
    refine ⟨p, hp, ?_⟩
    have := hlate c hcn hnc
    rw [h3.1, h3.2]
    simp
    omega
end Go.Proofs.Ytfjccccfkpgmgaa.Fd
