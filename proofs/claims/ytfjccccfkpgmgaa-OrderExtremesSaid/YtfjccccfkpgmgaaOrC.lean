/-
  The reduction has the same closure, and no pair of it can be left out; the law OrderMinimal, as a reading.
-/
import Derived.Test.YtfjccccfkpgmgaaOrB
import Derived.Test.YtfjccccfkpgmgaaFdF
namespace Go.Proofs.Ytfjccccfkpgmgaa.Fd
set_option linter.unusedSimpArgs false
set_option linter.unusedVariables false
open Go
set_option maxRecDepth 100000

theorem red_closed {m : Nat} {R : Rel} (hlt : ∀ a b, R a b = true → a < m ∧ b < m) (ht : ∀ a b c, R a c = true → R c b = true → R a b = true) (hi : ∀ a, R a a = false) : clos m (red m R) = R := by
  have key : ∀ k a b, R a b = true → ((List.range m).filter fun c => R a c && R c b).length ≤ k → clos m (red m R) a b = true := by
    intro k
    induction k with
    | zero =>
      intro a b h hl
      have he := List.eq_nil_of_length_eq_zero (Nat.le_zero.1 hl)
      refine clos_base ?_
      unfold red via
      rw [h, Bool.true_and, Bool.not_eq_true', List.any_eq_false]
      intro c hc
      exact List.filter_eq_nil_iff.1 he c hc
    | succ k ih =>
      intro a b h hl
      cases hv : via m R a b
      · exact clos_base (by unfold red; rw [h, hv]; rfl)
      · unfold via at hv
        obtain ⟨c, hc, h2⟩ := List.any_eq_true.1 hv
        simp only [Bool.and_eq_true] at h2
        obtain ⟨h2, h3⟩ := h2
        have hmem : c ∈ (List.range m).filter fun c => R a c && R c b := by
          rw [List.mem_filter]; exact ⟨hc, by rw [h2, h3]; rfl⟩
        have small : ∀ (p : Nat → Bool), (∀ x, p x = true → (R a x && R x b) = true) → p c = false → ((List.range m).filter p).length < ((List.range m).filter fun c => R a c && R c b).length := by
          intro p hp hpc
          have h4 : (List.range m).filter p = ((List.range m).filter fun c => R a c && R c b).filter p := by
            rw [List.filter_filter]
            apply List.filter_congr
            intro y _
            cases h5 : p y
            · simp
            · rw [hp y h5]; rfl
          rw [h4]
          refine Nat.lt_of_le_of_ne (List.length_filter_le _ _) fun he => ?_
          have := List.length_filter_eq_length_iff.1 he c hmem
          rw [hpc] at this
          cases this
        have g1 := small (fun x => R a x && R x c) (fun x hx => by
          simp only [Bool.and_eq_true] at hx ⊢
          exact ⟨hx.1, ht _ _ _ hx.2 h3⟩) (by rw [hi c, Bool.and_false])
        have g2 := small (fun x => R c x && R x b) (fun x hx => by
          simp only [Bool.and_eq_true] at hx ⊢
          exact ⟨ht _ _ _ h2 hx.1, hx.2⟩) (by rw [hi c, Bool.false_and])
        exact clos_trans (List.mem_range.1 hc) (ih a c h2 (by omega)) (ih c b h3 (by omega))
  funext a b
  cases h : R a b
  · cases h2 : clos m (red m R) a b
    · rfl
    · have := clos_sub (R := red m R) (S := R) (fun a b h => by unfold red at h; simp only [Bool.and_eq_true] at h; exact h.1) ht h2
      rw [h] at this
      cases this
  · exact key _ a b h (Nat.le_refl _)
theorem mem_rowOf {n a : Nat} {R : Rel} {x : Pr} : x ∈ rowOf n a R ↔ ∃ b, b < n ∧ R a b = true ∧ x = prs a b := by
  unfold rowOf
  rw [List.mem_map]
  constructor
  · rintro ⟨b, hb, rfl⟩
    rw [List.mem_filter] at hb
    exact ⟨b, List.mem_range.1 hb.1, hb.2, rfl⟩
  · rintro ⟨b, h1, h2, rfl⟩
    exact ⟨b, List.mem_filter.2 ⟨List.mem_range.2 h1, h2⟩, rfl⟩
theorem mem_pairsOf {n m : Nat} {R : Rel} {x : Pr} : x ∈ pairsOf n m R ↔ ∃ a b, a < m ∧ b < n ∧ R a b = true ∧ x = prs a b := by
  unfold pairsOf
  rw [List.mem_flatMap]
  constructor
  · rintro ⟨a, ha, hx⟩
    obtain ⟨b, h1, h2, h3⟩ := mem_rowOf.1 hx
    exact ⟨a, b, List.mem_range.1 ha, h1, h2, h3⟩
  · rintro ⟨a, b, h1, h2, h3, h4⟩
    exact ⟨a, List.mem_range.2 h1, mem_rowOf.2 ⟨b, h2, h3, h4⟩⟩
theorem prs_inj {a b c d : Nat} (h : prs a b = prs c d) : a = c ∧ b = d := by
  unfold prs at h
  injection h with h1 h2
  omega
theorem rowOf_nodup {a : Nat} {R : Rel} : ∀ {n : Nat}, (rowOf n a R).Nodup := by
  intro n
  induction n with
  | zero => exact List.nodup_nil
  | succ n ih =>
    rw [rowOf_succ, List.nodup_append]
    refine ⟨ih, by split <;> simp, fun x hx y hy => ?_⟩
    obtain ⟨b, hb, _, rfl⟩ := mem_rowOf.1 hx
    split at hy
    · rw [List.mem_singleton] at hy
      subst hy
      intro e
      have := (prs_inj e).2
      omega
    · cases hy
theorem pairsOf_nodup {n : Nat} {R : Rel} : ∀ {m : Nat}, (pairsOf n m R).Nodup := by
  intro m
  induction m with
  | zero => exact List.nodup_nil
  | succ m ih =>
    rw [pairsOf_succ, List.nodup_append]
    refine ⟨ih, rowOf_nodup, fun x hx y hy => ?_⟩
    obtain ⟨a, b, ha, _, _, rfl⟩ := mem_pairsOf.1 hx
    obtain ⟨b', _, _, rfl⟩ := mem_rowOf.1 hy
    intro e
    have := (prs_inj e).1
    omega
theorem relOf_mem {l : List Pr} {a b : Nat} : relOf l a b = true ↔ prs a b ∈ l := by
  unfold relOf
  rw [List.any_eq_true]
  constructor
  · rintro ⟨x, hx, h⟩
    simp at h
    have : x = prs a b := Prod.ext h.1 h.2
    rw [← this]
    exact hx
  · intro h
    exact ⟨_, h, by simp [prs]⟩
theorem relOf_pairs {m : Nat} {R : Rel} (hlt : ∀ a b, R a b = true → a < m ∧ b < m) : relOf (pairsOf m m R) = R := by
  funext a b
  rw [Bool.eq_iff_iff, relOf_mem, mem_pairsOf]
  constructor
  · rintro ⟨c, d, _, _, h, e⟩
    obtain ⟨rfl, rfl⟩ := prs_inj e
    exact h
  · intro h
    exact ⟨a, b, (hlt a b h).1, (hlt a b h).2, h, rfl⟩
theorem pairs_inR {m : Nat} {R : Rel} : (pairsOf m m R).all (inR m) = true := by
  rw [List.all_eq_true]
  intro x hx
  obtain ⟨a, b, h1, h2, _, rfl⟩ := mem_pairsOf.1 hx
  simp [inR, prs]
  omega
theorem chk_all {m : Nat} {l : List Pr} (hm : m ≤ 64) (hl : l.length ≤ 4096) (h : l.all (inR m) = true) : chk m l = 0 := by
  unfold chk
  rw [if_neg (by omega), if_neg (by omega), if_pos h]
/-- Without one of its pairs the reduction has another closure. -/
theorem red_needs {m : Nat} {R : Rel} (hlt : ∀ a b, R a b = true → a < m ∧ b < m) (ht : ∀ a b c, R a c = true → R c b = true → R a b = true) {i : Nat} (hi : i < (pairsOf m m (red m R)).length) :
    pairsOf m m (clos m (relOf ((pairsOf m m (red m R)).take i ++ (pairsOf m m (red m R)).drop (i + 1)))) ≠ pairsOf m m R := by
  intro he
  have hred : ∀ a b, red m R a b = true → R a b = true := fun a b h => by unfold red at h; simp only [Bool.and_eq_true] at h; exact h.1
  have hnd := pairsOf_nodup (n := m) (m := m) (R := red m R)
  have hx : (pairsOf m m (red m R))[i] ∈ pairsOf m m (red m R) := List.getElem_mem hi
  obtain ⟨a, b, ha, hb, hR, hx'⟩ := mem_pairsOf.1 hx
  have hsplit : pairsOf m m (red m R) = (pairsOf m m (red m R)).take i ++ prs a b :: (pairsOf m m (red m R)).drop (i + 1) := by
    rw [← hx', ← List.drop_eq_getElem_cons hi, List.take_append_drop]
  have hnot : prs a b ∉ (pairsOf m m (red m R)).take i ++ (pairsOf m m (red m R)).drop (i + 1) := by
    rw [hsplit, List.nodup_append] at hnd
    obtain ⟨_, h2, h3⟩ := hnd
    rw [List.mem_append]
    rintro (h | h)
    · exact h3 _ h _ List.mem_cons_self rfl
    · exact (List.nodup_cons.1 h2).1 h
  have hsub : ∀ x y, relOf ((pairsOf m m (red m R)).take i ++ (pairsOf m m (red m R)).drop (i + 1)) x y = true → red m R x y = true := by
    intro x y h
    have h1 := relOf_mem.1 h
    have h2 : prs x y ∈ pairsOf m m (red m R) := by
      rcases List.mem_append.1 h1 with h | h
      · exact List.mem_of_mem_take h
      · exact List.mem_of_mem_drop h
    obtain ⟨c, d, _, _, h3, e⟩ := mem_pairsOf.1 h2
    obtain ⟨rfl, rfl⟩ := prs_inj e
    exact h3
  have hab : prs a b ∈ pairsOf m m (clos m (relOf ((pairsOf m m (red m R)).take i ++ (pairsOf m m (red m R)).drop (i + 1)))) := by
    rw [he]
    exact mem_pairsOf.2 ⟨a, b, ha, hb, hred a b hR, rfl⟩
  obtain ⟨c, d, _, _, hcl, e⟩ := mem_pairsOf.1 hab
  obtain ⟨rfl, rfl⟩ := prs_inj e
  obtain ⟨c, h1, h2⟩ := clos_last hcl
  rcases h2 with rfl | h2
  · exact hnot (relOf_mem.1 h1)
  · have h3 := clos_sub (S := R) (fun x y h => hred x y (hsub x y h)) ht h2
    have h4 := hred _ _ (hsub _ _ h1)
    unfold red at hR
    simp only [Bool.and_eq_true, Bool.not_eq_true'] at hR
    have h5 : via m R a b = true := List.any_eq_true.2 ⟨c, List.mem_range.2 (hlt a c h3).2, by rw [h3, h4]; rfl⟩
    rw [hR.2] at h5
    cases h5

/-- Some more pairs at the end of an owned row. -/
theorem app_prl {w : World} {v : Value} {l : List Pr} (hown : w.ownsRow 0 29 2 v l.length (l.flatMap pairRow)) {b o c q : Nat} {news : List Pr} (hq : news.length = q) (hlen : l.length + news.length < 1000000) {ty : TypeId}
    (hsrc : ∀ j x, news[j]? = some x → w.cell? ⟨b, o + j * 2, none⟩ = some (.int .i64 x.1) ∧ w.cell? ⟨b, o + j * 2 + 1, none⟩ = some (.int .i64 x.2)) {K : Value × World → Prop}
    (hk : ∀ v' w', w'.ownsRow 0 29 2 v' (l ++ news).length ((l ++ news).flatMap pairRow) → Upd (fun b => v.ownBlock = some b) w w' → (∀ g, v'.ownBlock = some g → v.ownBlock = some g ∨ w.heap.size ≤ g) → K (v', w')) :
    Okk (appS Try.prog #[22, 22] ty v (.slice (some ⟨b, o, none⟩) q c) w) K := by
  subst hq
  have hfl : ∀ l : List Pr, (l.flatMap pairRow).length = l.length * 2 := by
    intro l
    induction l with
    | nil => rfl
    | cons x r ih => rw [List.flatMap_cons, List.length_append, ih, List.length_cons]; simp [pairRow]; omega
  refine app_own (s := 2) (by_ := 16) (n := l.length) (m := news.length) (news := news.flatMap pairRow) t22_e t29_s t29_b t29_z rfl (by omega) hown (hfl _) ?_ ?_ (by omega) (by unfold maxLen; omega) ?_
  · intro j hj
    rw [hfl] at hj
    have hj2 : j / 2 < news.length := by omega
    obtain ⟨h0, h1⟩ := hsrc (j / 2) _ (List.getElem?_eq_getElem hj2)
    have hg := flat_get (f := pairRow) (s := 2) (fun _ => rfl) (r := j % 2) (by omega) (l := news) (j := j / 2)
    rw [show j / 2 * 2 + j % 2 = j from by omega, List.getElem?_eq_getElem hj2] at hg
    rw [hg]
    rcases Nat.mod_two_eq_zero_or_one j with h | h
    · rw [h, show o + j = o + j / 2 * 2 from by omega, h0]; rfl
    · rw [h, show o + j = o + j / 2 * 2 + 1 from by omega, h1]; rfl
  · intro u hu
    obtain ⟨x, _, hx⟩ := List.mem_flatMap.1 hu
    simp [pairRow] at hx
    rcases hx with rfl | rfl <;> rfl
  intro v' w' h1 h2 h3
  refine hk v' w' ?_ (Upd.grown (F := fun b => v.ownBlock = some b) h2 (fun k hk => hk)) ?_
  · rw [List.length_append, List.flatMap_append]
    exact h1
  · intro g hg
    rcases h3 with h | ⟨g', h, hge⟩
    · rw [h] at hg; exact .inl hg
    · rw [h] at hg; injection hg with hg; subst hg; exact .inr hge
end Go.Proofs.Ytfjccccfkpgmgaa.Fd
