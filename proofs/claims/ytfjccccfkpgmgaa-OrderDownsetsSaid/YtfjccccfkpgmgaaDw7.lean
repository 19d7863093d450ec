/-
  The reference's down-closed sets: from, Downsets.
-/
import Derived.Test.YtfjccccfkpgmgaaDw6
namespace Go.Proofs.Ytfjccccfkpgmgaa.Fd
set_option linter.unusedSimpArgs false
set_option linter.unusedVariables false
open Go
set_option maxRecDepth 100000

/-- A row of lists, all of it new since lo. -/
def RL (lo : Nat) (w : World) (V : Value) (css : List (List Nat)) : Prop := ∃ vs, w.ownsRow 0 26 1 V vs.length vs ∧ (∀ g, V.ownBlock = some g → lo ≤ g) ∧ vs.length = css.length ∧
  ∀ (j : Nat) u c, vs[j]? = some u → css[j]? = some c → u.oneCell' = true ∧ SlI w u (toI c) ∧ ∀ g, u.ownBlock = some g → lo ≤ g ∧ g < w.heap.size ∧ V.ownBlock ≠ some g
theorem RL.upd {lo : Nat} {w w' : World} {V : Value} {css : List (List Nat)} (h : RL lo w V css) (hu : Upd (fun _ => False) w w') : RL lo w' V css := by
  obtain ⟨vs, h1, h2, h3, h4⟩ := h
  have hs := hu.size
  exact ⟨vs, ownsRow_upd h1 hu (fun _ _ h => h), h2, h3, fun j u c hj hc => ⟨(h4 j u c hj hc).1, (h4 j u c hj hc).2.1.upd hu, fun g hg => by obtain ⟨k1, k2, k3⟩ := (h4 j u c hj hc).2.2 g hg; exact ⟨k1, by omega, k3⟩⟩⟩
theorem RL.lt {lo : Nat} {w : World} {V : Value} {css : List (List Nat)} (h : RL lo w V css) {g : Nat} (hg : V.ownBlock = some g) : lo ≤ g ∧ g < w.heap.size := by
  obtain ⟨vs, h1, h2, _⟩ := h
  exact ⟨h2 g hg, (h1.lt _ hg).2⟩
theorem RL.sl {lo : Nat} {w : World} {V : Value} {css : List (List Nat)} (h : RL lo w V css) : SlL w V css := by
  obtain ⟨vs, h1, _, h3, h4⟩ := h
  exact SlL.of_own h1 h3 fun j u c hj hc => (h4 j u c hj hc).2.1
theorem RL.app {lo : Nat} {w : World} {V : Value} {css : List (List Nat)} (h : RL lo w V css) (hlen : css.length < 1000000) {x : Value} {c : List Nat} (hx : SlI w x (toI c)) (hx1 : x.oneCell' = true)
    (hlo : lo ≤ w.heap.size) (hxb : ∀ g, x.ownBlock = some g → lo ≤ g ∧ g < w.heap.size ∧ V.ownBlock ≠ some g) {b n : Nat} {ty : TypeId} (hb : Blk w b [x] 26) {K : Value × World → Prop}
    (hk : ∀ V' w', RL lo w' V' (css ++ [c]) → Upd (fun b => V.ownBlock = some b) w w' → (∀ g, V'.ownBlock = some g → V.ownBlock = some g ∨ w.heap.size ≤ g) → K (V', w')) :
    Okk (appS Try.prog #[43, 43] ty V (.slice (some ⟨b, 0, none⟩) 1 n) w) K := by
  obtain ⟨vs, hown, hVb, hvl, hvs⟩ := h
  refine app_sli hown (by omega) hx1 hb ?_
  intro v' w9 hown9 hu9 hfr9
  have hs9 := hu9.size
  have hnew : ∀ g, v'.ownBlock = some g → V.ownBlock = some g ∨ w.heap.size ≤ g := fun g hg => by
    rcases hfr9 g hg with h | h
    · exact .inl h
    · exact .inr h.1
  refine hk v' w9 ⟨vs ++ [x], hown9, fun g hg => ?_, by simp [hvl], fun j u d hj hc => ?_⟩ hu9 hnew
  · rcases hnew g hg with h | h
    · exact hVb g h
    · omega
  by_cases h1 : j < css.length
  · rw [List.getElem?_append_left h1] at hc
    rw [List.getElem?_append_left (by omega)] at hj
    obtain ⟨k0, k1, k2⟩ := hvs j u d hj hc
    refine ⟨k0, k1.updF hu9 fun g hg h5 => (k2 g hg).2.2 h5, fun g hg => ⟨(k2 g hg).1, by have := (k2 g hg).2.1; omega, fun h5 => ?_⟩⟩
    rcases hnew g h5 with h6 | h6
    · exact (k2 g hg).2.2 h6
    · have := (k2 g hg).2.1; omega
  · have h2 := (List.getElem?_eq_some_iff.1 hc).1
    rw [List.length_append, List.length_singleton] at h2
    rw [List.getElem?_append_right (by omega), show j - css.length = 0 from by omega] at hc
    rw [List.getElem?_append_right (by omega), show j - vs.length = 0 from by omega] at hj
    cases hj
    cases hc
    refine ⟨hx1, hx.updF hu9 fun g hg h5 => (hxb g hg).2.2 h5, fun g hg => ⟨(hxb g hg).1, by have := (hxb g hg).2.1; omega, fun h5 => ?_⟩⟩
    rcases hnew g h5 with h6 | h6
    · exact (hxb g hg).2.2 h6
    · have := (hxb g hg).2.1; omega

/-- A list of ints whose slice is not nil. -/
def SlN (w : World) (v : Value) (l : List Nat) : Prop := ∃ b o c, v = .slice (some ⟨b, o, none⟩) l.length c ∧ b < w.heap.size ∧ ∀ (j x : Nat), l[j]? = some x → w.cell? ⟨b, o + j, none⟩ = some (.int .i64 (x : Int))
theorem SlN.updF {w w' : World} {F : Nat → Prop} {v : Value} {l : List Nat} (h : SlN w v l) (hu : Upd F w w') (hF : ∀ g, v.ownBlock = some g → ¬ F g) : SlN w' v l := by
  obtain ⟨b, o, c, rfl, h1, h2⟩ := h
  have e := hu.block b h1 (hF b rfl)
  exact ⟨b, o, c, rfl, Nat.lt_of_lt_of_le h1 hu.size, fun j x hj => by rw [World.cell?_of_block e]; exact h2 j x hj⟩
theorem SlN.sl {w : World} {v : Value} {l : List Nat} (h : SlN w v l) : SlI w v (toI l) := by
  obtain ⟨b, o, c, rfl, h1, h2⟩ := h
  refine ⟨_, c, by rw [toI_length], fun _ => ⟨b, o, rfl, h1, fun j x hj => ?_⟩⟩
  unfold toI at hj
  rw [List.getElem?_map] at hj
  cases hx : l[j]? with
  | none => rw [hx] at hj; cases hj
  | some y => rw [hx] at hj; cases hj; exact h2 j y hx
theorem SlN.of_own {w : World} {v : Value} {l : List Nat} (h : w.ownsRow 0 3 1 v (toI l).length ((toI l).map (Value.int .i64))) (h0 : 0 < l.length) : SlN w v l := by
  obtain ⟨a, c, hv, hl⟩ := SlI.of_own h
  rw [toI_length] at hv
  obtain ⟨b, o, rfl, h1, h2⟩ := hl (by intro e; unfold toI at e; rw [List.map_eq_nil_iff] at e; rw [e] at h0; simp at h0)
  refine ⟨b, o, c, hv, h1, fun j x hj => h2 j x ?_⟩
  unfold toI
  rw [List.getElem?_map, hj]; rfl
/-- append([]int{}, l...) -/
theorem app_copy {w : World} {s0 : Nat} (h0 : Blk w s0 [] 3) {lv : Value} {l : List Nat} (hl : SlN w lv l) (hlen : l.length < 1000000) {ty : TypeId} {K : Value × World → Prop}
    (hk : ∀ v' w', w'.ownsRow 0 3 1 v' (toI l).length ((toI l).map (Value.int .i64)) → Upd (fun b => b = s0) w w' → (∀ g, v'.ownBlock = some g → g = s0 ∨ w.heap.size ≤ g) → K (v', w')) :
    Okk (appS Try.prog #[26, 26] ty (.slice (some ⟨s0, 0, none⟩) 0 0) lv w) K := by
  obtain ⟨b, o, c, rfl, h1, h2⟩ := hl
  have hown : w.ownsRow 0 3 1 (.slice (some ⟨s0, 0, none⟩) 0 0) 0 [] := ⟨rfl, .inr ⟨s0, 0, #[], rfl, Nat.zero_le _, h0, Nat.le_refl _, Nat.zero_le _, rfl, rfl⟩⟩
  refine app_own (s := 1) (by_ := 8) (n := 0) (m := l.length) (news := (toI l).map (Value.int .i64)) t26_e t3_s t3_b t3_z rfl (by omega) hown (by simp [toI]) ?_ ?_ (by omega) (by unfold maxLen; omega) ?_
  · intro j hj
    rw [List.length_map, toI_length] at hj
    rw [h2 j _ (List.getElem?_eq_getElem hj)]
    unfold toI
    rw [List.getElem?_map, List.getElem?_map, List.getElem?_eq_getElem hj]; rfl
  · intro u hu
    obtain ⟨x, _, rfl⟩ := List.mem_map.1 hu
    rfl
  intro v' w' k1 k2 k3
  refine hk v' w' ?_ (Upd.grown k2 (fun k hk => by cases hk; rfl)) ?_
  · rw [toI_length]; simpa using k1
  · intro g hg
    rcases k3 with h | ⟨g', h, hge⟩
    · rw [h] at hg; cases hg; exact .inl rfl
    · rw [h] at hg; injection hg with hg; subst hg; exact .inr hge

def fromL (n : Nat) (R : Rel) (k : Nat) (l : List Nat) : List (List Nat) := (if dnP n R l then [l] else []) ++ gSets n (dnP n R) k l
theorem gSets_len {n : Nat} {dn : List Nat → Bool} : ∀ {k : Nat} {l : List Nat}, (gSets n dn k l).length + 1 ≤ 2 ^ k
  | 0, l => by simp [gSets]
  | k + 1, l => by
    have h1 := gSets_len (n := n) (dn := dn) (k := k) (l := l)
    have h2 := gSets_len (n := n) (dn := dn) (k := k) (l := l ++ [n - (k + 1)])
    rw [gSets, List.length_append, List.length_append, Nat.pow_succ]
    split
    · simp; omega
    · simp; omega
theorem gSets_from {n : Nat} {R : Rel} {k : Nat} {l : List Nat} : gSets n (dnP n R) (k + 1) l = fromL n R k (l ++ [n - (k + 1)]) ++ gSets n (dnP n R) k l := by
  rw [gSets, fromL]
theorem specD_from {n : Nat} {R : Rel} : specD n R = fromL n R n [] := rfl
end Go.Proofs.Ytfjccccfkpgmgaa.Fd
