/-
  A save on a disk that may lose its power: before, behind, between.
-/
import Derived.Test.YtkceoefmhppddaaDoorSp2
namespace Go.Proofs.YtkceoefmhppddaaDoor.Fd
set_option linter.unusedSimpArgs false
set_option linter.unusedVariables false
open Go
set_option maxRecDepth 100000
theorem nch_one {sz len : Nat} (hz : 0 < sz) (h : len = sz) : nch sz len = 1 := by
  subst h
  unfold nch
  rw [Nat.div_eq_of_lt_le] <;> omega
theorem chunk_one {sz : Nat} {x : List Int} (h : x.length = sz) : chunk sz x 0 = x := by
  unfold chunk pad
  rw [Nat.mul_zero, List.drop_zero, List.take_of_length_le (by omega), h, Nat.sub_self]
  simp
theorem nch_bound {sz len m : Nat} (hz : 0 < sz) (h : len ≤ m * sz) : nch sz len ≤ m := by
  rcases Nat.lt_or_ge m (nch sz len) with hh | hh
  · have := (nch_le hz).1 hh
    rw [Nat.mul_comm] at this
    omega
  · exact hh
theorem poss_dur {d : DS} {L : Nat → List Int} (hL : ∀ a, Poss d a (L a)) (a : Nat) : L a = DurL d a ∨ (a, L a) ∈ d.cache := hL a
structure Live (N sz first n : Nat) (d : DS) (c : CS) : Prop where
  off : d.off = false
  ca : d.cache = []
  len : d.dur.length = N
  size : d.size = sz
  opn : c = openL (DurL d) first n
theorem save_spec {N sz first n : Nat} {d : DS} {c : CS} (h : Live N sz first n d c) (hw : ∀ a, a < N → (DurL d a).length = sz) (hz : 44 ≤ sz) (hn : 1 ≤ n) (hN : first + 2 * n ≤ N) {b : List Int} (hb : b.length ≤ (n - 1) * sz) (hb2 : b.length < 2 ^ 32) (hg : c.gen < 4611686018427387904) {A : Nat} (hA : A = first + c.target * n) :
    ((runOps d (saveOps sz A b (c.gen + 1))).2 = 0 ∧ Live N sz first n (runOps d (saveOps sz A b (c.gen + 1))).1 { c with slot := c.target, newest := b, gen := c.gen + 1 } ∧ (d.cnt = none → (runOps d (saveOps sz A b (c.gen + 1))).1.cnt = none) ∧
      (∀ a, a < N → DurL (runOps d (saveOps sz A b (c.gen + 1))).1 a = if a = A then hdrP sz b (c.gen + 1) else if A + 1 ≤ a ∧ a < A + 1 + nch sz b.length then chunk sz b (a - (A + 1)) else DurL d a)) ∨
    ((runOps d (saveOps sz A b (c.gen + 1))).2 ≠ 0 ∧ (runOps d (saveOps sz A b (c.gen + 1))).1.off = true ∧ d.cnt ≠ none ∧
      ∀ L : Nat → List Int, (∀ a, Poss (runOps d (saveOps sz A b (c.gen + 1))).1 a (L a)) → openL L first n = c ∨ openL L first n = { c with slot := c.target, newest := b, gen := c.gen + 1 }) := by
  obtain ⟨hoff, hca, hlen, hsz, hop⟩ := h
  have hz0 : 0 < sz := by omega
  have hnb := nch_bound hz0 hb
  have ht1 : c.target ≤ 1 := by unfold CS.target; split <;> omega
  have htn : c.target * n ≤ 1 * n := Nat.mul_le_mul_right n ht1
  have hAN : A + n ≤ N := by omega
  have hAN2 : A + 1 + nch sz b.length ≤ A + n := by omega
  have hA' : A = first + (openL (DurL d) first n).target * n := by rw [← hop]; exact hA
  have hfirst : c.first = first := by rw [hop]; rfl
  have kill : ∀ L : Nat → List Int, (∀ a, a < N → (a < A ∨ A + n ≤ a) → L a = DurL d a) → L A = List.replicate sz 0 → openL L first n = c := fun L h1 h2 => by
    rw [openL_kill (z := sz) hn hA' (fun a q1 q2 q3 => h1 a (by omega) q3) h2, ← hop]
  have newL : ∀ L : Nat → List Int, (∀ a, a < N → (a < A ∨ A + n ≤ a) → L a = DurL d a) → L A = hdrP sz b (c.gen + 1) → (∀ i, i < nch sz b.length → L (A + 1 + i) = chunk sz b i) → (∀ i, nch sz b.length ≤ i → i < n - 1 → L (A + 1 + i) = DurL d (A + 1 + i)) → openL L first n = { c with slot := c.target, newest := b, gen := c.gen + 1 } := fun L h1 h2 h3 h4 => by
    have := openL_new (b := b) (sz := sz) hz hn hA' (fun a q1 q2 q3 => h1 a (by omega) q3) (by rw [← hop]; exact h2) h3 (fun i hi => by
      by_cases hh : i < nch sz b.length
      · rw [h3 i hh]; exact chunk_length
      · rw [h4 i (by omega) hi]; exact hw _ (by omega)) hb hb2 (by rw [← hop]; exact hg)
    rw [this, ← hop]
  unfold saveOps
  rw [List.append_assoc]
  rcases put_spec hz0 (at_ := A) (b := List.replicate sz 0) hoff hca hsz (by rw [nch_one hz0 (by simp), hlen]; omega) with ⟨p1, p2, p3, p4, p5, p6, p7⟩ | ⟨p1, p2, p3, p4, p5, p6⟩
  rotate_left
  · rw [runOps_stop p1]
    refine .inr ⟨p1, p2, p5, fun L hL => .inl ?_⟩
    rw [nch_one hz0 (by simp)] at p6
    have hcase : ∀ a, L a = DurL d a ∨ (a = A ∧ L a = List.replicate sz 0) := fun a => by
      rcases poss_dur hL a with e | e
      · left; rw [e]; unfold DurL; rw [p3]
      · obtain ⟨i, hi, e1, e2⟩ := p6 _ _ e
        obtain rfl : i = 0 := by omega
        rw [chunk_one (by simp)] at e2
        exact .inr ⟨by omega, e2⟩
    rcases hcase A with e | ⟨_, e⟩
    · rw [openL_congr (L' := DurL d) fun a q1 q2 => (hcase a).elim (fun h => h) fun h => by rw [h.1]; exact e, ← hop]
    · exact kill L (fun a ha hq => (hcase a).elim (fun h => h) fun h => by omega) e
  rw [runOps_go p1]
  rw [nch_one hz0 (by simp)] at p7
  generalize (runOps d (putOps sz A (List.replicate sz 0))).1 = d1 at *
  have v1 : ∀ a, a < N → DurL d1 a = if a = A then List.replicate sz 0 else DurL d a := fun a ha => by
    rw [p7 a (by omega)]
    by_cases e : a = A
    · rw [if_pos ⟨by omega, by omega⟩, if_pos e, e, Nat.sub_self, chunk_one (by simp)]
    · rw [if_neg (by omega), if_neg e]
  clear p7
  rcases put_spec hz0 (at_ := A + 1) (b := b) p2 p3 p5 (by rw [p4, hlen]; omega) with ⟨q1, q2, q3, q4, q5, q6, q7⟩ | ⟨q1, q2, q3, q4, q5, q6⟩
  rotate_left
  · rw [runOps_stop q1]
    refine .inr ⟨q1, q2, fun hh => q5 (p6 hh), fun L hL => .inl ?_⟩
    have hcase : ∀ a, L a = DurL d1 a ∨ (A + 1 ≤ a ∧ a < A + n) := fun a => by
      rcases poss_dur hL a with e | e
      · left; rw [e]; unfold DurL; rw [q3]
      · obtain ⟨i, hi, e1, e2⟩ := q6 _ _ e
        exact .inr (by omega)
    refine kill L (fun a ha hq => ?_) ?_
    · rcases hcase a with e | e
      · rw [e, v1 a ha, if_neg (by omega)]
      · omega
    · rcases hcase A with e | e
      · rw [e, v1 A (by omega), if_pos rfl]
      · omega
  rw [runOps_go q1]
  generalize (runOps d1 (putOps sz (A + 1) b)).1 = d2 at *
  have v2 : ∀ a, a < N → DurL d2 a = if a = A then List.replicate sz 0 else if A + 1 ≤ a ∧ a < A + 1 + nch sz b.length then chunk sz b (a - (A + 1)) else DurL d a := fun a ha => by
    rw [q7 a (by rw [p4]; omega)]
    by_cases e : a = A
    · rw [if_neg (by omega), v1 a ha, if_pos e, if_pos e]
    · rw [if_neg e, v1 a ha, if_neg e]
  clear q7
  have hhl : (hdrP sz b (c.gen + 1)).length = sz := hdrP_length hz
  rcases put_spec hz0 (at_ := A) (b := hdrP sz b (c.gen + 1)) q2 q3 q5 (by rw [nch_one hz0 hhl, q4, p4, hlen]; omega) with ⟨r1, r2, r3, r4, r5, r6, r7⟩ | ⟨r1, r2, r3, r4, r5, r6⟩
  rotate_left
  · refine .inr ⟨r1, r2, fun hh => r5 (q6 (p6 hh)), fun L hL => ?_⟩
    rw [nch_one hz0 hhl] at r6
    have hcase : ∀ a, L a = DurL d2 a ∨ (a = A ∧ L a = hdrP sz b (c.gen + 1)) := fun a => by
      rcases poss_dur hL a with e | e
      · left; rw [e]; unfold DurL; rw [r3]
      · obtain ⟨i, hi, e1, e2⟩ := r6 _ _ e
        obtain rfl : i = 0 := by omega
        rw [chunk_one hhl] at e2
        exact .inr ⟨by omega, e2⟩
    have hout : ∀ a, a < N → (a < A ∨ A + n ≤ a) → L a = DurL d a := fun a ha hq => by
      rcases hcase a with e | e
      · rw [e, v2 a ha, if_neg (by omega), if_neg (by omega)]
      · omega
    rcases hcase A with e | ⟨_, e⟩
    · left
      exact kill L hout (by rw [e, v2 A (by omega), if_pos rfl])
    · right
      refine newL L hout e (fun i hi => ?_) fun i hi hi2 => ?_
      · rcases hcase (A + 1 + i) with e | e
        · rw [e, v2 _ (by omega), if_neg (by omega), if_pos ⟨by omega, by omega⟩, show A + 1 + i - (A + 1) = i by omega]
        · omega
      · rcases hcase (A + 1 + i) with e | e
        · rw [e, v2 _ (by omega), if_neg (by omega), if_neg (by omega)]
        · omega
  rw [nch_one hz0 hhl] at r7
  generalize runOps d2 (putOps sz A (hdrP sz b (c.gen + 1))) = r at *
  have v3 : ∀ a, a < N → DurL r.1 a = if a = A then hdrP sz b (c.gen + 1) else if A + 1 ≤ a ∧ a < A + 1 + nch sz b.length then chunk sz b (a - (A + 1)) else DurL d a := fun a ha => by
    rw [r7 a (by rw [q4, p4]; omega)]
    by_cases e : a = A
    · rw [if_pos ⟨by omega, by omega⟩, if_pos e, e, Nat.sub_self, chunk_one hhl]
    · rw [if_neg (by omega), v2 a ha, if_neg e, if_neg e]
  refine .inl ⟨r1, ⟨r2, r3, by rw [r4, q4, p4, hlen], r5, ?_⟩, fun hh => r6 (q6 (p6 hh)), v3⟩
  symm
  refine newL _ (fun a ha hq => ?_) ?_ (fun i hi => ?_) fun i hi hi2 => ?_
  · rw [v3 a ha, if_neg (by omega), if_neg (by omega)]
  · rw [v3 A (by omega), if_pos rfl]
  · rw [v3 _ (by omega), if_neg (by omega), if_pos ⟨by omega, by omega⟩, show A + 1 + i - (A + 1) = i by omega]
  · rw [v3 _ (by omega), if_neg (by omega), if_neg (by omega)]
end Go.Proofs.YtkceoefmhppddaaDoor.Fd
