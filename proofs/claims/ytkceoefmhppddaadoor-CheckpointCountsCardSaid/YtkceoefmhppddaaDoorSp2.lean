/-
  A save on a disk that may lose its power: plain facts.
-/
import Derived.Test.YtkceoefmhppddaaDoorRf1
namespace Go.Proofs.YtkceoefmhppddaaDoor.Fd
set_option linter.unusedSimpArgs false
set_option linter.unusedVariables false
open Go
set_option maxRecDepth 100000
theorem numL_fold : ∀ {l : List Int} {a : Nat}, l.foldl (fun n x => n * 256 + x.toNat) a = a * 256 ^ l.length + numL l
  | [], a => by simp [numL]
  | x :: l, a => by
    have h1 := numL_fold (l := l) (a := a * 256 + x.toNat)
    have h2 := numL_fold (l := l) (a := x.toNat)
    have e : numL (x :: l) = l.foldl (fun n x => n * 256 + x.toNat) x.toNat := by simp [numL]
    rw [List.foldl_cons, h1, e, h2, List.length_cons, Nat.pow_succ, Nat.add_mul, Nat.mul_assoc, Nat.mul_comm 256]
    omega
theorem numL_cons {x : Int} {l : List Int} : numL (x :: l) = x.toNat * 256 ^ l.length + numL l := by
  have e : numL (x :: l) = l.foldl (fun n x => n * 256 + x.toNat) x.toNat := by simp [numL]
  rw [e, numL_fold]
theorem numL_beL {n : Nat} : ∀ {k : Nat}, numL (beL k n) = n % 256 ^ k
  | 0 => by simp [beL, numL, Nat.mod_one]
  | k + 1 => by
    rw [beL, numL_cons, numL_beL (k := k), beL_length, Int.toNat_natCast, Nat.pow_succ, Nat.mod_mul, Nat.mul_comm]
    omega
theorem numL_zeros {n : Nat} : numL (List.replicate n 0) = 0 := by
  induction n with
  | zero => rfl
  | succ n ih => rw [List.replicate_succ, numL_cons, ih]; simp
def slotSL (L : Nat → List Int) (x n : Nat) : List (List Int) := (List.range n).map fun i => L (x + i)
def openL (L : Nat → List Int) (first n : Nat) : CS :=
  let r := newestP (slotP (slotSL L first n)) (slotP (slotSL L (first + n) n))
  ⟨first, n, r.1, r.2.1, r.2.2, false⟩
theorem openC_L {d : DS} {first n : Nat} : openC d first n = openL d.content first n := rfl
theorem slotSL_congr {L L' : Nat → List Int} {x n : Nat} (h : ∀ a, x ≤ a → a < x + n → L a = L' a) : slotSL L x n = slotSL L' x n := by
  apply List.map_congr_left
  intro i hi
  have := List.mem_range.1 hi
  exact h _ (by omega) (by omega)
theorem openL_congr {L L' : Nat → List Int} {first n : Nat} (h : ∀ a, first ≤ a → a < first + 2 * n → L a = L' a) : openL L first n = openL L' first n := by
  unfold openL
  rw [slotSL_congr (L := L) (L' := L') (x := first) fun a h1 h2 => h a h1 (by omega), slotSL_congr (L := L) (L' := L') (x := first + n) fun a h1 h2 => h a (by omega) (by omega)]
theorem slotSL_cons {L : Nat → List Int} {x n : Nat} (h : 1 ≤ n) : slotSL L x n = L x :: (List.range (n - 1)).map fun i => L (x + 1 + i) := by
  obtain ⟨m, rfl⟩ : ∃ m, n = m + 1 := ⟨n - 1, by omega⟩
  rw [slotSL, List.range_succ_eq_map, Nat.add_sub_cancel]
  simp only [List.map_cons, List.map_map, Nat.add_zero, List.cons.injEq, true_and]
  apply List.map_congr_left
  intro i _
  show L (x + (i + 1)) = _
  rw [show x + (i + 1) = x + 1 + i by omega]
theorem slotP_zero {h : List Int} {r : List (List Int)} {z : Nat} (hz : h = List.replicate z 0) : slotP (h :: r) = none := by
  unfold slotP
  dsimp only
  rw [if_neg]
  rintro ⟨h1, _⟩
  rw [List.headD_cons, hz, List.take_replicate, numL_zeros] at h1
  omega
def bodyL (L : Nat → List Int) (x t : Nat) : List Int := ((List.range t).map fun i => L (x + 1 + i)).flatten
theorem bodyL_succ {L : Nat → List Int} {x t : Nat} : bodyL L x (t + 1) = bodyL L x t ++ L (x + 1 + t) := by simp [bodyL, List.range_succ]
theorem bodyL_length {L : Nat → List Int} {x sz : Nat} : ∀ {t : Nat}, (∀ i, i < t → (L (x + 1 + i)).length = sz) → (bodyL L x t).length = t * sz
  | 0, _ => by simp [bodyL]
  | t + 1, h => by rw [bodyL_succ, List.length_append, bodyL_length (t := t) fun i hi => h i (by omega), h t (by omega), Nat.succ_mul]
theorem bodyL_take {L : Nat → List Int} {x sz : Nat} (hz : 0 < sz) {b : List Int} (hc : ∀ i, i < nch sz b.length → L (x + 1 + i) = chunk sz b i) : ∀ {t : Nat}, (∀ i, i < t → (L (x + 1 + i)).length = sz) → (bodyL L x t).take b.length = b.take (t * sz)
  | 0, _ => by simp [bodyL]
  | t + 1, h => by
    have hl := bodyL_length (L := L) (x := x) (sz := sz) (t := t) fun i hi => h i (by omega)
    have ih := bodyL_take (t := t) hz hc fun i hi => h i (by omega)
    rw [bodyL_succ, List.take_append, hl, ih, Nat.succ_mul, List.take_add]
    congr 1
    by_cases ht : t < nch sz b.length
    · have hlt := (nch_le hz).1 ht
      rw [Nat.mul_comm] at hlt
      rw [hc t ht, chunk, pad, Nat.mul_comm sz t]
      have hl2 : ((b.drop (t * sz)).take sz).length = min sz (b.length - t * sz) := by rw [List.length_take, List.length_drop]
      by_cases hs : sz ≤ b.length - t * sz
      · rw [show sz - ((b.drop (t * sz)).take sz).length = 0 by omega]
        simp only [List.replicate_zero, List.append_nil]
        rw [List.take_of_length_le (by omega)]
      · rw [List.take_append_of_le_length (by omega), List.take_of_length_le (by omega)]
    · have hge : ¬ sz * t < b.length := fun hh => ht ((nch_le hz).2 hh)
      rw [Nat.mul_comm] at hge
      rw [show b.length - t * sz = 0 by omega, List.take_zero, List.drop_of_length_le (by omega), List.take_nil]
theorem hdr_head {sz g : Nat} {b : List Int} (hg : g < 2 ^ 64) : numL ((hdrP sz b g).take 8) = g := by
  unfold hdrP pad headP
  rw [List.append_assoc, List.append_assoc, List.take_append_of_le_length (by rw [beL_length]; omega), List.take_of_length_le (by rw [beL_length]; omega), numL_beL]
  exact Nat.mod_eq_of_lt hg
theorem hdr_len {sz g : Nat} {b : List Int} (hb : b.length < 2 ^ 32) : numL (((hdrP sz b g).drop 8).take 4) = b.length := by
  unfold hdrP pad headP
  rw [List.append_assoc, List.append_assoc, List.drop_left' (by rw [beL_length]), List.take_append_of_le_length (by rw [beL_length]; omega), List.take_of_length_le (by rw [beL_length]; omega), numL_beL]
  exact Nat.mod_eq_of_lt hb
theorem slotP_hdr {L : Nat → List Int} {x n sz g : Nat} {b : List Int} (hz : 44 ≤ sz) (hn : 1 ≤ n) (hh : L x = hdrP sz b g) (hc : ∀ i, i < nch sz b.length → L (x + 1 + i) = chunk sz b i) (hl : ∀ i, i < n - 1 → (L (x + 1 + i)).length = sz) (hb : b.length ≤ (n - 1) * sz) (hb2 : b.length < 2 ^ 32) (hg : 1 ≤ g ∧ g ≤ 4611686018427387904) :
    slotP (slotSL L x n) = some (b, g) := by
  rw [slotSL_cons hn]
  have hbl := bodyL_length hl
  have htk := bodyL_take (by omega) hc hl
  rw [List.take_of_length_le (i := (n - 1) * sz) hb] at htk
  unfold slotP
  dsimp only [List.headD_cons, List.tail_cons]
  rw [hh, hdr_head (by omega), hdr_len hb2]
  have e : ((List.range (n - 1)).map fun i => L (x + 1 + i)).flatten = bodyL L x (n - 1) := rfl
  rw [e, htk, if_pos ⟨hg.1, hg.2, by omega, by rw [hdrP_length (by omega)]⟩]
theorem newest_kill {a b : Option (List Int × Nat)} (ha : ∀ x, a = some x → 1 ≤ x.2) (hb : ∀ x, b = some x → 1 ≤ x.2) :
    (if 0 < (newestP a b).2.2 ∧ (newestP a b).1 = 0 then newestP a none else newestP none b) = newestP a b := by
  cases a with
  | none =>
    cases b with
    | none => rfl
    | some y => simp [newestP]
  | some x =>
    have := ha x rfl
    cases b with
    | none =>
      have e : newestP (some x) none = (0, x) := rfl
      rw [e, if_pos ⟨by show 0 < x.2; omega, rfl⟩]
    | some y =>
      have := hb y rfl
      simp only [newestP]
      by_cases h : x.2 < y.2
      · simp only [h, if_true]
        simp
      · simp only [h, if_false]
        rw [if_pos ⟨by omega, trivial⟩]
theorem newest_new {a b : Option (List Int × Nat)} {z : List Int} (ha : ∀ x, a = some x → 1 ≤ x.2) (hb : ∀ x, b = some x → 1 ≤ x.2) :
    (if 0 < (newestP a b).2.2 ∧ (newestP a b).1 = 0 then newestP a (some (z, (newestP a b).2.2 + 1)) else newestP (some (z, (newestP a b).2.2 + 1)) b) = (if 0 < (newestP a b).2.2 ∧ (newestP a b).1 = 0 then 1 else 0, z, (newestP a b).2.2 + 1) := by
  cases a with
  | none =>
    cases b with
    | none => rfl
    | some y =>
      have := hb y rfl
      simp [newestP]
      exact if_neg (by show ¬ y.2 + 1 < y.2; omega)
  | some x =>
    have := ha x rfl
    cases b with
    | none =>
      have e : newestP (some x) none = (0, x) := rfl
      rw [e, if_pos ⟨by show 0 < x.2; omega, rfl⟩, if_pos ⟨by show 0 < x.2; omega, rfl⟩]
      simp [newestP]
    | some y =>
      have := hb y rfl
      simp only [newestP]
      by_cases h : x.2 < y.2
      · simp only [h, if_true]
        simp
      · simp only [h, if_false]
        have hx : 0 < x.2 := by omega
        simp [hx]
theorem pos_of {ss : List (List Int)} : ∀ x, slotP ss = some x → 1 ≤ x.2 := fun _ h => (slotP_pos h).1
/-- The target's header is gone: the opening finds what it found. -/
theorem openL_kill {L0 L : Nat → List Int} {first n z : Nat} (hn : 1 ≤ n) {A : Nat} (hA : A = first + (openL L0 first n).target * n) (h1 : ∀ a, first ≤ a → a < first + 2 * n → (a < A ∨ A + n ≤ a) → L a = L0 a) (h2 : L A = List.replicate z 0) :
    openL L first n = openL L0 first n := by
  have hk := newest_kill (a := slotP (slotSL L0 first n)) (b := slotP (slotSL L0 (first + n) n)) pos_of pos_of
  have hT : (openL L0 first n).target = if 0 < (newestP (slotP (slotSL L0 first n)) (slotP (slotSL L0 (first + n) n))).2.2 ∧ (newestP (slotP (slotSL L0 first n)) (slotP (slotSL L0 (first + n) n))).1 = 0 then 1 else 0 := rfl
  rw [hT] at hA
  unfold openL
  by_cases hc : 0 < (newestP (slotP (slotSL L0 first n)) (slotP (slotSL L0 (first + n) n))).2.2 ∧ (newestP (slotP (slotSL L0 first n)) (slotP (slotSL L0 (first + n) n))).1 = 0
  · rw [if_pos hc] at hk hA
    have e2 : slotP (slotSL L (first + n) n) = none := by
      rw [slotSL_cons hn]
      exact slotP_zero (z := z) (by rw [← h2, hA, Nat.one_mul])
    have e1 : slotSL L first n = slotSL L0 first n := slotSL_congr fun a q1 q2 => h1 a q1 (by omega) (.inl (by omega))
    rw [e1, e2, hk]
  · rw [if_neg hc] at hk hA
    have e2 : slotP (slotSL L first n) = none := by
      rw [slotSL_cons hn]
      exact slotP_zero (z := z) (by rw [← h2, hA, Nat.zero_mul, Nat.add_zero])
    have e1 : slotSL L (first + n) n = slotSL L0 (first + n) n := slotSL_congr fun a q1 q2 => h1 a (by omega) (by omega) (.inr (by omega))
    rw [e1, e2, hk]
theorem openL_new {L0 L : Nat → List Int} {first n sz : Nat} (hz : 44 ≤ sz) (hn : 1 ≤ n) {b : List Int} {A : Nat} (hA : A = first + (openL L0 first n).target * n) (h1 : ∀ a, first ≤ a → a < first + 2 * n → (a < A ∨ A + n ≤ a) → L a = L0 a)
    (hh : L A = hdrP sz b ((openL L0 first n).gen + 1)) (hc : ∀ i, i < nch sz b.length → L (A + 1 + i) = chunk sz b i) (hl : ∀ i, i < n - 1 → (L (A + 1 + i)).length = sz) (hb : b.length ≤ (n - 1) * sz) (hb2 : b.length < 2 ^ 32) (hg : (openL L0 first n).gen < 4611686018427387904) :
    openL L first n = { openL L0 first n with slot := (openL L0 first n).target, newest := b, gen := (openL L0 first n).gen + 1 } := by
  have hk := newest_new (z := b) (a := slotP (slotSL L0 first n)) (b := slotP (slotSL L0 (first + n) n)) pos_of pos_of
  have hs := slotP_hdr hz hn hh hc hl hb hb2 ⟨by omega, by omega⟩
  have hT : (openL L0 first n).target = if 0 < (newestP (slotP (slotSL L0 first n)) (slotP (slotSL L0 (first + n) n))).2.2 ∧ (newestP (slotP (slotSL L0 first n)) (slotP (slotSL L0 (first + n) n))).1 = 0 then 1 else 0 := rfl
  have hG : (openL L0 first n).gen = (newestP (slotP (slotSL L0 first n)) (slotP (slotSL L0 (first + n) n))).2.2 := rfl
  rw [hT] at hA ⊢
  rw [hG] at hs
  show (⟨first, n, _, _, _, false⟩ : CS) = ⟨first, n, _, _, _, false⟩
  rw [hG]
  by_cases hc : 0 < (newestP (slotP (slotSL L0 first n)) (slotP (slotSL L0 (first + n) n))).2.2 ∧ (newestP (slotP (slotSL L0 first n)) (slotP (slotSL L0 (first + n) n))).1 = 0
  · rw [if_pos hc, if_pos hc] at hk
    rw [if_pos hc] at hA ⊢
    have e1 : slotSL L first n = slotSL L0 first n := slotSL_congr fun a q1 q2 => h1 a q1 (by omega) (.inl (by omega))
    rw [hA, Nat.one_mul] at hs
    rw [e1, hs, hk]
  · rw [if_neg hc, if_neg hc] at hk
    rw [if_neg hc] at hA ⊢
    have e1 : slotSL L (first + n) n = slotSL L0 (first + n) n := slotSL_congr fun a q1 q2 => h1 a (by omega) (by omega) (.inr (by omega))
    rw [hA, Nat.zero_mul, Nat.add_zero] at hs
    rw [e1, hs, hk]
theorem nch_one {sz len : Nat} (hz : 0 < sz) (h : len = sz) : nch sz len = 1 := by
  subst h
  unfold nch
  rw [Nat.div_eq_of_lt_le] <;> omega
theorem chunk_one {sz : Nat} {x : List Int} (h : x.length = sz) : chunk sz x 0 = x := by
  unfold chunk pad
  rw [Nat.mul_zero, List.drop_zero, List.take_of_length_le (by omega), h, Nat.sub_self]
  simp
theorem nch_bound {sz len m : Nat} (hz : 0 < sz) (h : len ≤ m * sz) : nch sz len ≤ m := by
  rcases Nat.lt_or_ge m (nch sz len) with hh | hh
  · have := (nch_le hz).1 hh
    rw [Nat.mul_comm] at this
    omega
  · exact hh
theorem poss_dur {d : DS} {L : Nat → List Int} (hL : ∀ a, Poss d a (L a)) (a : Nat) : L a = DurL d a ∨ (a, L a) ∈ d.cache := hL a
structure Live (N sz first n : Nat) (d : DS) (c : CS) : Prop where
  off : d.off = false
  ca : d.cache = []
  len : d.dur.length = N
  size : d.size = sz
  opn : c = openL (DurL d) first n
theorem save_spec {N sz first n : Nat} {d : DS} {c : CS} (h : Live N sz first n d c) (hw : ∀ a, a < N → (DurL d a).length = sz) (hz : 44 ≤ sz) (hn : 1 ≤ n) (hN : first + 2 * n ≤ N) {b : List Int} (hb : b.length ≤ (n - 1) * sz) (hb2 : b.length < 2 ^ 32) (hg : c.gen < 4611686018427387904) {A : Nat} (hA : A = first + c.target * n) :
    ((runOps d (saveOps sz A b (c.gen + 1))).2 = 0 ∧ Live N sz first n (runOps d (saveOps sz A b (c.gen + 1))).1 { c with slot := c.target, newest := b, gen := c.gen + 1 } ∧ (d.cnt = none → (runOps d (saveOps sz A b (c.gen + 1))).1.cnt = none) ∧
      (∀ a, a < N → DurL (runOps d (saveOps sz A b (c.gen + 1))).1 a = if a = A then hdrP sz b (c.gen + 1) else if A + 1 ≤ a ∧ a < A + 1 + nch sz b.length then chunk sz b (a - (A + 1)) else DurL d a)) ∨
    ((runOps d (saveOps sz A b (c.gen + 1))).2 ≠ 0 ∧ (runOps d (saveOps sz A b (c.gen + 1))).1.off = true ∧ d.cnt ≠ none ∧
      ∀ L : Nat → List Int, (∀ a, Poss (runOps d (saveOps sz A b (c.gen + 1))).1 a (L a)) → openL L first n = c ∨ openL L first n = { c with slot := c.target, newest := b, gen := c.gen + 1 }) := by
  obtain ⟨hoff, hca, hlen, hsz, hop⟩ := h
  have hz0 : 0 < sz := by omega
  have hnb := nch_bound hz0 hb
  have ht1 : c.target ≤ 1 := by unfold CS.target; split <;> omega
  have htn : c.target * n ≤ 1 * n := Nat.mul_le_mul_right n ht1
  have hAN : A + n ≤ N := by omega
  have hAN2 : A + 1 + nch sz b.length ≤ A + n := by omega
  have hA' : A = first + (openL (DurL d) first n).target * n := by rw [← hop]; exact hA
  have hfirst : c.first = first := by rw [hop]; rfl
  have kill : ∀ L : Nat → List Int, (∀ a, a < N → (a < A ∨ A + n ≤ a) → L a = DurL d a) → L A = List.replicate sz 0 → openL L first n = c := fun L h1 h2 => by
    rw [openL_kill (z := sz) hn hA' (fun a q1 q2 q3 => h1 a (by omega) q3) h2, ← hop]
  have newL : ∀ L : Nat → List Int, (∀ a, a < N → (a < A ∨ A + n ≤ a) → L a = DurL d a) → L A = hdrP sz b (c.gen + 1) → (∀ i, i < nch sz b.length → L (A + 1 + i) = chunk sz b i) → (∀ i, nch sz b.length ≤ i → i < n - 1 → L (A + 1 + i) = DurL d (A + 1 + i)) → openL L first n = { c with slot := c.target, newest := b, gen := c.gen + 1 } := fun L h1 h2 h3 h4 => by
    have := openL_new (b := b) (sz := sz) hz hn hA' (fun a q1 q2 q3 => h1 a (by omega) q3) (by rw [← hop]; exact h2) h3 (fun i hi => by
      by_cases hh : i < nch sz b.length
      · rw [h3 i hh]; exact chunk_length
      · rw [h4 i (by omega) hi]; exact hw _ (by omega)) hb hb2 (by rw [← hop]; exact hg)
    rw [this, ← hop]
  unfold saveOps
  rw [List.append_assoc]
  rcases put_spec hz0 (at_ := A) (b := List.replicate sz 0) hoff hca hsz (by rw [nch_one hz0 (by simp), hlen]; omega) with ⟨p1, p2, p3, p4, p5, p6, p7⟩ | ⟨p1, p2, p3, p4, p5, p6⟩
  rotate_left
  · rw [runOps_stop p1]
    refine .inr ⟨p1, p2, p5, fun L hL => .inl ?_⟩
    rw [nch_one hz0 (by simp)] at p6
    have hcase : ∀ a, L a = DurL d a ∨ (a = A ∧ L a = List.replicate sz 0) := fun a => by
      rcases poss_dur hL a with e | e
      · left; rw [e]; unfold DurL; rw [p3]
      · obtain ⟨i, hi, e1, e2⟩ := p6 _ _ e
        obtain rfl : i = 0 := by omega
        rw [chunk_one (by simp)] at e2
        exact .inr ⟨by omega, e2⟩
    rcases hcase A with e | ⟨_, e⟩
    · rw [openL_congr (L' := DurL d) fun a q1 q2 => (hcase a).elim (fun h => h) fun h => by rw [h.1]; exact e, ← hop]
    · exact kill L (fun a ha hq => (hcase a).elim (fun h => h) fun h => by omega) e
  rw [runOps_go p1]
  rw [nch_one hz0 (by simp)] at p7
  generalize (runOps d (putOps sz A (List.replicate sz 0))).1 = d1 at *
  have v1 : ∀ a, a < N → DurL d1 a = if a = A then List.replicate sz 0 else DurL d a := fun a ha => by
    rw [p7 a (by omega)]
    by_cases e : a = A
    · rw [if_pos ⟨by omega, by omega⟩, if_pos e, e, Nat.sub_self, chunk_one (by simp)]
    · rw [if_neg (by omega), if_neg e]
  clear p7
  rcases put_spec hz0 (at_ := A + 1) (b := b) p2 p3 p5 (by rw [p4, hlen]; omega) with ⟨q1, q2, q3, q4, q5, q6, q7⟩ | ⟨q1, q2, q3, q4, q5, q6⟩
  rotate_left
  · rw [runOps_stop q1]
    refine .inr ⟨q1, q2, fun hh => q5 (p6 hh), fun L hL => .inl ?_⟩
    have hcase : ∀ a, L a = DurL d1 a ∨ (A + 1 ≤ a ∧ a < A + n) := fun a => by
      rcases poss_dur hL a with e | e
      · left; rw [e]; unfold DurL; rw [q3]
      · obtain ⟨i, hi, e1, e2⟩ := q6 _ _ e
        exact .inr (by omega)
    refine kill L (fun a ha hq => ?_) ?_
    · rcases hcase a with e | e
      · rw [e, v1 a ha, if_neg (by omega)]
      · omega
    · rcases hcase A with e | e
      · rw [e, v1 A (by omega), if_pos rfl]
      · omega
  rw [runOps_go q1]
  generalize (runOps d1 (putOps sz (A + 1) b)).1 = d2 at *
  have v2 : ∀ a, a < N → DurL d2 a = if a = A then List.replicate sz 0 else if A + 1 ≤ a ∧ a < A + 1 + nch sz b.length then chunk sz b (a - (A + 1)) else DurL d a := fun a ha => by
    rw [q7 a (by rw [p4]; omega)]
    by_cases e : a = A
    · rw [if_neg (by omega), v1 a ha, if_pos e, if_pos e]
    · rw [if_neg e, v1 a ha, if_neg e]
  clear q7
  have hhl : (hdrP sz b (c.gen + 1)).length = sz := hdrP_length hz
  rcases put_spec hz0 (at_ := A) (b := hdrP sz b (c.gen + 1)) q2 q3 q5 (by rw [nch_one hz0 hhl, q4, p4, hlen]; omega) with ⟨r1, r2, r3, r4, r5, r6, r7⟩ | ⟨r1, r2, r3, r4, r5, r6⟩
  rotate_left
  · refine .inr ⟨r1, r2, fun hh => r5 (q6 (p6 hh)), fun L hL => ?_⟩
    rw [nch_one hz0 hhl] at r6
    have hcase : ∀ a, L a = DurL d2 a ∨ (a = A ∧ L a = hdrP sz b (c.gen + 1)) := fun a => by
      rcases poss_dur hL a with e | e
      · left; rw [e]; unfold DurL; rw [r3]
      · obtain ⟨i, hi, e1, e2⟩ := r6 _ _ e
        obtain rfl : i = 0 := by omega
        rw [chunk_one hhl] at e2
        exact .inr ⟨by omega, e2⟩
    have hout : ∀ a, a < N → (a < A ∨ A + n ≤ a) → L a = DurL d a := fun a ha hq => by
      rcases hcase a with e | e
      · rw [e, v2 a ha, if_neg (by omega), if_neg (by omega)]
      · omega
    rcases hcase A with e | ⟨_, e⟩
    · left
      exact kill L hout (by rw [e, v2 A (by omega), if_pos rfl])
    · right
      refine newL L hout e (fun i hi => ?_) fun i hi hi2 => ?_
      · rcases hcase (A + 1 + i) with e | e
        · rw [e, v2 _ (by omega), if_neg (by omega), if_pos ⟨by omega, by omega⟩, show A + 1 + i - (A + 1) = i by omega]
        · omega
      · rcases hcase (A + 1 + i) with e | e
        · rw [e, v2 _ (by omega), if_neg (by omega), if_neg (by omega)]
        · omega
  rw [nch_one hz0 hhl] at r7
  generalize runOps d2 (putOps sz A (hdrP sz b (c.gen + 1))) = r at *
  have v3 : ∀ a, a < N → DurL r.1 a = if a = A then hdrP sz b (c.gen + 1) else if A + 1 ≤ a ∧ a < A + 1 + nch sz b.length then chunk sz b (a - (A + 1)) else DurL d a := fun a ha => by
    rw [r7 a (by rw [q4, p4]; omega)]
    by_cases e : a = A
    · rw [if_pos ⟨by omega, by omega⟩, if_pos e, e, Nat.sub_self, chunk_one hhl]
    · rw [if_neg (by omega), v2 a ha, if_neg e, if_neg e]
  refine .inl ⟨r1, ⟨r2, r3, by rw [r4, q4, p4, hlen], r5, ?_⟩, fun hh => r6 (q6 (p6 hh)), v3⟩
  symm
  refine newL _ (fun a ha hq => ?_) ?_ (fun i hi => ?_) fun i hi hi2 => ?_
  · rw [v3 a ha, if_neg (by omega), if_neg (by omega)]
  · rw [v3 A (by omega), if_pos rfl]
  · rw [v3 _ (by omega), if_neg (by omega), if_pos ⟨by omega, by omega⟩, show A + 1 + i - (A + 1) = i by omega]
  · rw [v3 _ (by omega), if_neg (by omega), if_neg (by omega)]
end Go.Proofs.YtkceoefmhppddaaDoor.Fd
