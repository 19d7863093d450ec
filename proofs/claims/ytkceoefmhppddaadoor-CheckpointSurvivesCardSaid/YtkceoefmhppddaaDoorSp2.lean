/-
  A save on a disk that may lose its power: plain facts.
-/
import Derived.Test.YtkceoefmhppddaaDoorRf1
namespace Go.Proofs.YtkceoefmhppddaaDoor.Fd
set_option linter.unusedSimpArgs false
set_option linter.unusedVariables false
open Go
set_option maxRecDepth 100000
theorem numL_fold : ∀ {l : List Int} {a : Nat}, l.foldl (fun n x => n * 256 + x.toNat) a = a * 256 ^ l.length + numL l
  | [], a => by simp [numL]
  | x :: l, a => by
    have h1 := numL_fold (l := l) (a := a * 256 + x.toNat)
    have h2 := numL_fold (l := l) (a := x.toNat)
    have e : numL (x :: l) = l.foldl (fun n x => n * 256 + x.toNat) x.toNat := by simp [numL]
    rw [List.foldl_cons, h1, e, h2, List.length_cons, Nat.pow_succ, Nat.add_mul, Nat.mul_assoc, Nat.mul_comm 256]
    omega
theorem numL_cons {x : Int} {l : List Int} : numL (x :: l) = x.toNat * 256 ^ l.length + numL l := by
  have e : numL (x :: l) = l.foldl (fun n x => n * 256 + x.toNat) x.toNat := by simp [numL]
  rw [e, numL_fold]
theorem numL_beL {n : Nat} : ∀ {k : Nat}, numL (beL k n) = n % 256 ^ k
  | 0 => by simp [beL, numL, Nat.mod_one]
  | k + 1 => by
    rw [beL, numL_cons, numL_beL (k := k), beL_length, Int.toNat_natCast, Nat.pow_succ, Nat.mod_mul, Nat.mul_comm]
    omega
theorem numL_zeros {n : Nat} : numL (List.replicate n 0) = 0 := by
  induction n with
  | zero => rfl
  | succ n ih => rw [List.replicate_succ, numL_cons, ih]; simp
def slotSL (L : Nat → List Int) (x n : Nat) : List (List Int) := (List.range n).map fun i => L (x + i)
def openL (L : Nat → List Int) (first n : Nat) : CS :=
  let r := newestP (slotP (slotSL L first n)) (slotP (slotSL L (first + n) n))
  ⟨first, n, r.1, r.2.1, r.2.2, false⟩
theorem openC_L {d : DS} {first n : Nat} : openC d first n = openL d.content first n := rfl
theorem slotSL_congr {L L' : Nat → List Int} {x n : Nat} (h : ∀ a, x ≤ a → a < x + n → L a = L' a) : slotSL L x n = slotSL L' x n := by
  apply List.map_congr_left
  intro i hi
  have := List.mem_range.1 hi
  exact h _ (by omega) (by omega)
theorem openL_congr {L L' : Nat → List Int} {first n : Nat} (h : ∀ a, first ≤ a → a < first + 2 * n → L a = L' a) : openL L first n = openL L' first n := by
  unfold openL
  rw [slotSL_congr (L := L) (L' := L') (x := first) fun a h1 h2 => h a h1 (by omega), slotSL_congr (L := L) (L' := L') (x := first + n) fun a h1 h2 => h a (by omega) (by omega)]
theorem slotSL_cons {L : Nat → List Int} {x n : Nat} (h : 1 ≤ n) : slotSL L x n = L x :: (List.range (n - 1)).map fun i => L (x + 1 + i) := by
  obtain ⟨m, rfl⟩ : ∃ m, n = m + 1 := ⟨n - 1, by omega⟩
  rw [slotSL, List.range_succ_eq_map, Nat.add_sub_cancel]
  simp only [List.map_cons, List.map_map, Nat.add_zero, List.cons.injEq, true_and]
  apply List.map_congr_left
  intro i _
  show L (x + (i + 1)) = _
  rw [show x + (i + 1) = x + 1 + i by omega]
theorem slotP_zero {h : List Int} {r : List (List Int)} {z : Nat} (hz : h = List.replicate z 0) : slotP (h :: r) = none := by
  unfold slotP
  dsimp only
  rw [if_neg]
  rintro ⟨h1, _⟩
  rw [List.headD_cons, hz, List.take_replicate, numL_zeros] at h1
  omega
def bodyL (L : Nat → List Int) (x t : Nat) : List Int := ((List.range t).map fun i => L (x + 1 + i)).flatten
theorem bodyL_succ {L : Nat → List Int} {x t : Nat} : bodyL L x (t + 1) = bodyL L x t ++ L (x + 1 + t) := by simp [bodyL, List.range_succ]
theorem bodyL_length {L : Nat → List Int} {x sz : Nat} : ∀ {t : Nat}, (∀ i, i < t → (L (x + 1 + i)).length = sz) → (bodyL L x t).length = t * sz
  | 0, _ => by simp [bodyL]
  | t + 1, h => by rw [bodyL_succ, List.length_append, bodyL_length (t := t) fun i hi => h i (by omega), h t (by omega), Nat.succ_mul]
theorem bodyL_take {L : Nat → List Int} {x sz : Nat} (hz : 0 < sz) {b : List Int} (hc : ∀ i, i < nch sz b.length → L (x + 1 + i) = chunk sz b i) : ∀ {t : Nat}, (∀ i, i < t → (L (x + 1 + i)).length = sz) → (bodyL L x t).take b.length = b.take (t * sz)
  | 0, _ => by simp [bodyL]
  | t + 1, h => by
    have hl := bodyL_length (L := L) (x := x) (sz := sz) (t := t) fun i hi => h i (by omega)
    have ih := bodyL_take (t := t) hz hc fun i hi => h i (by omega)
    rw [bodyL_succ, List.take_append, hl, ih, Nat.succ_mul, List.take_add]
    congr 1
    by_cases ht : t < nch sz b.length
    · have hlt := (nch_le hz).1 ht
      rw [Nat.mul_comm] at hlt
      rw [hc t ht, chunk, pad, Nat.mul_comm sz t]
      have hl2 : ((b.drop (t * sz)).take sz).length = min sz (b.length - t * sz) := by rw [List.length_take, List.length_drop]
      by_cases hs : sz ≤ b.length - t * sz
      · rw [show sz - ((b.drop (t * sz)).take sz).length = 0 by omega]
        simp only [List.replicate_zero, List.append_nil]
        rw [List.take_of_length_le (by omega)]
      · rw [List.take_append_of_le_length (by omega), List.take_of_length_le (by omega)]
    · have hge : ¬ sz * t < b.length := fun hh => ht ((nch_le hz).2 hh)
      rw [Nat.mul_comm] at hge
      rw [show b.length - t * sz = 0 by omega, List.take_zero, List.drop_of_length_le (by omega), List.take_nil]
theorem hdr_head {sz g : Nat} {b : List Int} (hg : g < 2 ^ 64) : numL ((hdrP sz b g).take 8) = g := by
  unfold hdrP pad headP
  rw [List.append_assoc, List.append_assoc, List.take_append_of_le_length (by rw [beL_length]; omega), List.take_of_length_le (by rw [beL_length]; omega), numL_beL]
  exact Nat.mod_eq_of_lt hg
theorem hdr_len {sz g : Nat} {b : List Int} (hb : b.length < 2 ^ 32) : numL (((hdrP sz b g).drop 8).take 4) = b.length := by
  unfold hdrP pad headP
  rw [List.append_assoc, List.append_assoc, List.drop_left' (by rw [beL_length]), List.take_append_of_le_length (by rw [beL_length]; omega), List.take_of_length_le (by rw [beL_length]; omega), numL_beL]
  exact Nat.mod_eq_of_lt hb
theorem slotP_hdr {L : Nat → List Int} {x n sz g : Nat} {b : List Int} (hz : 44 ≤ sz) (hn : 1 ≤ n) (hh : L x = hdrP sz b g) (hc : ∀ i, i < nch sz b.length → L (x + 1 + i) = chunk sz b i) (hl : ∀ i, i < n - 1 → (L (x + 1 + i)).length = sz) (hb : b.length ≤ (n - 1) * sz) (hb2 : b.length < 2 ^ 32) (hg : 1 ≤ g ∧ g ≤ 4611686018427387904) :
    slotP (slotSL L x n) = some (b, g) := by
  rw [slotSL_cons hn]
  have hbl := bodyL_length hl
  have htk := bodyL_take (by omega) hc hl
  rw [List.take_of_length_le (i := (n - 1) * sz) hb] at htk
  unfold slotP
  dsimp only [List.headD_cons, List.tail_cons]
  rw [hh, hdr_head (by omega), hdr_len hb2]
  have e : ((List.range (n - 1)).map fun i => L (x + 1 + i)).flatten = bodyL L x (n - 1) := rfl
  rw [e, htk, if_pos ⟨hg.1, hg.2, by omega, by rw [hdrP_length (by omega)]⟩]
theorem newest_kill {a b : Option (List Int × Nat)} (ha : ∀ x, a = some x → 1 ≤ x.2) (hb : ∀ x, b = some x → 1 ≤ x.2) :
    (if 0 < (newestP a b).2.2 ∧ (newestP a b).1 = 0 then newestP a none else newestP none b) = newestP a b := by
  cases a with
  | none =>
    cases b with
    | none => rfl
    | some y => simp [newestP]
  | some x =>
    have := ha x rfl
    cases b with
    | none =>
      have e : newestP (some x) none = (0, x) := rfl
      rw [e, if_pos ⟨by show 0 < x.2; omega, rfl⟩]
    | some y =>
      have := hb y rfl
      simp only [newestP]
      by_cases h : x.2 < y.2
      · simp only [h, if_true]
        simp
      · simp only [h, if_false]
        rw [if_pos ⟨by omega, trivial⟩]
theorem newest_new {a b : Option (List Int × Nat)} {z : List Int} (ha : ∀ x, a = some x → 1 ≤ x.2) (hb : ∀ x, b = some x → 1 ≤ x.2) :
    (if 0 < (newestP a b).2.2 ∧ (newestP a b).1 = 0 then newestP a (some (z, (newestP a b).2.2 + 1)) else newestP (some (z, (newestP a b).2.2 + 1)) b) = (if 0 < (newestP a b).2.2 ∧ (newestP a b).1 = 0 then 1 else 0, z, (newestP a b).2.2 + 1) := by
  cases a with
  | none =>
    cases b with
    | none => rfl
    | some y =>
      have := hb y rfl
      simp [newestP]
      exact if_neg (by show ¬ y.2 + 1 < y.2; omega)
  | some x =>
    have := ha x rfl
    cases b with
    | none =>
      have e : newestP (some x) none = (0, x) := rfl
      rw [e, if_pos ⟨by show 0 < x.2; omega, rfl⟩, if_pos ⟨by show 0 < x.2; omega, rfl⟩]
      simp [newestP]
    | some y =>
      have := hb y rfl
      simp only [newestP]
      by_cases h : x.2 < y.2
      · simp only [h, if_true]
        simp
      · simp only [h, if_false]
        have hx : 0 < x.2 := by omega
        simp [hx]
theorem pos_of {ss : List (List Int)} : ∀ x, slotP ss = some x → 1 ≤ x.2 := fun _ h => (slotP_pos h).1
/-- The target's header is gone: the opening finds what it found. -/
theorem openL_kill {L0 L : Nat → List Int} {first n z : Nat} (hn : 1 ≤ n) {A : Nat} (hA : A = first + (openL L0 first n).target * n) (h1 : ∀ a, first ≤ a → a < first + 2 * n → (a < A ∨ A + n ≤ a) → L a = L0 a) (h2 : L A = List.replicate z 0) :
    openL L first n = openL L0 first n := by
  have hk := newest_kill (a := slotP (slotSL L0 first n)) (b := slotP (slotSL L0 (first + n) n)) pos_of pos_of
  have hT : (openL L0 first n).target = if 0 < (newestP (slotP (slotSL L0 first n)) (slotP (slotSL L0 (first + n) n))).2.2 ∧ (newestP (slotP (slotSL L0 first n)) (slotP (slotSL L0 (first + n) n))).1 = 0 then 1 else 0 := rfl
  rw [hT] at hA
  unfold openL
  by_cases hc : 0 < (newestP (slotP (slotSL L0 first n)) (slotP (slotSL L0 (first + n) n))).2.2 ∧ (newestP (slotP (slotSL L0 first n)) (slotP (slotSL L0 (first + n) n))).1 = 0
  · rw [if_pos hc] at hk hA
    have e2 : slotP (slotSL L (first + n) n) = none := by
      rw [slotSL_cons hn]
      exact slotP_zero (z := z) (by rw [← h2, hA, Nat.one_mul])
    have e1 : slotSL L first n = slotSL L0 first n := slotSL_congr fun a q1 q2 => h1 a q1 (by omega) (.inl (by omega))
    rw [e1, e2, hk]
  · rw [if_neg hc] at hk hA
    have e2 : slotP (slotSL L first n) = none := by
      rw [slotSL_cons hn]
      exact slotP_zero (z := z) (by rw [← h2, hA, Nat.zero_mul, Nat.add_zero])
    have e1 : slotSL L (first + n) n = slotSL L0 (first + n) n := slotSL_congr fun a q1 q2 => h1 a (by omega) (by omega) (.inr (by omega))
    rw [e1, e2, hk]
theorem openL_new {L0 L : Nat → List Int} {first n sz : Nat} (hz : 44 ≤ sz) (hn : 1 ≤ n) {b : List Int} {A : Nat} (hA : A = first + (openL L0 first n).target * n) (h1 : ∀ a, first ≤ a → a < first + 2 * n → (a < A ∨ A + n ≤ a) → L a = L0 a)
    (hh : L A = hdrP sz b ((openL L0 first n).gen + 1)) (hc : ∀ i, i < nch sz b.length → L (A + 1 + i) = chunk sz b i) (hl : ∀ i, i < n - 1 → (L (A + 1 + i)).length = sz) (hb : b.length ≤ (n - 1) * sz) (hb2 : b.length < 2 ^ 32) (hg : (openL L0 first n).gen < 4611686018427387904) :
    openL L first n = { openL L0 first n with slot := (openL L0 first n).target, newest := b, gen := (openL L0 first n).gen + 1 } := by
  have hk := newest_new (z := b) (a := slotP (slotSL L0 first n)) (b := slotP (slotSL L0 (first + n) n)) pos_of pos_of
  have hs := slotP_hdr hz hn hh hc hl hb hb2 ⟨by omega, by omega⟩
  have hT : (openL L0 first n).target = if 0 < (newestP (slotP (slotSL L0 first n)) (slotP (slotSL L0 (first + n) n))).2.2 ∧ (newestP (slotP (slotSL L0 first n)) (slotP (slotSL L0 (first + n) n))).1 = 0 then 1 else 0 := rfl
  have hG : (openL L0 first n).gen = (newestP (slotP (slotSL L0 first n)) (slotP (slotSL L0 (first + n) n))).2.2 := rfl
  rw [hT] at hA ⊢
  rw [hG] at hs
  show (⟨first, n, _, _, _, false⟩ : CS) = ⟨first, n, _, _, _, false⟩
  rw [hG]
  by_cases hc : 0 < (newestP (slotP (slotSL L0 first n)) (slotP (slotSL L0 (first + n) n))).2.2 ∧ (newestP (slotP (slotSL L0 first n)) (slotP (slotSL L0 (first + n) n))).1 = 0
  · rw [if_pos hc, if_pos hc] at hk
    rw [if_pos hc] at hA ⊢
    have e1 : slotSL L first n = slotSL L0 first n := slotSL_congr fun a q1 q2 => h1 a q1 (by omega) (.inl (by omega))
    rw [hA, Nat.one_mul] at hs
    rw [e1, hs, hk]
  · rw [if_neg hc, if_neg hc] at hk
    rw [if_neg hc] at hA ⊢
    have e1 : slotSL L (first + n) n = slotSL L0 (first + n) n := slotSL_congr fun a q1 q2 => h1 a (by omega) (by omega) (.inr (by omega))
    rw [hA, Nat.zero_mul, Nat.add_zero] at hs
    rw [e1, hs, hk]
end Go.Proofs.YtkceoefmhppddaaDoor.Fd
