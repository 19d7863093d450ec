/-
  Plain facts of the encoding of numbers and of lists of byte strings.
-/
import Derived.Test.YtlnladcfgieggaaFdD
namespace Go.Proofs.Ytlnladcfgieggaa.Fd
set_option linter.unusedSimpArgs false
set_option linter.unusedVariables false
open Go
set_option maxRecDepth 100000

/-- Bytes are in range. -/
def Rng (l : List Int) : Prop := ∀ x, x ∈ l → 0 ≤ x ∧ x < 256
theorem Rng.append {l m : List Int} (h1 : Rng l) (h2 : Rng m) : Rng (l ++ m) := by
  intro x hx
  rcases List.mem_append.1 hx with h | h
  · exact h1 x h
  · exact h2 x h
theorem Rng.left {l m : List Int} (h : Rng (l ++ m)) : Rng l := fun x hx => h x (List.mem_append.2 (.inl hx))
theorem Rng.take {l : List Int} (h : Rng l) (n : Nat) : Rng (l.take n) := fun x hx => h x (List.mem_of_mem_take hx)
theorem Rng.drop {l : List Int} (h : Rng l) (n : Nat) : Rng (l.drop n) := fun x hx => h x (List.mem_of_mem_drop hx)
theorem Rng.zeros {n : Nat} : Rng (List.replicate n 0) := fun x hx => by rw [List.eq_of_mem_replicate hx]; omega
/-- A number, seven bits a byte, the lowest first. -/
def encU (n : Nat) : List Int := if n < 128 then [(n : Int)] else ((n % 128 + 128 : Nat) : Int) :: encU (n / 128)
termination_by n
decreasing_by omega
theorem encU_small {n : Nat} (h : n < 128) : encU n = [(n : Int)] := by rw [encU, if_pos h]
theorem encU_big {n : Nat} (h : ¬ n < 128) : encU n = ((n % 128 + 128 : Nat) : Int) :: encU (n / 128) := by rw [encU, if_neg h]
theorem encU_pos (n : Nat) : 0 < (encU n).length := by
  by_cases h : n < 128
  · rw [encU_small h]; simp
  · rw [encU_big h]; simp
theorem encU_rng (n : Nat) : Rng (encU n) := by
  induction n using Nat.strongRecOn with
  | _ n ih =>
    by_cases h : n < 128
    · rw [encU_small h]
      intro x hx
      simp at hx
      omega
    · rw [encU_big h]
      intro x hx
      rcases List.mem_cons.1 hx with rfl | hx
      · omega
      · exact ih (n / 128) (by omega) x hx
theorem encU_len : ∀ {k n : Nat}, n < 128 ^ (k + 1) → (encU n).length ≤ k + 1 := by
  intro k
  induction k with
  | zero => intro n h; rw [encU_small (by simpa using h)]; simp
  | succ k ih =>
    intro n h
    by_cases h1 : n < 128
    · rw [encU_small h1]; simp
    · rw [encU_big h1]
      have := ih (n := n / 128) (by rw [Nat.pow_succ] at h; exact Nat.div_lt_of_lt_mul (by omega))
      simp
      omega
theorem encU_len10 {n : Nat} (h : n < 2 ^ 64) : (encU n).length ≤ 10 := encU_len (k := 9) (by omega)
theorem encU_inj_len {n m : Nat} (h : n ≤ m) : (encU n).length ≤ (encU m).length := by
  induction m using Nat.strongRecOn generalizing n with
  | _ m ih =>
    by_cases h1 : n < 128
    · rw [encU_small h1]
      exact encU_pos m
    · rw [encU_big h1, encU_big (by omega : ¬ m < 128)]
      have := ih (m / 128) (by omega) (n := n / 128) (by omega)
      simpa using this
/-- The number at an offset, and the offset behind it: i bytes have been read, k may follow. -/
def numF (d : List Int) (at_ : Nat) : Nat → Nat → Nat → Option (Nat × Nat)
  | 0, _, _ => none
  | k + 1, i, n =>
    match d[at_ + i]? with
    | none => none
    | some b => if i = 9 ∧ 1 < b then none else if b < 128 then (if b = 0 ∧ 0 < i then none else some (n + b.toNat % 128 * 2 ^ (7 * i), at_ + i + 1)) else numF d at_ k (i + 1) (n + b.toNat % 128 * 2 ^ (7 * i))
def num (d : List Int) (at_ : Nat) : Option (Nat × Nat) := numF d at_ 10 0 0
theorem numF_next {d : List Int} {at_ : Nat} : ∀ {k i n m next : Nat}, numF d at_ k i n = some (m, next) → at_ < next ∧ next ≤ d.length ∧ next ≤ at_ + i + k := by
  intro k
  induction k with
  | zero => intro i n m next h; cases h
  | succ k ih =>
    intro i n m next h
    rw [numF] at h
    cases hb : d[at_ + i]? with
    | none => rw [hb] at h; cases h
    | some b =>
      rw [hb] at h
      have hl := (List.getElem?_eq_some_iff.1 hb).1
      dsimp only at h
      split at h
      · cases h
      · split at h
        · split at h
          · cases h
          · cases h
            omega
        · have := ih h
          omega
theorem num_next {d : List Int} {at_ m next : Nat} (h : num d at_ = some (m, next)) : at_ < next ∧ next ≤ d.length := by
  have := numF_next h
  omega
theorem numF_lt {d : List Int} {at_ : Nat} : ∀ {k i n m next : Nat}, i + k = 10 → n < 2 ^ (7 * i) → numF d at_ k i n = some (m, next) → m < 2 ^ 64 := by
  intro k
  induction k with
  | zero => intro i n m next _ _ h; cases h
  | succ k ih =>
    intro i n m next hik hn h
    rw [numF] at h
    cases hb : d[at_ + i]? with
    | none => rw [hb] at h; cases h
    | some b =>
      rw [hb] at h
      dsimp only at h
      split at h
      · cases h
      · rename_i h9
        have hlt : n + b.toNat % 128 * 2 ^ (7 * i) < 2 ^ (7 * (i + 1)) := by
          have h1 : b.toNat % 128 * 2 ^ (7 * i) ≤ 127 * 2 ^ (7 * i) := Nat.mul_le_mul_right _ (by omega)
          rw [show 7 * (i + 1) = 7 * i + 7 from by omega, Nat.pow_add]
          omega
        split at h
        · split at h
          · cases h
          · cases h
            by_cases e : i = 9
            · subst e
              have h2 : b.toNat % 128 ≤ 1 := by omega
              have h3 : b.toNat % 128 * 2 ^ (7 * 9) ≤ 1 * 2 ^ (7 * 9) := Nat.mul_le_mul_right _ h2
              have h4 : (2 : Nat) ^ (7 * 9) + 2 ^ (7 * 9) = 2 ^ 64 := by decide
              omega
            · exact Nat.lt_of_lt_of_le hlt (Nat.pow_le_pow_right (by omega) (by omega))
        · exact ih (by omega) hlt h
theorem num_lt {d : List Int} {at_ m next : Nat} (h : num d at_ = some (m, next)) : m < 2 ^ 64 := numF_lt (by omega) (by decide) h
/-- What was encoded is read. -/
theorem numF_enc {d : List Int} {at_ : Nat} : ∀ {k i m n : Nat}, i + k = 10 → n < 2 ^ (64 - 7 * i) → (0 < i → 0 < n) → (∀ j, j < (encU n).length → d[at_ + i + j]? = (encU n)[j]?) → numF d at_ k i m = some (m + n * 2 ^ (7 * i), at_ + i + (encU n).length) := by
  intro k
  induction k with
  | zero =>
    intro i m n hik hn h0 _
    have : i = 10 := by omega
    subst this
    simp at hn
    have := h0 (by omega)
    omega
  | succ k ih =>
    intro i m n hik hn h0 hd
    have hd0 := hd 0 (encU_pos n)
    rw [Nat.add_zero] at hd0
    have hi9 : i ≤ 9 := by omega
    rw [numF, hd0]
    by_cases hs : n < 128
    · rw [encU_small hs]
      simp only [List.getElem?_cons_zero, List.length_singleton]
      rw [if_neg (by rintro ⟨rfl, h⟩; simp at hn; omega), if_pos (by omega), if_neg (by rintro ⟨h1, h2⟩; have := h0 h2; omega)]
      rw [show ((n : Int).toNat % 128) = n from by omega]
    · have h9 : ¬ i = 9 := by
        rintro rfl
        simp at hn
        omega
      rw [encU_big hs] at hd ⊢
      simp only [List.getElem?_cons_zero, List.length_cons]
      rw [if_neg (by rintro ⟨h, _⟩; exact h9 h), if_neg (by omega)]
      rw [ih (i := i + 1) (n := n / 128) (by omega) ?_ (fun _ => by omega) fun j hj => ?_]
      · have e : (((n % 128 + 128 : Nat) : Int).toNat % 128) = n % 128 := by omega
        rw [e]
        congr 2
        · have h2 : 2 ^ (7 * (i + 1)) = 2 ^ (7 * i) * 128 := by rw [show 7 * (i + 1) = 7 * i + 7 from by omega, Nat.pow_add]
          rw [h2]
          have h3 : n = n / 128 * 128 + n % 128 := by omega
          have h4 : n * 2 ^ (7 * i) = n / 128 * (2 ^ (7 * i) * 128) + n % 128 * 2 ^ (7 * i) := by
            conv => lhs; rw [h3]
            rw [Nat.add_mul, Nat.mul_assoc, Nat.mul_comm 128]
          omega
        · omega
      · have h1 : (2 : Nat) ^ (64 - 7 * i) = 2 ^ (64 - 7 * (i + 1)) * 128 := by
          rw [show 64 - 7 * i = (64 - 7 * (i + 1)) + 7 from by omega, Nat.pow_add]
        rw [h1] at hn
        exact Nat.div_lt_of_lt_mul (by omega)
      · have := hd (j + 1) (by simp; omega)
        rw [List.getElem?_cons_succ] at this
        rw [← this]
        congr 1
        omega
theorem num_enc {d : List Int} {at_ n : Nat} (hn : n < 2 ^ 64) (hd : ∀ j, j < (encU n).length → d[at_ + j]? = (encU n)[j]?) : num d at_ = some (n, at_ + (encU n).length) := by
  have := numF_enc (d := d) (at_ := at_) (k := 10) (i := 0) (m := 0) (n := n) rfl (by simpa using hn) (fun h => by omega) (by simpa using hd)
  simpa [num] using this
/-- A byte string with its length before it; a list of them. -/
def encB (b : List Int) : List Int := encU b.length ++ b
def stream (l : List (List Int)) : List Int := l.flatMap encB
theorem stream_nil : stream [] = [] := rfl
theorem stream_append {l m : List (List Int)} : stream (l ++ m) = stream l ++ stream m := by simp [stream]
theorem stream_cons {b : List Int} {l : List (List Int)} : stream (b :: l) = encB b ++ stream l := by simp [stream]
/-- The byte string at an offset, and the offset behind it. -/
def byt_ (d : List Int) (at_ : Nat) : Option (List Int × Nat) :=
  match num d at_ with
  | none => none
  | some (n, next) => if d.length - next < n then none else some ((d.drop next).take n, next + n)
theorem byt_next {d b : List Int} {at_ next : Nat} (h : byt_ d at_ = some (b, next)) : at_ < next ∧ next ≤ d.length ∧ at_ + b.length < next := by
  unfold byt_ at h
  cases hn : num d at_ with
  | none => rw [hn] at h; cases h
  | some x =>
    obtain ⟨n, nx⟩ := x
    rw [hn] at h
    dsimp only at h
    have := num_next hn
    split at h
    · cases h
    · cases h
      simp
      omega
theorem byt_enc {d b : List Int} {at_ : Nat} (hb : b.length < 2 ^ 64) (hd : ∀ j, j < (encB b).length → d[at_ + j]? = (encB b)[j]?) : byt_ d at_ = some (b, at_ + (encB b).length) := by
  have hlen : (encB b).length = (encU b.length).length + b.length := by simp [encB]
  have h1 := num_enc (d := d) (at_ := at_) hb fun j hj => by
    rw [hd j (by omega), encB, List.getElem?_append_left hj]
  unfold byt_
  rw [h1]
  dsimp only
  have hp := encU_pos b.length
  have hle : at_ + (encB b).length ≤ d.length := by
    have := hd ((encB b).length - 1) (by omega)
    rw [List.getElem?_eq_getElem (by omega : (encB b).length - 1 < (encB b).length)] at this
    have := (List.getElem?_eq_some_iff.1 this).1
    omega
  rw [if_neg (by omega)]
  congr 2
  · apply List.ext_getElem?
    intro j
    by_cases hj : j < b.length
    · rw [List.getElem?_take_of_lt hj, List.getElem?_drop]
      have := hd ((encU b.length).length + j) (by omega)
      rw [encB, List.getElem?_append_right (by omega), Nat.add_sub_cancel_left] at this
      rw [← this]
      congr 1
      omega
    · rw [List.getElem?_eq_none (by rw [List.length_take]; omega), List.getElem?_eq_none (by omega)]
  · omega
/-- The list of a stream. -/
def splF (d : List Int) : Nat → Nat → Option (List (List Int))
  | 0, at_ => if at_ < d.length then none else some []
  | k + 1, at_ => if at_ < d.length then (match byt_ d at_ with | none => none | some (b, next) => (splF d k next).map (b :: ·)) else some []
def spl (d : List Int) : Option (List (List Int)) := splF d d.length 0
theorem splF_end {d : List Int} {k at_ : Nat} (h : ¬ at_ < d.length) : splF d k at_ = some [] := by
  cases k
  · rw [splF, if_neg h]
  · rw [splF, if_neg h]
theorem splF_more {d : List Int} {k at_ : Nat} (h : at_ < d.length) (hk : d.length ≤ at_ + k) : ∃ k', k = k' + 1 ∧ splF d k at_ = match byt_ d at_ with | none => none | some (b, next) => (splF d k' next).map (b :: ·) := by
  obtain ⟨k', rfl⟩ : ∃ k', k = k' + 1 := ⟨k - 1, by omega⟩
  exact ⟨k', rfl, by rw [splF, if_pos h]⟩
theorem splF_stream {d : List Int} : ∀ {l : List (List Int)} {k at_ : Nat}, d.length ≤ at_ + k → d.length = at_ + (stream l).length → (∀ b, b ∈ l → b.length < 2 ^ 64) → (∀ j, j < (stream l).length → d[at_ + j]? = (stream l)[j]?) → splF d k at_ = some l
  | [], k, at_, _, h1, _, _ => splF_end (by rw [stream_nil] at h1; simp at h1; omega)
  | b :: l, k, at_, hk, h1, h2, h3 => by
    have hbp : 0 < (encB b).length := by have := encU_pos b.length; simp [encB]; omega
    rw [stream_cons] at h1 h3
    rw [List.length_append] at h1 h3
    obtain ⟨k', rfl, h⟩ := splF_more (d := d) (k := k) (at_ := at_) (by omega) hk
    rw [h, byt_enc (h2 b List.mem_cons_self) fun j hj => by rw [h3 j (by omega), List.getElem?_append_left hj]]
    dsimp only
    rw [splF_stream (l := l) (by omega) (by omega) (fun x hx => h2 x (List.mem_cons_of_mem _ hx)) fun j hj => ?_]
    · rfl
    · have := h3 ((encB b).length + j) (by omega)
      rw [List.getElem?_append_right (by omega), Nat.add_sub_cancel_left] at this
      rw [← this]
      congr 1
      omega
theorem spl_stream {l : List (List Int)} (h : ∀ b, b ∈ l → b.length < 2 ^ 64) : spl (stream l) = some l :=
  splF_stream (by omega) (by omega) h fun j _ => by rw [Nat.zero_add]
/-- The bytes of the title. -/
def titleL : List Int := [106, 111, 117, 114, 110, 97, 108]
def headL (n : Nat) : List Int := encB titleL ++ encU n
def zer0 (l : List Int) : Bool := l.all (· == 0)
/-- What a head states. -/
def headD (l : List Int) : Option Nat :=
  if zer0 l then some 0 else
  match byt_ l 0 with
  | none => none
  | some (s, a) =>
    match num l a with
    | none => none
    | some (n, b) => if s = titleL ∧ n ≤ 1099511627776 ∧ zer0 (l.drop b) then some n else none
def pad (s : Nat) (l : List Int) : List Int := l ++ List.replicate (s - l.length) 0
theorem pad_length {s : Nat} {l : List Int} (h : l.length ≤ s) : (pad s l).length = s := by simp [pad]; omega
theorem zer0_rep {n : Nat} : zer0 (List.replicate n 0) = true := by
  unfold zer0
  rw [List.all_eq_true]
  intro x hx
  rw [List.eq_of_mem_replicate hx]
  rfl
theorem headD_zero {s : Nat} : headD (List.replicate s 0) = some 0 := by
  unfold headD
  rw [if_pos zer0_rep]
theorem encB_title : encB titleL = [7, 106, 111, 117, 114, 110, 97, 108] := by
  rw [encB, encU_small (by decide)]; rfl
theorem headL_length {n : Nat} : (headL n).length = 8 + (encU n).length := by rw [headL, List.length_append, encB_title]; rfl
theorem headD_head {s n : Nat} (hn : n ≤ 1099511627776) (hs : (headL n).length ≤ s) : headD (pad s (headL n)) = some n := by
  have hl := headL_length (n := n)
  have h1 : byt_ (pad s (headL n)) 0 = some (titleL, 8) := by
    have := byt_enc (d := pad s (headL n)) (b := titleL) (at_ := 0) (by decide) fun j hj => by
      rw [encB_title] at hj
      have hj : j < 8 := hj
      rw [pad, Nat.zero_add, List.getElem?_append_left (by omega), headL, List.getElem?_append_left (by rw [encB_title]; exact hj)]
    rw [this, encB_title]
    rfl
  have h2 : num (pad s (headL n)) 8 = some (n, 8 + (encU n).length) := by
    refine num_enc (by omega) fun j hj => ?_
    rw [pad, List.getElem?_append_left (by omega), headL, List.getElem?_append_right (by rw [encB_title]; simp), encB_title]
    congr 1
    simp
  unfold headD
  rw [if_neg, h1]
  · dsimp only
    rw [h2]
    dsimp only
    rw [if_pos]
    refine ⟨_root_.id rfl, hn, ?_⟩
    have : (pad s (headL n)).drop (8 + (encU n).length) = List.replicate (s - (headL n).length) 0 := by
      rw [← hl, pad, List.drop_left]
    rw [this]
    exact zer0_rep
  · intro h
    unfold zer0 at h
    rw [List.all_eq_true] at h
    have := h 7 (by rw [pad, headL, encB_title]; simp)
    simp at this
end Go.Proofs.Ytlnladcfgieggaa.Fd
