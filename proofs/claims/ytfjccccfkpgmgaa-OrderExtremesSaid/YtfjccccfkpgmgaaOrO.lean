/-
  math/bits.OnesCount64, width, whole.
-/
import Derived.Test.YtfjccccfkpgmgaaOrN
import Derived.Test.YtfjccccfkpgmgaaFdH
namespace Go.Proofs.Ytfjccccfkpgmgaa.Fd
set_option linter.unusedSimpArgs false
set_option linter.unusedVariables false
open Go
set_option maxRecDepth 100000

theorem whole_ok {w : World} {n : Nat} (hn : n ≤ 64) : Ok (den Try.prog 43 #[.int .i64 n] w) fun u w' => w' = w ∧ ∃ s : BitVec 64, u = U s ∧ ∀ x, s.getLsbD x = decide (x < n) := by
  refine den_ok (args := [.int .i64 n]) rs43 Try.func43 rfl mixed in43 ok43 rfl ?_
  by_cases h : n = 64
  · subst h
    simp (disch := omega) only [push_cast, Nat.reduceBEq, Nat.reduceEqDiff, Nat.reduceAdd, Nat.reduceMul, Nat.reduceSub, Nat.reduceLT, Int.reduceToNat, Int.reduceLT, Int.reduceLE, Int.reduceEq, Int.reduceAdd, Int.reduceSub, Int.reduceNeg, Int.reduceMul]
    refine ⟨BitVec.allOnes 64, rfl, fun x => ?_⟩
    rw [BitVec.getLsbD_allOnes]
  · have h1 : ¬ (n : Int) = 64 := by omega
    simp (disch := omega) only [push_cast, Nat.reduceBEq, Nat.reduceEqDiff, Nat.reduceAdd, Nat.reduceMul, Nat.reduceSub, Nat.reduceLT, Int.reduceToNat, Int.reduceLT, Int.reduceLE, Int.reduceEq, Int.reduceAdd, Int.reduceSub, Int.reduceNeg, Int.reduceMul, h1]
    have h2 : 2 ^ n < 18446744073709551616 := Nat.pow_lt_pow_right (a := 2) (m := n) (n := 64) (by decide) (by omega)
    have h3 : 0 < 2 ^ n := Nat.two_pow_pos n
    refine ⟨BitVec.ofNat 64 (2 ^ n - 1), ?_, fun x => ?_⟩
    · congr 1
      rw [BitVec.toNat_twoPow_of_lt (by omega), BitVec.toNat_ofNat]
      show ((2 ^ n : Nat) - 1 : Int) % 18446744073709551616 = _
      generalize 2 ^ n = y at *
      omega
    · rw [BitVec.getLsbD_ofNat, Nat.testBit_two_pow_sub_one]
      by_cases hx : x < n
      · simp [hx]; omega
      · simp [hx]
def num (B : Nat) : List Nat → Nat
  | [] => 0
  | d :: l => d + B * num B l
def ps : List Nat → List Nat
  | a :: b :: l => (a + b) :: ps l
  | l => l
def msk (s : Nat) : Nat → Nat
  | 0 => 0
  | k + 1 => (2 ^ s - 1) + 2 ^ (2 * s) * msk s k
theorem and_digit {k a m A M : Nat} (ha : a < 2 ^ k) (hm : m < 2 ^ k) : (a + 2 ^ k * A) &&& (m + 2 ^ k * M) = (a &&& m) + 2 ^ k * (A &&& M) := by
  apply Nat.eq_of_testBit_eq
  intro i
  have h3 : (a &&& m) < 2 ^ k := Nat.lt_of_le_of_lt Nat.and_le_left ha
  rw [Nat.testBit_and, Nat.add_comm a, Nat.add_comm m, Nat.add_comm (a &&& m), Nat.testBit_two_pow_mul_add _ ha, Nat.testBit_two_pow_mul_add _ hm, Nat.testBit_two_pow_mul_add _ h3]
  by_cases h : i < k
  · rw [if_pos h, if_pos h, if_pos h, Nat.testBit_and]
  · rw [if_neg h, if_neg h, if_neg h, Nat.testBit_and]
theorem low_digit {s a b : Nat} (ha : a < 2 ^ s) (hb : b < 2 ^ s) : a + 2 ^ s * b < 2 ^ (2 * s) ∧ (a + 2 ^ s * b) &&& (2 ^ s - 1) = a := by
  constructor
  · have h1 : 2 ^ s * b + 2 ^ s ≤ 2 ^ s * 2 ^ s := by
      rw [← Nat.mul_succ]
      exact Nat.mul_le_mul_left _ hb
    have h2 : 2 ^ (2 * s) = 2 ^ s * 2 ^ s := by rw [Nat.two_mul, Nat.pow_add]
    omega
  · rw [Nat.and_two_pow_sub_one_eq_mod, Nat.add_mul_mod_self_left, Nat.mod_eq_of_lt ha]
theorem num_two {s a b : Nat} {l : List Nat} : num (2 ^ s) (a :: b :: l) = (a + 2 ^ s * b) + 2 ^ (2 * s) * num (2 ^ s) l := by
  simp only [num]
  rw [Nat.two_mul, Nat.pow_add, Nat.mul_add, Nat.mul_assoc]
  omega
theorem num_sh {s a b : Nat} {l : List Nat} (ha : a < 2 ^ s) : num (2 ^ s) (a :: b :: l) / 2 ^ s = (b + 2 ^ s * (num (2 ^ s) l % 2 ^ s)) + 2 ^ (2 * s) * (num (2 ^ s) l / 2 ^ s) := by
  simp only [num]
  rw [Nat.add_mul_div_left _ _ (Nat.two_pow_pos s), Nat.div_eq_of_lt ha, Nat.two_mul, Nat.pow_add, Nat.mul_assoc, Nat.zero_add]
  have h := Nat.mod_add_div (num (2 ^ s) l) (2 ^ s)
  have h2 : 2 ^ s * num (2 ^ s) l = 2 ^ s * (num (2 ^ s) l % 2 ^ s) + 2 ^ s * (2 ^ s * (num (2 ^ s) l / 2 ^ s)) := by rw [← Nat.mul_add, h]
  omega
theorem pop_step {s : Nat} : ∀ (k : Nat) (l : List Nat), l.length = 2 * k → (∀ d ∈ l, d < 2 ^ s) → (num (2 ^ s) l / 2 ^ s &&& msk s k) + (num (2 ^ s) l &&& msk s k) = num (2 ^ (2 * s)) (ps l)
  | 0, [], _, _ => by simp [num, ps, msk]
  | k + 1, [], h, _ => by simp at h
  | k + 1, [_], h, _ => by simp at h; omega
  | k + 1, a :: b :: l, h, hd => by
    have ha := hd a (by simp)
    have hb := hd b (by simp)
    have ih := pop_step k l (by simp at h; omega) fun d h => hd d (by simp [h])
    have hs := Nat.two_pow_pos s
    have hc : num (2 ^ s) l % 2 ^ s < 2 ^ s := Nat.mod_lt _ hs
    have hm : 2 ^ s - 1 < 2 ^ (2 * s) := by
      have : 2 ^ s ≤ 2 ^ (2 * s) := Nat.pow_le_pow_right (by decide) (by omega)
      omega
    obtain ⟨h1, h2⟩ := low_digit ha hb
    obtain ⟨h3, h4⟩ := low_digit hb hc
    rw [num_sh ha, num_two]
    simp only [msk]
    rw [and_digit h3 hm, and_digit h1 hm, h2, h4]
    simp only [ps, num]
    rw [← ih, Nat.mul_add]
    omega
theorem pop_last : ∀ (k : Nat) (l : List Nat), l.length = 2 * k → (∀ d ∈ l, d ≤ 4) → ((num (2 ^ 4) l / 2 ^ 4 + num (2 ^ 4) l) &&& msk 4 k) = num (2 ^ (2 * 4)) (ps l)
  | 0, [], _, _ => by simp [num, ps, msk]
  | k + 1, [], h, _ => by simp at h
  | k + 1, [_], h, _ => by simp at h; omega
  | k + 1, a :: b :: l, h, hd => by
    have ha := hd a (by simp)
    have hb := hd b (by simp)
    have ih := pop_last k l (by simp at h; omega) fun d h => hd d (by simp [h])
    have hc : num (2 ^ 4) l % 2 ^ 4 ≤ 4 := by
      cases l with
      | nil => simp [num]
      | cons c l =>
        have := hd c (by simp)
        simp only [num]
        rw [Nat.add_mul_mod_self_left]
        omega
    rw [num_sh (by omega), num_two]
    simp only [msk]
    have e : b + 2 ^ 4 * (num (2 ^ 4) l % 2 ^ 4) + 2 ^ (2 * 4) * (num (2 ^ 4) l / 2 ^ 4) + (a + 2 ^ 4 * b + 2 ^ (2 * 4) * num (2 ^ 4) l) = (a + b + 2 ^ 4 * (b + num (2 ^ 4) l % 2 ^ 4)) + 2 ^ (2 * 4) * (num (2 ^ 4) l / 2 ^ 4 + num (2 ^ 4) l) := by omega
    rw [e, and_digit (by omega) (by decide), Nat.and_two_pow_sub_one_eq_mod, ih, Nat.add_mul_mod_self_left, Nat.mod_eq_of_lt (by omega)]
    rfl
theorem ps_len : ∀ (k : Nat) (l : List Nat), l.length = 2 * k → (ps l).length = k ∧ (ps l).sum = l.sum ∧ ∀ c, (∀ d ∈ l, d ≤ c) → ∀ d ∈ ps l, d ≤ 2 * c
  | 0, [], _ => by simp [ps]
  | k + 1, [], h => by simp at h
  | k + 1, [_], h => by simp at h; omega
  | k + 1, a :: b :: l, h => by
    obtain ⟨h1, h2, h3⟩ := ps_len k l (by simp at h; omega)
    refine ⟨by simp [ps, h1], by simp [ps, h2]; omega, fun c hc d hd => ?_⟩
    rcases List.mem_cons.1 hd with rfl | hd
    · have := hc a (by simp)
      have := hc b (by simp)
      omega
    · exact h3 c (fun d h => hc d (by simp [h])) d hd
def bl : Nat → Nat → List Nat
  | 0, _ => []
  | k + 1, x => x % 2 :: bl k (x / 2)
theorem bl_num : ∀ (k x : Nat), x < 2 ^ k → num 2 (bl k x) = x
  | 0, x, h => by simp at h; subst h; rfl
  | k + 1, x, h => by
    rw [Nat.pow_succ] at h
    simp only [bl, num]
    rw [bl_num k (x / 2) (by omega)]
    omega
theorem bl_len : ∀ (k x : Nat), (bl k x).length = k ∧ ∀ d ∈ bl k x, d ≤ 1
  | 0, x => by simp [bl]
  | k + 1, x => by
    obtain ⟨h1, h2⟩ := bl_len k (x / 2)
    refine ⟨by simp [bl, h1], fun d hd => ?_⟩
    rcases List.mem_cons.1 hd with rfl | hd
    · omega
    · exact h2 d hd
theorem bl_sum : ∀ (k x : Nat), (bl k x).sum = ((List.range k).filter fun i => x.testBit i).length
  | 0, x => rfl
  | k + 1, x => by
    simp only [bl, List.sum_cons]
    rw [bl_sum k (x / 2), List.range_succ_eq_map, List.filter_cons, List.filter_map, Nat.testBit_zero]
    have e : ((fun i => x.testBit i) ∘ Nat.succ) = fun i => (x / 2).testBit i := by
      funext i
      exact Nat.testBit_succ x i
    rw [e]
    by_cases h : x % 2 = 1
    · simp [h]; omega
    · simp [h]; omega
theorem dv {y r B q : Nat} (hr : r < B) (h : y = r + B * q) : y / B = q := by
  rw [h, Nat.add_mul_div_left _ _ (by omega), Nat.div_eq_of_lt hr, Nat.zero_add]
theorem md {y r B q : Nat} (hr : r < B) (h : y = r + B * q) : y % B = r := by
  rw [h, Nat.add_mul_mod_self_left, Nat.mod_eq_of_lt hr]
theorem pop_tail8 {c0 c1 c2 c3 c4 c5 c6 c7 : Nat} (h0 : c0 ≤ 8) (h1 : c1 ≤ 8) (h2 : c2 ≤ 8) (h3 : c3 ≤ 8) (h4 : c4 ≤ 8) (h5 : c5 ≤ 8) (h6 : c6 ≤ 8) (h7 : c7 ≤ 8) : num 256 [c0, c1, c2, c3, c4, c5, c6, c7] < 18446744073709551616 ∧
    (∀ z1 z2 z3, z1 = num 256 [c0, c1, c2, c3, c4, c5, c6, c7] + num 256 [c0, c1, c2, c3, c4, c5, c6, c7] / 256 → z2 = z1 + z1 / 65536 → z3 = z2 + z2 / 4294967296 → z3 < 9223372036854775808 ∧ z2 < 18446744073709551616 ∧ z1 < 18446744073709551616 ∧ z3 % 128 = [c0, c1, c2, c3, c4, c5, c6, c7].sum) := by
  have hy : num 256 [c0, c1, c2, c3, c4, c5, c6, c7] = c0 + 256 * (c1 + 256 * c2 + 65536 * c3 + 16777216 * c4 + 4294967296 * c5 + 1099511627776 * c6 + 281474976710656 * c7) := by
    simp only [num]
    omega
  have hs : [c0, c1, c2, c3, c4, c5, c6, c7].sum = c0 + c1 + c2 + c3 + c4 + c5 + c6 + c7 := by
    simp only [List.sum_cons, List.sum_nil]
    omega
  rw [hs]
  generalize num 256 [c0, c1, c2, c3, c4, c5, c6, c7] = y at *
  refine ⟨by omega, fun z1 z2 z3 g1 g2 g3 => ?_⟩
  rw [dv (by clear g1 g2 g3 hy hs; omega) hy] at g1
  have hz1 : z1 = (c0 + c1 + 256 * (c1 + c2)) + 65536 * ((c2 + c3) + 256 * (c3 + c4) + 65536 * (c4 + c5) + 16777216 * (c5 + c6) + 4294967296 * (c6 + c7) + 1099511627776 * c7) := by rw [g1, hy]; clear g1 g2 g3 hy hs h0 h1 h2 h3 h4 h5 h6 h7; omega
  rw [dv (by clear g1 g2 g3 hy hs hz1; omega) hz1] at g2
  have hz2 : z2 = ((c0 + c1 + c2 + c3) + 256 * (c1 + c2 + c3 + c4) + 65536 * (c2 + c3 + c4 + c5) + 16777216 * (c3 + c4 + c5 + c6)) + 4294967296 * ((c4 + c5 + c6 + c7) + 256 * (c5 + c6 + c7) + 65536 * (c6 + c7) + 16777216 * c7) := by rw [g2, hz1]; clear g1 g2 g3 hy hs hz1 h0 h1 h2 h3 h4 h5 h6 h7; omega
  rw [dv (by clear g1 g2 g3 hy hs hz1 hz2; omega) hz2] at g3
  have hz3 : z3 = (c0 + c1 + c2 + c3 + c4 + c5 + c6 + c7) + 128 * (2 * (c1 + c2 + c3 + c4 + c5 + c6 + c7) + 512 * (c2 + c3 + c4 + c5 + c6 + c7) + 131072 * (c3 + c4 + c5 + c6 + c7) + 33554432 * (c4 + c5 + c6 + c7) + 8589934592 * (c5 + c6 + c7) + 2199023255552 * (c6 + c7) + 562949953421312 * c7) := by rw [g3, hz2]; clear g1 g2 g3 hy hs hz1 hz2 h0 h1 h2 h3 h4 h5 h6 h7; omega
  exact ⟨by rw [hz3]; clear g1 g2 g3 hy hs hz1 hz2 hz3; omega, by rw [hz2]; clear g1 g2 g3 hy hs hz1 hz2 hz3; omega, by rw [hz1]; clear g1 g2 g3 hy hs hz1 hz2 hz3; omega, md (by clear g1 g2 g3 hy hs hz1 hz2 hz3; omega) hz3⟩
theorem list8 {c : List Nat} (hl : c.length = 8) : ∃ c0 c1 c2 c3 c4 c5 c6 c7, c = [c0, c1, c2, c3, c4, c5, c6, c7] := by
  obtain ⟨c0, c, rfl⟩ := List.exists_cons_of_length_pos (by omega : 0 < c.length)
  obtain ⟨c1, c, rfl⟩ := List.exists_cons_of_length_pos (l := c) (by simp at hl; omega)
  obtain ⟨c2, c, rfl⟩ := List.exists_cons_of_length_pos (l := c) (by simp at hl; omega)
  obtain ⟨c3, c, rfl⟩ := List.exists_cons_of_length_pos (l := c) (by simp at hl; omega)
  obtain ⟨c4, c, rfl⟩ := List.exists_cons_of_length_pos (l := c) (by simp at hl; omega)
  obtain ⟨c5, c, rfl⟩ := List.exists_cons_of_length_pos (l := c) (by simp at hl; omega)
  obtain ⟨c6, c, rfl⟩ := List.exists_cons_of_length_pos (l := c) (by simp at hl; omega)
  obtain ⟨c7, c, rfl⟩ := List.exists_cons_of_length_pos (l := c) (by simp at hl; omega)
  have h0 : c.length = 0 := by simp at hl; simp [hl]
  exact ⟨c0, c1, c2, c3, c4, c5, c6, c7, by rw [List.length_eq_zero_iff.1 h0]⟩
theorem pop_tail {c : List Nat} (hl : c.length = 8) (hc : ∀ d ∈ c, d ≤ 8) : num 256 c < 18446744073709551616 ∧
    (∀ z1 z2 z3, z1 = num 256 c + num 256 c / 256 → z2 = z1 + z1 / 65536 → z3 = z2 + z2 / 4294967296 → z3 < 9223372036854775808 ∧ z2 < 18446744073709551616 ∧ z1 < 18446744073709551616 ∧ z3 % 128 = c.sum) := by
  obtain ⟨c0, c1, c2, c3, c4, c5, c6, c7, rfl⟩ := list8 hl
  exact pop_tail8 (hc c0 (by simp)) (hc c1 (by simp)) (hc c2 (by simp)) (hc c3 (by simp)) (hc c4 (by simp)) (hc c5 (by simp)) (hc c6 (by simp)) (hc c7 (by simp))
theorem w_nat {n : Nat} (h : n < 18446744073709551616) : IntKind.u64.wrap (n : Int) = (n : Int) := by
  show (n : Int) % 18446744073709551616 = _
  omega
theorem and_nat {a m : Nat} {M : Int} (hM : M = (m : Nat)) (ha : a < 18446744073709551616) (hm : m < 18446744073709551616) :
    IntKind.u64.wrap ((BitVec.ofInt IntKind.u64.bits (a : Int) &&& BitVec.ofInt IntKind.u64.bits M).toNat : Int) = ((a &&& m : Nat) : Int) := by
  subst hM
  show IntKind.u64.wrap ((BitVec.ofInt 64 (a : Int) &&& BitVec.ofInt 64 (m : Int)).toNat : Int) = _
  have e : (BitVec.ofInt 64 (a : Int) &&& BitVec.ofInt 64 (m : Int)).toNat = a &&& m := by
    rw [BitVec.toNat_and, BitVec.toNat_ofInt, BitVec.toNat_ofInt]
    congr 1 <;> omega
  rw [e]
  exact w_nat (Nat.lt_of_le_of_lt Nat.and_le_left ha)
theorem shr_nat {a k s : Nat} (hk : s = 2 ^ min k IntKind.u64.bits) : ((a : Nat) : Int).fdiv (2 ^ min k IntKind.u64.bits) = ((a / s : Nat) : Int) := by
  subst hk
  rw [Int.fdiv_eq_ediv_of_nonneg _ (by exact_mod_cast Nat.zero_le _)]
  simp
theorem pop_a {x k s m Y : Nat} {M : Int} (hk : s = 2 ^ min k IntKind.u64.bits) (hM : M = (m : Nat)) (hx : x < 18446744073709551616) (hm : m < 9223372036854775808) (h : (x / s &&& m) + (x &&& m) = Y) :
    Y < 18446744073709551616 ∧ IntKind.u64.wrap (IntKind.u64.wrap ((BitVec.ofInt IntKind.u64.bits ((x : Int).fdiv (2 ^ min k IntKind.u64.bits)) &&& BitVec.ofInt IntKind.u64.bits M).toNat : Int) + IntKind.u64.wrap ((BitVec.ofInt IntKind.u64.bits (x : Int) &&& BitVec.ofInt IntKind.u64.bits M).toNat : Int)) = (Y : Int) := by
  have h1 : (x / s &&& m) ≤ m := Nat.and_le_right
  have h2 : (x &&& m) ≤ m := Nat.and_le_right
  have h3 : x / s ≤ x := Nat.div_le_self _ _
  have h4 : Y < 18446744073709551616 := by omega
  rw [shr_nat hk, and_nat hM (by omega) (by omega), and_nat hM hx (by omega), ← Int.natCast_add, h]
  exact ⟨h4, w_nat h4⟩
theorem pop_b {y k s z : Nat} (hk : s = 2 ^ min k IntKind.u64.bits) (hz : z = y + y / s) (h : z < 18446744073709551616) :
    IntKind.u64.wrap ((y : Int) + ((y : Int).fdiv (2 ^ min k IntKind.u64.bits))) = (z : Int) := by
  rw [shr_nat hk, ← Int.natCast_add, ← hz, w_nat h]
theorem pop_c {y k s z : Nat} (hk : s = 2 ^ min k IntKind.u64.bits) (hz : y / s + y = z) (h : z < 18446744073709551616) :
    IntKind.u64.wrap (((y : Int).fdiv (2 ^ min k IntKind.u64.bits)) + (y : Int)) = (z : Int) := by
  rw [shr_nat hk, ← Int.natCast_add, hz, w_nat h]
theorem wi_nat {n : Nat} (h : n < 9223372036854775808) : IntKind.i64.wrap (n : Int) = (n : Int) := by
  exact wrap_ok (by omega) (by omega)
theorem pop_d {z t : Nat} (h : z < 9223372036854775808) (ht : z % 128 = t) : IntKind.i64.wrap ((BitVec.ofInt IntKind.i64.bits (IntKind.i64.wrap (z : Int)) &&& BitVec.ofInt IntKind.i64.bits 127).toNat : Int) = (t : Int) := by
  rw [wi_nat h]
  show IntKind.i64.wrap ((BitVec.ofInt 64 (z : Int) &&& BitVec.ofInt 64 127).toNat : Int) = _
  have e : (BitVec.ofInt 64 (z : Int) &&& BitVec.ofInt 64 127).toNat = z &&& (2 ^ 7 - 1) := by
    rw [BitVec.toNat_and, BitVec.toNat_ofInt, BitVec.toNat_ofInt]
    congr 1
    omega
  rw [e, Nat.and_two_pow_sub_one_eq_mod]
  show IntKind.i64.wrap ((z % 128 : Nat) : Int) = _
  rw [ht]
  exact wi_nat (by omega)
theorem cnv_ui {k : IntKind} {n : Int} {w : World} : cnvS Try.prog 51 3 (.int k n) w = some (.int .i64 (IntKind.i64.wrap n), w) := cnv_int (by kernel_rfl) (by kernel_rfl)
theorem pop_ok {w : World} {s : BitVec 64} : Ok (den Try.prog 55 #[U s] w) fun u w' => w' = w ∧ u = .int .i64 (cnt fun x => s.getLsbD x : Nat) := by
  have hx := s.isLt
  have hxs : (cnt fun x => s.getLsbD x) = (bl 64 s.toNat).sum := by rw [bl_sum]; rfl
  rw [hxs]
  unfold U
  generalize s.toNat = x at *
  clear hxs
  refine den_ok (args := [.int .u64 (x : Int)]) rs55 Try.func55 rfl mixed in55 ok55 rfl ?_
  simp (disch := omega) only [push_cast, Nat.reduceBEq, Nat.reduceEqDiff, Nat.reduceAdd, Nat.reduceMul, Nat.reduceSub, Nat.reduceLT, Int.reduceToNat, Int.reduceLT, Int.reduceLE, Int.reduceEq, Int.reduceAdd, Int.reduceSub, Int.reduceNeg, Int.reduceMul, cnv_ui]
  have e0 := bl_num 64 x hx
  obtain ⟨l0, d0⟩ := bl_len 64 x
  have p1 := pop_step (s := 1) 32 (bl 64 x) l0 fun d h => by have := d0 d h; omega
  rw [show (2 : Nat) ^ 1 = 2 from rfl, e0, show msk 1 32 = 6148914691236517205 from by decide +kernel] at p1
  obtain ⟨l1, s1, d1⟩ := ps_len 32 (bl 64 x) l0
  have p2 := pop_step (s := 2) 16 (ps (bl 64 x)) l1 fun d h => by have := d1 1 d0 d h; omega
  obtain ⟨l2, s2, d2⟩ := ps_len 16 _ l1
  have p3 := pop_last 8 (ps (ps (bl 64 x))) l2 fun d h => by have := d2 2 (d1 1 d0) d h; omega
  obtain ⟨l3, s3, d3⟩ := ps_len 8 _ l2
  obtain ⟨b3, p4⟩ := pop_tail l3 fun d h => by have := d3 4 (d2 2 (d1 1 d0)) d h; omega
  rw [show msk 2 16 = 3689348814741910323 from by decide +kernel] at p2
  rw [show msk 4 8 = 1085102592571150095 from by decide +kernel] at p3
  rw [show (2 : Nat) ^ (2 * 1) = 2 ^ 2 from rfl] at p1
  rw [show (2 : Nat) ^ (2 * 2) = 2 ^ 4 from rfl] at p2
  rw [show (2 : Nat) ^ (2 * 4) = 256 from rfl] at p3
  rw [← s1, ← s2, ← s3]
  clear s1 s2 s3 d0 d1 d2 d3 l0 l1 l2 l3 e0
  generalize (ps (ps (ps (bl 64 x)))).sum = T at *
  generalize num 256 (ps (ps (ps (bl 64 x)))) = y3 at *
  generalize num (2 ^ 4) (ps (ps (bl 64 x))) = y2 at *
  generalize num (2 ^ 2) (ps (bl 64 x)) = y1 at *
  obtain ⟨q1, q2⟩ := pop_a (k := 1) (M := 6148914691236517205) rfl rfl hx (by decide) p1
  rw [q2]
  obtain ⟨q3, q4⟩ := pop_a (k := 2) (M := 3689348814741910323) rfl rfl q1 (by decide) p2
  rw [q4]
  have q5 : y2 / 2 ^ 4 + y2 < 18446744073709551616 := by
    have h1 : (y1 / 2 ^ 2 &&& 3689348814741910323) ≤ 3689348814741910323 := Nat.and_le_right
    have h2 : (y1 &&& 3689348814741910323) ≤ 3689348814741910323 := Nat.and_le_right
    omega
  rw [pop_c (y := y2) (k := 4) (s := 2 ^ 4) rfl rfl q5, and_nat (m := 1085102592571150095) (M := 1085102592571150095) rfl q5 (by decide), p3]
  obtain ⟨g3, g2, g1, g4⟩ := p4 _ _ _ rfl rfl rfl
  rw [pop_b (y := y3) (k := 8) (s := 256) rfl rfl g1]
  rw [pop_b (k := 16) (s := 65536) rfl rfl g2]
  rw [pop_b (k := 32) (s := 4294967296) rfl rfl (by omega)]
  rw [pop_d g3 g4]
end Go.Proofs.Ytfjccccfkpgmgaa.Fd
