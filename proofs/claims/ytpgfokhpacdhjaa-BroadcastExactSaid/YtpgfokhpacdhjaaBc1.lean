/-
  Words of sixteen bits; bits.OnesCount16.
-/
import Derived.Test.YtpgfokhpacdhjaaFdI
import Derived.Test.YtpgfokhpacdhjaaFdH
namespace Go.Proofs.Ytpgfokhpacdhjaa.Fd
set_option linter.unusedSimpArgs false
set_option linter.unusedVariables false
open Go
set_option maxRecDepth 100000

def U16 (x : BitVec 16) : Value := .int .u16 (x.toNat : Int)
theorem v_wrap (x : BitVec 16) : IntKind.u16.wrap (x.toNat : Int) = (x.toNat : Int) := by
  have := x.isLt
  show ((x.toNat : Int) % (2 ^ 16 : Int)) = _
  omega
theorem v_of (x : BitVec 16) : BitVec.ofInt IntKind.u16.bits (x.toNat : Int) = x := by
  show BitVec.ofInt 16 _ = x
  simp
theorem v_or {x y : BitVec 16} : IntKind.u16.wrap ((BitVec.ofInt IntKind.u16.bits (x.toNat : Int) ||| BitVec.ofInt IntKind.u16.bits (y.toNat : Int)).toNat : Int) = ((x ||| y).toNat : Int) := by
  rw [v_of, v_of]; exact v_wrap _
theorem v_shl {b : Nat} : IntKind.u16.wrap (1 * 2 ^ (min b IntKind.u16.bits)) = ((BitVec.twoPow 16 b).toNat : Int) := by
  show ((1 * 2 ^ (min b 16) : Int) % (2 ^ 16 : Int)) = _
  rw [BitVec.toNat_twoPow, Int.one_mul]
  by_cases h : b < 16
  · rw [Nat.min_eq_left (by omega)]
    have h2 : (2 : Nat) ^ b < 2 ^ 16 := Nat.pow_lt_pow_right (by omega) h
    rw [Nat.mod_eq_of_lt h2]
    rw [show ((2 : Int) ^ b) = ((2 ^ b : Nat) : Int) from by rw [Int.natCast_pow]; rfl]
    exact Int.emod_eq_of_lt (Int.natCast_nonneg _) (Int.ofNat_lt.2 h2)
  · rw [Nat.min_eq_right (by omega)]
    have : (2 : Nat) ^ b = 2 ^ 16 * 2 ^ (b - 16) := by rw [← Nat.pow_add]; congr 1; omega
    rw [this]
    simp
theorem v_bit {x : BitVec 16} {b : Nat} : IntKind.u16.wrap ((BitVec.ofInt IntKind.u16.bits ((x.toNat : Int).fdiv (2 ^ (min b IntKind.u16.bits))) &&& BitVec.ofInt IntKind.u16.bits 1).toNat : Int) = bitN (x.getLsbD b) := by
  show IntKind.u16.wrap ((BitVec.ofInt 16 ((x.toNat : Int).fdiv (2 ^ (min b 16))) &&& BitVec.ofInt 16 1).toNat : Int) = bitN (x.getLsbD b)
  have e : ((x.toNat : Int).fdiv (2 ^ (min b 16))) = ((x >>> (min b 16)).toNat : Int) := by
    rw [BitVec.toNat_ushiftRight, Nat.shiftRight_eq_div_pow]
    rw [Int.fdiv_eq_ediv_of_nonneg _ (Int.le_of_lt (Int.pow_pos (by decide))), Int.natCast_ediv, Int.natCast_pow]
    rfl
  have e0 : BitVec.ofInt 16 ((x >>> (min b 16)).toNat : Int) = x >>> (min b 16) := by rw [BitVec.ofInt_natCast, BitVec.ofNat_toNat, BitVec.setWidth_eq]
  have e1 : BitVec.ofInt 16 1 = 1#16 := by decide
  have e2 : (x >>> (min b 16)) &&& 1#16 = if x.getLsbD b then 1#16 else 0#16 := by
    rw [BitVec.and_one_eq_setWidth_ofBool_getLsbD, BitVec.getLsbD_ushiftRight, Nat.add_zero]
    by_cases h : b < 16
    · rw [Nat.min_eq_left (by omega)]
      cases x.getLsbD b <;> decide
    · rw [Nat.min_eq_right (by omega), BitVec.getLsbD_of_ge x 16 (by omega), BitVec.getLsbD_of_ge x b (by omega)]
      decide
  rw [e, e0, e1, e2, v_wrap]
  cases x.getLsbD b <;> rfl
theorem v_getLsb {x : BitVec 16} {b i : Nat} (hb : b < 16) : (x ||| BitVec.twoPow 16 b).getLsbD i = (x.getLsbD i || decide (i = b)) := by
  rw [BitVec.getLsbD_or, BitVec.getLsbD_twoPow]
  by_cases e : i = b
  · subst e; simp [hb]
  · have : ¬ b = i := fun h => e h.symm
    simp [e, this]
attribute [push_cast] v_or v_shl v_bit U16
noncomputable def tab16 : ByteArray := match Try.f42.body with
  | some (.seq _ (.seq (.region _ ops _) _)) => (match ops[2]?.map Oper.op with
    | some (.index _ (.const (.string s)) _) => s
    | _ => ByteArray.empty)
  | _ => ByteArray.empty
def pop8 (n : Nat) : Nat := ((List.range 8).filter fun i => n.testBit i).length
theorem pop8_le (n : Nat) : pop8 n ≤ 8 := by
  unfold pop8
  have := List.length_filter_le (fun i => n.testBit i) (List.range 8)
  simpa using this
theorem tab16_get {n : Nat} (h : n < 256) : (tab16.data.map UInt8.toNat)[n]? = some (pop8 n) := by
  have : tab16.data.map UInt8.toNat = ((List.range 256).map pop8).toArray := by kernel_rfl
  rw [this]
  simp [h]
def popK (v : Value) (far : Option (Value × World)) (w : World) : Option (Value × World) := match v with
  | .int .u16 n => if 0 ≤ n ∧ n < 256 then some (.int .u8 (pop8 n.toNat), w) else far
  | _ => far
theorem popK_mk {n : Nat} (h : n < 256) {far : Option (Value × World)} {w : World} : popK (.int .u16 n) far w = some (.int .u8 (pop8 n), w) := by
  simp [popK]; omega
noncomputable def farT (D : Den) (ty : TypeId) (i : Nat) (ρ : Env) (w : World) : Option (Value × World) := opX Try.prog D (.index 9 (.const (.string tab16)) (.tmp i)) ty (ev ρ) w
theorem idx_tab0 {D : Den} {ρ : Env} {w : World} {ty : TypeId} {i n : Nat} (h : n < 256) (he : ρ i = .int .u16 n) :
    opX Try.prog D (.index 9 (.const (.string tab16)) (.tmp i)) ty (ev ρ) w = some (.int .u8 (pop8 n), w) := by
  have hr := run_index_string (P := Try.prog) w 9 tab16 .u16 (n : Int) Try.underlying9
  have hp : pop8 n ≤ 8 := by
    unfold pop8
    have := List.length_filter_le (fun i => n.testBit i) (List.range 8)
    simpa using this
  have hg := tab16_get h
  rw [Array.getElem?_map] at hg
  obtain ⟨x, hx1, hx2⟩ := Option.map_eq_some_iff.1 hg
  obtain ⟨hlt, hx3⟩ := Array.getElem?_eq_some_iff.1 hx1
  have hsz : n < tab16.size := hlt
  rw [dif_pos (by omega)] at hr
  have hv : ((tab16[(n : Int).toNat]'(by simpa using hsz)).toNat : Int) = (pop8 n : Int) := by
    rw [← hx2, ← hx3]; rfl
  rw [hv] at hr
  have h1 : ev ρ (.tmp i) = .int .u16 n := he
  have h2 : ev ρ (.const (.string tab16)) = .string tab16 := rfl
  simp only [opX, opS, execOp, h1, h2]
  simp [hr]
theorem idx_tab (D : Den) (ρ : Env) (w : World) (ty : TypeId) (i : Nat) :
    opX Try.prog D (.index 9 (.const (.string tab16)) (.tmp i)) ty (ev ρ) w = popK (ρ i) (farT D ty i ρ w) w := by
  unfold popK
  split
  · rename_i n hn
    split
    · rename_i h
      obtain ⟨k, rfl⟩ : ∃ k : Nat, n = (k : Int) := ⟨n.toNat, by omega⟩
      rw [idx_tab0 (n := k) (by omega) hn]
      simp
    · rfl
  · rfl
theorem cnv_83 {x : Int} {w : World} : cnvS Try.prog 5 3 (.int .u8 x) w = some (.int .i64 (IntKind.i64.wrap x), w) := cnv_int (P := Try.prog) (by kernel_rfl) (by kernel_rfl)
def ones (D : BitVec 16) : Nat := pop8 (D.toNat / 256) + pop8 (D.toNat % 256)
set_option maxHeartbeats 1000000 in
theorem ones_ok {w : World} (D : BitVec 16) : Ok (den Try.prog 42 #[U16 D] w) fun v w' => v = .int .i64 (ones D) ∧ w' = w.drew := by
  refine den_ok (args := [U16 D]) rs42 Try.func42 rfl mixed in42 ok42 rfl ?_
  have hi := idx_tab
  simp only [tab16, Try.f42, List.getElem?_toArray, List.getElem?_cons_succ, List.getElem?_cons_zero, Option.map_some] at hi
  have hlt : D.toNat < 65536 := D.isLt
  have h1 : ((D.toNat : Int).fdiv (2 ^ (min 8 IntKind.u16.bits))) = ((D.toNat / 256 : Nat) : Int) := by
    show ((D.toNat : Int).fdiv (2 ^ (min 8 16))) = _
    rw [show ((2 : Int) ^ (min 8 16)) = 256 from by decide, Int.fdiv_eq_ediv_of_nonneg _ (by decide)]
    omega
  have h2 : IntKind.u16.wrap ((BitVec.ofInt IntKind.u16.bits (D.toNat : Int) &&& BitVec.ofInt IntKind.u16.bits 255).toNat : Int) = ((D.toNat % 256 : Nat) : Int) := by
    have e : BitVec.ofInt IntKind.u16.bits 255 = BitVec.ofInt IntKind.u16.bits (((255#16).toNat : Nat) : Int) := rfl
    rw [e, v_of, v_of]
    refine (v_wrap (D &&& 255#16)).trans ?_
    have h3 : (D &&& 255#16).toNat = D.toNat % 256 := by
      rw [BitVec.toNat_and]
      show D.toNat &&& 255 = _
      rw [show (255 : Nat) = 2 ^ 8 - 1 from rfl, Nat.and_two_pow_sub_one_eq_mod]
    rw [h3]
  have p1 := pop8_le (D.toNat / 256)
  have p2 := pop8_le (D.toNat % 256)
  have l1 : D.toNat / 256 < 256 := by omega
  have l2 : D.toNat % 256 < 256 := by omega
  unfold ones
  generalize D.toNat / 256 = q1 at *
  generalize D.toNat % 256 = q2 at *
  have hw : IntKind.u8.wrap ((pop8 q1 : Int) + (pop8 q2 : Int)) = (pop8 q1 : Int) + (pop8 q2 : Int) := by
    show (((pop8 q1 : Int) + (pop8 q2 : Int)) % (2 ^ 8 : Int)) = _
    omega
  simp (disch := omega) only [push_cast, Nat.reduceBEq, Nat.reduceEqDiff, Nat.reduceAdd, Nat.reduceMul, Nat.reduceSub, Nat.reduceLT, Int.reduceToNat, Int.reduceLT, Int.reduceLE, Int.reduceEq, Int.reduceAdd, Int.reduceSub, Int.reduceNeg, Int.reduceMul, hi, h1, h2, popK_mk, hw, cnv_83]
  done
end Go.Proofs.Ytpgfokhpacdhjaa.Fd
