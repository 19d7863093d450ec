/-
  Words of 32 bits; the rotations of both hash functions.
-/
import Derived.Test.YtkceoefmhppddaaDoorFdL
namespace Go.Proofs.YtkceoefmhppddaaDoor.Fd
set_option linter.unusedSimpArgs false
set_option linter.unusedVariables false
open Go
set_option maxRecDepth 100000

/-! words of 32 bits -/
theorem v_of (x : BitVec 32) : BitVec.ofInt IntKind.u32.bits (x.toNat : Int) = x := by
  show BitVec.ofInt 32 (x.toNat : Int) = x
  rw [BitVec.ofInt_natCast, BitVec.ofNat_toNat, BitVec.setWidth_eq]
theorem v_wrap (x : BitVec 32) : IntKind.u32.wrap (x.toNat : Int) = (x.toNat : Int) := by
  have h1 := x.isLt
  rw [IntKind.wrap_u32]
  omega
theorem v_or {x y : BitVec 32} : IntKind.u32.wrap ((BitVec.ofInt IntKind.u32.bits (x.toNat : Int) ||| BitVec.ofInt IntKind.u32.bits (y.toNat : Int)).toNat : Int) = ((x ||| y).toNat : Int) := by
  rw [v_of, v_of]; exact v_wrap (x ||| y)
theorem v_and {x y : BitVec 32} : IntKind.u32.wrap ((BitVec.ofInt IntKind.u32.bits (x.toNat : Int) &&& BitVec.ofInt IntKind.u32.bits (y.toNat : Int)).toNat : Int) = ((x &&& y).toNat : Int) := by
  rw [v_of, v_of]; exact v_wrap (x &&& y)
theorem v_xor {x y : BitVec 32} : IntKind.u32.wrap ((BitVec.ofInt IntKind.u32.bits (x.toNat : Int) ^^^ BitVec.ofInt IntKind.u32.bits (y.toNat : Int)).toNat : Int) = ((x ^^^ y).toNat : Int) := by
  rw [v_of, v_of]; exact v_wrap (x ^^^ y)
theorem v_add {x y : BitVec 32} : IntKind.u32.wrap ((x.toNat : Int) + (y.toNat : Int)) = ((x + y).toNat : Int) := by
  rw [IntKind.wrap_u32, BitVec.toNat_add]
  have h1 := x.isLt
  have h2 := y.isLt
  omega
theorem v_shr {x : BitVec 32} {n : Nat} (h : n ≤ 32) : (x.toNat : Int).fdiv (2 ^ (min n IntKind.u32.bits)) = ((x >>> n).toNat : Int) := by
  rw [show min n IntKind.u32.bits = n from Nat.min_eq_left h, BitVec.toNat_ushiftRight, Nat.shiftRight_eq_div_pow]
  rw [Int.fdiv_eq_ediv_of_nonneg _ (Int.le_of_lt (Int.pow_pos (by decide))), Int.natCast_ediv, Int.natCast_pow]
  rfl
theorem v_shl {x : BitVec 32} {n : Nat} (h : n ≤ 32) : IntKind.u32.wrap ((x.toNat : Int) * 2 ^ (min n IntKind.u32.bits)) = ((x <<< n).toNat : Int) := by
  rw [show min n IntKind.u32.bits = n from Nat.min_eq_left h, IntKind.wrap_u32, BitVec.toNat_shiftLeft, Nat.shiftLeft_eq, Int.natCast_emod, Int.natCast_mul, Int.natCast_pow]
  rfl
def rot (x : BitVec 32) (n : Nat) : BitVec 32 := x >>> n ||| x <<< (32 - n)
attribute [push_cast] v_or v_and v_xor v_add v_shr v_shl
theorem rotr_ok {x : BitVec 32} {n : Nat} {w : World} (hn : 1 ≤ n) (hn : n ≤ 31) : Ok (den Tryd.prog 58 #[.int .u32 (x.toNat : Int), .int .u64 (n : Int)] w) fun v w' => v = .int .u32 ((rot x n).toNat : Int) ∧ w = w' := by
  refine den_ok (args := [.int .u32 (x.toNat : Int), .int .u64 (n : Int)]) rs58 Tryd.func58 rfl mixed in58 ok58 rfl ?_
  have e : IntKind.u64.wrap (32 - (n : Int)) = ((32 - n : Nat) : Int) := by rw [IntKind.wrap_u64]; omega
  obtain ⟨m, hm⟩ : ∃ m, m = 32 - n := ⟨_, rfl⟩
  rw [← hm] at e
  simp (config := { maxSteps := 3000000 }) (disch := omega) only [push_cast, Nat.reduceBEq, Nat.reduceEqDiff, Nat.reduceAdd, Nat.reduceMul, Nat.reduceSub, Nat.reduceLT, Int.reduceToNat, Int.reduceLT, Int.reduceLE, Int.reduceEq, Int.reduceAdd, Int.reduceSub, Int.reduceNeg, Int.reduceMul, e]
  rw [hm]
  rfl
theorem rrotr_ok {x : BitVec 32} {n : Nat} {w : World} (hn : 1 ≤ n) (hn : n ≤ 31) : Ok (den Tryd.prog 51 #[.int .u32 (x.toNat : Int), .int .u64 (n : Int)] w) fun v w' => v = .int .u32 ((rot x n).toNat : Int) ∧ w = w' := by
  refine den_ok (args := [.int .u32 (x.toNat : Int), .int .u64 (n : Int)]) rs51 Tryd.func51 rfl mixed in51 ok51 rfl ?_
  have e : IntKind.u64.wrap (32 - (n : Int)) = ((32 - n : Nat) : Int) := by rw [IntKind.wrap_u64]; omega
  obtain ⟨m, hm⟩ : ∃ m, m = 32 - n := ⟨_, rfl⟩
  rw [← hm] at e
  simp (config := { maxSteps := 3000000 }) (disch := omega) only [push_cast, Nat.reduceBEq, Nat.reduceEqDiff, Nat.reduceAdd, Nat.reduceMul, Nat.reduceSub, Nat.reduceLT, Int.reduceToNat, Int.reduceLT, Int.reduceLE, Int.reduceEq, Int.reduceAdd, Int.reduceSub, Int.reduceNeg, Int.reduceMul, e]
  rw [hm]
  rfl
/-! the digest as a function of the bytes -/
def kTab : List Nat := [1116352408, 1899447441, 3049323471, 3921009573, 961987163, 1508970993, 2453635748, 2870763221, 3624381080, 310598401, 607225278, 1426881987, 1925078388, 2162078206, 2614888103, 3248222580, 3835390401, 4022224774, 264347078, 604807628, 770255983, 1249150122, 1555081692, 1996064986, 2554220882, 2821834349, 2952996808, 3210313671, 3336571891, 3584528711, 113926993, 338241895, 666307205, 773529912, 1294757372, 1396182291, 1695183700, 1986661051, 2177026350, 2456956037, 2730485921, 2820302411, 3259730800, 3345764771, 3516065817, 3600352804, 4094571909, 275423344, 430227734, 506948616, 659060556, 883997877, 958139571, 1322822218, 1537002063, 1747873779, 1955562222, 2024104815, 2227730452, 2361852424, 2428436474, 2756734187, 3204031479, 3329325298]
def kV (t : Nat) : BitVec 32 := BitVec.ofNat 32 (kTab.getD t 0)
def byW (B : List Int) (i : Nat) : BitVec 32 := BitVec.ofInt 32 (B.getD i 0)
def w0 (B : List Int) (t : Nat) : BitVec 32 := byW B (4 * t) <<< 24 ||| byW B (4 * t + 1) <<< 16 ||| byW B (4 * t + 2) <<< 8 ||| byW B (4 * t + 3)
def sg0 (x : BitVec 32) : BitVec 32 := rot x 7 ^^^ rot x 18 ^^^ x >>> 3
def sg1 (x : BitVec 32) : BitVec 32 := rot x 17 ^^^ rot x 19 ^^^ x >>> 10
def wS (B : List Int) (t : Nat) : BitVec 32 :=
  if t < 16 then w0 B t else sg1 (wS B (t - 2)) + wS B (t - 7) + sg0 (wS B (t - 15)) + wS B (t - 16)
termination_by t
structure H8 where
  a : BitVec 32
  b : BitVec 32
  c : BitVec 32
  d : BitVec 32
  e : BitVec 32
  f : BitVec 32
  g : BitVec 32
  h : BitVec 32
def rndT1 (k x : BitVec 32) (s : H8) : BitVec 32 := s.h + (rot s.e 6 ^^^ rot s.e 11 ^^^ rot s.e 25) + ((s.e &&& s.f) ^^^ (~~~ s.e &&& s.g)) + k + x
def rndT2 (s : H8) : BitVec 32 := (rot s.a 2 ^^^ rot s.a 13 ^^^ rot s.a 22) + ((s.a &&& s.b) ^^^ (s.a &&& s.c) ^^^ (s.b &&& s.c))
def rnd (k x : BitVec 32) (s : H8) : H8 := ⟨rndT1 k x s + rndT2 s, s.a, s.b, s.c, s.d + rndT1 k x s, s.e, s.f, s.g⟩
def rds (B : List Int) (s : H8) : Nat → H8
  | 0 => s
  | t + 1 => rnd (kV t) (wS B t) (rds B s t)
def addH (s u : H8) : H8 := ⟨s.a + u.a, s.b + u.b, s.c + u.c, s.d + u.d, s.e + u.e, s.f + u.f, s.g + u.g, s.h + u.h⟩
def blkP (B : List Int) (s : H8) : H8 := addH (rds B s 64) s
def vW (x : BitVec 32) : Value := .int .u32 (x.toNat : Int)
def H8.row (s : H8) : List Value := [vW s.a, vW s.b, vW s.c, vW s.d, vW s.e, vW s.f, vW s.g, vW s.h]
def H8.val (s : H8) : Value := .agg s.row.toArray
/-- The words of the schedule that are there. -/
def wRow (B : List Int) (t : Nat) : List Value := (List.range 64).map fun i => if i < t then vW (wS B i) else .int .u32 0
theorem wRow_zero {B : List Int} : wRow B 0 = List.replicate 64 (.int .u32 0) := by
  refine List.eq_replicate_iff.2 ⟨by simp [wRow], fun x hx => ?_⟩
  obtain ⟨i, _, rfl⟩ := List.mem_map.1 hx
  rw [if_neg (by omega)]
theorem wRow_at {B : List Int} {t i : Nat} (h : i < t) (h2 : i < 64) : (wRow B t)[i]? = some (vW (wS B i)) := by
  unfold wRow
  simp [h, h2]
theorem wRow_new {B : List Int} {t i : Nat} (h : t ≤ i) (h2 : i < 64) : (wRow B t)[i]? = some (.int .u32 0) := by
  unfold wRow
  simp [h2, Nat.not_lt.2 h]
theorem wRow_len {B : List Int} {t : Nat} : (wRow B t).length = 64 := by simp [wRow]
theorem wRow_set {B : List Int} {t : Nat} (h : t < 64) : (wRow B t).set t (vW (wS B t)) = wRow B (t + 1) := by
  apply List.ext_getElem?
  intro i
  unfold wRow
  rw [List.getElem?_set]
  by_cases h1 : t = i
  · subst h1
    simp [h]
  · rw [if_neg h1]
    simp only [List.getElem?_map]
    by_cases h2 : i < 64
    · rw [List.getElem?_range h2]
      simp only [Option.map_some, Option.some.injEq]
      by_cases h3 : i < t
      · rw [if_pos h3, if_pos (by omega)]
      · rw [if_neg h3, if_neg (by omega)]
    · rw [List.getElem?_eq_none (by simp; omega)]
      rfl
theorem wRow_16 {B : List Int} {t : Nat} (h : t < 16) : wS B t = w0 B t := by rw [wS, if_pos h]
theorem wRow_64 {B : List Int} {t : Nat} (h : 16 ≤ t) : wS B t = sg1 (wS B (t - 2)) + wS B (t - 7) + sg0 (wS B (t - 15)) + wS B (t - 16) := by rw [wS, if_neg (by omega)]
def set8 (w : World) (b : Nat) (s : H8) : World := (((((((w.setCell ⟨b, 0, none⟩ (vW s.a)).setCell ⟨b, 1, none⟩ (vW s.b)).setCell ⟨b, 2, none⟩ (vW s.c)).setCell ⟨b, 3, none⟩ (vW s.d)).setCell ⟨b, 4, none⟩ (vW s.e)).setCell ⟨b, 5, none⟩ (vW s.f)).setCell ⟨b, 6, none⟩ (vW s.g)).setCell ⟨b, 7, none⟩ (vW s.h)
theorem set8_blk {w : World} {b : Nat} {s : H8} {E : TypeId} {cs : List Value} (hl : cs.length = 8) (h : Blk w b cs E) : Blk (set8 w b s) b s.row E := by
  have h8 := (((((((h.set 0 (vW s.a)).set 1 (vW s.b)).set 2 (vW s.c)).set 3 (vW s.d)).set 4 (vW s.e)).set 5 (vW s.f)).set 6 (vW s.g)).set 7 (vW s.h)
  match cs, hl with
  | [_, _, _, _, _, _, _, _], _ => exact h8
theorem set8_upd {w : World} {b : Nat} {s : H8} : Upd (fun x => x = b) w (set8 w b s) := by
  have s0 : Upd (fun x => x = b) w (w.setCell ⟨b, 0, none⟩ (vW s.a)) := Upd.set rfl
  have s1 := s0.setIn (a := ⟨b, 1, none⟩) (v := vW s.b) rfl
  have s2 := s1.setIn (a := ⟨b, 2, none⟩) (v := vW s.c) rfl
  have s3 := s2.setIn (a := ⟨b, 3, none⟩) (v := vW s.d) rfl
  have s4 := s3.setIn (a := ⟨b, 4, none⟩) (v := vW s.e) rfl
  have s5 := s4.setIn (a := ⟨b, 5, none⟩) (v := vW s.f) rfl
  have s6 := s5.setIn (a := ⟨b, 6, none⟩) (v := vW s.g) rfl
  have s7 := s6.setIn (a := ⟨b, 7, none⟩) (v := vW s.h) rfl
  exact s7
theorem set8_size {w : World} {b : Nat} {s : H8} : (set8 w b s).heap.size = w.heap.size := by
  unfold set8
  simp only [size_set]
def H8.get (s : H8) : Nat → BitVec 32
  | 0 => s.a
  | 1 => s.b
  | 2 => s.c
  | 3 => s.d
  | 4 => s.e
  | 5 => s.f
  | 6 => s.g
  | _ => s.h
def addTo (r s : H8) (i : Nat) : List Value := (List.range 8).map fun j => if j < i then vW (r.get j + s.get j) else vW (r.get j)
theorem addTo_zero {r s : H8} : addTo r s 0 = r.row := rfl
theorem addTo_8 {r s : H8} : addTo r s 8 = (addH r s).row := rfl
theorem row_at {s : H8} {i : Nat} (h : i < 8) : s.row[i]? = some (vW (s.get i)) := by
  match i, h with
  | 0, _ => rfl
  | 1, _ => rfl
  | 2, _ => rfl
  | 3, _ => rfl
  | 4, _ => rfl
  | 5, _ => rfl
  | 6, _ => rfl
  | 7, _ => rfl
theorem addTo_at {r s : H8} {i : Nat} (h : i < 8) : (addTo r s i)[i]? = some (vW (r.get i)) := by
  unfold addTo
  simp [h]
theorem addTo_set {r s : H8} {i : Nat} (h : i < 8) : (addTo r s i).set i (vW (r.get i + s.get i)) = addTo r s (i + 1) := by
  match i, h with
  | 0, _ => rfl
  | 1, _ => rfl
  | 2, _ => rfl
  | 3, _ => rfl
  | 4, _ => rfl
  | 5, _ => rfl
  | 6, _ => rfl
  | 7, _ => rfl
theorem uns_compl {P : Program} {w : World} {x : BitVec 32} : unS (P := P) .xor (.int .u32 (x.toNat : Int)) w = some (.int .u32 ((~~~x).toNat : Int), w) := by
  have h2 : BitVec.ofInt 32 4294967295 = BitVec.allOnes 32 := by decide
  have e : IntKind.u32.wrap ((BitVec.ofInt IntKind.u32.bits IntKind.u32.max ^^^ BitVec.ofInt IntKind.u32.bits (x.toNat : Int)).toNat : Int) = ((~~~x).toNat : Int) := by
    rw [v_of]
    show IntKind.u32.wrap ((BitVec.ofInt 32 4294967295 ^^^ x).toNat : Int) = _
    rw [h2, BitVec.allOnes_xor]
    exact v_wrap (~~~x)
  have h : (Op.unary .xor (.int .u32 (x.toNat : Int))).run P w = .ok (.int .u32 (IntKind.u32.wrap ((BitVec.ofInt IntKind.u32.bits IntKind.u32.max ^^^ BitVec.ofInt IntKind.u32.bits (x.toNat : Int)).toNat : Int))) w := rfl
  unfold unS lift
  rw [h, e]
theorem cnv_u8_u32 {k : IntKind} {n : Int} {w : World} : cnvS Tryd.prog 5 90 (.int k n) w = some (.int .u32 ((BitVec.ofInt 32 n).toNat : Int), w) := by
  have h : Tryd.prog.intKind 90 = .u32 := by kernel_rfl
  rw [cnv_int (by kernel_rfl) (by kernel_rfl), h, IntKind.wrap_u32, BitVec.toNat_ofInt]
  congr 3
  omega
attribute [push_cast] cnv_u8_u32 vW uns_compl
end Go.Proofs.YtkceoefmhppddaaDoor.Fd
