/-
  wire.Reader.
-/
import Derived.Test.YtlnladcfgieggaaJn2
namespace Go.Proofs.Ytlnladcfgieggaa.Fd
set_option linter.unusedSimpArgs false
set_option linter.unusedVariables false
open Go
set_option maxRecDepth 100000

/-- A reader at block p: its bytes, the offset, the last item's offset, the error. -/
structure Rd (w : World) (p : Nat) (d : List Int) (at_ : Nat) (item : Nat) (err : Int) (v : Value) : Prop where
  head : Blk w p [v, .int .i64 at_, .int .i64 item, .int .i64 err] 105
  own : Bow w v d
  ne : ∀ g, v.ownBlock = some g → g ≠ p
  rng : Rng d
  len : d.length ≤ 1000000
  le : at_ ≤ d.length
theorem Rd.upd {w w' : World} {p : Nat} {d : List Int} {at_ item : Nat} {err : Int} {v : Value} (h : Rd w p d at_ item err v) (hu : Upd (fun _ => False) w w') : Rd w' p d at_ item err v :=
  ⟨h.head.upd hu (fun h => h), h.own.upd hu (fun _ _ h => h), h.ne, h.rng, h.len, h.le⟩
theorem Rd.slb {w : World} {p : Nat} {d : List Int} {at_ item : Nat} {err : Int} {v : Value} (h : Rd w p d at_ item err v) (h0 : 0 < d.length) : ∃ g c, v = .slice (some ⟨g, 0, none⟩) d.length c ∧ d.length ≤ c ∧ Lies w g 0 d ∧ g ≠ p ∧ g < w.heap.size := by
  obtain ⟨a, c, hv, hc⟩ := h.own.form
  obtain ⟨g, c', hv', hg, _, hl⟩ := Buf.of_own h.own h0
  rw [hv] at hv'
  injection hv' with e1 e2 e3
  subst e1
  exact ⟨g, c, hv, hc, hl, h.ne g hg, h.own.lt hg⟩
theorem Rd.at_ {w : World} {p : Nat} {d : List Int} {at_ item : Nat} {err : Int} {v : Value} (h : Rd w p d at_ item err v) {j : Nat} {x : Int} (hx : d[j]? = some x) : ∃ g c, v = .slice (some ⟨g, 0, none⟩) d.length c ∧ w.cell? ⟨g, j, none⟩ = some (.int .u8 x) ∧ ∃ y : Nat, x = y ∧ y < 256 := by
  have hj := (List.getElem?_eq_some_iff.1 hx).1
  obtain ⟨g, c, hv, _, hl, _⟩ := h.slb (by omega)
  refine ⟨g, c, hv, ?_, x.toNat, ?_⟩
  · have := hl j (by rw [by8_length]; exact hj)
    rw [Nat.zero_add] at this
    rw [this, by8, List.getElem?_map, hx]
    rfl
  · have := h.rng x (List.mem_of_getElem? hx)
    omega
theorem bld_rd (v : Value) (w : World) : ∀ (a : Option Addr) (n c : Nat), v = .slice a n c → bldS Try.prog 105 #[(0, .slice a n c)] w = some (.agg #[.slice a n c, .int .i64 0, .int .i64 0, .int .i64 0], w) := by
  intro a n c _
  kernel_rfl
theorem bld_rd' (a : Option Addr) (n c : Nat) (w : World) : bldS Try.prog 105 #[(0, .slice a n c)] w = some (.agg #[.slice a n c, .int .i64 0, .int .i64 0, .int .i64 0], w) := bld_rd _ w a n c rfl
attribute [push_cast] bld_rd'
theorem NewReader_ok {w : World} {F : Nat → Prop} {y : Value} {d : List Int} (hy : SlB w F y d) (hr : Rng d) (hl : d.length ≤ 1000000) :
    Ok (den Try.prog 62 #[y] w) fun u w' => ∃ p v, u = .pointer (some ⟨p, 0, none⟩) ∧ Rd w' p d 0 0 0 v ∧ w.heap.size ≤ p ∧ Upd (fun _ => False) w w' := by
  obtain ⟨ya, yc, rfl, _⟩ := id hy
  refine den_ok (args := [.slice ya d.length yc]) rs62 Try.func62 rfl mixed in62 ok62 rfl ?_
  simp (config := { maxSteps := 3000000 }) (disch := omega) only [push_cast, Nat.reduceBEq, Nat.reduceEqDiff, Nat.reduceAdd, Nat.reduceMul, Nat.reduceSub, Nat.reduceLT, Int.reduceToNat, Int.reduceLT, Int.reduceLE, Int.reduceEq, Int.reduceAdd, Int.reduceSub, Int.reduceNeg, Int.reduceMul]
  refine app_by (Bow.empty (Blk.new (cs := []))) (hy.upd (Upd.alloc (F := fun _ => False)) (fun _ h => h.elim)) (by simp; omega) ?_
  intro v' w2 hown hu2 hfr
  rw [List.nil_append] at hown
  have hu2' : Upd (fun _ => False) w w2 := Upd.alloc.trans hu2 fun b hb e => by have e := ownB e; omega
  obtain ⟨va, vc, rfl, _⟩ := hown.form
  simp (config := { maxSteps := 3000000 }) (disch := omega) only [push_cast, Nat.reduceBEq, Nat.reduceEqDiff, Nat.reduceAdd, Nat.reduceMul, Nat.reduceSub, Nat.reduceLT, Int.reduceToNat, Int.reduceLT, Int.reduceLE, Int.reduceEq, Int.reduceAdd, Int.reduceSub, Int.reduceNeg, Int.reduceMul]
  have hs := hu2'.size
  refine ⟨_, _, rfl, ⟨Blk.new, hown.upd Upd.alloc (F := fun _ => False) (fun _ _ h => h), fun g hg e => ?_, hr, hl, Nat.zero_le _⟩, hs, hu2'.alloc'⟩
  have := hown.lt hg
  omega
theorem Err_ok {w : World} {p : Nat} {d : List Int} {at_ item : Nat} {err : Int} {v : Value} (h : Rd w p d at_ item err v) : Ok (den Try.prog 65 #[.pointer (some ⟨p, 0, none⟩)] w) fun u w' => u = .int .i64 err ∧ w = w' := by
  obtain ⟨va, vc, rfl, _⟩ := h.own.form
  refine den_ok (args := [.pointer (some ⟨p, 0, none⟩)]) rs65 Try.func65 rfl mixed in65 ok65 rfl ?_
  simp (disch := omega) only [push_cast, Nat.reduceBEq, Nat.reduceEqDiff, Nat.reduceAdd, Nat.reduceMul, Nat.reduceSub, Nat.reduceLT, Int.reduceToNat, Int.reduceLT, Int.reduceLE, Int.reduceEq, Int.reduceAdd, Int.reduceSub, Int.reduceNeg, Int.reduceMul, h.head.cell]
theorem Offset_ok {w : World} {p : Nat} {d : List Int} {at_ item : Nat} {err : Int} {v : Value} (h : Rd w p d at_ item err v) : Ok (den Try.prog 66 #[.pointer (some ⟨p, 0, none⟩)] w) fun u w' => u = .int .i64 at_ ∧ w = w' := by
  obtain ⟨va, vc, rfl, _⟩ := h.own.form
  refine den_ok (args := [.pointer (some ⟨p, 0, none⟩)]) rs66 Try.func66 rfl mixed in66 ok66 rfl ?_
  simp (disch := omega) only [push_cast, Nat.reduceBEq, Nat.reduceEqDiff, Nat.reduceAdd, Nat.reduceMul, Nat.reduceSub, Nat.reduceLT, Int.reduceToNat, Int.reduceLT, Int.reduceLE, Int.reduceEq, Int.reduceAdd, Int.reduceSub, Int.reduceNeg, Int.reduceMul, h.head.cell]
theorem rLeft_ok {w : World} {p : Nat} {d : List Int} {at_ item : Nat} {err : Int} {v : Value} (h : Rd w p d at_ item err v) : Ok (den Try.prog 67 #[.pointer (some ⟨p, 0, none⟩)] w) fun u w' => u = .int .i64 ((d.length : Int) - at_) ∧ Upd (fun _ => False) w w' := by
  obtain ⟨va, vc, rfl, _⟩ := h.own.form
  refine den_ok (args := [.pointer (some ⟨p, 0, none⟩)]) rs67 Try.func67 rfl mixed in67 ok67 rfl ?_
  have hl := h.len
  have hle := h.le
  simp (disch := omega) only [push_cast, Nat.reduceBEq, Nat.reduceEqDiff, Nat.reduceAdd, Nat.reduceMul, Nat.reduceSub, Nat.reduceLT, Int.reduceToNat, Int.reduceLT, Int.reduceLE, Int.reduceEq, Int.reduceAdd, Int.reduceSub, Int.reduceNeg, Int.reduceMul, h.head.cell]
  exact Upd.drew
theorem begin_ok {w : World} {p : Nat} {d : List Int} {at_ item : Nat} {err : Int} {v : Value} (h : Rd w p d at_ item err v) :
    Ok (den Try.prog 73 #[.pointer (some ⟨p, 0, none⟩)] w) fun u w' => u = .bool (decide (err = 0)) ∧ (∃ item', Rd w' p d at_ item' err v) ∧ Upd (fun b => b = p) w w' := by
  obtain ⟨va, vc, hv, _⟩ := h.own.form
  subst hv
  refine den_ok (args := [.pointer (some ⟨p, 0, none⟩)]) rs73 Try.func73 rfl mixed in73 ok73 rfl ?_
  by_cases e : err = 0
  · subst e
    simp (config := { maxSteps := 3000000 }) (disch := omega) only [push_cast, Nat.reduceBEq, Nat.reduceEqDiff, Nat.reduceAdd, Nat.reduceMul, Nat.reduceSub, Nat.reduceLT, Int.reduceToNat, Int.reduceLT, Int.reduceLE, Int.reduceEq, Int.reduceAdd, Int.reduceSub, Int.reduceNeg, Int.reduceMul, h.head.cell, h.head.free]
    have hu : Upd (fun b => b = p) w (w.setCell ⟨p, 2, none⟩ (.int .i64 at_)) := Upd.set rfl
    exact ⟨⟨at_, h.head.set 2 _, h.own.upd hu h.ne, h.ne, h.rng, h.len, h.le⟩, hu⟩
  · simp (config := { maxSteps := 3000000 }) (disch := omega) only [push_cast, Nat.reduceBEq, Nat.reduceEqDiff, Nat.reduceAdd, Nat.reduceMul, Nat.reduceSub, Nat.reduceLT, Int.reduceToNat, Int.reduceLT, Int.reduceLE, Int.reduceEq, Int.reduceAdd, Int.reduceSub, Int.reduceNeg, Int.reduceMul, h.head.cell, h.head.free]
    exact ⟨⟨item, h⟩, Upd.refl⟩
theorem shl7 {x i : Nat} (hi : i < 10) (h : x * 2 ^ (7 * i) < 2 ^ 64) : IntKind.u64.wrap ((x : Int) * 2 ^ (min (7 * i) IntKind.u64.bits)) = ((x * 2 ^ (7 * i) : Nat) : Int) := by
  have e : min (7 * i) IntKind.u64.bits = 7 * i := by show min (7 * i) 64 = _; omega
  rw [e, IntKind.wrap_u64, show (x : Int) * 2 ^ (7 * i) = ((x * 2 ^ (7 * i) : Nat) : Int) from by simp]
  omega
set_option maxHeartbeats 2000000 in
theorem number_ok {w : World} {p : Nat} {d : List Int} {at_ item : Nat} {err : Int} {v : Value} (h : Rd w p d at_ item err v) :
    Ok (den Try.prog 74 #[.pointer (some ⟨p, 0, none⟩)] w) fun u w' => (∃ n nx ok, u = .tuple #[.int .u64 ((n : Nat) : Int), .int .i64 ((nx : Nat) : Int), .bool ok] ∧ num d at_ = if ok then some (n, nx) else none) ∧ Upd (fun _ => False) w w' := by
  obtain ⟨va, vc, hv, _⟩ := h.own.form
  subst hv
  have hl := h.len
  have hle := h.le
  refine den_ok (args := [.pointer (some ⟨p, 0, none⟩)]) rs74 Try.func74 rfl mixed in74 ok74 rfl ?_
  simp (disch := omega) only [push_cast, Nat.reduceBEq, Nat.reduceEqDiff, Nat.reduceAdd, Nat.reduceMul, Nat.reduceSub, Nat.reduceLT, Int.reduceToNat, Int.reduceLT, Int.reduceLE, Int.reduceEq, Int.reduceAdd, Int.reduceSub, Int.reduceNeg, Int.reduceMul]
  refine loop_inv (I := fun k st w' => Bx (∃ (i n : Nat), k + i = 10 ∧ st = [.int .u64 (n : Int), .int .i64 (i : Int)] ∧ n < 2 ^ (7 * i) ∧ num d at_ = numF d at_ k i n ∧ Upd (fun _ => False) w w') ⟨⟩) ?_ 10
    ⟨0, 0, rfl, rfl, by simp, rfl, Upd.refl⟩
  rintro k st w' ⟨i, n, hki, rfl, hn, hnum, hu⟩
  have hh := (h.upd hu).head
  by_cases hk0 : k = 0
  · subst hk0
    obtain rfl : i = 10 := by omega
    simp (disch := omega) only [push_cast, Nat.reduceBEq, Nat.reduceEqDiff, Nat.reduceAdd, Nat.reduceMul, Nat.reduceSub, Nat.reduceLT, Int.reduceToNat, Int.reduceLT, Int.reduceLE, Int.reduceEq, Int.reduceAdd, Int.reduceSub, Int.reduceNeg, Int.reduceMul]
    exact ⟨⟨0, 0, false, rfl, hnum⟩, hu⟩
  obtain ⟨k, rfl⟩ : ∃ k', k = k' + 1 := ⟨k - 1, by omega⟩
  rw [numF] at hnum
  by_cases hlt : at_ + i < d.length
  rotate_left
  · rw [List.getElem?_eq_none (by omega)] at hnum
    simp (config := { maxSteps := 3000000 }) (disch := omega) only [push_cast, Nat.reduceBEq, Nat.reduceEqDiff, Nat.reduceAdd, Nat.reduceMul, Nat.reduceSub, Nat.reduceLT, Int.reduceToNat, Int.reduceLT, Int.reduceLE, Int.reduceEq, Int.reduceAdd, Int.reduceSub, Int.reduceNeg, Int.reduceMul, hh.cell, hh.free]
    exact ⟨⟨0, 0, false, rfl, hnum⟩, hu.drew'⟩
  have hx := List.getElem?_eq_getElem hlt
  generalize d[at_ + i] = x at hx
  obtain ⟨g, c, hv, q0, y, rfl, hy⟩ := (h.upd hu).at_ hx
  injection hv with e1 _ e3
  subst e1
  rw [hx] at hnum
  dsimp only at hnum
  have e7 : (7 * (i : Int)).toNat = 7 * i := by omega
  have ea : ((at_ : Int) + (i : Int)).toNat = at_ + i := by omega
  by_cases h9 : i = 9 ∧ 1 < y
  · rw [if_pos ⟨h9.1, by omega⟩] at hnum
    obtain ⟨h9', h9⟩ := h9
    have h9'' : (i : Int) = 9 := by omega
    simp (config := { maxSteps := 3000000 }) (disch := omega) only [push_cast, Nat.reduceBEq, Nat.reduceEqDiff, Nat.reduceAdd, Nat.reduceMul, Nat.reduceSub, Nat.reduceLT, Int.reduceToNat, Int.reduceLT, Int.reduceLE, Int.reduceEq, Int.reduceAdd, Int.reduceSub, Int.reduceNeg, Int.reduceMul, hh.cell, hh.free, q0, ea]
    exact ⟨⟨0, 0, false, rfl, hnum⟩, hu.drew'.drew'⟩
  rw [if_neg (by omega)] at hnum
  have hX : y % 128 * 2 ^ (7 * i) < 2 ^ 64 := by
    by_cases e : i = 9
    · subst e
      have : y % 128 ≤ 1 := by omega
      have := Nat.mul_le_mul_right (2 ^ (7 * 9)) this
      omega
    · have h1 : y % 128 * 2 ^ (7 * i) ≤ 127 * 2 ^ 56 := Nat.mul_le_mul (by omega) (Nat.pow_le_pow_right (by omega) (by omega))
      omega
  have a1 := u8_and127 hy
  have a2 : IntKind.u64.wrap ((y % 128 : Nat) : Int) = ((y % 128 : Nat) : Int) := by rw [IntKind.wrap_u64]; omega
  have a3 := shl7 (x := y % 128) (i := i) (by omega) hX
  have a4 := u64_or (a := n) (b := y % 128) (i := 7 * i) (by omega) hn hX
  have hn' : n + y % 128 * 2 ^ (7 * i) < 2 ^ (7 * (i + 1)) := by
    have h1 : y % 128 * 2 ^ (7 * i) ≤ 127 * 2 ^ (7 * i) := Nat.mul_le_mul_right _ (by omega)
    rw [show 7 * (i + 1) = 7 * i + 7 from by omega, Nat.pow_add]
    omega
  rw [show ((y : Int).toNat % 128) = y % 128 from by omega] at hnum
  generalize n + y % 128 * 2 ^ (7 * i) = n2 at *
  generalize y % 128 * 2 ^ (7 * i) = Y at *
  generalize y % 128 = X at *
  have hi9 : (i : Int) = 9 ∨ ¬ (i : Int) = 9 := by omega
  by_cases hlt2 : y < 128
  · rw [if_pos (by omega)] at hnum
    by_cases h0 : y = 0 ∧ 0 < i
    · rw [if_pos ⟨by omega, h0.2⟩] at hnum
      obtain ⟨hy0, h0⟩ := h0
      have hy0' : (y : Int) = 0 := by omega
      have hi0 : ¬ (i : Int) = 0 := by omega
      rcases hi9 with hi9 | hi9 <;> simp (config := { maxSteps := 3000000 }) (disch := omega) only [push_cast, Nat.reduceBEq, Nat.reduceEqDiff, Nat.reduceAdd, Nat.reduceMul, Nat.reduceSub, Nat.reduceLT, Int.reduceToNat, Int.reduceLT, Int.reduceLE, Int.reduceEq, Int.reduceAdd, Int.reduceSub, Int.reduceNeg, Int.reduceMul, hh.cell, hh.free, q0, a1, a2, a3, a4, e7, ea] <;> first | exact ⟨⟨n2, at_ + i + 1, false, by simp, hnum⟩, hu.drew'.drew'.drew'⟩ | exact ⟨⟨n2, at_ + i + 1, false, by simp, hnum⟩, hu.drew'.drew'⟩ | exact ⟨⟨_, at_ + i + 1, false, by simp, hnum⟩, hu.drew'⟩ | exact ⟨⟨_, at_ + i + 1, false, by simp, hnum⟩, hu⟩
    · rw [if_neg (by omega)] at hnum
      by_cases hy0 : y = 0
      · have hi0 : (i : Int) = 0 := by omega
        have hy0' : (y : Int) = 0 := by omega
        have hi9' : ¬ (i : Int) = 9 := by omega
        simp (config := { maxSteps := 3000000 }) (disch := omega) only [push_cast, Nat.reduceBEq, Nat.reduceEqDiff, Nat.reduceAdd, Nat.reduceMul, Nat.reduceSub, Nat.reduceLT, Int.reduceToNat, Int.reduceLT, Int.reduceLE, Int.reduceEq, Int.reduceAdd, Int.reduceSub, Int.reduceNeg, Int.reduceMul, hh.cell, hh.free, q0, a1, a2, a3, a4, e7, ea] <;> first | exact ⟨⟨n2, at_ + i + 1, true, by simp, hnum⟩, hu.drew'.drew'.drew'⟩ | exact ⟨⟨n2, at_ + i + 1, true, by simp, hnum⟩, hu.drew'.drew'⟩ | exact ⟨⟨_, at_ + i + 1, true, by simp, hnum⟩, hu.drew'⟩ | exact ⟨⟨_, at_ + i + 1, true, by simp, hnum⟩, hu⟩
      · have hy0' : ¬ (y : Int) = 0 := by omega
        rcases hi9 with hi9 | hi9 <;> simp (config := { maxSteps := 3000000 }) (disch := omega) only [push_cast, Nat.reduceBEq, Nat.reduceEqDiff, Nat.reduceAdd, Nat.reduceMul, Nat.reduceSub, Nat.reduceLT, Int.reduceToNat, Int.reduceLT, Int.reduceLE, Int.reduceEq, Int.reduceAdd, Int.reduceSub, Int.reduceNeg, Int.reduceMul, hh.cell, hh.free, q0, a1, a2, a3, a4, e7, ea] <;> first | exact ⟨⟨n2, at_ + i + 1, true, by simp, hnum⟩, hu.drew'.drew'.drew'⟩ | exact ⟨⟨n2, at_ + i + 1, true, by simp, hnum⟩, hu.drew'.drew'⟩ | exact ⟨⟨_, at_ + i + 1, true, by simp, hnum⟩, hu.drew'⟩ | exact ⟨⟨_, at_ + i + 1, true, by simp, hnum⟩, hu⟩
  · rw [if_neg (by omega)] at hnum
    have hi9' : ¬ (i : Int) = 9 := by omega
    simp (config := { maxSteps := 3000000 }) (disch := omega) only [push_cast, Nat.reduceBEq, Nat.reduceEqDiff, Nat.reduceAdd, Nat.reduceMul, Nat.reduceSub, Nat.reduceLT, Int.reduceToNat, Int.reduceLT, Int.reduceLE, Int.reduceEq, Int.reduceAdd, Int.reduceSub, Int.reduceNeg, Int.reduceMul, hh.cell, hh.free, q0, a1, a2, a3, a4, e7, ea] <;> first | exact ⟨k, by omega, i + 1, n2, by omega, by simp, hn', hnum, hu.drew'.drew'.drew'⟩ | exact ⟨k, by omega, i + 1, n2, by omega, by simp, hn', hnum, hu.drew'.drew'⟩ | exact ⟨k, by omega, i + 1, n2, by omega, by simp, hn', hnum, hu.drew'⟩ | exact ⟨k, by omega, i + 1, n2, by omega, by simp, hn', hnum, hu⟩
end Go.Proofs.Ytlnladcfgieggaa.Fd
