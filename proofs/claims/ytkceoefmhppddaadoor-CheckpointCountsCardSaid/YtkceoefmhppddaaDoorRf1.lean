/-
  The specification's big and Header.
-/
import Derived.Test.YtkceoefmhppddaaDoorSp1
namespace Go.Proofs.YtkceoefmhppddaaDoor.Fd
set_option linter.unusedSimpArgs false
set_option linter.unusedVariables false
open Go
set_option maxRecDepth 100000
theorem cnv_i64_u64 {k : IntKind} {n : Int} {w : World} : cnvS Tryd.prog 2 75 (.int k n) w = some (.int .u64 (IntKind.u64.wrap n), w) := cnv_int (by kernel_rfl) (by kernel_rfl)
attribute [push_cast] cnv_i64_u64
set_option maxHeartbeats 2000000 in
theorem big_ok {w0 w : World} {v : Value} {l : List Int} (h : Fr w0 w v l) {n k : Nat} (hn : n < 2 ^ 64) (hk : k ≤ 8) (hl : l.length ≤ 900000000) :
    Ok (den Tryd.prog 44 #[v, .int .u64 (n : Int), .int .i64 (k : Int)] w) fun u w' => Fr w0 w' u (l ++ beL k n) := by
  obtain ⟨va, vc, rfl, _⟩ := h.own.form
  refine den_ok (args := [.slice va l.length vc, .int .u64 (n : Int), .int .i64 (k : Int)]) rs44 Tryd.func44 rfl mixed in44 ok44 rfl ?_
  simp (config := { maxSteps := 3000000 }) (disch := omega) only [push_cast, Nat.reduceBEq, Nat.reduceEqDiff, Nat.reduceAdd, Nat.reduceMul, Nat.reduceSub, Nat.reduceLT, Int.reduceToNat, Int.reduceLT, Int.reduceLE, Int.reduceEq, Int.reduceAdd, Int.reduceSub, Int.reduceNeg, Int.reduceMul]
  refine loop_inv (I := fun m st w' => Bx (m ≤ k ∧ ∃ v, st = [v, .int .i64 ((m : Int) - 1)] ∧ Fr w0 w' v (l ++ (beL k n).take (k - m))) ⟨⟩) ?_ k
    ⟨by omega, _, rfl, by simpa using h⟩
  rintro m st w1 ⟨hm, v, rfl, h1⟩
  obtain ⟨va1, vc1, rfl, _⟩ := h1.own.form
  cases m with
  | zero =>
    rw [Nat.sub_zero, List.take_of_length_le (by rw [beL_length]; omega)] at h1 ⊢
    simp (config := { maxSteps := 3000000 }) (disch := omega) only [push_cast, Nat.reduceBEq, Nat.reduceEqDiff, Nat.reduceAdd, Nat.reduceMul, Nat.reduceSub, Nat.reduceLT, Int.reduceToNat, Int.reduceLT, Int.reduceLE, Int.reduceEq, Int.reduceAdd, Int.reduceSub, Int.reduceNeg, Int.reduceMul]
    exact h1
  | succ q =>
    have e4 : ((q + 1 : Nat) : Int) - 1 = (q : Int) := by omega
    have e7 := beL_take (n := n) (k := k) (j := k - (q + 1)) (by omega)
    rw [show k - 1 - (k - (q + 1)) = q by omega, show k - (q + 1) + 1 = k - q by omega] at e7
    rw [e4]
    have e6 := shr_byte (n := n) (k := q) hn (by omega)
    have h5l : (l ++ (beL k n).take (k - (q + 1))).length < 1000000000 := by rw [List.length_append, List.length_take, beL_length]; omega
    generalize n / 256 ^ q % 256 = x at *
    obtain ⟨Q, hQ⟩ : ∃ Q, Q = 8 * q := ⟨_, rfl⟩
    rw [← hQ] at e6
    have eQ : (8 : Int) * (q : Int) = (Q : Int) := by omega
    have e5 : IntKind.u64.wrap (Q : Int) = (Q : Int) := by rw [IntKind.wrap_u64]; omega
    have hq0 : (q : Int) ≤ 7 := by omega
    generalize (l ++ (beL k n).take (k - (q + 1))).length = n5 at h1 ⊢
    simp (config := { maxSteps := 3000000 }) (disch := omega) only [push_cast, Nat.reduceBEq, Nat.reduceEqDiff, Nat.reduceAdd, Nat.reduceMul, Nat.reduceSub, Nat.reduceLT, Int.reduceToNat, Int.reduceLT, Int.reduceLE, Int.reduceEq, Int.reduceAdd, Int.reduceSub, Int.reduceNeg, Int.reduceMul, eQ, e5, e6]
    refine h1.push h5l ?_
    intro v6 w6 h6 _
    simp (config := { maxSteps := 3000000 }) (disch := omega) only [push_cast, Nat.reduceBEq, Nat.reduceEqDiff, Nat.reduceAdd, Nat.reduceMul, Nat.reduceSub, Nat.reduceLT, Int.reduceToNat, Int.reduceLT, Int.reduceLE, Int.reduceEq, Int.reduceAdd, Int.reduceSub, Int.reduceNeg, Int.reduceMul]
    exact ⟨q, by omega, by omega, v6, by congr 3, by rw [e7, ← List.append_assoc]; exact h6⟩
set_option maxHeartbeats 2000000 in
theorem rHeader_ok {w : World} {F : Nat → Prop} {y : Value} {b : List Int} (hy : SlB w F y b) (hl : b.length ≤ 400000000) {g : Nat} (hg : g < 2 ^ 63) {size : Nat} (hs : 44 ≤ size) (hs2 : size ≤ 4096) :
    Ok (den Tryd.prog 32 #[y, .int .i64 (g : Int), .int .i64 (size : Int)] w) fun u w' => Fr w w' u (hdrP size b g) := by
  obtain ⟨ya, yc, rfl, _⟩ := id hy
  refine den_ok (args := [.slice ya b.length yc, .int .i64 (g : Int), .int .i64 (size : Int)]) rs32 Tryd.func32 rfl mixed in32 ok32 rfl ?_
  have eg : IntKind.u64.wrap (g : Int) = (g : Int) := by rw [IntKind.wrap_u64]; omega
  have eb : IntKind.u64.wrap (b.length : Int) = (b.length : Int) := by rw [IntKind.wrap_u64]; omega
  simp (config := { maxSteps := 3000000 }) (disch := omega) only [push_cast, Nat.reduceBEq, Nat.reduceEqDiff, Nat.reduceAdd, Nat.reduceMul, Nat.reduceSub, Nat.reduceLT, Int.reduceToNat, Int.reduceLT, Int.reduceLE, Int.reduceEq, Int.reduceAdd, Int.reduceSub, Int.reduceNeg, Int.reduceMul, eg, eb]
  refine Ok.use (big_ok (k := 8) (Fr.nil (w := w)) (by omega) (by omega) (by simp)) ?_
  rintro u1 w1 h1
  rw [List.nil_append] at h1
  simp (config := { maxSteps := 3000000 }) (disch := omega) only [push_cast, Nat.reduceBEq, Nat.reduceEqDiff, Nat.reduceAdd, Nat.reduceMul, Nat.reduceSub, Nat.reduceLT, Int.reduceToNat, Int.reduceLT, Int.reduceLE, Int.reduceEq, Int.reduceAdd, Int.reduceSub, Int.reduceNeg, Int.reduceMul, eg, eb]
  refine Ok.use (big_ok (k := 4) h1 (n := b.length) (by omega) (by omega) (by rw [beL_length]; omega)) ?_
  rintro u2 w2 h2
  obtain ⟨M, hM⟩ : ∃ M, M = beL 8 g ++ beL 4 b.length := ⟨_, rfl⟩
  have hMl : M.length = 12 := by rw [hM, List.length_append, beL_length, beL_length]
  rw [← hM] at h2
  obtain ⟨va2, vc2, rfl, _⟩ := h2.own.form
  simp (config := { maxSteps := 3000000 }) (disch := omega) only [push_cast, Nat.reduceBEq, Nat.reduceEqDiff, Nat.reduceAdd, Nat.reduceMul, Nat.reduceSub, Nat.reduceLT, Int.reduceToNat, Int.reduceLT, Int.reduceLE, Int.reduceEq, Int.reduceAdd, Int.reduceSub, Int.reduceNeg, Int.reduceMul]
  have h3 := (Fr.empty (w := w2))
  refine h3.app (h3.old (h2.slb (F := fun _ => False) fun _ h => h.elim)) (by rw [List.length_nil]; omega) ?_
  intro v4 w4 h4 _
  rw [List.nil_append] at h4
  obtain ⟨va4, vc4, rfl, _⟩ := h4.own.form
  simp (config := { maxSteps := 3000000 }) (disch := omega) only [push_cast, Nat.reduceBEq, Nat.reduceEqDiff, Nat.reduceAdd, Nat.reduceMul, Nat.reduceSub, Nat.reduceLT, Int.reduceToNat, Int.reduceLT, Int.reduceLE, Int.reduceEq, Int.reduceAdd, Int.reduceSub, Int.reduceNeg, Int.reduceMul]
  refine h4.app ((hy.upd h2.upd fun _ h => h.elim).upd h4.upd fun _ h => h.elim) (by omega) ?_
  intro v5 w5 h5 _
  obtain ⟨va5, vc5, rfl, _⟩ := h5.own.form
  obtain ⟨MB, hMB⟩ : ∃ MB, MB = M ++ b := ⟨_, rfl⟩
  rw [← hMB] at h5 ⊢
  have hMBl : MB.length ≤ 900000000 := by rw [hMB, List.length_append]; omega
  simp (config := { maxSteps := 3000000 }) (disch := omega) only [push_cast, Nat.reduceBEq, Nat.reduceEqDiff, Nat.reduceAdd, Nat.reduceMul, Nat.reduceSub, Nat.reduceLT, Int.reduceToNat, Int.reduceLT, Int.reduceLE, Int.reduceEq, Int.reduceAdd, Int.reduceSub, Int.reduceNeg, Int.reduceMul]
  refine Ok.use (rSum_ok h5.slc.1 hMBl) ?_
  rintro v w6 ⟨rfl, hu6⟩
  have h6 : Fr w w6 (.slice va2 M.length vc2) M := (h2.quiet h5.upd).quiet hu6
  simp (config := { maxSteps := 3000000 }) (disch := omega) only [push_cast, Nat.reduceBEq, Nat.reduceEqDiff, Nat.reduceAdd, Nat.reduceMul, Nat.reduceSub, Nat.reduceLT, Int.reduceToNat, Int.reduceLT, Int.reduceLE, Int.reduceEq, Int.reduceAdd, Int.reduceSub, Int.reduceNeg, Int.reduceMul]
  refine h6.str (by rw [strOfNums_size, sumP_length]; omega) ?_
  intro v7 w7 h7 _
  rw [strL_nums sumP_rng] at h7
  have e7 : M ++ sumP MB = headP b g := by rw [hMB, hM]; rfl
  rw [e7] at h7
  simp (config := { maxSteps := 3000000 }) (disch := omega) only [push_cast, Nat.reduceBEq, Nat.reduceEqDiff, Nat.reduceAdd, Nat.reduceMul, Nat.reduceSub, Nat.reduceLT, Int.reduceToNat, Int.reduceLT, Int.reduceLE, Int.reduceEq, Int.reduceAdd, Int.reduceSub, Int.reduceNeg, Int.reduceMul]
  have hhl := headP_length (b := b) (g := g)
  unfold hdrP pad
  rw [hhl]
  generalize headP b g = P at *
  refine loop_inv (I := fun m st w' => Bx (∃ t v, m + t = size - 44 ∧ st = [v] ∧ Fr w w' v (P ++ List.replicate t 0)) ⟨⟩) ?_ (size - 44)
    ⟨0, v7, by omega, rfl, by simpa using h7⟩
  rintro m st w8 ⟨t, v, hm, rfl, h8⟩
  obtain ⟨va8, vc8, rfl, _⟩ := h8.own.form
  have hlen : (P ++ List.replicate t 0).length = 44 + t := by simp [hhl]
  rw [hlen] at h8 ⊢
  by_cases hm0 : m = 0
  · obtain rfl : t = size - 44 := by omega
    have hge : ¬ ((44 + (size - 44) : Nat) : Int) < (size : Int) := by omega
    obtain ⟨q, hq⟩ : ∃ q, q = 44 + (size - 44) := ⟨_, rfl⟩
    rw [← hq] at hge h8 ⊢
    simp (config := { maxSteps := 3000000 }) (disch := omega) only [push_cast, Nat.reduceBEq, Nat.reduceEqDiff, Nat.reduceAdd, Nat.reduceMul, Nat.reduceSub, Nat.reduceLT, Int.reduceToNat, Int.reduceLT, Int.reduceLE, Int.reduceEq, Int.reduceAdd, Int.reduceSub, Int.reduceNeg, Int.reduceMul, hge]
    exact h8
  have hlt : ((44 + t : Nat) : Int) < (size : Int) := by omega
  obtain ⟨q, hq⟩ : ∃ q, q = 44 + t := ⟨_, rfl⟩
  rw [← hq] at hlt h8 ⊢
  simp (config := { maxSteps := 3000000 }) (disch := omega) only [push_cast, Nat.reduceBEq, Nat.reduceEqDiff, Nat.reduceAdd, Nat.reduceMul, Nat.reduceSub, Nat.reduceLT, Int.reduceToNat, Int.reduceLT, Int.reduceLE, Int.reduceEq, Int.reduceAdd, Int.reduceSub, Int.reduceNeg, Int.reduceMul, hlt]
  refine h8.push (by rw [hlen]; omega) ?_
  intro v9 w9 h9 _
  simp (config := { maxSteps := 3000000 }) (disch := omega) only [push_cast, Nat.reduceBEq, Nat.reduceEqDiff, Nat.reduceAdd, Nat.reduceMul, Nat.reduceSub, Nat.reduceLT, Int.reduceToNat, Int.reduceLT, Int.reduceLE, Int.reduceEq, Int.reduceAdd, Int.reduceSub, Int.reduceNeg, Int.reduceMul]
  exact ⟨m - 1, by omega, t + 1, v9, by omega, rfl, by rw [List.replicate_succ', ← List.append_assoc]; exact h9⟩
end Go.Proofs.YtkceoefmhppddaaDoor.Fd
