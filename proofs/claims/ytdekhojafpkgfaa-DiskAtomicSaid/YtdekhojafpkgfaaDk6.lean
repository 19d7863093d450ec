/-
  The laws DiskNew and DiskFails and DiskMemory, as readings: the call gives true and leaves what was there.
-/
import Derived.Test.YtdekhojafpkgfaaDk5
namespace Go.Proofs.Ytdekhojafpkgfaa.Fd
set_option linter.unusedSimpArgs false
set_option linter.unusedVariables false
open Go Go.ChangeMaps
set_option maxRecDepth 100000

theorem fits_ok {w : World} (x y : Int) : Ok (den Try.prog 21 #[.int .i64 x, .int .i64 y] w) fun v w' => v = .bool (decide (1 ≤ x ∧ x ≤ 65536 ∧ 16 ≤ y ∧ y ≤ 4096)) ∧ w = w' := by
  refine den_ok (args := [.int .i64 x, .int .i64 y]) rs21 Try.func21 rfl mixed in21 ok21 rfl ?_
  by_cases h1 : 1 ≤ x
  · by_cases h2 : x ≤ 65536
    · by_cases h3 : 16 ≤ y
      · simp (disch := omega) only [push_cast, Nat.reduceBEq, Nat.reduceEqDiff, Nat.reduceAdd, Nat.reduceMul, Nat.reduceSub, Nat.reduceLT, Int.reduceToNat, Int.reduceLT, Int.reduceLE, Int.reduceEq, Int.reduceAdd, Int.reduceSub, Int.reduceNeg, Int.reduceMul]
        simp [h1, h2, h3]
      · simp (disch := omega) only [push_cast, Nat.reduceBEq, Nat.reduceEqDiff, Nat.reduceAdd, Nat.reduceMul, Nat.reduceSub, Nat.reduceLT, Int.reduceToNat, Int.reduceLT, Int.reduceLE, Int.reduceEq, Int.reduceAdd, Int.reduceSub, Int.reduceNeg, Int.reduceMul]
    · simp (disch := omega) only [push_cast, Nat.reduceBEq, Nat.reduceEqDiff, Nat.reduceAdd, Nat.reduceMul, Nat.reduceSub, Nat.reduceLT, Int.reduceToNat, Int.reduceLT, Int.reduceLE, Int.reduceEq, Int.reduceAdd, Int.reduceSub, Int.reduceNeg, Int.reduceMul]
  · simp (disch := omega) only [push_cast, Nat.reduceBEq, Nat.reduceEqDiff, Nat.reduceAdd, Nat.reduceMul, Nat.reduceSub, Nat.reduceLT, Int.reduceToNat, Int.reduceLT, Int.reduceLE, Int.reduceEq, Int.reduceAdd, Int.reduceSub, Int.reduceNeg, Int.reduceMul]

theorem diskNew_ok {w : World} (x y : Int) : Ok (den Try.prog 4 #[.int .i64 x, .int .i64 y] w) fun v w' => v = .bool true ∧ Upd (fun _ => False) w w' := by
  refine den_ok (args := [.int .i64 x, .int .i64 y]) rs4 Try.func4 rfl mixed in4 ok4 rfl ?_
  simp (disch := omega) only [push_cast, Nat.reduceBEq, Nat.reduceEqDiff, Nat.reduceAdd, Nat.reduceMul, Nat.reduceSub, Nat.reduceLT, Int.reduceToNat, Int.reduceLT, Int.reduceLE, Int.reduceEq, Int.reduceAdd, Int.reduceSub, Int.reduceNeg, Int.reduceMul]
  refine Ok.use awake_ok ?_
  rintro v w1 ⟨rfl, hu1⟩
  by_cases hf : 1 ≤ x ∧ x ≤ 65536 ∧ 16 ≤ y ∧ y ≤ 4096
  · have hfd : decide (1 ≤ x ∧ x ≤ 65536 ∧ 16 ≤ y ∧ y ≤ 4096) = true := by simp [hf]
    obtain ⟨n, rfl⟩ := Int.eq_ofNat_of_zero_le (a := x) (by omega)
    obtain ⟨m, rfl⟩ := Int.eq_ofNat_of_zero_le (a := y) (by omega)
    by_cases h5 : (500 : Int) < n
    · simp (disch := omega) only [push_cast, Nat.reduceBEq, Nat.reduceEqDiff, Nat.reduceAdd, Nat.reduceMul, Nat.reduceSub, Nat.reduceLT, Int.reduceToNat, Int.reduceLT, Int.reduceLE, Int.reduceEq, Int.reduceAdd, Int.reduceSub, Int.reduceNeg, Int.reduceMul]
      refine Ok.use (fits_ok _ _) ?_
      rintro v w' ⟨rfl, rfl⟩
      rw [hfd]
      simp (disch := omega) only [push_cast, Nat.reduceBEq, Nat.reduceEqDiff, Nat.reduceAdd, Nat.reduceMul, Nat.reduceSub, Nat.reduceLT, Int.reduceToNat, Int.reduceLT, Int.reduceLE, Int.reduceEq, Int.reduceAdd, Int.reduceSub, Int.reduceNeg, Int.reduceMul]
      exact hu1
    · simp (disch := omega) only [push_cast, Nat.reduceBEq, Nat.reduceEqDiff, Nat.reduceAdd, Nat.reduceMul, Nat.reduceSub, Nat.reduceLT, Int.reduceToNat, Int.reduceLT, Int.reduceLE, Int.reduceEq, Int.reduceAdd, Int.reduceSub, Int.reduceNeg, Int.reduceMul]
      refine Ok.use (new_ok (n := n) (size := m) (by omega) (by omega) (by omega) (by omega)) ?_
      rintro v w2 ⟨p, rfl, h, hu2⟩
      simp (disch := omega) only [push_cast, Nat.reduceBEq, Nat.reduceEqDiff, Nat.reduceAdd, Nat.reduceMul, Nat.reduceSub, Nat.reduceLT, Int.reduceToNat, Int.reduceLT, Int.reduceLE, Int.reduceEq, Int.reduceAdd, Int.reduceSub, Int.reduceNeg, Int.reduceMul]
      refine Ok.use (fits_ok _ _) ?_
      rintro v w' ⟨rfl, rfl⟩
      rw [hfd]
      simp (disch := omega) only [push_cast, Nat.reduceBEq, Nat.reduceEqDiff, Nat.reduceAdd, Nat.reduceMul, Nat.reduceSub, Nat.reduceLT, Int.reduceToNat, Int.reduceLT, Int.reduceLE, Int.reduceEq, Int.reduceAdd, Int.reduceSub, Int.reduceNeg, Int.reduceMul]
      refine Ok.use (Sectors_ok h) ?_
      rintro v w' ⟨rfl, rfl⟩
      rw [show (((DS.new n m).dur.length : Nat) : Int) = n from by simp [DS.new]]
      simp (disch := omega) only [push_cast, Nat.reduceBEq, Nat.reduceEqDiff, Nat.reduceAdd, Nat.reduceMul, Nat.reduceSub, Nat.reduceLT, Int.reduceToNat, Int.reduceLT, Int.reduceLE, Int.reduceEq, Int.reduceAdd, Int.reduceSub, Int.reduceNeg, Int.reduceMul]
      refine Ok.use (Size_ok h) ?_
      rintro v w' ⟨rfl, rfl⟩
      rw [show (((DS.new n m).size : Nat) : Int) = m from rfl]
      simp (disch := omega) only [push_cast, Nat.reduceBEq, Nat.reduceEqDiff, Nat.reduceAdd, Nat.reduceMul, Nat.reduceSub, Nat.reduceLT, Int.reduceToNat, Int.reduceLT, Int.reduceLE, Int.reduceEq, Int.reduceAdd, Int.reduceSub, Int.reduceNeg, Int.reduceMul]
      refine Ok.use (Cached_ok h) ?_
      rintro v w' ⟨rfl, rfl⟩
      rw [show (((DS.new n m).cache.length : Nat) : Int) = 0 from rfl]
      simp (disch := omega) only [push_cast, Nat.reduceBEq, Nat.reduceEqDiff, Nat.reduceAdd, Nat.reduceMul, Nat.reduceSub, Nat.reduceLT, Int.reduceToNat, Int.reduceLT, Int.reduceLE, Int.reduceEq, Int.reduceAdd, Int.reduceSub, Int.reduceNeg, Int.reduceMul]
      refine Ok.use (Down_ok h) ?_
      rintro v w' ⟨rfl, rfl⟩
      rw [show (DS.new n m).off = false from rfl]
      simp (disch := omega) only [push_cast, Nat.reduceBEq, Nat.reduceEqDiff, Nat.reduceAdd, Nat.reduceMul, Nat.reduceSub, Nat.reduceLT, Int.reduceToNat, Int.reduceLT, Int.reduceLE, Int.reduceEq, Int.reduceAdd, Int.reduceSub, Int.reduceNeg, Int.reduceMul]
      exact hu1.trans hu2 (fun _ _ h => h)
  · have hfd : decide (1 ≤ x ∧ x ≤ 65536 ∧ 16 ≤ y ∧ y ≤ 4096) = false := by simpa using hf
    have fin : ∀ {K : Value → World → Prop}, K (.tuple #[.pointer none, .int .i64 1]) w1 → Ok (den Try.prog 11 #[.int .i64 x, .int .i64 y] w1) K := by
      intro K hK
      refine (new_bad hf).mono ?_
      rintro v w' ⟨rfl, rfl⟩
      exact hK
    by_cases h5 : 500 < x
    · simp (disch := omega) only [push_cast, Nat.reduceBEq, Nat.reduceEqDiff, Nat.reduceAdd, Nat.reduceMul, Nat.reduceSub, Nat.reduceLT, Int.reduceToNat, Int.reduceLT, Int.reduceLE, Int.reduceEq, Int.reduceAdd, Int.reduceSub, Int.reduceNeg, Int.reduceMul]
      refine Ok.use (fits_ok _ _) ?_
      rintro v w' ⟨rfl, rfl⟩
      rw [hfd]
      simp (disch := omega) only [push_cast, Nat.reduceBEq, Nat.reduceEqDiff, Nat.reduceAdd, Nat.reduceMul, Nat.reduceSub, Nat.reduceLT, Int.reduceToNat, Int.reduceLT, Int.reduceLE, Int.reduceEq, Int.reduceAdd, Int.reduceSub, Int.reduceNeg, Int.reduceMul]
      refine Ok.use (new_bad hf) ?_
      rintro v w' ⟨rfl, rfl⟩
      simp (disch := omega) only [push_cast, Nat.reduceBEq, Nat.reduceEqDiff, Nat.reduceAdd, Nat.reduceMul, Nat.reduceSub, Nat.reduceLT, Int.reduceToNat, Int.reduceLT, Int.reduceLE, Int.reduceEq, Int.reduceAdd, Int.reduceSub, Int.reduceNeg, Int.reduceMul]
      refine Ok.use (fits_ok _ _) ?_
      rintro v w' ⟨rfl, rfl⟩
      rw [hfd]
      simp (disch := omega) only [push_cast, Nat.reduceBEq, Nat.reduceEqDiff, Nat.reduceAdd, Nat.reduceMul, Nat.reduceSub, Nat.reduceLT, Int.reduceToNat, Int.reduceLT, Int.reduceLE, Int.reduceEq, Int.reduceAdd, Int.reduceSub, Int.reduceNeg, Int.reduceMul]
      exact hu1
    · simp (disch := omega) only [push_cast, Nat.reduceBEq, Nat.reduceEqDiff, Nat.reduceAdd, Nat.reduceMul, Nat.reduceSub, Nat.reduceLT, Int.reduceToNat, Int.reduceLT, Int.reduceLE, Int.reduceEq, Int.reduceAdd, Int.reduceSub, Int.reduceNeg, Int.reduceMul]
      refine Ok.use (new_bad hf) ?_
      rintro v w' ⟨rfl, rfl⟩
      simp (disch := omega) only [push_cast, Nat.reduceBEq, Nat.reduceEqDiff, Nat.reduceAdd, Nat.reduceMul, Nat.reduceSub, Nat.reduceLT, Int.reduceToNat, Int.reduceLT, Int.reduceLE, Int.reduceEq, Int.reduceAdd, Int.reduceSub, Int.reduceNeg, Int.reduceMul]
      refine Ok.use (fits_ok _ _) ?_
      rintro v w' ⟨rfl, rfl⟩
      rw [hfd]
      simp (disch := omega) only [push_cast, Nat.reduceBEq, Nat.reduceEqDiff, Nat.reduceAdd, Nat.reduceMul, Nat.reduceSub, Nat.reduceLT, Int.reduceToNat, Int.reduceLT, Int.reduceLE, Int.reduceEq, Int.reduceAdd, Int.reduceSub, Int.reduceNeg, Int.reduceMul]
      exact hu1
theorem diskNew_law {w : World} (x : Int) (_ : (Lit.int .i64 x).wf = true) (y : Int) (_ : (Lit.int .i64 y).wf = true) :
    Ok (den Try.prog 4 #[.int .i64 x, .int .i64 y] w) fun v w' => v = .bool true ∧ Upd (fun _ => False) w w' := diskNew_ok x y
end Go.Proofs.Ytdekhojafpkgfaa.Fd
