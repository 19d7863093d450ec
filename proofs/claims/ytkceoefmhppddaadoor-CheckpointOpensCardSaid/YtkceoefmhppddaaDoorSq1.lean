/-
  CheckpointOpens.
-/
import Derived.Test.YtkceoefmhppddaaDoorSp4
namespace Go.Proofs.YtkceoefmhppddaaDoor.Fd
set_option linter.unusedSimpArgs false
set_option linter.unusedVariables false
open Go
set_option maxRecDepth 100000
set_option maxHeartbeats 2000000 in
theorem opens_tail {w : World} (hK : KT w) {D : Nat → Prop} {p : Nat} {d : DS} (hd : IsDisk w D p d) (hD0 : ¬ D 0) {N sz : Nat} (hwf : WfD N sz 5 d) (hca : d.cache = []) (hz : ∀ a, a < N → DurL d a = List.replicate sz 0) (hN : N ≤ 100) (h1 : 16 ≤ sz) (h2 : sz ≤ 4096) {first count : Int}
    (hf : -9223372036854775808 ≤ first ∧ first < 9223372036854775808) (hc : -9223372036854775808 ≤ count ∧ count < 9223372036854775808) {K : Value × World → Prop}
    (k1 : (first < 0 ∨ count < 4 ∨ (N : Int) < count ∨ (N : Int) - count < first ∨ sz < 64) → ∀ w', Upd (fun _ => False) w w' → K (.tuple #[.pointer none, .int .i64 1], w'))
    (k2 : 0 ≤ first ∧ 4 ≤ count ∧ first + count ≤ N ∧ 64 ≤ sz → d.off = true → ∀ w', Upd (fun _ => False) w w' → K (.tuple #[.pointer none, .int .i64 8], w'))
    (k3 : 0 ≤ first ∧ 4 ≤ count ∧ first + count ≤ N ∧ 64 ≤ sz → d.off = false → ∀ w' cb, Upd (fun _ => False) w w' → CW w' D (fun b => b = cb) p cb (d, ⟨first.toNat, count.toNat / 2, 1, [], 0, false⟩) → K (.tuple #[.pointer (some ⟨cb, 0, none⟩), .int .i64 0], w')) :
    Okk (den Tryd.prog 13 #[.pointer (some ⟨p, 0, none⟩), .int .i64 first, .int .i64 count] w) K := by
  by_cases hb : first < 0 ∨ count < 4 ∨ (N : Int) < count ∨ (N : Int) - count < first ∨ sz < 64
  · refine Ok.use (open_bad hd (by rw [hwf.sz.dur]; omega) hf (by rw [hwf.sz.dur, hwf.sz.size]; exact hb)) ?_
    rintro v w' ⟨rfl, hu⟩
    exact k1 hb w' hu
  · obtain ⟨f, rfl⟩ := Int.eq_ofNat_of_zero_le (show 0 ≤ first by omega)
    obtain ⟨c, rfl⟩ := Int.eq_ofNat_of_zero_le (show 0 ≤ count by omega)
    refine Ok.use (open_ok hK hd hD0 hwf.sz (by omega) (by omega) (by omega) h2 (by omega) (by omega) (by omega) (by omega) fun y hy => hwf.content hy) ?_
    rintro v w' ⟨hv, hu⟩
    cases hoff : d.off
    · rw [hoff] at hv
      simp only [Bool.false_eq_true, if_false] at hv
      obtain ⟨cb, _, rfl, hw⟩ := hv
      have hop : openC d f (c / 2) = ⟨f, c / 2, 1, [], 0, false⟩ := by
        rw [openC_L, openL_congr (L' := DurL d) fun a _ _ => content_nil hca]
        exact openL_zero (by omega) (hz _ (by omega)) (hz _ (by omega))
      rw [hop] at hw
      exact k3 (by omega) hoff w' cb hu hw
    · rw [hoff] at hv
      simp only [if_true] at hv
      subst hv
      exact k2 (by omega) hoff w' hu
set_option maxHeartbeats 2000000 in
theorem opens_ok {w : World} (hK : KT w) {sectors size first count : Int} {down : Bool} (h1 : -9223372036854775808 ≤ sectors ∧ sectors < 9223372036854775808) (h2 : -9223372036854775808 ≤ size ∧ size < 9223372036854775808) (h3 : -9223372036854775808 ≤ first ∧ first < 9223372036854775808) (h4 : -9223372036854775808 ≤ count ∧ count < 9223372036854775808) :
    Ok (den Tryd.prog 6 #[.int .i64 sectors, .int .i64 size, .int .i64 first, .int .i64 count, .bool down] w) fun v w' => v = .bool true ∧ Upd (fun _ => False) w w' := by
  refine den_ok (args := [.int .i64 sectors, .int .i64 size, .int .i64 first, .int .i64 count, .bool down]) rs6 Tryd.func6 rfl mixed in6 ok6 rfl ?_
  simp (config := { maxSteps := 3000000 }) (disch := omega) only [push_cast, Nat.reduceBEq, Nat.reduceEqDiff, Nat.reduceAdd, Nat.reduceMul, Nat.reduceSub, Nat.reduceLT, Int.reduceToNat, Int.reduceLT, Int.reduceLE, Int.reduceEq, Int.reduceAdd, Int.reduceSub, Int.reduceNeg, Int.reduceMul]
  refine Ok.use (awake_ok hK) ?_
  rintro v w1 ⟨rfl, hu1⟩
  by_cases hs : 100 < sectors
  · simp (config := { maxSteps := 3000000 }) (disch := omega) only [push_cast, Nat.reduceBEq, Nat.reduceEqDiff, Nat.reduceAdd, Nat.reduceMul, Nat.reduceSub, Nat.reduceLT, Int.reduceToNat, Int.reduceLT, Int.reduceLE, Int.reduceEq, Int.reduceAdd, Int.reduceSub, Int.reduceNeg, Int.reduceMul, hs]
    exact hu1
  simp (config := { maxSteps := 3000000 }) (disch := omega) only [push_cast, Nat.reduceBEq, Nat.reduceEqDiff, Nat.reduceAdd, Nat.reduceMul, Nat.reduceSub, Nat.reduceLT, Int.reduceToNat, Int.reduceLT, Int.reduceLE, Int.reduceEq, Int.reduceAdd, Int.reduceSub, Int.reduceNeg, Int.reduceMul, hs]
  by_cases hnew : 1 ≤ sectors ∧ sectors ≤ 65536 ∧ 16 ≤ size ∧ size ≤ 4096
  · obtain ⟨N, rfl⟩ := Int.eq_ofNat_of_zero_le (show 0 ≤ sectors by omega)
    obtain ⟨sz, rfl⟩ := Int.eq_ofNat_of_zero_le (show 0 ≤ size by omega)
    refine Ok.use (new_ok (n := N) (size := sz) (by omega) (by omega) (by omega) (by omega)) ?_
    rintro v w2 ⟨p, rfl, hd2, hu2⟩
    have hK1 := hK.upd hu1 fun h => h
    have hK2 := hK1.upd hu2 fun h => h
    have hD0 : ¬ gr (fun _ => False) w1 w2 0 := fun h => h.elim (fun h => h) fun h => by have := hK1.1; omega
    have hu02 := hu1.trans hu2 fun _ _ h => h
    have hwf : WfD N sz 0 (DS.new N sz) := WfD.new
    cases down
    · simp (config := { maxSteps := 3000000 }) (disch := omega) only [push_cast, Nat.reduceBEq, Nat.reduceEqDiff, Nat.reduceAdd, Nat.reduceMul, Nat.reduceSub, Nat.reduceLT, Int.reduceToNat, Int.reduceLT, Int.reduceLE, Int.reduceEq, Int.reduceAdd, Int.reduceSub, Int.reduceNeg, Int.reduceMul]
      refine opens_tail hK2 hd2 hD0 (hwf.mono (by omega)) rfl (fun a ha => new_durl ha) (by omega) (by omega) (by omega) h3 h4 (fun hb w' hu => ?_) (fun hb hoff => absurd hoff (by show ¬ false = true; decide)) fun hb hoff w' cb hu hw => ?_
      · by_cases a1 : first < 0
        · simp (config := { maxSteps := 3000000 }) (disch := omega) only [push_cast, Nat.reduceBEq, Nat.reduceEqDiff, Nat.reduceAdd, Nat.reduceMul, Nat.reduceSub, Nat.reduceLT, Int.reduceToNat, Int.reduceLT, Int.reduceLE, Int.reduceEq, Int.reduceAdd, Int.reduceSub, Int.reduceNeg, Int.reduceMul, a1]
          exact hu02.trans hu fun _ _ h => h
        by_cases a2 : count < 4
        · simp (config := { maxSteps := 3000000 }) (disch := omega) only [push_cast, Nat.reduceBEq, Nat.reduceEqDiff, Nat.reduceAdd, Nat.reduceMul, Nat.reduceSub, Nat.reduceLT, Int.reduceToNat, Int.reduceLT, Int.reduceLE, Int.reduceEq, Int.reduceAdd, Int.reduceSub, Int.reduceNeg, Int.reduceMul, a1, a2]
          exact hu02.trans hu fun _ _ h => h
        by_cases a3 : (N : Int) < first
        · simp (config := { maxSteps := 3000000 }) (disch := omega) only [push_cast, Nat.reduceBEq, Nat.reduceEqDiff, Nat.reduceAdd, Nat.reduceMul, Nat.reduceSub, Nat.reduceLT, Int.reduceToNat, Int.reduceLT, Int.reduceLE, Int.reduceEq, Int.reduceAdd, Int.reduceSub, Int.reduceNeg, Int.reduceMul, a1, a2, a3]
          exact hu02.trans hu fun _ _ h => h
        by_cases a4 : (N : Int) - first < count
        · simp (config := { maxSteps := 3000000 }) (disch := omega) only [push_cast, Nat.reduceBEq, Nat.reduceEqDiff, Nat.reduceAdd, Nat.reduceMul, Nat.reduceSub, Nat.reduceLT, Int.reduceToNat, Int.reduceLT, Int.reduceLE, Int.reduceEq, Int.reduceAdd, Int.reduceSub, Int.reduceNeg, Int.reduceMul, a1, a2, a3, a4]
          exact hu02.trans hu fun _ _ h => h
        have a5 : (sz : Int) < 64 := by omega
        simp (config := { maxSteps := 3000000 }) (disch := omega) only [push_cast, Nat.reduceBEq, Nat.reduceEqDiff, Nat.reduceAdd, Nat.reduceMul, Nat.reduceSub, Nat.reduceLT, Int.reduceToNat, Int.reduceLT, Int.reduceLE, Int.reduceEq, Int.reduceAdd, Int.reduceSub, Int.reduceNeg, Int.reduceMul, a1, a2, a3, a4, a5]
        exact hu02.trans hu fun _ _ h => h
      · have a1 : ¬ first < 0 := by omega
        have a2 : ¬ count < 4 := by omega
        have a3 : ¬ (N : Int) < first := by omega
        have a4 : ¬ (N : Int) - first < count := by omega
        have a5 : ¬ (sz : Int) < 64 := by omega
        simp (config := { maxSteps := 3000000 }) (disch := omega) only [push_cast, Nat.reduceBEq, Nat.reduceEqDiff, Nat.reduceAdd, Nat.reduceMul, Nat.reduceSub, Nat.reduceLT, Int.reduceToNat, Int.reduceLT, Int.reduceLE, Int.reduceEq, Int.reduceAdd, Int.reduceSub, Int.reduceNeg, Int.reduceMul, a1, a2, a3, a4, a5]
        refine Ok.use (load_ok hw (by show 0 ≤ _; omega) (by show 0 ≤ _; omega)) ?_
        rintro v w4 ⟨u, rfl, hL⟩
        rw [show cload ((DS.new N sz, (⟨first.toNat, count.toNat / 2, 1, [], 0, false⟩ : CS)).2) = ([], 0) from rfl] at hL ⊢
        obtain ⟨ua, uc, rfl, _⟩ := hL.own.form
        have hw4 := hw.quiet hL.upd
        simp (config := { maxSteps := 3000000 }) (disch := omega) only [push_cast, Nat.reduceBEq, Nat.reduceEqDiff, Nat.reduceAdd, Nat.reduceMul, Nat.reduceSub, Nat.reduceLT, Int.reduceToNat, Int.reduceLT, Int.reduceLE, Int.reduceEq, Int.reduceAdd, Int.reduceSub, Int.reduceNeg, Int.reduceMul]
        refine Ok.use (Room_ok hw4 (by show 1 ≤ count.toNat / 2; omega) (by show count.toNat / 2 ≤ _; omega) (by show sz ≤ _; omega)) ?_
        rintro v w5 ⟨rfl, hu5⟩
        dsimp only
        rw [show (DS.new N sz).size = sz from rfl]
        obtain ⟨c, rfl⟩ := Int.eq_ofNat_of_zero_le (show 0 ≤ count by omega)
        obtain ⟨m, hm⟩ : ∃ m, m = c / 2 - 1 := ⟨_, rfl⟩
        have e2 : IntKind.i64.wrap ((c : Int).tdiv 2) = ((c / 2 : Nat) : Int) := by
          rw [show (2 : Int) = ((2 : Nat) : Int) from rfl, ← Int.ofNat_tdiv, IntKind.wrap_i64]; omega
        obtain ⟨q, hq⟩ : ∃ q, q = c / 2 := ⟨_, rfl⟩
        rw [Int.toNat_natCast, ← hm]
        rw [← hq] at e2 hm
        have e3 : (q : Int) - 1 = (m : Int) := by omega
        have hmz : m * sz ≤ 50 * 4096 := Nat.mul_le_mul (by omega) (by omega)
        obtain ⟨z, hz⟩ : ∃ z, z = m * sz := ⟨_, rfl⟩
        have e4 : (m : Int) * (sz : Int) = (z : Int) := by rw [hz, Int.natCast_mul]
        rw [← hz] at hmz ⊢
        simp (config := { maxSteps := 3000000 }) (disch := omega) only [push_cast, Nat.reduceBEq, Nat.reduceEqDiff, Nat.reduceAdd, Nat.reduceMul, Nat.reduceSub, Nat.reduceLT, Int.reduceToNat, Int.reduceLT, Int.reduceLE, Int.reduceEq, Int.reduceAdd, Int.reduceSub, Int.reduceNeg, Int.reduceMul, e2, e3, e4]
        exact ((hu02.trans hu fun _ _ h => h).trans hL.upd fun _ _ h => h).trans hu5 fun _ _ h => h
    · simp (config := { maxSteps := 3000000 }) (disch := omega) only [push_cast, Nat.reduceBEq, Nat.reduceEqDiff, Nat.reduceAdd, Nat.reduceMul, Nat.reduceSub, Nat.reduceLT, Int.reduceToNat, Int.reduceLT, Int.reduceLE, Int.reduceEq, Int.reduceAdd, Int.reduceSub, Int.reduceNeg, Int.reduceMul]
      refine Ok.use (fail_ok hd2 0) ?_
      rintro v w3 ⟨hd3, hu3⟩
      have hwf3 : WfD N sz 0 ((DS.new N sz).fail 0) := hwf.fail (by omega)
      simp (config := { maxSteps := 3000000 }) (disch := omega) only [push_cast, Nat.reduceBEq, Nat.reduceEqDiff, Nat.reduceAdd, Nat.reduceMul, Nat.reduceSub, Nat.reduceLT, Int.reduceToNat, Int.reduceLT, Int.reduceLE, Int.reduceEq, Int.reduceAdd, Int.reduceSub, Int.reduceNeg, Int.reduceMul]
      refine Ok.use (sync_ok hd3 (by have := hwf3.sz.few; omega) hwf3.sz.cnt) ?_
      rintro v w4 ⟨rfl, hd4, hu4⟩
      have hwf4 := hwf3.sync
      have hoff4 : ((DS.new N sz).fail 0).sync.1.off = true := rfl
      have hca4 : ((DS.new N sz).fail 0).sync.1.cache = [] := rfl
      have hz4 : ∀ a, a < N → DurL ((DS.new N sz).fail 0).sync.1 a = List.replicate sz 0 := fun a ha => by
        show DurL (DS.new N sz) a = _
        exact new_durl ha
      generalize ((DS.new N sz).fail 0).sync = r at *
      obtain ⟨d, code⟩ := r
      dsimp only at hd4 hwf4 hoff4 hca4 hz4 ⊢
      simp (config := { maxSteps := 3000000 }) (disch := omega) only [push_cast, Nat.reduceBEq, Nat.reduceEqDiff, Nat.reduceAdd, Nat.reduceMul, Nat.reduceSub, Nat.reduceLT, Int.reduceToNat, Int.reduceLT, Int.reduceLE, Int.reduceEq, Int.reduceAdd, Int.reduceSub, Int.reduceNeg, Int.reduceMul]
      have g1 : ∀ q, gr (fun _ => False) w1 w2 q → w1.heap.size ≤ q := fun q hq => hq.elim (fun h => h.elim) fun h => h.1
      have s2 := hu2.size
      have s3 := hu3.size
      have g2 : ∀ q, gr (gr (fun _ => False) w1 w2) w2 w3 q → w1.heap.size ≤ q := fun q hq => hq.elim (g1 q) fun h => by have := h.1; omega
      have g3 : ∀ q, gr (gr (gr (fun _ => False) w1 w2) w2 w3) w3 w4 q → w1.heap.size ≤ q := fun q hq => hq.elim (g2 q) fun h => by have := h.1; omega
      have hu14 : Upd (fun _ => False) w1 w4 := ((hu2.trans hu3 fun q hq h => by have := g1 q h; omega).trans hu4 fun q hq h => by have := g2 q h; omega)
      have hu02 := hu1.trans hu14 fun _ _ h => h
      have hK4 := hK1.upd hu14 fun h => h
      refine opens_tail hK4 hd4 (fun h => by have := g3 0 h; have := hK1.1; omega) (hwf4.mono (by omega)) hca4 hz4 (by omega) (by omega) (by omega) h3 h4 (fun hb w' hu => ?_) (fun hb hoff w' hu => ?_) fun hb hoff => absurd (hoff4.symm.trans hoff) (by decide)
      · by_cases a1 : first < 0
        · simp (config := { maxSteps := 3000000 }) (disch := omega) only [push_cast, Nat.reduceBEq, Nat.reduceEqDiff, Nat.reduceAdd, Nat.reduceMul, Nat.reduceSub, Nat.reduceLT, Int.reduceToNat, Int.reduceLT, Int.reduceLE, Int.reduceEq, Int.reduceAdd, Int.reduceSub, Int.reduceNeg, Int.reduceMul, a1]
          exact hu02.trans hu fun _ _ h => h
        by_cases a2 : count < 4
        · simp (config := { maxSteps := 3000000 }) (disch := omega) only [push_cast, Nat.reduceBEq, Nat.reduceEqDiff, Nat.reduceAdd, Nat.reduceMul, Nat.reduceSub, Nat.reduceLT, Int.reduceToNat, Int.reduceLT, Int.reduceLE, Int.reduceEq, Int.reduceAdd, Int.reduceSub, Int.reduceNeg, Int.reduceMul, a1, a2]
          exact hu02.trans hu fun _ _ h => h
        by_cases a3 : (N : Int) < first
        · simp (config := { maxSteps := 3000000 }) (disch := omega) only [push_cast, Nat.reduceBEq, Nat.reduceEqDiff, Nat.reduceAdd, Nat.reduceMul, Nat.reduceSub, Nat.reduceLT, Int.reduceToNat, Int.reduceLT, Int.reduceLE, Int.reduceEq, Int.reduceAdd, Int.reduceSub, Int.reduceNeg, Int.reduceMul, a1, a2, a3]
          exact hu02.trans hu fun _ _ h => h
        by_cases a4 : (N : Int) - first < count
        · simp (config := { maxSteps := 3000000 }) (disch := omega) only [push_cast, Nat.reduceBEq, Nat.reduceEqDiff, Nat.reduceAdd, Nat.reduceMul, Nat.reduceSub, Nat.reduceLT, Int.reduceToNat, Int.reduceLT, Int.reduceLE, Int.reduceEq, Int.reduceAdd, Int.reduceSub, Int.reduceNeg, Int.reduceMul, a1, a2, a3, a4]
          exact hu02.trans hu fun _ _ h => h
        have a5 : (sz : Int) < 64 := by omega
        simp (config := { maxSteps := 3000000 }) (disch := omega) only [push_cast, Nat.reduceBEq, Nat.reduceEqDiff, Nat.reduceAdd, Nat.reduceMul, Nat.reduceSub, Nat.reduceLT, Int.reduceToNat, Int.reduceLT, Int.reduceLE, Int.reduceEq, Int.reduceAdd, Int.reduceSub, Int.reduceNeg, Int.reduceMul, a1, a2, a3, a4, a5]
        exact hu02.trans hu fun _ _ h => h
      · have a1 : ¬ first < 0 := by omega
        have a2 : ¬ count < 4 := by omega
        have a3 : ¬ (N : Int) < first := by omega
        have a4 : ¬ (N : Int) - first < count := by omega
        have a5 : ¬ (sz : Int) < 64 := by omega
        simp (config := { maxSteps := 3000000 }) (disch := omega) only [push_cast, Nat.reduceBEq, Nat.reduceEqDiff, Nat.reduceAdd, Nat.reduceMul, Nat.reduceSub, Nat.reduceLT, Int.reduceToNat, Int.reduceLT, Int.reduceLE, Int.reduceEq, Int.reduceAdd, Int.reduceSub, Int.reduceNeg, Int.reduceMul, a1, a2, a3, a4, a5]
        exact hu02.trans hu fun _ _ h => h
  · refine Ok.use (new_bad hnew) ?_
    rintro v _ ⟨rfl, rfl⟩
    simp (config := { maxSteps := 3000000 }) (disch := omega) only [push_cast, Nat.reduceBEq, Nat.reduceEqDiff, Nat.reduceAdd, Nat.reduceMul, Nat.reduceSub, Nat.reduceLT, Int.reduceToNat, Int.reduceLT, Int.reduceLE, Int.reduceEq, Int.reduceAdd, Int.reduceSub, Int.reduceNeg, Int.reduceMul]
    exact hu1
theorem i64_of {x : Int} (h : (Lit.int .i64 x).wf = true) : -9223372036854775808 ≤ x ∧ x < 9223372036854775808 := by
  simp only [Lit.wf, Bool.and_eq_true, decide_eq_true_eq] at h
  obtain ⟨h1, h2⟩ := h
  exact ⟨h1, by have : x ≤ 9223372036854775807 := h2; omega⟩
theorem checkpointOpens_law {w : World} (hK : KT w) (sectors : Int) (w1 : (Lit.int .i64 sectors).wf = true) (size : Int) (w2 : (Lit.int .i64 size).wf = true) (first : Int) (w3 : (Lit.int .i64 first).wf = true) (count : Int) (w4 : (Lit.int .i64 count).wf = true) (down : Bool) :
    Ok (den Tryd.prog 6 #[.int .i64 sectors, .int .i64 size, .int .i64 first, .int .i64 count, .bool down] w) fun v w' => v = .bool true ∧ Upd (fun _ => False) w w' :=
  opens_ok hK (i64_of w1) (i64_of w2) (i64_of w3) (i64_of w4)
end Go.Proofs.YtkceoefmhppddaaDoor.Fd
