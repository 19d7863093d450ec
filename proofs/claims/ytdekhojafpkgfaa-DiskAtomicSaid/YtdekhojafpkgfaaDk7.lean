/-
  The law DiskFails, as a reading: after Fail(n) exactly n operations succeed.
-/
import Derived.Test.YtdekhojafpkgfaaDk6
namespace Go.Proofs.Ytdekhojafpkgfaa.Fd
set_option linter.unusedSimpArgs false
set_option linter.unusedVariables false
open Go Go.ChangeMaps
set_option maxRecDepth 100000

/-- The disk of DiskFails after i operations. -/
structure FI (N i : Nat) (d : DS) : Prop where
  size : d.size = 16
  three : d.dur.length = 3
  few : d.cache.length ≤ i
  on : i ≤ N → d.off = false ∧ d.cnt = some (N - i)
  dn : N < i → d.off = true ∧ d.cnt = some 0
theorem FI.stepT {N i : Nat} {d : DS} (h : FI N i d) (hi : i < N) : d.step = (true, { d with cnt := some (N - (i + 1)) }) := by
  obtain ⟨h1, h2⟩ := h.on (by omega)
  unfold DS.step
  rw [h1, h2]
  obtain ⟨k, hk⟩ : ∃ k, N - i = k + 1 := ⟨N - i - 1, by omega⟩
  rw [hk]
  have : N - (i + 1) = k := by omega
  rw [this]
  rfl
theorem FI.stepF {N i : Nat} {d : DS} (h : FI N i d) (hi : N ≤ i) : d.step = (false, { d with off := true }) := by
  rcases Nat.lt_or_ge N i with h0 | h0
  · obtain ⟨h1, h2⟩ := h.dn h0
    unfold DS.step
    obtain ⟨a, b, c, e, f⟩ := d
    cases h1
    rfl
  · obtain ⟨h1, h2⟩ := h.on h0
    unfold DS.step
    rw [h1, h2, show N - i = 0 from by omega]
    rfl
theorem FI.cnt {N i : Nat} {d : DS} (h : FI N i d) : ∀ k, d.cnt = some k → k ≤ N := by
  intro k hk
  rcases Nat.lt_or_ge N i with h0 | h0
  · rw [(h.dn h0).2] at hk; cases hk; omega
  · rw [(h.on h0).2] at hk; cases hk; omega
theorem FI.syncT {N i : Nat} {d : DS} (h : FI N i d) (hi : i < N) : d.sync.2 = 0 ∧ FI N (i + 1) d.sync.1 := by
  unfold DS.sync
  rw [h.stepT hi]
  refine ⟨rfl, h.size, ?_, Nat.zero_le _, fun _ => ⟨(h.on (by omega)).1, rfl⟩, fun h0 => by omega⟩
  show (settled _ _ _ _).length = 3
  rw [settled_length]
  exact h.three
theorem FI.syncF {N i : Nat} {d : DS} (h : FI N i d) (hi : N ≤ i) : d.sync.2 = 8 ∧ FI N (i + 1) d.sync.1 := by
  unfold DS.sync
  rw [h.stepF hi]
  refine ⟨rfl, h.size, h.three, Nat.le_succ_of_le h.few, fun h0 => by omega, fun _ => ⟨rfl, ?_⟩⟩
  show d.cnt = some 0
  rcases Nat.lt_or_ge N i with h0 | h0
  · exact (h.dn h0).2
  · rw [(h.on h0).2, show N - i = 0 from by omega]
theorem FI.writeT {N i : Nat} {d : DS} (h : FI N i d) (hi : i < N) {x : Int} (hx : 0 ≤ x ∧ x < 3) {l : List Int} (hl : l.length = 16) : (d.write x l).2 = 0 ∧ FI N (i + 1) (d.write x l).1 := by
  unfold DS.write
  rw [if_pos ⟨hx.1, by rw [h.three]; omega, hl.trans h.size.symm⟩, h.stepT hi]
  refine ⟨rfl, h.size, h.three, ?_, fun _ => ⟨(h.on (by omega)).1, rfl⟩, fun h0 => by omega⟩
  have := h.few
  simp
  exact this
theorem FI.writeF {N i : Nat} {d : DS} (h : FI N i d) (hi : N ≤ i) {x : Int} (hx : 0 ≤ x ∧ x < 3) {l : List Int} (hl : l.length = 16) : (d.write x l).2 = 8 ∧ FI N (i + 1) (d.write x l).1 := by
  unfold DS.write
  rw [if_pos ⟨hx.1, by rw [h.three]; omega, hl.trans h.size.symm⟩, h.stepF hi]
  refine ⟨rfl, h.size, h.three, Nat.le_succ_of_le h.few, fun h0 => by omega, fun _ => ⟨rfl, ?_⟩⟩
  show d.cnt = some 0
  rcases Nat.lt_or_ge N i with h0 | h0
  · exact (h.dn h0).2
  · rw [(h.on h0).2, show N - i = 0 from by omega]
theorem FI.read {N i : Nat} {d : DS} (h : FI N i d) : (d.read 0).2 = if i ≤ N then 0 else 8 := by
  unfold DS.read
  rw [h.three, if_pos ⟨by omega, by omega⟩]
  rcases Nat.lt_or_ge N i with h0 | h0
  · rw [(h.dn h0).1, if_pos rfl, if_neg (by omega : ¬ i ≤ N)]
  · rw [(h.on h0).1, if_neg (by decide : ¬ (false = true)), if_pos h0]
theorem FI.bad {N i : Nat} {d : DS} (h : FI N i d) (l : List Int) : d.write 3 l = (d, 1) := by
  unfold DS.write
  rw [h.three, if_neg (by omega)]
theorem blockL_length {c : Int} : (blockL c).length = 16 := rfl

theorem FI.sync {N i : Nat} {d : DS} (h : FI N i d) : d.sync.2 = (if i < N then 0 else 8) ∧ FI N (i + 1) d.sync.1 := by
  rcases Nat.lt_or_ge i N with h0 | h0
  · rw [if_pos h0]; exact h.syncT h0
  · rw [if_neg (by omega)]; exact h.syncF h0
theorem FI.write {N i : Nat} {d : DS} (h : FI N i d) {x : Int} (hx : 0 ≤ x ∧ x < 3) {l : List Int} (hl : l.length = 16) : (d.write x l).2 = (if i < N then 0 else 8) ∧ FI N (i + 1) (d.write x l).1 := by
  rcases Nat.lt_or_ge i N with h0 | h0
  · rw [if_pos h0]; exact h.writeT h0 hx hl
  · rw [if_neg (by omega)]; exact h.writeF h0 hx hl
theorem FI.offT {N i : Nat} {d : DS} (h : FI N (i + 1) d) (hi : i < N) : d.off = false ∧ (d.read 0).2 = 0 := by
  refine ⟨(h.on hi).1, ?_⟩
  rw [h.read, if_pos (show i + 1 ≤ N from hi)]
theorem FI.offF {N i : Nat} {d : DS} (h : FI N (i + 1) d) (hi : N ≤ i) : d.off = true ∧ (d.read 0).2 = 8 := by
  refine ⟨(h.dn (by omega)).1, ?_⟩
  rw [h.read, if_neg (by omega)]

set_option maxHeartbeats 2000000 in
theorem diskFails_ok {w : World} (n : Int) {v : Value} {l : List Bool} (hv : SlT w (fun b => w.heap.size ≤ b) v l) :
    Ok (den Try.prog 7 #[.int .i64 n, v] w) fun v w' => v = .bool true ∧ Upd (fun _ => False) w w' := by
  obtain ⟨a, c, rfl, hl⟩ := hv
  refine den_ok (args := [.int .i64 n, .slice a l.length c]) rs7 Try.func7 rfl mixed in7 ok7 rfl ?_
  simp (disch := omega) only [push_cast, Nat.reduceBEq, Nat.reduceEqDiff, Nat.reduceAdd, Nat.reduceMul, Nat.reduceSub, Nat.reduceLT, Int.reduceToNat, Int.reduceLT, Int.reduceLE, Int.reduceEq, Int.reduceAdd, Int.reduceSub, Int.reduceNeg, Int.reduceMul]
  refine Ok.use awake_ok ?_
  rintro v w1 ⟨rfl, hu1⟩
  by_cases hn : 30 < n
  · simp (disch := omega) only [push_cast, Nat.reduceBEq, Nat.reduceEqDiff, Nat.reduceAdd, Nat.reduceMul, Nat.reduceSub, Nat.reduceLT, Int.reduceToNat, Int.reduceLT, Int.reduceLE, Int.reduceEq, Int.reduceAdd, Int.reduceSub, Int.reduceNeg, Int.reduceMul]
    exact hu1
  simp (disch := omega) only [push_cast, Nat.reduceBEq, Nat.reduceEqDiff, Nat.reduceAdd, Nat.reduceMul, Nat.reduceSub, Nat.reduceLT, Int.reduceToNat, Int.reduceLT, Int.reduceLE, Int.reduceEq, Int.reduceAdd, Int.reduceSub, Int.reduceNeg, Int.reduceMul]
  refine Ok.use (new_ok (n := 3) (size := 16) (by omega) (by omega) (by omega) (by omega)) ?_
  rintro v w2 ⟨p, rfl, h, hu⟩
  have a1 : At w w2 _ p (DS.new 3 16) := At.new hu1 h hu
  clear h hu
  generalize gr (fun _ => False) w1 w2 = F1 at *
  simp (disch := omega) only [push_cast, Nat.reduceBEq, Nat.reduceEqDiff, Nat.reduceAdd, Nat.reduceMul, Nat.reduceSub, Nat.reduceLT, Int.reduceToNat, Int.reduceLT, Int.reduceLE, Int.reduceEq, Int.reduceAdd, Int.reduceSub, Int.reduceNeg, Int.reduceMul]
  refine Ok.use (fail_ok a1.disk n) ?_
  rintro v w3 ⟨h, hu⟩
  replace a1 : At w w3 _ p _ := a1.step h hu
  clear h hu
  generalize gr F1 w2 w3 = F2 at *
  have f1 : FI (max n 0).toNat 0 ((DS.new 3 16).fail n) := ⟨rfl, rfl, Nat.le_refl _, fun _ => ⟨rfl, rfl⟩, fun h => by omega⟩
  generalize (DS.new 3 16).fail n = d1 at *
  generalize hN : (max n 0).toNat = N at *
  simp (disch := omega) only [push_cast, Nat.reduceBEq, Nat.reduceEqDiff, Nat.reduceAdd, Nat.reduceMul, Nat.reduceSub, Nat.reduceLT, Int.reduceToNat, Int.reduceLT, Int.reduceLE, Int.reduceEq, Int.reduceAdd, Int.reduceSub, Int.reduceNeg, Int.reduceMul]
  refine loop_inv (I := fun k st w' => Bx (∃ i F d, k + i = 40 ∧ st = [.int .i64 (i : Int)] ∧ At w w' F p d ∧ FI N i d) ⟨⟩) ?_ 40 ⟨0, F2, d1, rfl, rfl, a1, f1⟩
  clear a1 f1 hu1
  rintro k st w4 ⟨i, F, d, hki, rfl, a1, f1⟩
  have hi : i ≤ 40 := by omega
  by_cases hk : k = 0
  · obtain rfl : i = 40 := by omega
    simp (disch := omega) only [push_cast, Nat.reduceBEq, Nat.reduceEqDiff, Nat.reduceAdd, Nat.reduceMul, Nat.reduceSub, Nat.reduceLT, Int.reduceToNat, Int.reduceLT, Int.reduceLE, Int.reduceEq, Int.reduceAdd, Int.reduceSub, Int.reduceNeg, Int.reduceMul]
    refine Ok.use (crash_ok (l := []) a1.disk (by have := f1.few; omega) ⟨none, 0, rfl, fun h => absurd rfl h⟩) ?_
    rintro v w14 ⟨h, hu⟩
    replace a1 : At w w14 _ p (d.crash []) := a1.step h hu
    have g1 : (d.crash []).size = 16 ∧ (d.crash []).dur.length = 3 ∧ (d.crash []).off = false ∧ (d.crash []).cnt = none ∧ (d.crash []).cache.length = 0 :=
      ⟨f1.size, by show (settled _ _ _ _).length = 3; rw [settled_length]; exact f1.three, rfl, rfl, rfl⟩
    clear h hu f1
    generalize gr F w4 w14 = F8 at *
    generalize d.crash [] = d8 at *
    simp (disch := omega) only [push_cast, Nat.reduceBEq, Nat.reduceEqDiff, Nat.reduceAdd, Nat.reduceMul, Nat.reduceSub, Nat.reduceLT, Int.reduceToNat, Int.reduceLT, Int.reduceLE, Int.reduceEq, Int.reduceAdd, Int.reduceSub, Int.reduceNeg, Int.reduceMul]
    refine loop_inv (I := fun k st w' => Bx (∃ i F d, k + i = 40 ∧ st = [.int .i64 (i : Int)] ∧ At w w' F p d ∧ d.size = 16 ∧ d.dur.length = 3 ∧ d.off = false ∧ d.cnt = none ∧ d.cache.length = i) ⟨⟩) ?_ 40 ⟨0, F8, d8, rfl, rfl, a1, g1⟩
    clear a1 g1
    rintro k st w5 ⟨i, F, d, hki, rfl, a1, g1, g2, g3, g4, g5⟩
    by_cases hk : k = 0
    · obtain rfl : i = 40 := by omega
      simp (disch := omega) only [push_cast, Nat.reduceBEq, Nat.reduceEqDiff, Nat.reduceAdd, Nat.reduceMul, Nat.reduceSub, Nat.reduceLT, Int.reduceToNat, Int.reduceLT, Int.reduceLE, Int.reduceEq, Int.reduceAdd, Int.reduceSub, Int.reduceNeg, Int.reduceMul]
      refine Ok.use (Cached_ok a1.disk) ?_
      rintro v w' ⟨rfl, rfl⟩
      rw [g5]
      simp (disch := omega) only [push_cast, Nat.reduceBEq, Nat.reduceEqDiff, Nat.reduceAdd, Nat.reduceMul, Nat.reduceSub, Nat.reduceLT, Int.reduceToNat, Int.reduceLT, Int.reduceLE, Int.reduceEq, Int.reduceAdd, Int.reduceSub, Int.reduceNeg, Int.reduceMul]
      exact a1.upd
    · have hi : i < 40 := by omega
      simp (disch := omega) only [push_cast, Nat.reduceBEq, Nat.reduceEqDiff, Nat.reduceAdd, Nat.reduceMul, Nat.reduceSub, Nat.reduceLT, Int.reduceToNat, Int.reduceLT, Int.reduceLE, Int.reduceEq, Int.reduceAdd, Int.reduceSub, Int.reduceNeg, Int.reduceMul]
      refine Ok.use (block_ok 2) ?_
      rintro v w6 ⟨rfl, hb, hu⟩
      have s := a1.slb hb
      replace a1 := a1.quiet hu
      clear hu hb
      simp (disch := omega) only [push_cast, Nat.reduceBEq, Nat.reduceEqDiff, Nat.reduceAdd, Nat.reduceMul, Nat.reduceSub, Nat.reduceLT, Int.reduceToNat, Int.reduceLT, Int.reduceLE, Int.reduceEq, Int.reduceAdd, Int.reduceSub, Int.reduceNeg, Int.reduceMul, CV]
      refine Ok.use (write_ok a1.disk (by omega) (by omega) (fun k h => by rw [g4] at h; cases h) 0 s) ?_
      rintro v w7 ⟨rfl, h, hu⟩
      have e : d.write 0 (blockL 2) = ({ d with cache := d.cache ++ [(0, blockL 2)] }, 0) := by
        have hst : d.step = (true, d) := by
          unfold DS.step
          rw [g3, g4]
          rfl
        unfold DS.write
        rw [if_pos ⟨by omega, by omega, by rw [g1]; rfl⟩, hst]
        rfl
      rw [e] at h ⊢
      replace a1 : At w w7 _ p _ := a1.step h hu
      simp (disch := omega) only [push_cast, Nat.reduceBEq, Nat.reduceEqDiff, Nat.reduceAdd, Nat.reduceMul, Nat.reduceSub, Nat.reduceLT, Int.reduceToNat, Int.reduceLT, Int.reduceLE, Int.reduceEq, Int.reduceAdd, Int.reduceSub, Int.reduceNeg, Int.reduceMul]
      exact ⟨k - 1, by omega, i + 1, _, _, by omega, by simp, a1, g1, g2, g3, g4, by simp [g5]⟩
  have hi' : i < 40 := by omega
  have opw : ∀ {w6 : World}, At w w6 F p d → d.cache.length < 1000000000 ∧ 0 < d.size ∧ ∀ k, d.cnt = some k → k < 9223372036854775808 := fun a =>
    ⟨by have := f1.few; omega, by have := f1.size; omega, fun k hk => by have := f1.cnt k hk; omega⟩
  obtain ⟨o1, o2, o3⟩ := opw a1
  clear opw
  by_cases hlt : i < l.length
  focus
    obtain ⟨b, o, rfl, hb, hc, _⟩ := hl (by intro e; rw [e] at hlt; simp at hlt)
    have hcc := hc i hlt
    rw [← World.cell?_of_block (a1.upd.block b hb (fun h => h)), List.getElem?_eq_getElem hlt] at hcc
    simp (disch := omega) only [push_cast, Nat.reduceBEq, Nat.reduceEqDiff, Nat.reduceAdd, Nat.reduceMul, Nat.reduceSub, Nat.reduceLT, Int.reduceToNat, Int.reduceLT, Int.reduceLE, Int.reduceEq, Int.reduceAdd, Int.reduceSub, Int.reduceNeg, Int.reduceMul, hcc]
    cases l[i]
    rotate_left
    focus
      simp (disch := omega) only [push_cast, Nat.reduceBEq, Nat.reduceEqDiff, Nat.reduceAdd, Nat.reduceMul, Nat.reduceSub, Nat.reduceLT, Int.reduceToNat, Int.reduceLT, Int.reduceLE, Int.reduceEq, Int.reduceAdd, Int.reduceSub, Int.reduceNeg, Int.reduceMul]
      refine Ok.use (sync_ok a1.disk o1 o3) ?_
      rintro v w7 ⟨rfl, h, hu⟩
      replace a1 : At w w7 _ p _ := a1.step h hu
      obtain ⟨hr, f2⟩ := f1.sync
      clear h hu f1
      generalize gr F w4 w7 = F8 at *
      generalize d.sync.2 = r at *
      generalize d.sync.1 = d8 at *
    rotate_left
    focus
      simp (disch := omega) only [push_cast, Nat.reduceBEq, Nat.reduceEqDiff, Nat.reduceAdd, Nat.reduceMul, Nat.reduceSub, Nat.reduceLT, Int.reduceToNat, Int.reduceLT, Int.reduceLE, Int.reduceEq, Int.reduceAdd, Int.reduceSub, Int.reduceNeg, Int.reduceMul]
      refine Ok.use (block_ok 1) ?_
      rintro v w6 ⟨rfl, hb1, hu⟩
      have s := a1.slb hb1
      replace a1 := a1.quiet hu
      clear hu hb1
      simp (disch := omega) only [push_cast, Nat.reduceBEq, Nat.reduceEqDiff, Nat.reduceAdd, Nat.reduceMul, Nat.reduceSub, Nat.reduceLT, Int.reduceToNat, Int.reduceLT, Int.reduceLE, Int.reduceEq, Int.reduceAdd, Int.reduceSub, Int.reduceNeg, Int.reduceMul, CV]
      refine Ok.use (write_ok a1.disk o2 o1 o3 ((i : Int).tmod 3) s) ?_
      rintro v w7 ⟨rfl, h, hu⟩
      replace a1 : At w w7 _ p _ := a1.step h hu
      obtain ⟨hr, f2⟩ := f1.write (x := (i : Int).tmod 3) (l := blockL 1) (by rw [Int.tmod_eq_emod_of_nonneg (by omega)]; omega) rfl
      clear h hu f1 s
      generalize gr F w6 w7 = F8 at *
      generalize (d.write ((i : Int).tmod 3) (blockL 1)).2 = r at *
      generalize (d.write ((i : Int).tmod 3) (blockL 1)).1 = d8 at *
  rotate_left 2
  focus
    simp (disch := omega) only [push_cast, Nat.reduceBEq, Nat.reduceEqDiff, Nat.reduceAdd, Nat.reduceMul, Nat.reduceSub, Nat.reduceLT, Int.reduceToNat, Int.reduceLT, Int.reduceLE, Int.reduceEq, Int.reduceAdd, Int.reduceSub, Int.reduceNeg, Int.reduceMul]
    refine Ok.use (block_ok 1) ?_
    rintro v w6 ⟨rfl, hb1, hu⟩
    have s := a1.slb hb1
    replace a1 := a1.quiet hu
    clear hu hb1
    simp (disch := omega) only [push_cast, Nat.reduceBEq, Nat.reduceEqDiff, Nat.reduceAdd, Nat.reduceMul, Nat.reduceSub, Nat.reduceLT, Int.reduceToNat, Int.reduceLT, Int.reduceLE, Int.reduceEq, Int.reduceAdd, Int.reduceSub, Int.reduceNeg, Int.reduceMul, CV]
    refine Ok.use (write_ok a1.disk o2 o1 o3 ((i : Int).tmod 3) s) ?_
    rintro v w7 ⟨rfl, h, hu⟩
    replace a1 : At w w7 _ p _ := a1.step h hu
    obtain ⟨hr, f2⟩ := f1.write (x := (i : Int).tmod 3) (l := blockL 1) (by rw [Int.tmod_eq_emod_of_nonneg (by omega)]; omega) rfl
    clear h hu f1 s
    generalize gr F w6 w7 = F8 at *
    generalize (d.write ((i : Int).tmod 3) (blockL 1)).2 = r at *
    generalize (d.write ((i : Int).tmod 3) (blockL 1)).1 = d8 at *
  all_goals
    simp (disch := omega) only [push_cast, Nat.reduceBEq, Nat.reduceEqDiff, Nat.reduceAdd, Nat.reduceMul, Nat.reduceSub, Nat.reduceLT, Int.reduceToNat, Int.reduceLT, Int.reduceLE, Int.reduceEq, Int.reduceAdd, Int.reduceSub, Int.reduceNeg, Int.reduceMul]
    refine Ok.use (read_ok a1.disk (by rw [f2.size]; decide) (by have := f2.few; omega) 0) ?_
    rintro v w9 ⟨u, rfl, _, hu⟩
    replace a1 := a1.quiet hu
    clear hu
    rcases Nat.lt_or_ge i N with hiN | hiN
    focus
      rw [if_pos hiN] at hr
      obtain ⟨e1, e2⟩ := f2.offT hiN
      rw [e2, hr]
      have hin : (i : Int) < n := by omega
      simp (disch := omega) only [push_cast, Nat.reduceBEq, Nat.reduceEqDiff, Nat.reduceAdd, Nat.reduceMul, Nat.reduceSub, Nat.reduceLT, Int.reduceToNat, Int.reduceLT, Int.reduceLE, Int.reduceEq, Int.reduceAdd, Int.reduceSub, Int.reduceNeg, Int.reduceMul]
      refine Ok.use (Down_ok a1.disk) ?_
      rintro v w' ⟨rfl, rfl⟩
      rw [e1]
      simp (disch := omega) only [push_cast, Nat.reduceBEq, Nat.reduceEqDiff, Nat.reduceAdd, Nat.reduceMul, Nat.reduceSub, Nat.reduceLT, Int.reduceToNat, Int.reduceLT, Int.reduceLE, Int.reduceEq, Int.reduceAdd, Int.reduceSub, Int.reduceNeg, Int.reduceMul]
    rotate_left
    focus
      rw [if_neg (Nat.not_lt.2 hiN)] at hr
      obtain ⟨e1, e2⟩ := f2.offF hiN
      rw [e2, hr]
      have hin : ¬ (i : Int) < n := by omega
      simp (disch := omega) only [push_cast, Nat.reduceBEq, Nat.reduceEqDiff, Nat.reduceAdd, Nat.reduceMul, Nat.reduceSub, Nat.reduceLT, Int.reduceToNat, Int.reduceLT, Int.reduceLE, Int.reduceEq, Int.reduceAdd, Int.reduceSub, Int.reduceNeg, Int.reduceMul]
      refine Ok.use (Down_ok a1.disk) ?_
      rintro v w' ⟨rfl, rfl⟩
      rw [e1]
      simp (disch := omega) only [push_cast, Nat.reduceBEq, Nat.reduceEqDiff, Nat.reduceAdd, Nat.reduceMul, Nat.reduceSub, Nat.reduceLT, Int.reduceToNat, Int.reduceLT, Int.reduceLE, Int.reduceEq, Int.reduceAdd, Int.reduceSub, Int.reduceNeg, Int.reduceMul]
    all_goals
      refine Ok.use (block_ok 1) ?_
      rintro v w10 ⟨rfl, hb1, hu⟩
      have s := a1.slb hb1
      replace a1 := a1.quiet hu
      clear hu hb1
      simp (disch := omega) only [push_cast, Nat.reduceBEq, Nat.reduceEqDiff, Nat.reduceAdd, Nat.reduceMul, Nat.reduceSub, Nat.reduceLT, Int.reduceToNat, Int.reduceLT, Int.reduceLE, Int.reduceEq, Int.reduceAdd, Int.reduceSub, Int.reduceNeg, Int.reduceMul, CV]
      refine Ok.use (write_ok a1.disk (by rw [f2.size]; decide) (by have := f2.few; omega) (fun k hk => by have := f2.cnt k hk; omega) 3 s) ?_
      rintro v w11 ⟨rfl, h, hu⟩
      rw [f2.bad] at h ⊢
      replace a1 := a1.step h hu
      simp (disch := omega) only [push_cast, Nat.reduceBEq, Nat.reduceEqDiff, Nat.reduceAdd, Nat.reduceMul, Nat.reduceSub, Nat.reduceLT, Int.reduceToNat, Int.reduceLT, Int.reduceLE, Int.reduceEq, Int.reduceAdd, Int.reduceSub, Int.reduceNeg, Int.reduceMul]
      exact ⟨k - 1, by omega, i + 1, _, _, by omega, by simp, a1, f2⟩
theorem diskFails_law {w : World} (n : Int) (_ : (Lit.int .i64 n).wf = true) {v : Value} (h : ∃ l, SlT w (fun b => w.heap.size ≤ b) v l) :
    Ok (den Try.prog 7 #[.int .i64 n, v] w) fun v w' => v = .bool true ∧ Upd (fun _ => False) w w' := by
  obtain ⟨l, h⟩ := h
  exact diskFails_ok n h
theorem open_bools {H : Type} {enc : TypeId × Value → H} {w : World} {v : Value} {r : Reach} {b0 : Nat} {d : DataW H} {ps : List MemPlace}
    (hval : Value.okWide Try.prog w r b0 35 v) (h : DataW.Trod enc Try.prog w 0 (fun _ => true) true 35 v d ps) : ∃ l, SlT w (fun b => w.heap.size ≤ b) v l :=
  open_boolsG Try.underlying35 Try.underlying4 (by kernel_rfl) hval h
theorem open_bytes {H : Type} {enc : TypeId × Value → H} {w : World} {v : Value} {r : Reach} {b0 : Nat} {d : DataW H} {ps : List MemPlace}
    (hval : Value.okWide Try.prog w r b0 32 v) (h : DataW.Trod enc Try.prog w 0 (fun _ => true) true 32 v d ps) : ∃ l, SlB w (fun b => w.heap.size ≤ b) v l ∧ ∀ x ∈ l, (Lit.int .u8 x).wf = true :=
  open_bytesG Try.underlying32 Try.underlying5 (by kernel_rfl) hval h
end Go.Proofs.Ytdekhojafpkgfaa.Fd
