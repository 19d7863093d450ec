/-
  CheckpointFinds.
-/
import Derived.Test.YtkceoefmhppddaaDoorSl1
namespace Go.Proofs.YtkceoefmhppddaaDoor.Fd
set_option linter.unusedSimpArgs false
set_option linter.unusedVariables false
open Go
set_option maxRecDepth 100000
set_option maxHeartbeats 4000000 in
theorem finds_ok {w : World} (hK : KT w) {s : Nat} (hs : s < 256) {vc : Value} {ls : List (List Int)} (hvc : SlRC w (fun b => w.heap.size ≤ b) vc ls) (hrl : RngL ls) :
    Ok (den Tryd.prog 4 #[.int .u8 (s : Int), vc] w) fun u w' => u = .bool true ∧ Upd (fun _ => False) w w' := by
  have t := fun {a b c : World} (x : Upd (fun _ => False) a b) (y : Upd (fun _ => False) b c) => x.trans y (F := fun _ => False) (fun _ _ h => h)
  obtain ⟨ca, cc, rfl, _⟩ := id hvc
  refine den_ok (args := [.int .u8 (s : Int), .slice ca ls.length cc]) rs4 Tryd.func4 rfl mixed in4 ok4 rfl ?_
  simp (config := { maxSteps := 3000000 }) (disch := omega) only [push_cast, Nat.reduceBEq, Nat.reduceEqDiff, Nat.reduceAdd, Nat.reduceMul, Nat.reduceSub, Nat.reduceLT, Int.reduceToNat, Int.reduceLT, Int.reduceLE, Int.reduceEq, Int.reduceAdd, Int.reduceSub, Int.reduceNeg, Int.reduceMul]
  refine Ok.use (awake_ok hK) ?_
  rintro v w1 ⟨rfl, hu1⟩
  simp (config := { maxSteps := 3000000 }) (disch := omega) only [push_cast, Nat.reduceBEq, Nat.reduceEqDiff, Nat.reduceAdd, Nat.reduceMul, Nat.reduceSub, Nat.reduceLT, Int.reduceToNat, Int.reduceLT, Int.reduceLE, Int.reduceEq, Int.reduceAdd, Int.reduceSub, Int.reduceNeg, Int.reduceMul]
  refine Ok.use (make64_ok (F := fun b => w.heap.size ≤ b) hs (hvc.slr.go hu1 fun b hb h => h.elim (fun h => h.elim) fun h => h) hrl fun b hb => Nat.le_trans hu1.size hb) ?_
  rintro v w2 ⟨hv, hu2⟩
  have hu02 := t hu1 hu2
  unfold Mk64 at hv
  by_cases h20 : 20 < ls.length
  · have h20i : (20 : Int) < (ls.length : Int) := by omega
    rw [if_pos h20] at hv
    subst hv
    simp (config := { maxSteps := 3000000 }) (disch := omega) only [push_cast, Nat.reduceBEq, Nat.reduceEqDiff, Nat.reduceAdd, Nat.reduceMul, Nat.reduceSub, Nat.reduceLT, Int.reduceToNat, Int.reduceLT, Int.reduceLE, Int.reduceEq, Int.reduceAdd, Int.reduceSub, Int.reduceNeg, Int.reduceMul, h20i]
    exact hu02
  have h20i : ¬ (20 : Int) < (ls.length : Int) := by omega
  rw [if_neg h20] at hv
  obtain ⟨p, D, rfl, hd2, hDge⟩ := hv
  simp (config := { maxSteps := 3000000 }) (disch := omega) only [push_cast, Nat.reduceBEq, Nat.reduceEqDiff, Nat.reduceAdd, Nat.reduceMul, Nat.reduceSub, Nat.reduceLT, Int.reduceToNat, Int.reduceLT, Int.reduceLE, Int.reduceEq, Int.reduceAdd, Int.reduceSub, Int.reduceNeg, Int.reduceMul]
  obtain ⟨N, hN⟩ : ∃ N, N = 8 + s % 8 := ⟨_, rfl⟩
  obtain ⟨sz, hsz⟩ : ∃ sz, sz = 64 + s / 8 := ⟨_, rfl⟩
  obtain ⟨ct, hct⟩ : ∃ ct, ct = N - 1 := ⟨_, rfl⟩
  obtain ⟨m, hm⟩ : ∃ m, m = ct / 2 := ⟨_, rfl⟩
  rw [← hN, ← hsz] at hd2
  have hN1 : 8 ≤ N ∧ N ≤ 15 := by omega
  have hz1 : 64 ≤ sz ∧ sz ≤ 96 := by omega
  have hm1 : 3 ≤ m ∧ m ≤ 7 ∧ 1 + 2 * m ≤ N := by omega
  have eN : (N : Int) - 1 = (ct : Int) := by omega
  obtain ⟨hfr, hca⟩ := M64_fresh (N := N) (sz := sz) hrl
  have hlive := live_open (first := 1) (n := m) hfr.wf hfr.off hca (by omega)
  have hwf := hfr.wf
  have hoff := hfr.off
  have hs1 := hu1.size
  have hs2 := hu02.size
  have hDw : ∀ b, D b → w.heap.size ≤ b := fun b hb => by have := hDge b hb; omega
  have hfacts := hlive.facts (by omega) (by omega) fun a ha => (hfr.wf.durl ha).1
  have hmz : (m - 1) * sz ≤ 6 * 96 := Nat.mul_le_mul (by omega) (by omega)
  have hcache : (M64 N sz ls).cache.length = 0 := by rw [hca]; rfl
  generalize M64 N sz ls = d at *
  refine Ok.use (Sectors_ok hd2) ?_
  rintro v _ ⟨rfl, rfl⟩
  rw [hwf.sz.dur]
  simp (config := { maxSteps := 3000000 }) (disch := omega) only [push_cast, Nat.reduceBEq, Nat.reduceEqDiff, Nat.reduceAdd, Nat.reduceMul, Nat.reduceSub, Nat.reduceLT, Int.reduceToNat, Int.reduceLT, Int.reduceLE, Int.reduceEq, Int.reduceAdd, Int.reduceSub, Int.reduceNeg, Int.reduceMul, eN]
  refine Ok.use (all_ok hd2 hwf (by omega) hoff hN1.2 (by omega)) ?_
  rintro v w3 ⟨rfl, hu3⟩
  have hd3 := hd2.upd hu3 fun _ _ h => h
  have hu03 := t hu02 hu3
  simp (config := { maxSteps := 3000000 }) (disch := omega) only [push_cast, Nat.reduceBEq, Nat.reduceEqDiff, Nat.reduceAdd, Nat.reduceMul, Nat.reduceSub, Nat.reduceLT, Int.reduceToNat, Int.reduceLT, Int.reduceLE, Int.reduceEq, Int.reduceAdd, Int.reduceSub, Int.reduceNeg, Int.reduceMul]
  refine Ok.use (copen2_ok (hK.upd hu03 fun h => h) hd3 (fun h => by have := hDw 0 h; have := hK.1; omega) hwf (by omega) hoff hN1 hz1 hct hm) ?_
  rintro v w4 ⟨cb, hcb, rfl, hw4, hu4⟩
  have hu04 := t hu03 hu4
  simp (config := { maxSteps := 3000000 }) (disch := omega) only [push_cast, Nat.reduceBEq, Nat.reduceEqDiff, Nat.reduceAdd, Nat.reduceMul, Nat.reduceSub, Nat.reduceLT, Int.reduceToNat, Int.reduceLT, Int.reduceLE, Int.reduceEq, Int.reduceAdd, Int.reduceSub, Int.reduceNeg, Int.reduceMul]
  refine Ok.use (load_ok hw4 (by show (openC d 1 m).newest.length ≤ _; omega) (by show (openC d 1 m).gen ≤ _; omega)) ?_
  rintro v w5 ⟨u, rfl, h5⟩
  dsimp only at h5 ⊢
  rw [hlive.load2] at h5 ⊢
  dsimp only at h5 ⊢
  have hu05 := t hu04 h5.upd
  have hw5 := hw4.quiet h5.upd
  obtain ⟨ua, uc, rfl, _⟩ := h5.own.form
  have hru : Rng (openC d 1 m).newest := by
    obtain ⟨_, _, _, _, hr⟩ := hw4.at_
    exact hr
  simp (config := { maxSteps := 3000000 }) (disch := omega) only [push_cast, Nat.reduceBEq, Nat.reduceEqDiff, Nat.reduceAdd, Nat.reduceMul, Nat.reduceSub, Nat.reduceLT, Int.reduceToNat, Int.reduceLT, Int.reduceLE, Int.reduceEq, Int.reduceAdd, Int.reduceSub, Int.reduceNeg, Int.reduceMul]
  refine Ok.use (slots_ok hw5.disk hwf (by omega) hoff hN1.2 (by omega) hct hm (by omega)) ?_
  rintro v w6 ⟨⟨u0, u1, rfl, hr0, hr1⟩, hu6⟩
  have g0 := slotS_good (x := 1) (n := m) hwf (by omega)
  have g1 := slotS_good (x := 1 + m) (n := m) hwf (by omega)
  simp (config := { maxSteps := 3000000 }) (disch := omega) only [push_cast, Nat.reduceBEq, Nat.reduceEqDiff, Nat.reduceAdd, Nat.reduceMul, Nat.reduceSub, Nat.reduceLT, Int.reduceToNat, Int.reduceLT, Int.reduceLE, Int.reduceEq, Int.reduceAdd, Int.reduceSub, Int.reduceNeg, Int.reduceMul]
  refine Ok.use (rNewest_ok hr0 hr1 g0.1 g1.1 slotS_len slotS_len (by omega) (by omega) (by omega) (by omega) g0.2 g1.2) ?_
  rintro v w7 ⟨⟨x, rfl, hx⟩, hu7⟩
  have hu57 := t hu6 hu7
  have hu07 := t hu05 hu57
  have hw7 := hw5.quiet hu57
  have eq2 : newestP (slotP (slotS d 1 m)) (slotP (slotS d (1 + m) m)) = ((openC d 1 m).slot, (openC d 1 m).newest, (openC d 1 m).gen) := rfl
  rw [eq2] at hx ⊢
  dsimp only at hx ⊢
  have h7 := h5.quiet hu57
  obtain ⟨xa, xc, rfl, _⟩ := id hx
  have cU := cnv_str h7.slc.1
  have cX := cnv_str hx
  have hse := str_eq hru hru
  simp (config := { maxSteps := 3000000 }) (disch := omega) only [push_cast, Nat.reduceBEq, Nat.reduceEqDiff, Nat.reduceAdd, Nat.reduceMul, Nat.reduceSub, Nat.reduceLT, Int.reduceToNat, Int.reduceLT, Int.reduceLE, Int.reduceEq, Int.reduceAdd, Int.reduceSub, Int.reduceNeg, Int.reduceMul, cU, cX, hse]
  obtain ⟨R, hR⟩ : ∃ R, R = (m - 1) * sz := ⟨_, rfl⟩
  have hroom := Room_ok hw7 (by show 1 ≤ m; omega) (by show m ≤ _; omega) (by show d.size ≤ _; rw [hwf.sz.size]; omega)
  rw [show (d, openC d 1 m).2.n = m from rfl, show (d, openC d 1 m).1.size = sz from hwf.sz.size, ← hR] at hroom
  rw [← hR] at hmz
  refine Ok.use hroom ?_
  rintro v w8 ⟨rfl, hu8⟩
  have hw8 := hw7.quiet hu8
  have hu08 := t hu07 hu8
  have e2 : IntKind.i64.wrap ((ct : Int).tdiv 2) = (m : Int) := by
    rw [show (2 : Int) = ((2 : Nat) : Int) from rfl, ← Int.ofNat_tdiv, IntKind.wrap_i64]; omega
  obtain ⟨m1, hm1e⟩ : ∃ m1, m1 = m - 1 := ⟨_, rfl⟩
  have e3 : (m : Int) - 1 = (m1 : Int) := by omega
  have e4 : (m1 : Int) * (sz : Int) = (R : Int) := by rw [hR, ← hm1e, Int.natCast_mul]
  simp (config := { maxSteps := 3000000 }) (disch := omega) only [push_cast, Nat.reduceBEq, Nat.reduceEqDiff, Nat.reduceAdd, Nat.reduceMul, Nat.reduceSub, Nat.reduceLT, Int.reduceToNat, Int.reduceLT, Int.reduceLE, Int.reduceEq, Int.reduceAdd, Int.reduceSub, Int.reduceNeg, Int.reduceMul, e2, e3]
  refine Ok.use (Size_ok hw8.disk) ?_
  rintro v _ ⟨rfl, rfl⟩
  rw [show (d, openC d 1 m).1.size = sz from hwf.sz.size]
  simp (config := { maxSteps := 3000000 }) (disch := omega) only [push_cast, Nat.reduceBEq, Nat.reduceEqDiff, Nat.reduceAdd, Nat.reduceMul, Nat.reduceSub, Nat.reduceLT, Int.reduceToNat, Int.reduceLT, Int.reduceLE, Int.reduceEq, Int.reduceAdd, Int.reduceSub, Int.reduceNeg, Int.reduceMul, e2, e3, e4]
  refine Ok.use (all_ok hw8.disk hwf (by omega) hoff hN1.2 (by omega)) ?_
  rintro v w9 ⟨rfl, hu9⟩
  have hw9 := hw8.quiet hu9
  have hu09 := t hu08 hu9
  have har : Rng (allD d N) := allD_rng fun a ha => (hwf.content ha).2
  have hsa := str_eq har har
  simp (config := { maxSteps := 3000000 }) (disch := omega) only [push_cast, Nat.reduceBEq, Nat.reduceEqDiff, Nat.reduceAdd, Nat.reduceMul, Nat.reduceSub, Nat.reduceLT, Int.reduceToNat, Int.reduceLT, Int.reduceLE, Int.reduceEq, Int.reduceAdd, Int.reduceSub, Int.reduceNeg, Int.reduceMul, hsa]
  refine Ok.use (Cached_ok hw9.disk) ?_
  rintro v _ ⟨rfl, rfl⟩
  rw [show (d, openC d 1 m).1.cache.length = 0 from hcache]
  simp (config := { maxSteps := 3000000 }) (disch := omega) only [push_cast, Nat.reduceBEq, Nat.reduceEqDiff, Nat.reduceAdd, Nat.reduceMul, Nat.reduceSub, Nat.reduceLT, Int.reduceToNat, Int.reduceLT, Int.reduceLE, Int.reduceEq, Int.reduceAdd, Int.reduceSub, Int.reduceNeg, Int.reduceMul]
  refine Ok.use (Down_ok2 hw9) ?_
  rintro v _ ⟨rfl, rfl⟩
  rw [show (d, openC d 1 m).2.down = false from rfl]
  simp (config := { maxSteps := 3000000 }) (disch := omega) only [push_cast, Nat.reduceBEq, Nat.reduceEqDiff, Nat.reduceAdd, Nat.reduceMul, Nat.reduceSub, Nat.reduceLT, Int.reduceToNat, Int.reduceLT, Int.reduceLE, Int.reduceEq, Int.reduceAdd, Int.reduceSub, Int.reduceNeg, Int.reduceMul]
  exact hu09
theorem checkpointFinds_law {w : World} (hK : KT w) (x : Int) (hx : (Lit.int .u8 x).wf = true) {vc : Value} (hc : ∃ ls, SlRC w (fun b => w.heap.size ≤ b) vc ls ∧ RngL ls) :
    Ok (den Tryd.prog 4 #[.int .u8 x, vc] w) fun u w' => u = .bool true ∧ Upd (fun _ => False) w w' := by
  obtain ⟨s, rfl, h⟩ := u8_of hx
  obtain ⟨ls, h1, h2⟩ := hc
  exact finds_ok hK h h1 h2
end Go.Proofs.YtkceoefmhppddaaDoor.Fd
