/-
  CheckpointSaves.
-/
import Derived.Test.YtkceoefmhppddaaDoorSa1
namespace Go.Proofs.YtkceoefmhppddaaDoor.Fd
set_option linter.unusedSimpArgs false
set_option linter.unusedVariables false
open Go
set_option maxRecDepth 100000
set_option maxHeartbeats 4000000 in
theorem saves_ok {w : World} (hK : KT w) {s : Nat} (hs : s < 256) {vc vb : Value} {ls : List (List Int)} {b : List Int} (hvc : SlRC w (fun b => w.heap.size ≤ b) vc ls) (hrl : RngL ls) (hvb : SlC w (fun b => w.heap.size ≤ b) vb b) (hrb : Rng b) :
    Ok (den Tryd.prog 5 #[.int .u8 (s : Int), vc, vb] w) fun u w' => u = .bool true ∧ Upd (fun _ => False) w w' := by
  have t := fun {a b c : World} (x : Upd (fun _ => False) a b) (y : Upd (fun _ => False) b c) => x.trans y (F := fun _ => False) (fun _ _ h => h)
  obtain ⟨ca, cc, rfl, _⟩ := id hvc
  obtain ⟨ba, bc, rfl, hbc⟩ := id hvb.2
  refine den_ok (args := [.int .u8 (s : Int), .slice ca ls.length cc, .slice ba b.length bc]) rs5 Tryd.func5 rfl mixed in5 ok5 rfl ?_
  simp (config := { maxSteps := 3000000 }) (disch := omega) only [push_cast, Nat.reduceBEq, Nat.reduceEqDiff, Nat.reduceAdd, Nat.reduceMul, Nat.reduceSub, Nat.reduceLT, Int.reduceToNat, Int.reduceLT, Int.reduceLE, Int.reduceEq, Int.reduceAdd, Int.reduceSub, Int.reduceNeg, Int.reduceMul]
  refine Ok.use (awake_ok hK) ?_
  rintro v w1 ⟨rfl, hu1⟩
  simp (config := { maxSteps := 3000000 }) (disch := omega) only [push_cast, Nat.reduceBEq, Nat.reduceEqDiff, Nat.reduceAdd, Nat.reduceMul, Nat.reduceSub, Nat.reduceLT, Int.reduceToNat, Int.reduceLT, Int.reduceLE, Int.reduceEq, Int.reduceAdd, Int.reduceSub, Int.reduceNeg, Int.reduceMul]
  refine Ok.use (make64_ok (F := fun b => w.heap.size ≤ b) hs (hvc.slr.go hu1 fun b hb h => h.elim (fun h => h.elim) fun h => h) hrl fun b hb => Nat.le_trans hu1.size hb) ?_
  rintro v w2 ⟨hv, hu2⟩
  have hu02 := t hu1 hu2
  simp (config := { maxSteps := 3000000 }) (disch := omega) only [push_cast, Nat.reduceBEq, Nat.reduceEqDiff, Nat.reduceAdd, Nat.reduceMul, Nat.reduceSub, Nat.reduceLT, Int.reduceToNat, Int.reduceLT, Int.reduceLE, Int.reduceEq, Int.reduceAdd, Int.reduceSub, Int.reduceNeg, Int.reduceMul]
  refine Ok.use (make64_ok (F := fun b => w.heap.size ≤ b) hs (hvc.slr.go hu02 fun b hb h => h.elim (fun h => h.elim) fun h => h) hrl fun b hb => Nat.le_trans hu02.size hb) ?_
  rintro v' w3 ⟨hv', hu3⟩
  have hu03 := t hu02 hu3
  unfold Mk64 at hv hv'
  by_cases h20 : 20 < ls.length
  · have h20i : (20 : Int) < (ls.length : Int) := by omega
    rw [if_pos h20] at hv hv'
    subst hv hv'
    simp (config := { maxSteps := 3000000 }) (disch := omega) only [push_cast, Nat.reduceBEq, Nat.reduceEqDiff, Nat.reduceAdd, Nat.reduceMul, Nat.reduceSub, Nat.reduceLT, Int.reduceToNat, Int.reduceLT, Int.reduceLE, Int.reduceEq, Int.reduceAdd, Int.reduceSub, Int.reduceNeg, Int.reduceMul, h20i]
    exact hu03
  have h20i : ¬ (20 : Int) < (ls.length : Int) := by omega
  rw [if_neg h20] at hv hv'
  obtain ⟨p, D, rfl, hd2, hDge⟩ := hv
  obtain ⟨q, E, rfl, he3, hEge⟩ := hv'
  have hd3 := hd2.upd hu3 fun _ _ h => h
  by_cases h2k : 2000 < b.length
  · have h2ki : (2000 : Int) < (b.length : Int) := by omega
    simp (config := { maxSteps := 3000000 }) (disch := omega) only [push_cast, Nat.reduceBEq, Nat.reduceEqDiff, Nat.reduceAdd, Nat.reduceMul, Nat.reduceSub, Nat.reduceLT, Int.reduceToNat, Int.reduceLT, Int.reduceLE, Int.reduceEq, Int.reduceAdd, Int.reduceSub, Int.reduceNeg, Int.reduceMul, h20i, h2ki]
    exact hu03
  have h2ki : ¬ (2000 : Int) < (b.length : Int) := by omega
  simp (config := { maxSteps := 3000000 }) (disch := omega) only [push_cast, Nat.reduceBEq, Nat.reduceEqDiff, Nat.reduceAdd, Nat.reduceMul, Nat.reduceSub, Nat.reduceLT, Int.reduceToNat, Int.reduceLT, Int.reduceLE, Int.reduceEq, Int.reduceAdd, Int.reduceSub, Int.reduceNeg, Int.reduceMul, h20i, h2ki]
  obtain ⟨N, hN⟩ : ∃ N, N = 8 + s % 8 := ⟨_, rfl⟩
  obtain ⟨sz, hsz⟩ : ∃ sz, sz = 64 + s / 8 := ⟨_, rfl⟩
  obtain ⟨ct, hct⟩ : ∃ ct, ct = N - 1 := ⟨_, rfl⟩
  obtain ⟨m, hm⟩ : ∃ m, m = ct / 2 := ⟨_, rfl⟩
  rw [← hN, ← hsz] at hd3 he3
  have hN1 : 8 ≤ N ∧ N ≤ 15 := by omega
  have hz1 : 64 ≤ sz ∧ sz ≤ 96 := by omega
  have hm1 : 3 ≤ m ∧ m ≤ 7 ∧ 1 + 2 * m ≤ N := by omega
  have eN : (N : Int) - 1 = (ct : Int) := by omega
  obtain ⟨hfr, hca⟩ := M64_fresh (N := N) (sz := sz) hrl
  have hlive := live_open (first := 1) (n := m) hfr.wf hfr.off hca (by omega)
  have hwf := hfr.wf
  have hoff := hfr.off
  have hcnt := hfr.cnt
  have hs1 := hu1.size
  have hs2 := hu02.size
  have hs3 := hu3.size
  have hDb := hd2.bd
  have hEb := he3.bd
  have hDw : ∀ b, D b → w.heap.size ≤ b := fun b hb => by have := hDge b hb; omega
  have hEw : ∀ b, E b → w.heap.size ≤ b := fun b hb => by have := hEge b hb; omega
  have hED : ∀ b, E b → ¬ D b := fun b hb hd => by have := hEge b hb; have := hDb b hd; omega
  have hfacts := hlive.facts (by omega) (by omega) fun a ha => (hfr.wf.durl ha).1
  have hmz : (m - 1) * sz ≤ 6 * 96 := Nat.mul_le_mul (by omega) (by omega)
  have hK0 := hK.1
  clear hd2
  generalize M64 N sz ls = d at *
  refine Ok.use (Sectors_ok hd3) ?_
  rintro v _ ⟨rfl, rfl⟩
  rw [hwf.sz.dur]
  simp (config := { maxSteps := 3000000 }) (disch := omega) only [push_cast, Nat.reduceBEq, Nat.reduceEqDiff, Nat.reduceAdd, Nat.reduceMul, Nat.reduceSub, Nat.reduceLT, Int.reduceToNat, Int.reduceLT, Int.reduceLE, Int.reduceEq, Int.reduceAdd, Int.reduceSub, Int.reduceNeg, Int.reduceMul, eN]
  have hdE := hd3.mono (G := fun b => D b ∨ E b) (fun b hb => .inl hb) fun b hb => hb.elim (fun h => by have := hDb b h; omega) (hEb b)
  refine Ok.use (copen2_ok (hK.upd hu03 fun h => h) hdE (fun h => h.elim (fun h => by have := hDw 0 h; omega) fun h => by have := hEw 0 h; omega) hwf (by omega) hoff hN1 hz1 hct hm) ?_
  rintro v w4 ⟨cb, hcb, rfl, hw4E, hu4⟩
  have hu04 := t hu03 hu4
  have hs4 := hu4.size
  have hw4 := hw4E.two (hd3.upd hu4 fun _ _ h => h) hED fun b hb => by have := hEb b hb; omega
  have he4 := he3.upd hu4 fun _ _ h => h
  clear hw4E hdE
  simp (config := { maxSteps := 3000000 }) (disch := omega) only [push_cast, Nat.reduceBEq, Nat.reduceEqDiff, Nat.reduceAdd, Nat.reduceMul, Nat.reduceSub, Nat.reduceLT, Int.reduceToNat, Int.reduceLT, Int.reduceLE, Int.reduceEq, Int.reduceAdd, Int.reduceSub, Int.reduceNeg, Int.reduceMul]
  refine Ok.use (slots_ok he4 hwf (by omega) hoff hN1.2 (by omega) hct hm (by omega)) ?_
  rintro v w6 ⟨⟨u0, u1, rfl, hr0, hr1⟩, hu6⟩
  have g0 := slotS_good (x := 1) (n := m) hwf (by omega)
  have g1 := slotS_good (x := 1 + m) (n := m) hwf (by omega)
  simp (config := { maxSteps := 3000000 }) (disch := omega) only [push_cast, Nat.reduceBEq, Nat.reduceEqDiff, Nat.reduceAdd, Nat.reduceMul, Nat.reduceSub, Nat.reduceLT, Int.reduceToNat, Int.reduceLT, Int.reduceLE, Int.reduceEq, Int.reduceAdd, Int.reduceSub, Int.reduceNeg, Int.reduceMul]
  refine Ok.use (rNewest_ok hr0 hr1 g0.1 g1.1 slotS_len slotS_len (by omega) (by omega) (by omega) (by omega) g0.2 g1.2) ?_
  rintro v w7 ⟨⟨x, rfl, hx⟩, hu7⟩
  have hu47 := t hu6 hu7
  have hu07 := t hu04 hu47
  have hw7 := hw4.quiet hu47
  have he7 := he4.upd hu47 fun _ _ h => h
  have hs47 := hu6.size
  have eq2 : newestP (slotP (slotS d 1 m)) (slotP (slotS d (1 + m) m)) = ((openC d 1 m).slot, (openC d 1 m).newest, (openC d 1 m).gen) := rfl
  rw [eq2] at hx ⊢
  dsimp only at hx ⊢
  have htg : (openC d 1 m).target = 1 - (openC d 1 m).slot ∧ (openC d 1 m).slot ≤ 1 := by rw [openC_L]; exact open_target
  have hc1 : (openC d 1 m).n = m := rfl
  have hc2 : (openC d 1 m).first = 1 := rfl
  have hru : Rng (openC d 1 m).newest := by
    obtain ⟨_, _, _, _, hr⟩ := hw4.at_
    exact hr
  generalize openC d 1 m = c at *
  have hFF : ∀ q, FF D (fun b => b = cb ∨ E b) q → w.heap.size ≤ q := fun q hq => hq.elim (fun h => hDw q h) fun h => h.elim (fun e => by omega) fun h => hEw q h
  have hvb7 : SlC w7 (FF D fun b => b = cb ∨ E b) (.slice ba b.length bc) b := (hvb.upd hu07 fun _ h => h.elim).mono fun q _ hq => hFF q hq
  have hsave := save_ok hw7 hwf.sz (by omega) (by omega) (by omega) (by show c.first ≤ _; omega) (by show c.n ≤ _; omega) (by show 1 ≤ c.n; omega) (by show c.gen ≤ _; omega) hvb7 hrb
  have hcs := csave_spec hlive hwf (by omega) (by omega) (by omega) (by omega) hm1.2.2 b
  have hwf' : WfD N sz 200 (csave (d, c) b).1.1 := csave_wf (i := 100) (k := 100) (hwf.mono (by omega)) hrb fun at_ g => by
    rw [hwf.sz.size, saveOps_len (by omega)]
    have := nch_bound (sz := sz) (m := 40) (by omega) (show b.length ≤ 40 * sz by omega)
    omega
  simp (config := { maxSteps := 3000000 }) (disch := omega) only [push_cast, Nat.reduceBEq, Nat.reduceEqDiff, Nat.reduceAdd, Nat.reduceMul, Nat.reduceSub, Nat.reduceLT, Int.reduceToNat, Int.reduceLT, Int.reduceLE, Int.reduceEq, Int.reduceAdd, Int.reduceSub, Int.reduceNeg, Int.reduceMul]
  refine Ok.use hsave ?_
  rintro v w8 ⟨rfl, D8, hw8, ht8⟩
  clear hsave
  have hcbE : ¬ E cb := fun h => by have := hEb cb h; omega
  have hcbw : w.heap.size ≤ cb := by omega
  have hs67 := hu7.size
  have he8 := he7.upd ht8.upd fun b hb h => h.elim (hED b hb) fun e => hcbE (by rw [← e]; exact hb)
  have hED8 : ∀ b, E b → ¬ D8 b := fun b hb h => (ht8.new b h).elim (hED b hb) fun h => by have := hEb b hb; have := h.1; omega
  have hcb4 := (hw4.sep cb (.inl rfl)).2
  have hD4 := hw4.disk.bd
  have hx8 : SlB w8 (fun _ => False) x c.newest := hx.go ht8.upd fun b _ h => by
    show b < _
    rcases h with (h | h) | h
    · have := hD4 b h; omega
    · omega
    · exact h.elim
  obtain ⟨hu8, hD8w⟩ := ht8.fresh hu07 hDw hcbw
  obtain ⟨xa, xc, rfl, _⟩ := id hx8
  obtain ⟨R, hR⟩ : ∃ R, R = (m - 1) * sz := ⟨_, rfl⟩
  have har0 : Rng (allD d N) := allD_rng fun a ha => (hwf.content ha).2
  have hsa0 := str_eq har0 har0
  have hse0 := str_eq hru hru
  rcases hcs with ⟨hl, he⟩ | ⟨hb1, hg1, h0, hlive8, hc8, hcnt8, hdur⟩ | ⟨_, _, _, _, h1, _⟩
  · rw [he] at hw8 ⊢
    dsimp only at hw8 ⊢
    unfold errV
    have hroom := Room_ok hw8 (by show 1 ≤ c.n; omega) (by show c.n ≤ _; omega) (by show d.size ≤ _; rw [hlive.size]; omega)
    dsimp only at hroom
    rw [hc1, hlive.size, ← hR] at hroom
    simp (config := { maxSteps := 3000000 }) (disch := omega) only [push_cast, Nat.reduceBEq, Nat.reduceEqDiff, Nat.reduceAdd, Nat.reduceMul, Nat.reduceSub, Nat.reduceLT, Int.reduceToNat, Int.reduceLT, Int.reduceLE, Int.reduceEq, Int.reduceAdd, Int.reduceSub, Int.reduceNeg, Int.reduceMul]
    refine Ok.use hroom ?_
    rintro v w9 ⟨rfl, hu9⟩
    have hw9 := hw8.quiet hu9
    have hu09 := t hu8 hu9
    by_cases hbR : R < b.length
    · have hbRi : (R : Int) < (b.length : Int) := by omega
      simp (config := { maxSteps := 3000000 }) (disch := omega) only [push_cast, Nat.reduceBEq, Nat.reduceEqDiff, Nat.reduceAdd, Nat.reduceMul, Nat.reduceSub, Nat.reduceLT, Int.reduceToNat, Int.reduceLT, Int.reduceLE, Int.reduceEq, Int.reduceAdd, Int.reduceSub, Int.reduceNeg, Int.reduceMul, hbRi]
      refine Ok.use (load_ok hw9 (by show c.newest.length ≤ _; omega) (by show c.gen ≤ _; omega)) ?_
      rintro v wa ⟨u, rfl, ha⟩
      dsimp only at ha ⊢
      rw [hlive.load2] at ha ⊢
      dsimp only at ha ⊢
      have hu9a := t hu9 ha.upd
      have hu0a := t hu8 hu9a
      have hwa := hw8.quiet hu9a
      have hea := he8.upd hu9a fun _ _ h => h
      have hxa := hx8.upd hu9a fun _ h => h
      obtain ⟨ua, uc, rfl, _⟩ := ha.own.form
      simp (config := { maxSteps := 3000000 }) (disch := omega) only [push_cast, Nat.reduceBEq, Nat.reduceEqDiff, Nat.reduceAdd, Nat.reduceMul, Nat.reduceSub, Nat.reduceLT, Int.reduceToNat, Int.reduceLT, Int.reduceLE, Int.reduceEq, Int.reduceAdd, Int.reduceSub, Int.reduceNeg, Int.reduceMul]
      refine Ok.use (all_ok hwa.disk hwf (by omega) hoff hN1.2 (by omega)) ?_
      rintro v wb ⟨rfl, hub⟩
      simp (config := { maxSteps := 3000000 }) (disch := omega) only [push_cast, Nat.reduceBEq, Nat.reduceEqDiff, Nat.reduceAdd, Nat.reduceMul, Nat.reduceSub, Nat.reduceLT, Int.reduceToNat, Int.reduceLT, Int.reduceLE, Int.reduceEq, Int.reduceAdd, Int.reduceSub, Int.reduceNeg, Int.reduceMul]
      refine Ok.use (all_ok (hea.upd hub fun _ _ h => h) hwf (by omega) hoff hN1.2 (by omega)) ?_
      rintro v wc ⟨rfl, huc⟩
      have hubc := t hub huc
      have cU := cnv_str (ha.quiet hubc).slc.1
      have cX := cnv_str (hxa.upd hubc fun _ h => h)
      simp (config := { maxSteps := 3000000 }) (disch := omega) only [push_cast, Nat.reduceBEq, Nat.reduceEqDiff, Nat.reduceAdd, Nat.reduceMul, Nat.reduceSub, Nat.reduceLT, Int.reduceToNat, Int.reduceLT, Int.reduceLE, Int.reduceEq, Int.reduceAdd, Int.reduceSub, Int.reduceNeg, Int.reduceMul, hsa0, cU, cX, hse0]
      exact t hu0a hubc
    · have hbRi : ¬ (R : Int) < (b.length : Int) := by omega
      have hgm : c.gen = 4611686018427387904 := by omega
      have hgmi : (c.gen : Int) = 4611686018427387904 := by omega
      simp (config := { maxSteps := 3000000 }) (disch := omega) only [push_cast, Nat.reduceBEq, Nat.reduceEqDiff, Nat.reduceAdd, Nat.reduceMul, Nat.reduceSub, Nat.reduceLT, Int.reduceToNat, Int.reduceLT, Int.reduceLE, Int.reduceEq, Int.reduceAdd, Int.reduceSub, Int.reduceNeg, Int.reduceMul, hbRi, hgmi]
      refine Ok.use (load_ok hw9 (by show c.newest.length ≤ _; omega) (by show c.gen ≤ _; omega)) ?_
      rintro v wa ⟨u, rfl, ha⟩
      dsimp only at ha ⊢
      rw [hlive.load2] at ha ⊢
      dsimp only at ha ⊢
      have hu9a := t hu9 ha.upd
      have hu0a := t hu8 hu9a
      have hwa := hw8.quiet hu9a
      have hea := he8.upd hu9a fun _ _ h => h
      have hxa := hx8.upd hu9a fun _ h => h
      obtain ⟨ua, uc, rfl, _⟩ := ha.own.form
      simp (config := { maxSteps := 3000000 }) (disch := omega) only [push_cast, Nat.reduceBEq, Nat.reduceEqDiff, Nat.reduceAdd, Nat.reduceMul, Nat.reduceSub, Nat.reduceLT, Int.reduceToNat, Int.reduceLT, Int.reduceLE, Int.reduceEq, Int.reduceAdd, Int.reduceSub, Int.reduceNeg, Int.reduceMul, hgmi]
      refine Ok.use (all_ok hwa.disk hwf (by omega) hoff hN1.2 (by omega)) ?_
      rintro v wb ⟨rfl, hub⟩
      simp (config := { maxSteps := 3000000 }) (disch := omega) only [push_cast, Nat.reduceBEq, Nat.reduceEqDiff, Nat.reduceAdd, Nat.reduceMul, Nat.reduceSub, Nat.reduceLT, Int.reduceToNat, Int.reduceLT, Int.reduceLE, Int.reduceEq, Int.reduceAdd, Int.reduceSub, Int.reduceNeg, Int.reduceMul, hgmi]
      refine Ok.use (all_ok (hea.upd hub fun _ _ h => h) hwf (by omega) hoff hN1.2 (by omega)) ?_
      rintro v wc ⟨rfl, huc⟩
      have hubc := t hub huc
      have cU := cnv_str (ha.quiet hubc).slc.1
      have cX := cnv_str (hxa.upd hubc fun _ h => h)
      simp (config := { maxSteps := 3000000 }) (disch := omega) only [push_cast, Nat.reduceBEq, Nat.reduceEqDiff, Nat.reduceAdd, Nat.reduceMul, Nat.reduceSub, Nat.reduceLT, Int.reduceToNat, Int.reduceLT, Int.reduceLE, Int.reduceEq, Int.reduceAdd, Int.reduceSub, Int.reduceNeg, Int.reduceMul, hgmi, hsa0, cU, cX, hse0]
      exact t hu0a hubc
  · rw [h0]
    have hsz8 := hlive8.size
    have hca8 := hlive8.ca
    have hoff8 := hlive8.off
    have hld8 := hlive8.load2
    generalize csave (d, c) b = r at *
    obtain ⟨⟨d', c'⟩, code⟩ := r
    dsimp only at h0 hc8 hdur hlive8 hwf' hw8 hsz8 hca8 hoff8 hld8 ⊢
    clear h0 hcnt8
    have hcn : c'.n = m ∧ c'.newest = b ∧ c'.gen = c.gen + 1 := by rw [hc8]; exact ⟨hc1, rfl, rfl⟩
    unfold errV
    have hroom := Room_ok hw8 (by show 1 ≤ c'.n; omega) (by show c'.n ≤ _; omega) (by show d'.size ≤ _; omega)
    dsimp only at hroom
    rw [hcn.1, hsz8, ← hR] at hroom
    simp (config := { maxSteps := 3000000 }) (disch := omega) only [push_cast, Nat.reduceBEq, Nat.reduceEqDiff, Nat.reduceAdd, Nat.reduceMul, Nat.reduceSub, Nat.reduceLT, Int.reduceToNat, Int.reduceLT, Int.reduceLE, Int.reduceEq, Int.reduceAdd, Int.reduceSub, Int.reduceNeg, Int.reduceMul]
    refine Ok.use hroom ?_
    rintro v w9 ⟨rfl, hu9⟩
    have hbRi : ¬ (R : Int) < (b.length : Int) := by omega
    have hgmi : ¬ (c.gen : Int) = 4611686018427387904 := by omega
    have hw9 := hw8.quiet hu9
    have hu09 := t hu8 hu9
    have he9 := he8.upd hu9 fun _ _ h => h
    have e2 : IntKind.i64.wrap ((ct : Int).tdiv 2) = (m : Int) := by
      rw [show (2 : Int) = ((2 : Nat) : Int) from rfl, ← Int.ofNat_tdiv, IntKind.wrap_i64]; omega
    obtain ⟨T, hT⟩ : ∃ T, T = c.target := ⟨_, rfl⟩
    rw [← hT] at htg hdur
    obtain ⟨Tm, hTm⟩ : ∃ Tm, Tm = T * m := ⟨_, rfl⟩
    obtain ⟨st, hst⟩ : ∃ st, st = 1 + Tm := ⟨_, rfl⟩
    obtain ⟨g1, hg1e⟩ : ∃ g1, g1 = c.gen + 1 := ⟨_, rfl⟩
    have eT : (1 : Int) - (c.slot : Int) = (T : Int) := by omega
    have eTm : (T : Int) * (m : Int) = (Tm : Int) := by rw [hTm, Int.natCast_mul]
    have est : (1 : Int) + (Tm : Int) = (st : Int) := by omega
    have eg1 : (c.gen : Int) + 1 = (g1 : Int) := by omega
    have hTm7 : Tm ≤ 7 := by
      have : T * m ≤ 1 * m := Nat.mul_le_mul_right m (by omega)
      omega
    have hTmN : st + m ≤ N := by
      have : T * m ≤ 1 * m := Nat.mul_le_mul_right m (by omega)
      omega
    rw [← hg1e, ← hTm, ← hst] at hdur
    simp (config := { maxSteps := 3000000 }) (disch := omega) only [push_cast, Nat.reduceBEq, Nat.reduceEqDiff, Nat.reduceAdd, Nat.reduceMul, Nat.reduceSub, Nat.reduceLT, Int.reduceToNat, Int.reduceLT, Int.reduceLE, Int.reduceEq, Int.reduceAdd, Int.reduceSub, Int.reduceNeg, Int.reduceMul, hbRi, hgmi, eg1, eT, e2, eTm, est]
    refine Ok.use (Size_ok hw9.disk) ?_
    rintro v _ ⟨rfl, rfl⟩
    dsimp only
    rw [hsz8]
    simp (config := { maxSteps := 3000000 }) (disch := omega) only [push_cast, Nat.reduceBEq, Nat.reduceEqDiff, Nat.reduceAdd, Nat.reduceMul, Nat.reduceSub, Nat.reduceLT, Int.reduceToNat, Int.reduceLT, Int.reduceLE, Int.reduceEq, Int.reduceAdd, Int.reduceSub, Int.reduceNeg, Int.reduceMul, hbRi, hgmi, eg1, eT, e2, eTm, est]
    have hvb9 : SlB w9 (fun b => w9.heap.size ≤ b) (.slice ba b.length bc) b := (hvb.1.upd hu09 fun _ h => h.elim).mono fun q _ hq => Nat.le_trans hu09.size hq
    refine Ok.use (rSaves_ok hvb9 (by omega) hrb (by omega) (by omega) hz1) ?_
    rintro v wa ⟨hW, hua⟩
    have hwa := hw9.quiet hua
    have hu0a := t hu09 hua
    have hea := he9.upd hua fun _ _ h => h
    have hsa := hu09.size
    have hsz9 := hua.size
    have hsl := hW.slw
    obtain ⟨wa1, wc1, rfl⟩ := hW.form
    simp (config := { maxSteps := 3000000 }) (disch := omega) only [push_cast, Nat.reduceBEq, Nat.reduceEqDiff, Nat.reduceAdd, Nat.reduceMul, Nat.reduceSub, Nat.reduceLT, Int.reduceToNat, Int.reduceLT, Int.reduceLE, Int.reduceEq, Int.reduceAdd, Int.reduceSub, Int.reduceNeg, Int.reduceMul]
    have hnb := nch_bound (sz := sz) (by omega) hb1
    have hmem := saves_mem (N := N) (g := g1) (start := st) (by omega : 44 ≤ sz) (by omega) hrb
    have hLl := saves_len (sz := sz) (start := st) (g := g1) (b := b)
    have key : ∀ a, wrC d.content (savesP sz st b g1) a = _ := fun a => wrC_saves
    have hslE := hsl.go (F' := E) (Upd.refl (F := fun _ => False)) fun b _ h => h.elim (fun h => h.elim) fun h => by have := hEb b h; have := hs4; have := hu6.size; have := ht8.upd.size; have := hu9.size; show b < _; omega
    generalize savesP sz st b g1 = L at *
    refine loop_inv (I := fun k st w' => Bx (∃ i E' t, k + i = L.length ∧ st = [.int .i64 ((i : Nat) : Int)] ∧ CW w' D8 (fun b => b = cb ∨ E' b) p cb (d', c') ∧ IsDisk w' E' q t ∧ (∀ b, E' b → ¬ D8 b) ∧ ¬ E' cb ∧ (∀ b, E' b → w.heap.size ≤ b) ∧ SlW w' E' (.slice wa1 L.length wc1) L ∧ Fresh N sz i t ∧ (∀ a, a < N → t.content a = wrC d.content (L.take i) a) ∧ Upd (fun _ => False) w w') ⟨⟩) ?_ L.length
      ⟨0, E, d, by omega, rfl, (hw8.quiet (t hu9 hua)), hea, hED8, hcbE, hEw, hslE, hfr, fun a _ => rfl, hu0a⟩
    clear hslE hsl hea hwa he8 he9 hw9 hu09 hu0a
    rintro k st wd ⟨i, E', tt, hk, rfl, hwd, hed, hEDd, hcbd, hEwd, hsld, hfrd, hcon, hud⟩
    by_cases hk0 : k = 0
    · obtain rfl : i = L.length := by omega
      have hlt : ¬ ((L.length : Nat) : Int) < (L.length : Int) := by omega
      simp (config := { maxSteps := 3000000 }) (disch := omega) only [push_cast, Nat.reduceBEq, Nat.reduceEqDiff, Nat.reduceAdd, Nat.reduceMul, Nat.reduceSub, Nat.reduceLT, Int.reduceToNat, Int.reduceLT, Int.reduceLE, Int.reduceEq, Int.reduceAdd, Int.reduceSub, Int.reduceNeg, Int.reduceMul, hlt]
      rw [List.take_of_length_le (Nat.le_refl _)] at hcon
      refine Ok.use (load_ok hwd (by show c'.newest.length ≤ _; rw [hcn.2.1]; omega) (by show c'.gen ≤ _; omega)) ?_
      rintro v we ⟨u, rfl, ha⟩
      dsimp only at ha ⊢
      rw [hld8, hcn.2.1, hcn.2.2, ← hg1e] at ha ⊢
      dsimp only at ha ⊢
      have hude := t hud ha.upd
      have hwe := hwd.quiet ha.upd
      obtain ⟨ua, uc, rfl, _⟩ := ha.own.form
      have eall : allD d' N = allD tt N := allD_congr fun a haN => by
        rw [content_nil hca8, hcon a haN, key a]
        refine (hdur a haN).trans ?_
        by_cases h1 : a = st
        · rw [if_pos h1, if_pos h1]
        · rw [if_neg h1, if_neg h1]
          by_cases h2 : st + 1 ≤ a ∧ a < st + 1 + nch sz b.length
          · rw [if_pos h2, if_pos h2]
          · rw [if_neg h2, if_neg h2, content_nil hca]
            rfl
      have hard : Rng (allD tt N) := allD_rng fun a ha => (hfrd.wf.content ha).2
      have hsad := str_eq hard hard
      have hsbb := str_eq hrb hrb
      simp (config := { maxSteps := 3000000 }) (disch := omega) only [push_cast, Nat.reduceBEq, Nat.reduceEqDiff, Nat.reduceAdd, Nat.reduceMul, Nat.reduceSub, Nat.reduceLT, Int.reduceToNat, Int.reduceLT, Int.reduceLE, Int.reduceEq, Int.reduceAdd, Int.reduceSub, Int.reduceNeg, Int.reduceMul, eg1]
      refine Ok.use (all_ok hwe.disk hwf' (by omega) hoff8 hN1.2 (by omega)) ?_
      rintro v wf ⟨rfl, huf⟩
      rw [eall]
      simp (config := { maxSteps := 3000000 }) (disch := omega) only [push_cast, Nat.reduceBEq, Nat.reduceEqDiff, Nat.reduceAdd, Nat.reduceMul, Nat.reduceSub, Nat.reduceLT, Int.reduceToNat, Int.reduceLT, Int.reduceLE, Int.reduceEq, Int.reduceAdd, Int.reduceSub, Int.reduceNeg, Int.reduceMul, eg1]
      refine Ok.use (all_ok (hed.upd (t ha.upd huf) fun _ _ h => h) hfrd.wf (by omega) hfrd.off hN1.2 (by omega)) ?_
      rintro v wg ⟨rfl, hug⟩
      have hueg := t huf hug
      have hwg := hwe.quiet hueg
      simp (config := { maxSteps := 3000000 }) (disch := omega) only [push_cast, Nat.reduceBEq, Nat.reduceEqDiff, Nat.reduceAdd, Nat.reduceMul, Nat.reduceSub, Nat.reduceLT, Int.reduceToNat, Int.reduceLT, Int.reduceLE, Int.reduceEq, Int.reduceAdd, Int.reduceSub, Int.reduceNeg, Int.reduceMul, eg1, hsad]
      refine Ok.use (Cached_ok hwg.disk) ?_
      rintro v _ ⟨rfl, rfl⟩
      dsimp only
      rw [hca8]
      have cU := cnv_str (ha.quiet hueg).slc.1
      have cX := cnv_str (hvb.1.upd (t hude hueg) fun _ h => h.elim)
      simp (config := { maxSteps := 3000000 }) (disch := omega) only [push_cast, Nat.reduceBEq, Nat.reduceEqDiff, Nat.reduceAdd, Nat.reduceMul, Nat.reduceSub, Nat.reduceLT, Int.reduceToNat, Int.reduceLT, Int.reduceLE, Int.reduceEq, Int.reduceAdd, Int.reduceSub, Int.reduceNeg, Int.reduceMul, eg1, cU, cX, hsbb]
      exact t hude hueg
    have hlt : ((i : Nat) : Int) < (L.length : Int) := by omega
    have hx0 : L[i]? = some (L[i]'(by omega)) := List.getElem?_eq_getElem _
    have hxm := hmem _ (List.getElem_mem (l := L) (n := i) (by omega))
    obtain ⟨x, hxe⟩ : ∃ x, x = L[i]'(by omega) := ⟨_, rfl⟩
    rw [← hxe] at hx0 hxm
    obtain ⟨_, _, e, hcells⟩ := id hsld
    injection e with e1 _ e3
    subst e1 e3
    obtain ⟨gb, go, u, rfl, hc1, hc2, hus, hgb⟩ := hcells i x hx0
    have htk := wrC_take (C := d.content) hx0
    rcases hxm with hx1 | ⟨a, ha, haN, hxl, hxr⟩
    · rw [hx1] at hc1
      simp (config := { maxSteps := 3000000 }) (disch := omega) only [push_cast, Nat.reduceBEq, Nat.reduceEqDiff, Nat.reduceAdd, Nat.reduceMul, Nat.reduceSub, Nat.reduceLT, Int.reduceToNat, Int.reduceLT, Int.reduceLE, Int.reduceEq, Int.reduceAdd, Int.reduceSub, Int.reduceNeg, Int.reduceMul, hlt, hc1]
      refine ⟨k - 1, by omega, i + 1, E', tt, by omega, by simp, hwd, hed, hEDd, hcbd, hEwd, hsld, hfrd.mono (by omega), fun a haN => ?_, hud⟩
      rw [hcon a haN, htk]
      unfold wrC1
      rw [hx1, if_neg (by omega)]
    · rw [ha] at hc1
      have hdr : Upd (fun _ => False) wd wd.drew := Upd.drew
      have hc1d := cell_upd hc1 hdr fun h => h
      have hc2d := cell_upd hc2 hdr fun h => h
      have hedd := hed.upd hdr fun _ _ h => h
      have hfw := hfrd.write (x := a) (by omega) hxl hxr
      simp (config := { maxSteps := 3000000 }) (disch := omega) only [push_cast, Nat.reduceBEq, Nat.reduceEqDiff, Nat.reduceAdd, Nat.reduceMul, Nat.reduceSub, Nat.reduceLT, Int.reduceToNat, Int.reduceLT, Int.reduceLE, Int.reduceEq, Int.reduceAdd, Int.reduceSub, Int.reduceNeg, Int.reduceMul, hlt, hc1, hc2, hc1d, hc2d]
      refine Ok.use (write_ok hedd (by have := hfrd.wf.sz.size; omega) (by have := hfrd.wf.sz.few; omega) (fun k hk => by rw [hfrd.cnt] at hk; cases hk) (a : Int) (hus.upd hdr fun _ h => h.elim)) ?_
      rintro v we ⟨rfl, hee, hue⟩
      have hue2 : Upd E' wd we := (hdr.mono fun _ _ h => h.elim).trans hue fun _ _ h => h
      have hc1e := cell_upd hc1 hue2 hgb
      have hc2e := cell_upd hc2 hue2 hgb
      have hdre : Upd (fun _ => False) we we.drew := Upd.drew
      have hc1f := cell_upd hc1e hdre fun h => h
      have hc2f := cell_upd hc2e hdre fun h => h
      simp (config := { maxSteps := 3000000 }) (disch := omega) only [push_cast, Nat.reduceBEq, Nat.reduceEqDiff, Nat.reduceAdd, Nat.reduceMul, Nat.reduceSub, Nat.reduceLT, Int.reduceToNat, Int.reduceLT, Int.reduceLE, Int.reduceEq, Int.reduceAdd, Int.reduceSub, Int.reduceNeg, Int.reduceMul, hc1, hc2, hc1d, hc2d, hc1e, hc2e, hc1f, hc2f]
      have hD8b := hwd.disk.bd
      have hsd := hud.size
      refine ⟨k - 1, by omega, i + 1, gr E' wd.drew we, _, by omega, by simp, (hwd.quiet hdr).other hue hcbd ?_, hee, ?_, ?_, ?_, ?_, hfw.1, fun y hy => ?_, ?_⟩
      · exact fun b hb h => hb.elim (fun hb => hEDd b hb h) fun hb => by have := hD8b b h; have := hb.1; have := hdr.size; omega
      · exact fun b hb h => hb.elim (fun hb => hEDd b hb h) fun hb => by have := hD8b b h; have := hb.1; have := hdr.size; omega
      · exact fun hb => hb.elim hcbd fun hb => by have := (hwd.sep cb (.inl rfl)).2; have := hb.1; have := hdr.size; omega
      · exact fun b hb => hb.elim (hEwd b) fun hb => by have := hb.1; have := hdr.size; omega
      · exact hsld.go hue2 fun b hb h => h.elim (fun h => h) fun h => h.elim (fun h => h) fun h => by have := h.1; have := hdr.size; omega
      · rw [htk, hfrd.writeC haN hxl y]
        unfold wrC1
        rw [ha]
        by_cases h1 : a = y
        · rw [if_pos h1, if_pos (by omega)]
        · rw [if_neg h1, if_neg (by omega), hcon y hy]
      · exact hud.trans hue2 fun b hb h => by have := hEwd b h; omega
  · exact absurd hcnt h1
theorem checkpointSaves_law {w : World} (hK : KT w) (x : Int) (hx : (Lit.int .u8 x).wf = true) {vc vb : Value} (hc : ∃ ls, SlRC w (fun b => w.heap.size ≤ b) vc ls ∧ RngL ls) (hb : ∃ b, SlC w (fun b => w.heap.size ≤ b) vb b ∧ Rng b) :
    Ok (den Tryd.prog 5 #[.int .u8 x, vc, vb] w) fun u w' => u = .bool true ∧ Upd (fun _ => False) w w' := by
  obtain ⟨s, rfl, h⟩ := u8_of hx
  obtain ⟨ls, h1, h2⟩ := hc
  obtain ⟨b, h3, h4⟩ := hb
  exact saves_ok hK h h1 h2 h3 h4
end Go.Proofs.YtkceoefmhppddaaDoor.Fd
