/-
  CheckpointEvery.
-/
import Derived.Test.YtkceoefmhppddaaDoorOpE
namespace Go.Proofs.YtkceoefmhppddaaDoor.Fd
set_option linter.unusedSimpArgs false
set_option linter.unusedVariables false
open Go
set_option maxRecDepth 100000
theorem M64_nil {N sz : Nat} : ∀ a, a < N → DurL (M64 N sz []) a = List.replicate sz 0 := by
  intro a ha
  have e : M64 N sz [] = (DS.new N sz).sync.1 := by
    unfold M64 ops64
    simp only [List.length_nil, Nat.zero_min, List.range_zero, List.map_nil, List.nil_append]
    rfl
  rw [e]
  exact new_durl ha
set_option maxHeartbeats 4000000 in
theorem every_ok {w : World} (hK : KT w) {s : Nat} (hs : s < 256) {va vb vk : Value} {a b : List Int} {keep : List Bool} (hva : SlC w (fun b => w.heap.size ≤ b) va a) (hvb : SlC w (fun b => w.heap.size ≤ b) vb b) (hvk : SlT w (fun b => w.heap.size ≤ b) vk keep) (hra : Rng a) (hrb : Rng b) :
    Ok (den Tryd.prog 9 #[.int .u8 (s : Int), va, vb, vk] w) fun u w' => u = .bool true ∧ Upd (fun _ => False) w w' := by
  have t := fun {a b c : World} (x : Upd (fun _ => False) a b) (y : Upd (fun _ => False) b c) => x.trans y (F := fun _ => False) (fun _ _ h => h)
  obtain ⟨aa, ac, rfl, hac⟩ := id hva.2
  obtain ⟨ba, bc, rfl, hbc⟩ := id hvb.2
  obtain ⟨ka, kc, rfl⟩ := hvk.form
  refine den_ok (args := [.int .u8 (s : Int), .slice aa a.length ac, .slice ba b.length bc, .slice ka keep.length kc]) rs9 Tryd.func9 rfl mixed in9 ok9 rfl ?_
  simp (config := { maxSteps := 3000000 }) (disch := omega) only [push_cast, Nat.reduceBEq, Nat.reduceEqDiff, Nat.reduceAdd, Nat.reduceMul, Nat.reduceSub, Nat.reduceLT, Int.reduceToNat, Int.reduceLT, Int.reduceLE, Int.reduceEq, Int.reduceAdd, Int.reduceSub, Int.reduceNeg, Int.reduceMul]
  refine Ok.use (awake_ok hK) ?_
  rintro v w1 ⟨rfl, hu1⟩
  simp (config := { maxSteps := 3000000 }) (disch := omega) only [push_cast, Nat.reduceBEq, Nat.reduceEqDiff, Nat.reduceAdd, Nat.reduceMul, Nat.reduceSub, Nat.reduceLT, Int.reduceToNat, Int.reduceLT, Int.reduceLE, Int.reduceEq, Int.reduceAdd, Int.reduceSub, Int.reduceNeg, Int.reduceMul]
  obtain ⟨N, hN⟩ : ∃ N, N = 8 + s % 8 := ⟨_, rfl⟩
  obtain ⟨sz, hsz⟩ : ∃ sz, sz = 64 + s / 8 := ⟨_, rfl⟩
  obtain ⟨m, hm⟩ : ∃ m, m = (N - 1) / 2 := ⟨_, rfl⟩
  have hsz96 : sz ≤ 96 := by omega
  refine loop_inv (I := fun k st w' => Bx (∃ n, k + n = 40 ∧ n ≤ 12 ∧ st = [.int .i64 ((n : Nat) : Int)] ∧ Upd (fun _ => False) w w') ⟨⟩) ?_ 40
    ⟨0, by omega, by omega, rfl, hu1⟩
  rintro k st w2 ⟨n, hk, hn12, rfl, hu2⟩
  have hle : (n : Int) < 40 := by omega
  simp (config := { maxSteps := 3000000 }) (disch := omega) only [push_cast, Nat.reduceBEq, Nat.reduceEqDiff, Nat.reduceAdd, Nat.reduceMul, Nat.reduceSub, Nat.reduceLT, Int.reduceToNat, Int.reduceLT, Int.reduceLE, Int.reduceEq, Int.reduceAdd, Int.reduceSub, Int.reduceNeg, Int.reduceMul, hle]
  refine Ok.use (make64_ok (F := fun b => w2.heap.size ≤ b) hs (SlR.nil (a := none) (c := 0)) (fun l hl => by cases hl) fun b hb => hb) ?_
  rintro v w3 ⟨hv, hu3⟩
  unfold Mk64 at hv
  rw [if_neg (by simp)] at hv
  obtain ⟨p, D, rfl, hd3, hDge⟩ := hv
  rw [← hN, ← hsz] at hd3
  have hu03 := t hu2 hu3
  have hs2 := hu2.size
  have hK3 := hK.upd hu03 fun h => h
  have hK0 := hK.1
  obtain ⟨hfr, hca⟩ := M64_fresh (N := N) (sz := sz) (ls := []) fun l hl => by cases hl
  have hop : openC (M64 N sz []) 1 m = ⟨1, m, 1, [], 0, false⟩ := by
    rw [openC_L, openL_congr (L' := DurL (M64 N sz [])) fun x _ _ => content_nil hca]
    exact openL_zero (by omega) (M64_nil _ (by omega)) (M64_nil _ (by omega))
  have hlive := live_open (first := 1) (n := m) hfr.wf hfr.off hca (by omega)
  rw [hop] at hlive
  have hwf0 := hfr.wf
  have hoff0 := hfr.off
  have hcnt0 := hfr.cnt
  clear hfr
  generalize M64 N sz [] = d0 at *
  have hdl := hwf0.sz.dur
  simp (config := { maxSteps := 3000000 }) (disch := omega) only [push_cast, Nat.reduceBEq, Nat.reduceEqDiff, Nat.reduceAdd, Nat.reduceMul, Nat.reduceSub, Nat.reduceLT, Int.reduceToNat, Int.reduceLT, Int.reduceLE, Int.reduceEq, Int.reduceAdd, Int.reduceSub, Int.reduceNeg, Int.reduceMul]
  refine Ok.use (Sectors_ok hd3) ?_
  rintro v _ ⟨rfl, rfl⟩
  rw [hdl]
  have eN : (N : Int) - 1 = ((N - 1 : Nat) : Int) := by omega
  obtain ⟨ct, hct⟩ : ∃ ct, ct = N - 1 := ⟨_, rfl⟩
  rw [← hct] at eN
  have hm2 : ct / 2 = m := by rw [hct, hm]
  simp (config := { maxSteps := 3000000 }) (disch := omega) only [push_cast, Nat.reduceBEq, Nat.reduceEqDiff, Nat.reduceAdd, Nat.reduceMul, Nat.reduceSub, Nat.reduceLT, Int.reduceToNat, Int.reduceLT, Int.reduceLE, Int.reduceEq, Int.reduceAdd, Int.reduceSub, Int.reduceNeg, Int.reduceMul, eN]
  have hopen := open_ok hK3 hd3 (fun h => by have := hDge 0 h; omega) hwf0.sz (by omega) (by omega) (by omega) (by omega) (first := 1) (count := ct) (by omega) (by omega) (by omega) (by omega) fun y hy => hwf0.content hy
  rw [hoff0, hm2, hop] at hopen
  simp only [Bool.false_eq_true, if_false] at hopen
  refine Ok.use hopen ?_
  rintro v w4 ⟨⟨cb, hcb, rfl, hw4⟩, hu4⟩
  have hu04 := t hu03 hu4
  have hs3 := hu3.size
  have hDw : ∀ b, D b → w.heap.size ≤ b := fun b hb => by have := hDge b hb; omega
  have hcbw : w.heap.size ≤ cb := by omega
  simp (config := { maxSteps := 3000000 }) (disch := omega) only [push_cast, Nat.reduceBEq, Nat.reduceEqDiff, Nat.reduceAdd, Nat.reduceMul, Nat.reduceSub, Nat.reduceLT, Int.reduceToNat, Int.reduceLT, Int.reduceLE, Int.reduceEq, Int.reduceAdd, Int.reduceSub, Int.reduceNeg, Int.reduceMul]
  have hmz : (m - 1) * sz ≤ 6 * 96 := Nat.mul_le_mul (by omega) hsz96
  obtain ⟨R, hR⟩ : ∃ R, R = (m - 1) * sz := ⟨_, rfl⟩
  have hroom := Room_ok hw4 (by show 1 ≤ m; omega) (by show m ≤ _; omega) (by show d0.size ≤ _; rw [hwf0.sz.size]; omega)
  rw [show (d0, (⟨1, m, 1, [], 0, false⟩ : CS)).2.n = m from rfl, show (d0, (⟨1, m, 1, [], 0, false⟩ : CS)).1.size = sz from hwf0.sz.size, ← hR] at hroom
  rw [← hR] at hmz
  refine Ok.use hroom ?_
  rintro v w5 ⟨rfl, hu5⟩
  have hw5 := hw4.quiet hu5
  have hu05 := t hu04 hu5
  by_cases hla : R < a.length
  · have hla2 : (R : Int) < (a.length : Int) := by omega
    simp (config := { maxSteps := 3000000 }) (disch := omega) only [push_cast, Nat.reduceBEq, Nat.reduceEqDiff, Nat.reduceAdd, Nat.reduceMul, Nat.reduceSub, Nat.reduceLT, Int.reduceToNat, Int.reduceLT, Int.reduceLE, Int.reduceEq, Int.reduceAdd, Int.reduceSub, Int.reduceNeg, Int.reduceMul, hla2]
    exact hu05
  have hla2 : ¬ (R : Int) < (a.length : Int) := by omega
  simp (config := { maxSteps := 3000000 }) (disch := omega) only [push_cast, Nat.reduceBEq, Nat.reduceEqDiff, Nat.reduceAdd, Nat.reduceMul, Nat.reduceSub, Nat.reduceLT, Int.reduceToNat, Int.reduceLT, Int.reduceLE, Int.reduceEq, Int.reduceAdd, Int.reduceSub, Int.reduceNeg, Int.reduceMul, hla2]
  have hroom2 := Room_ok hw5 (by show 1 ≤ m; omega) (by show m ≤ _; omega) (by show d0.size ≤ _; rw [hwf0.sz.size]; omega)
  rw [show (d0, (⟨1, m, 1, [], 0, false⟩ : CS)).2.n = m from rfl, show (d0, (⟨1, m, 1, [], 0, false⟩ : CS)).1.size = sz from hwf0.sz.size, ← hR] at hroom2
  refine Ok.use hroom2 ?_
  rintro v w6 ⟨rfl, hu6⟩
  have hw6 := hw5.quiet hu6
  have hu06 := t hu05 hu6
  by_cases hlb : R < b.length
  · have hlb2 : (R : Int) < (b.length : Int) := by omega
    simp (config := { maxSteps := 3000000 }) (disch := omega) only [push_cast, Nat.reduceBEq, Nat.reduceEqDiff, Nat.reduceAdd, Nat.reduceMul, Nat.reduceSub, Nat.reduceLT, Int.reduceToNat, Int.reduceLT, Int.reduceLE, Int.reduceEq, Int.reduceAdd, Int.reduceSub, Int.reduceNeg, Int.reduceMul, hlb2]
    exact hu06
  have hlb2 : ¬ (R : Int) < (b.length : Int) := by omega
  simp (config := { maxSteps := 3000000 }) (disch := omega) only [push_cast, Nat.reduceBEq, Nat.reduceEqDiff, Nat.reduceAdd, Nat.reduceMul, Nat.reduceSub, Nat.reduceLT, Int.reduceToNat, Int.reduceLT, Int.reduceLE, Int.reduceEq, Int.reduceAdd, Int.reduceSub, Int.reduceNeg, Int.reduceMul, hlb2]
  have hFF : ∀ {w' : World} {E : Nat → Prop} {x : Value} {l : List Int}, (∀ b, E b → w.heap.size ≤ b) → Upd (fun _ => False) w w' → SlC w (fun b => w.heap.size ≤ b) x l → SlC w' (FF E fun b => b = cb) x l := fun {w' E x l} hE hu hx => (hx.upd hu fun _ h => h.elim).mono fun q _ hq => hq.elim (fun h => hE q h) fun h => by omega
  have hsave := save_ok hw6 hwf0.sz (by omega) (by omega) (by omega) (by show 1 ≤ _; omega) (by show m ≤ _; omega) (by show 1 ≤ m; omega) (by show 0 ≤ _; omega) (hFF hDw hu06 hva) hra (by omega)
  have hcs := csave_spec hlive hwf0 (by omega) (by omega) (by omega) (by omega) (by omega) a
  have hwf1 : WfD N sz (0 + 100) (csave (d0, ⟨1, m, 1, [], 0, false⟩) a).1.1 := csave_wf hwf0 hra fun at_ g => by
    rw [hwf0.sz.size, saveOps_len (by omega)]
    have := nch_bound (sz := sz) (by omega) (show a.length ≤ (m - 1) * sz by omega)
    omega
  have hcs2 : (csave (d0, ⟨1, m, 1, [], 0, false⟩) a).2 = 0 ∧ (csave (d0, ⟨1, m, 1, [], 0, false⟩) a).1.2 = ⟨1, m, 0, a, 1, false⟩ ∧ Live N sz 1 m (csave (d0, ⟨1, m, 1, [], 0, false⟩) a).1.1 (csave (d0, ⟨1, m, 1, [], 0, false⟩) a).1.2 ∧ (csave (d0, ⟨1, m, 1, [], 0, false⟩) a).1.1.cnt = none := by
    rcases hcs with ⟨h1, _⟩ | ⟨_, _, h1, h2, h3, h4, _⟩ | ⟨_, _, _, _, h1, _⟩
    · exact absurd h1 (by simp; omega)
    · exact ⟨h1, h3, h2, h4 hcnt0⟩
    · exact absurd hcnt0 h1
  clear hcs
  refine Ok.use hsave ?_
  rintro v w7 ⟨rfl, D7, hw7, ht7⟩
  clear hsave
  obtain ⟨hu07, hD7⟩ := ht7.fresh hu06 hDw hcbw
  obtain ⟨c1, c2, hlive1, hcnt1⟩ := hcs2
  generalize csave (d0, ⟨1, m, 1, [], 0, false⟩) a = r at *
  obtain ⟨⟨d1, c'⟩, code⟩ := r
  dsimp only at c1 c2 hlive1 hcnt1 hwf1 hw7 ⊢
  subst c1 c2
  unfold errV
  simp (config := { maxSteps := 3000000 }) (disch := omega) only [push_cast, Nat.reduceBEq, Nat.reduceEqDiff, Nat.reduceAdd, Nat.reduceMul, Nat.reduceSub, Nat.reduceLT, Int.reduceToNat, Int.reduceLT, Int.reduceLE, Int.reduceEq, Int.reduceAdd, Int.reduceSub, Int.reduceNeg, Int.reduceMul]
  refine Ok.use (cfail_ok hw7 (n : Int)) ?_
  rintro v w8 ⟨D8, hw8, ht8⟩
  obtain ⟨hu08, hD8⟩ := ht8.fresh hu07 hD7 hcbw
  obtain ⟨hlive2, hcnt2, _⟩ := hlive1.fail n
  have hwf2 := hwf1.fail (k := (n : Int)) (by omega)
  dsimp only at hw8
  generalize d1.fail (n : Int) = d2 at *
  simp (config := { maxSteps := 3000000 }) (disch := omega) only [push_cast, Nat.reduceBEq, Nat.reduceEqDiff, Nat.reduceAdd, Nat.reduceMul, Nat.reduceSub, Nat.reduceLT, Int.reduceToNat, Int.reduceLT, Int.reduceLE, Int.reduceEq, Int.reduceAdd, Int.reduceSub, Int.reduceNeg, Int.reduceMul]
  have hsave := save_ok hw8 hwf2.sz (by omega) (by omega) (by omega) (by show 1 ≤ _; omega) (by show m ≤ _; omega) (by show 1 ≤ m; omega) (by show 1 ≤ _; omega) (hFF hD8 hu08 hvb) hrb (by omega)
  have hcs := csave_spec hlive2 hwf2 (by omega) (by omega) (by omega) (by omega) (by omega) b
  have hlen : (saveOps sz (1 + 1 * m) b 2).length ≤ 11 := by
    rw [saveOps_len (by omega)]
    have := nch_bound (sz := sz) (by omega) (show b.length ≤ (m - 1) * sz by omega)
    omega
  have hwf3 : WfD N sz (0 + 100 + 100) (csave (d2, ⟨1, m, 0, a, 1, false⟩) b).1.1 := csave_wf hwf2 hrb fun at_ g => by
    rw [hwf2.sz.size, saveOps_len (by omega)]
    have := nch_bound (sz := sz) (by omega) (show b.length ≤ (m - 1) * sz by omega)
    omega
  have hcs2 : ((csave (d2, ⟨1, m, 0, a, 1, false⟩) b).2 = 0 ∧ ∀ L, (∀ x, Poss (csave (d2, ⟨1, m, 0, a, 1, false⟩) b).1.1 x (L x)) → openL L 1 m = ⟨1, m, 1, b, 2, false⟩) ∨ ((csave (d2, ⟨1, m, 0, a, 1, false⟩) b).2 = 8 ∧ n < 11 ∧ ∀ L, (∀ x, Poss (csave (d2, ⟨1, m, 0, a, 1, false⟩) b).1.1 x (L x)) → openL L 1 m = ⟨1, m, 0, a, 1, false⟩ ∨ openL L 1 m = ⟨1, m, 1, b, 2, false⟩) := by
    rcases hcs with ⟨h1, _⟩ | ⟨_, _, h1, h2, h3, _, _⟩ | ⟨hbl, _, h1, _, h3, h4⟩
    · exact absurd h1 (by simp; omega)
    · left
      refine ⟨h1, fun L hL => ?_⟩
      have e : L = DurL (csave (d2, ⟨1, m, 0, a, 1, false⟩) b).1.1 := funext fun x => poss_nil h2.ca hL x
      rw [e, ← h2.opn, h3]
      rfl
    · right
      rw [h1]
      refine ⟨rfl, ?_, h4⟩
      rcases Nat.lt_or_ge n 11 with hh | hh
      · exact hh
      · exfalso
        have hne : (csave (d2, ⟨1, m, 0, a, 1, false⟩) b).2 = 8 := by rw [h1]
        have hgood := runOps_enough (d := d2) (k := n) (saveOps_fit (N := N) (sz := sz) (at_ := 1 + 1 * m) (n := m) (g := 2) (by omega) (by omega) (by omega) hbl) hlive2.off hcnt2 (by omega) hlive2.len hlive2.size
        unfold csave at hne
        dsimp only at hne
        rw [if_neg (by decide), if_neg (by rw [hlive2.size]; omega), hlive2.size] at hne
        have hT : CS.target ⟨1, m, 0, a, 1, false⟩ = 1 := rfl
        rw [hT, if_pos hgood] at hne
        cases hne
  clear hcs
  refine Ok.use hsave ?_
  rintro v w9 ⟨rfl, D9, hw9, ht9⟩
  clear hsave
  obtain ⟨hu09, hD9⟩ := ht9.fresh hu08 hD8 hcbw
  generalize csave (d2, ⟨1, m, 0, a, 1, false⟩) b = r at *
  obtain ⟨⟨d3, c3⟩, code⟩ := r
  dsimp only at hcs2 hwf3 hw9 ⊢
  unfold errV
  simp (config := { maxSteps := 3000000 }) (disch := omega) only [push_cast, Nat.reduceBEq, Nat.reduceEqDiff, Nat.reduceAdd, Nat.reduceMul, Nat.reduceSub, Nat.reduceLT, Int.reduceToNat, Int.reduceLT, Int.reduceLE, Int.reduceEq, Int.reduceAdd, Int.reduceSub, Int.reduceNeg, Int.reduceMul]
  refine Ok.use (crash_ok hw9.disk (by have := hwf3.sz.few; show d3.cache.length < _; omega) ((hvk.to hu09 fun q hq => hD9 q hq))) ?_
  rintro v w10 ⟨hd10, hu10⟩
  dsimp only at hd10
  have hu010 : Upd (fun _ => False) w w10 := hu09.trans hu10 fun q hq h => by have := hD9 q h; omega
  have hs9 := hu09.size
  have hD10 : ∀ q, gr D9 w9 w10 q → w.heap.size ≤ q := fun q hq => hq.elim (hD9 q) fun h => by have := h.1; omega
  generalize gr D9 w9 w10 = D10 at *
  have hwf4 := hwf3.crash keep
  have hposs : ∀ x, Poss d3 x (DurL (d3.crash keep) x) := fun x => crash_poss
  have hoff4 : (d3.crash keep).off = false := rfl
  have hopn := crash_open (d := d3) (first := 1) (n := m) keep
  simp (config := { maxSteps := 3000000 }) (disch := omega) only [push_cast, Nat.reduceBEq, Nat.reduceEqDiff, Nat.reduceAdd, Nat.reduceMul, Nat.reduceSub, Nat.reduceLT, Int.reduceToNat, Int.reduceLT, Int.reduceLE, Int.reduceEq, Int.reduceAdd, Int.reduceSub, Int.reduceNeg, Int.reduceMul]
  refine Ok.use (Sectors_ok hd10) ?_
  rintro v _ ⟨rfl, rfl⟩
  rw [hwf4.sz.dur]
  simp (config := { maxSteps := 3000000 }) (disch := omega) only [push_cast, Nat.reduceBEq, Nat.reduceEqDiff, Nat.reduceAdd, Nat.reduceMul, Nat.reduceSub, Nat.reduceLT, Int.reduceToNat, Int.reduceLT, Int.reduceLE, Int.reduceEq, Int.reduceAdd, Int.reduceSub, Int.reduceNeg, Int.reduceMul, eN]
  have hopen := open_ok (hK.upd hu010 fun h => h) hd10 (fun h => by have := hD10 0 h; omega) hwf4.sz (by omega) (by omega) (by omega) (by omega) (first := 1) (count := ct) (by omega) (by omega) (by omega) (by omega) fun y hy => hwf4.content hy
  rw [hoff4, hm2, hopn] at hopen
  simp only [Bool.false_eq_true, if_false] at hopen
  refine Ok.use hopen ?_
  rintro v w11 ⟨⟨ob, hob, rfl, hw11⟩, hu11⟩
  have hu011 := t hu010 hu11
  have hcs3 : (code = 0 ∧ openL (DurL (d3.crash keep)) 1 m = ⟨1, m, 1, b, 2, false⟩) ∨ (code = 8 ∧ n < 11 ∧ (openL (DurL (d3.crash keep)) 1 m = ⟨1, m, 0, a, 1, false⟩ ∨ openL (DurL (d3.crash keep)) 1 m = ⟨1, m, 1, b, 2, false⟩)) := by
    rcases hcs2 with ⟨h1, h2⟩ | ⟨h1, h2, h3⟩
    · exact .inl ⟨h1, h2 _ hposs⟩
    · exact .inr ⟨h1, h2, h3 _ hposs⟩
  generalize openL (DurL (d3.crash keep)) 1 m = co at *
  simp (config := { maxSteps := 3000000 }) (disch := omega) only [push_cast, Nat.reduceBEq, Nat.reduceEqDiff, Nat.reduceAdd, Nat.reduceMul, Nat.reduceSub, Nat.reduceLT, Int.reduceToNat, Int.reduceLT, Int.reduceLE, Int.reduceEq, Int.reduceAdd, Int.reduceSub, Int.reduceNeg, Int.reduceMul]
  refine Ok.use (load_ok hw11 (by
    show co.newest.length ≤ _
    rcases hcs3 with ⟨_, e⟩ | ⟨_, _, e | e⟩ <;> rw [e] <;> dsimp only <;> omega) (by
    show co.gen ≤ _
    rcases hcs3 with ⟨_, e⟩ | ⟨_, _, e | e⟩ <;> rw [e] <;> dsimp only <;> omega)) ?_
  rintro v w12 ⟨u, rfl, h12⟩
  have hu012 := t hu011 h12.upd
  dsimp only at h12 ⊢
  have hA12 := hva.1.upd hu012 fun _ h => h.elim
  have hB12 := hvb.1.upd hu012 fun _ h => h.elim
  have cA := cnv_str hA12
  have cB := cnv_str hB12
  rcases hcs3 with ⟨rfl, rfl⟩ | ⟨rfl, hn11, rfl | rfl⟩
  · have hcl : cload ⟨1, m, 1, b, 2, false⟩ = (b, 2) := rfl
    rw [hcl] at h12 ⊢
    obtain ⟨ua, uc, rfl, _⟩ := h12.own.form
    have cU := cnv_str h12.slc.1
    have hse := str_eq hrb hrb
    simp (config := { maxSteps := 3000000 }) (disch := omega) only [push_cast, Nat.reduceBEq, Nat.reduceEqDiff, Nat.reduceAdd, Nat.reduceMul, Nat.reduceSub, Nat.reduceLT, Int.reduceToNat, Int.reduceLT, Int.reduceLE, Int.reduceEq, Int.reduceAdd, Int.reduceSub, Int.reduceNeg, Int.reduceMul, cA, cB, cU, hse]
    exact hu012
  · have hcl : cload ⟨1, m, 0, a, 1, false⟩ = (a, 1) := rfl
    rw [hcl] at h12 ⊢
    obtain ⟨ua, uc, rfl, _⟩ := h12.own.form
    have cU := cnv_str h12.slc.1
    have hse := str_eq hra hra
    simp (config := { maxSteps := 3000000 }) (disch := omega) only [push_cast, Nat.reduceBEq, Nat.reduceEqDiff, Nat.reduceAdd, Nat.reduceMul, Nat.reduceSub, Nat.reduceLT, Int.reduceToNat, Int.reduceLT, Int.reduceLE, Int.reduceEq, Int.reduceAdd, Int.reduceSub, Int.reduceNeg, Int.reduceMul, cA, cB, cU, hse]
    exact ⟨k - 1, by omega, n + 1, by omega, by omega, by simp, hu012⟩
  · have hcl : cload ⟨1, m, 1, b, 2, false⟩ = (b, 2) := rfl
    rw [hcl] at h12 ⊢
    obtain ⟨ua, uc, rfl, _⟩ := h12.own.form
    have cU := cnv_str h12.slc.1
    have hse := str_eq hrb hrb
    simp (config := { maxSteps := 3000000 }) (disch := omega) only [push_cast, Nat.reduceBEq, Nat.reduceEqDiff, Nat.reduceAdd, Nat.reduceMul, Nat.reduceSub, Nat.reduceLT, Int.reduceToNat, Int.reduceLT, Int.reduceLE, Int.reduceEq, Int.reduceAdd, Int.reduceSub, Int.reduceNeg, Int.reduceMul, cA, cB, cU, hse]
    exact ⟨k - 1, by omega, n + 1, by omega, by omega, by simp, hu012⟩
theorem checkpointEvery_law {w : World} (hK : KT w) (x : Int) (hx : (Lit.int .u8 x).wf = true) {va vb vk : Value} (ha : ∃ l, SlC w (fun b => w.heap.size ≤ b) va l ∧ Rng l) (hb : ∃ l, SlC w (fun b => w.heap.size ≤ b) vb l ∧ Rng l) (hk : ∃ l, SlT w (fun b => w.heap.size ≤ b) vk l) :
    Ok (den Tryd.prog 9 #[.int .u8 x, va, vb, vk] w) fun u w' => u = .bool true ∧ Upd (fun _ => False) w w' := by
  obtain ⟨s, rfl, hs⟩ := u8_of hx
  obtain ⟨a, h1, h2⟩ := ha
  obtain ⟨b, h3, h4⟩ := hb
  obtain ⟨keep, h5⟩ := hk
  exact every_ok hK hs h1 h3 h5 h2 h4
end Go.Proofs.YtkceoefmhppddaaDoor.Fd
