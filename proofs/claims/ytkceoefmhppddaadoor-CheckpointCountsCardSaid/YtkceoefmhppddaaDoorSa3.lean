/-
  CheckpointCounts.
-/
import Derived.Test.YtkceoefmhppddaaDoorSa1
namespace Go.Proofs.YtkceoefmhppddaaDoor.Fd
set_option linter.unusedSimpArgs false
set_option linter.unusedVariables false
open Go
set_option maxRecDepth 100000
def toDOp (x : Int × List Int) : DOp := if x.1 < 0 then none else some (x.1.toNat, x.2)
theorem toDOp_neg {l : List Int} : toDOp (-1, l) = none := rfl
theorem toDOp_nat {a : Nat} {l : List Int} : toDOp ((a : Int), l) = some (a, l) := by
  unfold toDOp
  rw [if_neg (by show ¬ (a : Int) < 0; omega)]
  rfl
theorem putOps_one {sz at_ : Nat} {l : List Int} (hz : 0 < sz) (h : l.length = sz) : putOps sz at_ l = [some (at_, l), none] := by
  unfold putOps chL
  rw [nch_one hz h]
  simp [List.range_succ, chunk_one h]
theorem saveOps_P {sz at_ g : Nat} {b : List Int} (hz : 44 ≤ sz) : saveOps sz at_ b g = (savesP sz at_ b g).map toDOp := by
  unfold saveOps savesP
  rw [putOps_one (by omega) (by simp), putOps_one (by omega) (hdrP_length hz)]
  unfold putOps chL
  rw [List.map_append, List.map_append, List.map_map]
  simp only [List.map_cons, List.map_nil, toDOp_neg, toDOp_nat, List.append_assoc, List.cons_append, List.nil_append]
  have e : ((List.range (nch sz b.length)).map fun i => (some (at_ + 1 + i, chunk sz b i) : DOp)) = (List.range (nch sz b.length)).map (toDOp ∘ fun i => (((at_ + 1 + i : Nat) : Int), chunk sz b i)) :=
    List.map_congr_left fun i _ => toDOp_nat.symm
  rw [e]
theorem op_zero {N sz : Nat} {d : DS} (hoff : d.off = false) {o : DOp} (ho : ∀ x, o = some x → x.1 < d.dur.length ∧ x.2.length = d.size) : ({ d with cnt := some 0 } : DS).op o = ({ d with cnt := some 0, off := true }, 8) := by
  have hs : ({ d with cnt := some 0 } : DS).step = (false, { d with cnt := some 0, off := true }) := by unfold DS.step; dsimp only; rw [hoff]; rfl
  cases o with
  | none => unfold DS.op DS.sync; dsimp only; rw [hs]; rfl
  | some x =>
    have := ho x rfl
    unfold DS.op DS.write
    dsimp only
    rw [if_pos ⟨by omega, by omega, this.2⟩, hs]
    rfl
theorem op_succ {k : Nat} {d : DS} (hoff : d.off = false) (hcnt : d.cnt = none) {o : DOp} (ho : ∀ x, o = some x → x.1 < d.dur.length ∧ x.2.length = d.size) :
    ({ d with cnt := some (k + 1) } : DS).op o = ({ (d.op o).1 with cnt := some k }, 0) ∧ (d.op o).2 = 0 ∧ (d.op o).1.off = false ∧ (d.op o).1.cnt = none ∧ (d.op o).1.dur.length = d.dur.length ∧ (d.op o).1.size = d.size := by
  have hs : ({ d with cnt := some (k + 1) } : DS).step = (true, { d with cnt := some k }) := by unfold DS.step; dsimp only; rw [hoff]; rfl
  have h0 : d.step = (true, d) := by unfold DS.step; rw [hoff, hcnt]; rfl
  cases o with
  | none =>
    unfold DS.op DS.sync
    dsimp only
    rw [hs, h0]
    exact ⟨rfl, rfl, hoff, hcnt, settled_length, rfl⟩
  | some x =>
    have := ho x rfl
    unfold DS.op DS.write
    dsimp only
    have hc : 0 ≤ (x.1 : Int) ∧ (x.1 : Int) < d.dur.length ∧ x.2.length = d.size := ⟨by omega, by omega, this.2⟩
    rw [if_pos hc, hs, h0, if_pos hc]
    exact ⟨rfl, rfl, hoff, hcnt, rfl, rfl⟩
theorem run_take {N sz : Nat} : ∀ {L : List DOp} {d : DS} {k : Nat}, Fit N sz L → d.off = false → d.cnt = none → d.dur.length = N → d.size = sz →
    (runOps d (L.take k)).2 = 0 ∧ runOps { d with cnt := some k } L = if L.length ≤ k then ({ (runOps d (L.take k)).1 with cnt := some (k - L.length) }, 0) else ({ (runOps d (L.take k)).1 with cnt := some 0, off := true }, 8)
  | [], d, k, _, _, _, _, _ => by simp [runOps]
  | o :: r, d, 0, hf, hoff, hcnt, hN, hsz => by
    have ho : ∀ x, o = some x → x.1 < d.dur.length ∧ x.2.length = d.size := fun x e => by have := hf x (by rw [e]; exact List.mem_cons_self ..); omega
    have h := op_zero (N := N) (sz := sz) hoff ho
    refine ⟨rfl, ?_⟩
    rw [if_neg (by simp), runOps_bad (by rw [h]; show (8 : Int) ≠ 0; omega), h]
    rfl
  | o :: r, d, k + 1, hf, hoff, hcnt, hN, hsz => by
    have ho : ∀ x, o = some x → x.1 < d.dur.length ∧ x.2.length = d.size := fun x e => by have := hf x (by rw [e]; exact List.mem_cons_self ..); omega
    obtain ⟨h1, h2, h3, h4, h5, h6⟩ := op_succ (k := k) hoff hcnt ho
    obtain ⟨q1, q2⟩ := run_take (L := r) (d := (d.op o).1) (k := k) (fun x hx => hf x (List.mem_cons_of_mem _ hx)) h3 h4 (by omega) (by omega)
    rw [List.take_succ_cons, runOps_ok h2, runOps_ok (by rw [h1]), h1]
    refine ⟨q1, ?_⟩
    rw [q2, List.length_cons]
    by_cases h : r.length ≤ k
    · rw [if_pos h, if_pos (by omega), show k + 1 - (r.length + 1) = k - r.length by omega]
    · rw [if_neg h, if_neg (by omega)]
theorem run_snoc {d : DS} {L : List DOp} {i : Nat} {o : DOp} (h : L[i]? = some o) (h0 : (runOps d (L.take i)).2 = 0) : runOps d (L.take (i + 1)) = runOps (runOps d (L.take i)).1 [o] := by
  obtain ⟨h1, rfl⟩ := List.getElem?_eq_some_iff.1 h
  rw [List.take_succ_eq_append_getElem h1, runOps_append, if_pos h0]
theorem run_one {d : DS} {o : DOp} : (runOps d [o]).1 = (d.op o).1 := by
  by_cases h : (d.op o).2 = 0
  · rw [runOps_ok h]; rfl
  · rw [runOps_bad h]
theorem fail_nat {d : DS} (hoff : d.off = false) (k : Nat) : d.fail (k : Int) = { d with cnt := some k } := by
  unfold DS.fail
  rw [hoff, show (max (k : Int) 0).toNat = k by omega]
  rfl
theorem csave_cnt {N sz m : Nat} {d : DS} {c : CS} (hoff : d.off = false) (hcnt : d.cnt = none) (hN : d.dur.length = N) (hsz : d.size = sz) (h1 : c.first = 1) (h2 : c.n = m) (h3 : c.down = false) (hg : c.gen < 4611686018427387904) (hz : 44 ≤ sz) (hm : 1 ≤ m) (hmN : 1 + 2 * m ≤ N) (ht : c.target ≤ 1) {b : List Int} (hb : b.length ≤ (m - 1) * sz) (k : Nat) :
    (runOps d ((saveOps sz (1 + c.target * m) b (c.gen + 1)).take k)).2 = 0 ∧
    csave (d.fail (k : Int), c) b = if (saveOps sz (1 + c.target * m) b (c.gen + 1)).length ≤ k then (({ (runOps d ((saveOps sz (1 + c.target * m) b (c.gen + 1)).take k)).1 with cnt := some (k - (saveOps sz (1 + c.target * m) b (c.gen + 1)).length) }, { c with slot := c.target, newest := b, gen := c.gen + 1 }), 0)
      else (({ (runOps d ((saveOps sz (1 + c.target * m) b (c.gen + 1)).take k)).1 with cnt := some 0, off := true }, { c with down := true }), 8) := by
  have hT : c.target * m ≤ 1 * m := Nat.mul_le_mul_right m ht
  subst hsz
  obtain ⟨q1, q2⟩ := run_take (L := saveOps d.size (1 + c.target * m) b (c.gen + 1)) (d := d) (k := k) (saveOps_fit hz hm (by omega) hb) hoff hcnt hN rfl
  refine ⟨q1, ?_⟩
  rw [fail_nat hoff]
  unfold csave
  dsimp only
  rw [h3, h2, h1, if_neg (by simp), if_neg (by omega), q2]
  split
  · rfl
  · rfl
set_option maxHeartbeats 4000000 in
theorem counts_ok {w : World} (hK : KT w) {s : Nat} (hs : s < 256) {n : Nat} (hn : n < 256) {vc vb : Value} {ls : List (List Int)} {b : List Int} (hvc : SlRC w (fun b => w.heap.size ≤ b) vc ls) (hrl : RngL ls) (hvb : SlC w (fun b => w.heap.size ≤ b) vb b) (hrb : Rng b) :
    Ok (den Tryd.prog 7 #[.int .u8 (s : Int), vc, vb, .int .u8 (n : Int)] w) fun u w' => u = .bool true ∧ Upd (fun _ => False) w w' := by
  have t := fun {a b c : World} (x : Upd (fun _ => False) a b) (y : Upd (fun _ => False) b c) => x.trans y (F := fun _ => False) (fun _ _ h => h)
  obtain ⟨ca, cc, rfl, _⟩ := id hvc
  obtain ⟨ba, bc, rfl, hbc⟩ := id hvb.2
  refine den_ok (args := [.int .u8 (s : Int), .slice ca ls.length cc, .slice ba b.length bc, .int .u8 (n : Int)]) rs7 Tryd.func7 rfl mixed in7 ok7 rfl ?_
  simp (config := { maxSteps := 3000000 }) (disch := omega) only [push_cast, Nat.reduceBEq, Nat.reduceEqDiff, Nat.reduceAdd, Nat.reduceMul, Nat.reduceSub, Nat.reduceLT, Int.reduceToNat, Int.reduceLT, Int.reduceLE, Int.reduceEq, Int.reduceAdd, Int.reduceSub, Int.reduceNeg, Int.reduceMul]
  refine Ok.use (awake_ok hK) ?_
  rintro v w1 ⟨rfl, hu1⟩
  simp (config := { maxSteps := 3000000 }) (disch := omega) only [push_cast, Nat.reduceBEq, Nat.reduceEqDiff, Nat.reduceAdd, Nat.reduceMul, Nat.reduceSub, Nat.reduceLT, Int.reduceToNat, Int.reduceLT, Int.reduceLE, Int.reduceEq, Int.reduceAdd, Int.reduceSub, Int.reduceNeg, Int.reduceMul]
  refine Ok.use (make64_ok (F := fun b => w.heap.size ≤ b) hs (hvc.slr.go hu1 fun b hb h => h.elim (fun h => h.elim) fun h => h) hrl fun b hb => Nat.le_trans hu1.size hb) ?_
  rintro v w2 ⟨hv, hu2⟩
  have hu02 := t hu1 hu2
  simp (config := { maxSteps := 3000000 }) (disch := omega) only [push_cast, Nat.reduceBEq, Nat.reduceEqDiff, Nat.reduceAdd, Nat.reduceMul, Nat.reduceSub, Nat.reduceLT, Int.reduceToNat, Int.reduceLT, Int.reduceLE, Int.reduceEq, Int.reduceAdd, Int.reduceSub, Int.reduceNeg, Int.reduceMul]
  refine Ok.use (make64_ok (F := fun b => w.heap.size ≤ b) hs (hvc.slr.go hu02 fun b hb h => h.elim (fun h => h.elim) fun h => h) hrl fun b hb => Nat.le_trans hu02.size hb) ?_
  rintro v' w3 ⟨hv', hu3⟩
  have hu03 := t hu02 hu3
  unfold Mk64 at hv hv'
  by_cases h20 : 20 < ls.length
  · have h20i : (20 : Int) < (ls.length : Int) := by omega
    rw [if_pos h20] at hv hv'
    subst hv hv'
    simp (config := { maxSteps := 3000000 }) (disch := omega) only [push_cast, Nat.reduceBEq, Nat.reduceEqDiff, Nat.reduceAdd, Nat.reduceMul, Nat.reduceSub, Nat.reduceLT, Int.reduceToNat, Int.reduceLT, Int.reduceLE, Int.reduceEq, Int.reduceAdd, Int.reduceSub, Int.reduceNeg, Int.reduceMul, h20i]
    exact hu03
  have h20i : ¬ (20 : Int) < (ls.length : Int) := by omega
  rw [if_neg h20] at hv hv'
  obtain ⟨p, D, rfl, hd2, hDge⟩ := hv
  obtain ⟨q, E, rfl, he3, hEge⟩ := hv'
  have hd3 := hd2.upd hu3 fun _ _ h => h
  by_cases h2k : 2000 < b.length
  · have h2ki : (2000 : Int) < (b.length : Int) := by omega
    simp (config := { maxSteps := 3000000 }) (disch := omega) only [push_cast, Nat.reduceBEq, Nat.reduceEqDiff, Nat.reduceAdd, Nat.reduceMul, Nat.reduceSub, Nat.reduceLT, Int.reduceToNat, Int.reduceLT, Int.reduceLE, Int.reduceEq, Int.reduceAdd, Int.reduceSub, Int.reduceNeg, Int.reduceMul, h20i, h2ki]
    exact hu03
  have h2ki : ¬ (2000 : Int) < (b.length : Int) := by omega
  simp (config := { maxSteps := 3000000 }) (disch := omega) only [push_cast, Nat.reduceBEq, Nat.reduceEqDiff, Nat.reduceAdd, Nat.reduceMul, Nat.reduceSub, Nat.reduceLT, Int.reduceToNat, Int.reduceLT, Int.reduceLE, Int.reduceEq, Int.reduceAdd, Int.reduceSub, Int.reduceNeg, Int.reduceMul, h20i, h2ki]
  obtain ⟨N, hN⟩ : ∃ N, N = 8 + s % 8 := ⟨_, rfl⟩
  obtain ⟨sz, hsz⟩ : ∃ sz, sz = 64 + s / 8 := ⟨_, rfl⟩
  obtain ⟨ct, hct⟩ : ∃ ct, ct = N - 1 := ⟨_, rfl⟩
  obtain ⟨m, hm⟩ : ∃ m, m = ct / 2 := ⟨_, rfl⟩
  rw [← hN, ← hsz] at hd3 he3
  have hN1 : 8 ≤ N ∧ N ≤ 15 := by omega
  have hz1 : 64 ≤ sz ∧ sz ≤ 96 := by omega
  have hm1 : 3 ≤ m ∧ m ≤ 7 ∧ 1 + 2 * m ≤ N := by omega
  have eN : (N : Int) - 1 = (ct : Int) := by omega
  obtain ⟨hfr, hca⟩ := M64_fresh (N := N) (sz := sz) hrl
  have hlive := live_open (first := 1) (n := m) hfr.wf hfr.off hca (by omega)
  have hwf := hfr.wf
  have hoff := hfr.off
  have hcnt := hfr.cnt
  have hs1 := hu1.size
  have hs2 := hu02.size
  have hs3 := hu3.size
  have hDb := hd2.bd
  have hEb := he3.bd
  have hDw : ∀ b, D b → w.heap.size ≤ b := fun b hb => by have := hDge b hb; omega
  have hEw : ∀ b, E b → w.heap.size ≤ b := fun b hb => by have := hEge b hb; omega
  have hED : ∀ b, E b → ¬ D b := fun b hb hd => by have := hEge b hb; have := hDb b hd; omega
  have hfacts := hlive.facts (by omega) (by omega) fun a ha => (hfr.wf.durl ha).1
  have hmz : (m - 1) * sz ≤ 6 * 96 := Nat.mul_le_mul (by omega) (by omega)
  have hK0 := hK.1
  clear hd2
  generalize M64 N sz ls = d at *
  refine Ok.use (Sectors_ok hd3) ?_
  rintro v _ ⟨rfl, rfl⟩
  rw [hwf.sz.dur]
  simp (config := { maxSteps := 3000000 }) (disch := omega) only [push_cast, Nat.reduceBEq, Nat.reduceEqDiff, Nat.reduceAdd, Nat.reduceMul, Nat.reduceSub, Nat.reduceLT, Int.reduceToNat, Int.reduceLT, Int.reduceLE, Int.reduceEq, Int.reduceAdd, Int.reduceSub, Int.reduceNeg, Int.reduceMul, eN]
  have hdE := hd3.mono (G := fun b => D b ∨ E b) (fun b hb => .inl hb) fun b hb => hb.elim (fun h => by have := hDb b h; omega) (hEb b)
  refine Ok.use (copen2_ok (hK.upd hu03 fun h => h) hdE (fun h => h.elim (fun h => by have := hDw 0 h; omega) fun h => by have := hEw 0 h; omega) hwf (by omega) hoff hN1 hz1 hct hm) ?_
  rintro v w4 ⟨cb, hcb, rfl, hw4E, hu4⟩
  have hu04 := t hu03 hu4
  have hs4 := hu4.size
  have hw4 := hw4E.two (hd3.upd hu4 fun _ _ h => h) hED fun b hb => by have := hEb b hb; omega
  have he4 := he3.upd hu4 fun _ _ h => h
  clear hw4E hdE
  simp (config := { maxSteps := 3000000 }) (disch := omega) only [push_cast, Nat.reduceBEq, Nat.reduceEqDiff, Nat.reduceAdd, Nat.reduceMul, Nat.reduceSub, Nat.reduceLT, Int.reduceToNat, Int.reduceLT, Int.reduceLE, Int.reduceEq, Int.reduceAdd, Int.reduceSub, Int.reduceNeg, Int.reduceMul]
  refine Ok.use (slots_ok he4 hwf (by omega) hoff hN1.2 (by omega) hct hm (by omega)) ?_
  rintro v w6 ⟨⟨u0, u1, rfl, hr0, hr1⟩, hu6⟩
  have g0 := slotS_good (x := 1) (n := m) hwf (by omega)
  have g1 := slotS_good (x := 1 + m) (n := m) hwf (by omega)
  simp (config := { maxSteps := 3000000 }) (disch := omega) only [push_cast, Nat.reduceBEq, Nat.reduceEqDiff, Nat.reduceAdd, Nat.reduceMul, Nat.reduceSub, Nat.reduceLT, Int.reduceToNat, Int.reduceLT, Int.reduceLE, Int.reduceEq, Int.reduceAdd, Int.reduceSub, Int.reduceNeg, Int.reduceMul]
  refine Ok.use (rNewest_ok hr0 hr1 g0.1 g1.1 slotS_len slotS_len (by omega) (by omega) (by omega) (by omega) g0.2 g1.2) ?_
  rintro v w7 ⟨⟨x, rfl, hx⟩, hu7⟩
  have hu47 := t hu6 hu7
  have hu07 := t hu04 hu47
  have hw7 := hw4.quiet hu47
  have he7 := he4.upd hu47 fun _ _ h => h
  have hs47 := hu6.size
  have eq2 : newestP (slotP (slotS d 1 m)) (slotP (slotS d (1 + m) m)) = ((openC d 1 m).slot, (openC d 1 m).newest, (openC d 1 m).gen) := rfl
  rw [eq2] at hx ⊢
  dsimp only at hx ⊢
  have htg : (openC d 1 m).target = 1 - (openC d 1 m).slot ∧ (openC d 1 m).slot ≤ 1 := by rw [openC_L]; exact open_target
  have hc1 : (openC d 1 m).n = m := rfl
  have hc2 : (openC d 1 m).first = 1 := rfl
  have hru : Rng (openC d 1 m).newest := by
    obtain ⟨_, _, _, _, hr⟩ := hw4.at_
    exact hr
  generalize openC d 1 m = c at *
  have hdn : c.down = false := hfacts.2.2.2.2.2
  have hcbE : ¬ E cb := fun h => by have := hEb cb h; omega
  have hcbw : w.heap.size ≤ cb := by omega
  have hs67 := hu7.size
  have hcb4 := (hw4.sep cb (.inl rfl)).2
  have hD4 := hw4.disk.bd
  obtain ⟨xa, xc, rfl, _⟩ := id hx
  obtain ⟨R, hR⟩ : ∃ R, R = (m - 1) * sz := ⟨_, rfl⟩
  have hroom := Room_ok hw7 (by show 1 ≤ c.n; omega) (by show c.n ≤ _; omega) (by show d.size ≤ _; rw [hlive.size]; omega)
  dsimp only at hroom
  rw [hc1, hlive.size, ← hR] at hroom
  simp (config := { maxSteps := 3000000 }) (disch := omega) only [push_cast, Nat.reduceBEq, Nat.reduceEqDiff, Nat.reduceAdd, Nat.reduceMul, Nat.reduceSub, Nat.reduceLT, Int.reduceToNat, Int.reduceLT, Int.reduceLE, Int.reduceEq, Int.reduceAdd, Int.reduceSub, Int.reduceNeg, Int.reduceMul]
  refine Ok.use hroom ?_
  rintro v w8 ⟨rfl, hu8⟩
  have hu08 := t hu07 hu8
  have hw8 := hw7.quiet hu8
  have he8 := he7.upd hu8 fun _ _ h => h
  by_cases hbR : R < b.length
  · have hbRi : (R : Int) < (b.length : Int) := by omega
    simp (config := { maxSteps := 3000000 }) (disch := omega) only [push_cast, Nat.reduceBEq, Nat.reduceEqDiff, Nat.reduceAdd, Nat.reduceMul, Nat.reduceSub, Nat.reduceLT, Int.reduceToNat, Int.reduceLT, Int.reduceLE, Int.reduceEq, Int.reduceAdd, Int.reduceSub, Int.reduceNeg, Int.reduceMul, hbRi]
    exact hu08
  have hbRi : ¬ (R : Int) < (b.length : Int) := by omega
  by_cases hgm : c.gen = 4611686018427387904
  · have hgmi : (c.gen : Int) = 4611686018427387904 := by omega
    simp (config := { maxSteps := 3000000 }) (disch := omega) only [push_cast, Nat.reduceBEq, Nat.reduceEqDiff, Nat.reduceAdd, Nat.reduceMul, Nat.reduceSub, Nat.reduceLT, Int.reduceToNat, Int.reduceLT, Int.reduceLE, Int.reduceEq, Int.reduceAdd, Int.reduceSub, Int.reduceNeg, Int.reduceMul, hbRi, hgmi]
    exact hu08
  have hgmi : ¬ (c.gen : Int) = 4611686018427387904 := by omega
  have e2 : IntKind.i64.wrap ((ct : Int).tdiv 2) = (m : Int) := by
    rw [show (2 : Int) = ((2 : Nat) : Int) from rfl, ← Int.ofNat_tdiv, IntKind.wrap_i64]; omega
  obtain ⟨T, hT⟩ : ∃ T, T = c.target := ⟨_, rfl⟩
  rw [← hT] at htg
  obtain ⟨Tm, hTm⟩ : ∃ Tm, Tm = T * m := ⟨_, rfl⟩
  obtain ⟨st, hst⟩ : ∃ st, st = 1 + Tm := ⟨_, rfl⟩
  obtain ⟨g1, hg1e⟩ : ∃ g1, g1 = c.gen + 1 := ⟨_, rfl⟩
  have eT : (1 : Int) - (c.slot : Int) = (T : Int) := by omega
  have eTm : (T : Int) * (m : Int) = (Tm : Int) := by rw [hTm, Int.natCast_mul]
  have est : (1 : Int) + (Tm : Int) = (st : Int) := by omega
  have eg1 : (c.gen : Int) + 1 = (g1 : Int) := by omega
  have hTm7 : Tm ≤ 7 := by
    have : T * m ≤ 1 * m := Nat.mul_le_mul_right m (by omega)
    omega
  have hTmN : st + m ≤ N := by
    have : T * m ≤ 1 * m := Nat.mul_le_mul_right m (by omega)
    omega
  simp (config := { maxSteps := 3000000 }) (disch := omega) only [push_cast, Nat.reduceBEq, Nat.reduceEqDiff, Nat.reduceAdd, Nat.reduceMul, Nat.reduceSub, Nat.reduceLT, Int.reduceToNat, Int.reduceLT, Int.reduceLE, Int.reduceEq, Int.reduceAdd, Int.reduceSub, Int.reduceNeg, Int.reduceMul, hbRi, hgmi, eg1, eT, e2, eTm, est]
  refine Ok.use (Size_ok hw8.disk) ?_
  rintro v _ ⟨rfl, rfl⟩
  dsimp only
  rw [hlive.size]
  simp (config := { maxSteps := 3000000 }) (disch := omega) only [push_cast, Nat.reduceBEq, Nat.reduceEqDiff, Nat.reduceAdd, Nat.reduceMul, Nat.reduceSub, Nat.reduceLT, Int.reduceToNat, Int.reduceLT, Int.reduceLE, Int.reduceEq, Int.reduceAdd, Int.reduceSub, Int.reduceNeg, Int.reduceMul, hbRi, hgmi, eg1, eT, e2, eTm, est]
  have hvb8 : SlB w8 (fun b => w8.heap.size ≤ b) (.slice ba b.length bc) b := (hvb.1.upd hu08 fun _ h => h.elim).mono fun q _ hq => Nat.le_trans hu08.size hq
  refine Ok.use (rSaves_ok hvb8 (by omega) hrb (by omega) (by omega) hz1) ?_
  rintro v wa ⟨hW, hua⟩
  have hwa := hw8.quiet hua
  have hu0a := t hu08 hua
  have hea := he8.upd hua fun _ _ h => h
  have hsl := hW.slw
  obtain ⟨wa1, wc1, rfl⟩ := hW.form
  have hnb := nch_bound (sz := sz) (by omega) (show b.length ≤ (m - 1) * sz by omega)
  have hmem := saves_mem (N := N) (g := g1) (start := st) (by omega : 44 ≤ sz) (by omega) hrb
  have hLl := saves_len (sz := sz) (start := st) (g := g1) (b := b)
  have hP := saveOps_P (at_ := st) (g := g1) (b := b) (by omega : 44 ≤ sz)
  have hcsv := fun k => csave_cnt (k := k) (b := b) hoff hcnt hwf.sz.dur hwf.sz.size hc2 hc1 hdn (by omega) (by omega : 44 ≤ sz) (by omega) hm1.2.2 (by omega) (by omega)
  rw [← hT, ← hTm, ← hst, ← hg1e, hP] at hcsv
  generalize hLe : savesP sz st b g1 = L at *
  obtain ⟨kk, hkk⟩ : ∃ kk, kk = n % (L.length + 1) := ⟨_, rfl⟩
  have ekk : ((n : Nat) : Int).tmod ((L.length : Int) + 1) = (kk : Int) := by
    rw [hkk, show ((L.length : Int) + 1) = ((L.length + 1 : Nat) : Int) from rfl, ← Int.ofNat_tmod]
  have hkl : kk ≤ L.length := by have := Nat.mod_lt n (show 0 < L.length + 1 by omega); omega
  have hLm : (L.map toDOp).length = L.length := List.length_map ..
  simp (config := { maxSteps := 3000000 }) (disch := omega) only [push_cast, Nat.reduceBEq, Nat.reduceEqDiff, Nat.reduceAdd, Nat.reduceMul, Nat.reduceSub, Nat.reduceLT, Int.reduceToNat, Int.reduceLT, Int.reduceLE, Int.reduceEq, Int.reduceAdd, Int.reduceSub, Int.reduceNeg, Int.reduceMul, ekk]
  refine Ok.use (cfail_ok hwa (kk : Int)) ?_
  rintro v w9 ⟨D9, hw9, ht9⟩
  dsimp only at hw9
  obtain ⟨hu09, hD9w⟩ := ht9.fresh hu0a hDw hcbw
  have hwf9 := hwf.fail (k := (kk : Int)) (by omega)
  have hFF : ∀ q, FF D9 (fun b => b = cb ∨ E b) q → w.heap.size ≤ q := fun q hq => hq.elim (fun h => hD9w q h) fun h => h.elim (fun e => by omega) fun h => hEw q h
  have hvb9 : SlC w9 (FF D9 fun b => b = cb ∨ E b) (.slice ba b.length bc) b := (hvb.upd hu09 fun _ h => h.elim).mono fun q _ hq => hFF q hq
  have hsave := save_ok hw9 hwf9.sz (by omega) (by omega) (by omega) (by show c.first ≤ _; omega) (by show c.n ≤ _; omega) (by show 1 ≤ c.n; omega) (by show c.gen ≤ _; omega) hvb9 hrb
  have hwfA : WfD N sz 100 (csave (d.fail (kk : Int), c) b).1.1 := (csave_wf (i := 0) (k := 100) (hwf9) hrb fun at_ g => by
    rw [hwf9.sz.size, saveOps_len (by omega)]
    have := nch_bound (sz := sz) (m := 40) (by omega) (show b.length ≤ 40 * sz by omega)
    omega).mono (by omega)
  obtain ⟨hq0, hcs⟩ := hcsv kk
  simp (config := { maxSteps := 3000000 }) (disch := omega) only [push_cast, Nat.reduceBEq, Nat.reduceEqDiff, Nat.reduceAdd, Nat.reduceMul, Nat.reduceSub, Nat.reduceLT, Int.reduceToNat, Int.reduceLT, Int.reduceLE, Int.reduceEq, Int.reduceAdd, Int.reduceSub, Int.reduceNeg, Int.reduceMul, ekk]
  refine Ok.use hsave ?_
  rintro v w10 ⟨rfl, D10, hw10, ht10⟩
  clear hsave
  obtain ⟨hu10, hD10w⟩ := ht10.fresh hu09 hD9w hcbw
  have ht := ht9.trans ht10
  have heb : ∀ b, E b → b < wa.heap.size := hea.bd
  have he10 := hea.upd ht.upd fun b hb h => h.elim (hED b hb) fun e => hcbE (by rw [← e]; exact hb)
  have hED10 : ∀ b, E b → ¬ D10 b := fun b hb h => (ht.new b h).elim (hED b hb) fun h => by have := heb b hb; have := h.1; omega
  have hsl10 := hsl.go (F' := E) ht.upd fun b _ h => by
    have hx1 := hu8.size
    have hx2 := hu6.size
    have hx3 := hs4
    rcases h with (h | h) | h
    · have := hDb b h; show b < _; omega
    · show b < _; omega
    · have := hEb b h; show b < _; omega
  generalize csave (d.fail (kk : Int), c) b = r at *
  obtain ⟨⟨d', c'⟩, code⟩ := r
  dsimp only at hw10 hwfA hcs ⊢
  unfold errV
  simp (config := { maxSteps := 3000000 }) (disch := omega) only [push_cast, Nat.reduceBEq, Nat.reduceEqDiff, Nat.reduceAdd, Nat.reduceMul, Nat.reduceSub, Nat.reduceLT, Int.reduceToNat, Int.reduceLT, Int.reduceLE, Int.reduceEq, Int.reduceAdd, Int.reduceSub, Int.reduceNeg, Int.reduceMul, ekk]
  refine loop_inv (I := fun k st w' => Bx (∃ i E' t, k + i = kk ∧ st = [.int .i64 ((i : Nat) : Int)] ∧ CW w' D10 (fun b => b = cb ∨ E' b) p cb (d', c') ∧ IsDisk w' E' q t ∧ (∀ b, E' b → ¬ D10 b) ∧ ¬ E' cb ∧ (∀ b, E' b → w.heap.size ≤ b) ∧ SlW w' E' (.slice wa1 L.length wc1) L ∧ Fresh N sz i t ∧ t = (runOps d ((L.map toDOp).take i)).1 ∧ Upd (fun _ => False) w w') ⟨⟩) ?_ kk
    ⟨0, E, d, by omega, rfl, hw10, he10, hED10, hcbE, hEw, hsl10, hfr, rfl, hu10⟩
  clear hsl10 hsl hea hwa he8 hw9 hu09 hu0a hw10 he10 hu10 ht9 ht10 ht
  rintro k st wd ⟨i, E', tt, hk, rfl, hwd, hed, hEDd, hcbd, hEwd, hsld, hfrd, htt, hud⟩
  by_cases hk0 : k = 0
  · obtain rfl : i = kk := by omega
    have hlt : ¬ ((i : Nat) : Int) < (i : Int) := by omega
    rw [← htt] at hcs
    by_cases hfull : (L.map toDOp).length ≤ i
    · have hil : (i : Int) = (L.length : Int) := by omega
      rw [if_pos hfull] at hcs
      simp only [Prod.mk.injEq] at hcs
      obtain ⟨⟨e1, e2c⟩, e3⟩ := hcs
      subst e3
      have hdc : c'.down = false := by rw [e2c]; exact hdn
      have hdo : d'.off = false := by rw [e1]; exact hfrd.off
      have hds : d'.sync.2 = 8 := by
        have : d'.step.1 = false := by
          unfold DS.step
          rw [hdo, if_neg (by simp), show d'.cnt = some 0 by rw [e1, show i - (L.map toDOp).length = 0 by omega]]
        unfold DS.sync
        rw [this]
        rfl
      simp (config := { maxSteps := 3000000 }) (disch := omega) only [push_cast, Nat.reduceBEq, Nat.reduceEqDiff, Nat.reduceAdd, Nat.reduceMul, Nat.reduceSub, Nat.reduceLT, Int.reduceToNat, Int.reduceLT, Int.reduceLE, Int.reduceEq, Int.reduceAdd, Int.reduceSub, Int.reduceNeg, Int.reduceMul, hlt, hil]
      refine Ok.use (Down_ok2 hwd) ?_
      rintro v _ ⟨rfl, rfl⟩
      dsimp only
      rw [hdc]
      simp (config := { maxSteps := 3000000 }) (disch := omega) only [push_cast, Nat.reduceBEq, Nat.reduceEqDiff, Nat.reduceAdd, Nat.reduceMul, Nat.reduceSub, Nat.reduceLT, Int.reduceToNat, Int.reduceLT, Int.reduceLE, Int.reduceEq, Int.reduceAdd, Int.reduceSub, Int.reduceNeg, Int.reduceMul]
      refine Ok.use (Down_ok hwd.disk) ?_
      rintro v _ ⟨rfl, rfl⟩
      dsimp only
      rw [hdo]
      simp (config := { maxSteps := 3000000 }) (disch := omega) only [push_cast, Nat.reduceBEq, Nat.reduceEqDiff, Nat.reduceAdd, Nat.reduceMul, Nat.reduceSub, Nat.reduceLT, Int.reduceToNat, Int.reduceLT, Int.reduceLE, Int.reduceEq, Int.reduceAdd, Int.reduceSub, Int.reduceNeg, Int.reduceMul]
      refine Ok.use (sync_ok hwd.disk (by have := hwfA.sz.few; show d'.cache.length < _; omega) fun k hk => hwfA.sz.cnt k hk) ?_
      rintro v we ⟨rfl, hee, hue⟩
      dsimp only
      rw [hds]
      simp (config := { maxSteps := 3000000 }) (disch := omega) only [push_cast, Nat.reduceBEq, Nat.reduceEqDiff, Nat.reduceAdd, Nat.reduceMul, Nat.reduceSub, Nat.reduceLT, Int.reduceToNat, Int.reduceLT, Int.reduceLE, Int.reduceEq, Int.reduceAdd, Int.reduceSub, Int.reduceNeg, Int.reduceMul]
      exact hud.trans hue fun b hb h => by have := hD10w b h; omega
    · have hil : ¬ (i : Int) = (L.length : Int) := by omega
      rw [if_neg hfull] at hcs
      simp only [Prod.mk.injEq] at hcs
      obtain ⟨⟨e1, e2c⟩, e3⟩ := hcs
      subst e3
      have hdc : c'.down = true := by rw [e2c]
      have hecr : d'.crash [] = tt.crash [] := by rw [e1]; rfl
      have hc1' : c'.first = 1 ∧ c'.n = m ∧ c'.gen = c.gen := by rw [e2c]; exact ⟨hc2, hc1, rfl⟩
      have hcs2 : csave (d', c') [] = ((d', c'), 8) := by unfold csave; dsimp only; rw [hdc, if_pos rfl]
      have hcrD := hwfA.crash []
      have hcrE := hfrd.wf.crash []
      have hard : Rng (allD (tt.crash []) N) := allD_rng fun a ha => (hcrE.content ha).2
      have hsad := str_eq hard hard
      have hwdb := hwd.disk.bd
      have hedb := hed.bd
      simp (config := { maxSteps := 3000000 }) (disch := omega) only [push_cast, Nat.reduceBEq, Nat.reduceEqDiff, Nat.reduceAdd, Nat.reduceMul, Nat.reduceSub, Nat.reduceLT, Int.reduceToNat, Int.reduceLT, Int.reduceLE, Int.reduceEq, Int.reduceAdd, Int.reduceSub, Int.reduceNeg, Int.reduceMul, hlt, hil]
      refine Ok.use (Down_ok2 hwd) ?_
      rintro v _ ⟨rfl, rfl⟩
      dsimp only
      rw [hdc]
      simp (config := { maxSteps := 3000000 }) (disch := omega) only [push_cast, Nat.reduceBEq, Nat.reduceEqDiff, Nat.reduceAdd, Nat.reduceMul, Nat.reduceSub, Nat.reduceLT, Int.reduceToNat, Int.reduceLT, Int.reduceLE, Int.reduceEq, Int.reduceAdd, Int.reduceSub, Int.reduceNeg, Int.reduceMul]
      refine Ok.use (save_ok hwd hwfA.sz (by omega) (by omega) (by omega) (by show c'.first ≤ _; omega) (by show c'.n ≤ _; omega) (by show 1 ≤ c'.n; omega) (by show c'.gen ≤ _; omega) (y := .slice none 0 0) (b := []) ⟨⟨none, 0, rfl, fun h => absurd rfl h⟩, none, 0, rfl, Nat.le_refl _⟩ (fun x hx => by cases hx)) ?_
      rintro v we ⟨rfl, D11, hwe, hte⟩
      rw [hcs2] at hwe ⊢
      dsimp only at hwe ⊢
      obtain ⟨hue, hD11w⟩ := hte.fresh hud hD10w hcbw
      have hED11 : ∀ b, E' b → ¬ D11 b := fun b hb h => (hte.new b h).elim (hEDd b hb) fun h => by have := hedb b hb; have := h.1; omega
      have hede := hed.upd hte.upd fun b hb h => h.elim (hEDd b hb) fun e => hcbd (by rw [← e]; exact hb)
      unfold errV
      simp (config := { maxSteps := 3000000 }) (disch := omega) only [push_cast, Nat.reduceBEq, Nat.reduceEqDiff, Nat.reduceAdd, Nat.reduceMul, Nat.reduceSub, Nat.reduceLT, Int.reduceToNat, Int.reduceLT, Int.reduceLE, Int.reduceEq, Int.reduceAdd, Int.reduceSub, Int.reduceNeg, Int.reduceMul]
      refine Ok.use (crash_ok (l := []) hwe.disk (by have := hwfA.sz.few; show d'.cache.length < _; omega) ⟨none, 0, rfl, fun h => absurd rfl h⟩) ?_
      rintro v wf ⟨hdf, huf⟩
      have hedf := hede.upd huf hED11
      have hedb2 := hede.bd
      have hE12 : ∀ b, gr D11 we wf b → ¬ E' b := fun b hb h => hb.elim (fun hb => hED11 b h hb) fun hb => by have := hedb2 b h; have := hb.1; omega
      have hudf := hue.trans huf fun b hb h => by have := hD11w b h; omega
      simp (config := { maxSteps := 3000000 }) (disch := omega) only [push_cast, Nat.reduceBEq, Nat.reduceEqDiff, Nat.reduceAdd, Nat.reduceMul, Nat.reduceSub, Nat.reduceLT, Int.reduceToNat, Int.reduceLT, Int.reduceLE, Int.reduceEq, Int.reduceAdd, Int.reduceSub, Int.reduceNeg, Int.reduceMul]
      refine Ok.use (crash_ok (l := []) hedf (by have := hfrd.wf.sz.few; omega) ⟨none, 0, rfl, fun h => absurd rfl h⟩) ?_
      rintro v wg ⟨heg, hug⟩
      have hdg := hdf.upd hug hE12
      have hudg := hudf.trans hug fun b hb h => by have := hEwd b h; omega
      simp (config := { maxSteps := 3000000 }) (disch := omega) only [push_cast, Nat.reduceBEq, Nat.reduceEqDiff, Nat.reduceAdd, Nat.reduceMul, Nat.reduceSub, Nat.reduceLT, Int.reduceToNat, Int.reduceLT, Int.reduceLE, Int.reduceEq, Int.reduceAdd, Int.reduceSub, Int.reduceNeg, Int.reduceMul]
      refine Ok.use (all_ok hdg hcrD (by omega) rfl hN1.2 (by omega)) ?_
      rintro v wh ⟨rfl, huh⟩
      rw [show (d', c').1.crash [] = tt.crash [] from hecr]
      simp (config := { maxSteps := 3000000 }) (disch := omega) only [push_cast, Nat.reduceBEq, Nat.reduceEqDiff, Nat.reduceAdd, Nat.reduceMul, Nat.reduceSub, Nat.reduceLT, Int.reduceToNat, Int.reduceLT, Int.reduceLE, Int.reduceEq, Int.reduceAdd, Int.reduceSub, Int.reduceNeg, Int.reduceMul]
      refine Ok.use (all_ok (heg.upd huh fun _ _ h => h) hcrE (by omega) rfl hN1.2 (by omega)) ?_
      rintro v wi ⟨rfl, hui⟩
      simp (config := { maxSteps := 3000000 }) (disch := omega) only [push_cast, Nat.reduceBEq, Nat.reduceEqDiff, Nat.reduceAdd, Nat.reduceMul, Nat.reduceSub, Nat.reduceLT, Int.reduceToNat, Int.reduceLT, Int.reduceLE, Int.reduceEq, Int.reduceAdd, Int.reduceSub, Int.reduceNeg, Int.reduceMul, hsad]
      exact t hudg (t huh hui)
  have hlt : ((i : Nat) : Int) < (kk : Int) := by omega
  have hx0 : L[i]? = some (L[i]'(by omega)) := List.getElem?_eq_getElem _
  have hxm := hmem _ (List.getElem_mem (l := L) (n := i) (by omega))
  obtain ⟨x, hxe⟩ : ∃ x, x = L[i]'(by omega) := ⟨_, rfl⟩
  rw [← hxe] at hx0 hxm
  obtain ⟨_, _, e, hcells⟩ := id hsld
  injection e with e1 _ e3
  subst e1 e3
  obtain ⟨gb, go, u, rfl, hc1', hc2', hus, hgb⟩ := hcells i x hx0
  have htk : (runOps d ((L.map toDOp).take (i + 1))).1 = (tt.op (toDOp x)).1 := by
    rw [run_snoc (o := toDOp x) (by rw [List.getElem?_map, hx0]; rfl) (hcsv i).1, ← htt, run_one]
  have hil : (i : Int) < (L.length : Int) := by omega
  have hD10b := hwd.disk.bd
  have hsd := hud.size
  obtain ⟨x1, x2⟩ := x
  dsimp only at hc1' hc2' hus hxm
  have fin : ∀ {wx we : World} {d2 : DS}, Upd (fun _ => False) wd wx → IsDisk we (gr E' wx we) q d2 → Upd E' wx we → CW we D10 (fun b => b = cb ∨ gr E' wx we b) p cb (d', c') ∧ (∀ b, gr E' wx we b → ¬ D10 b) ∧ ¬ gr E' wx we cb ∧ (∀ b, gr E' wx we b → w.heap.size ≤ b) ∧ SlW we (gr E' wx we) (.slice (some ⟨gb, go, none⟩) L.length wc1) L ∧ Upd (fun _ => False) w we := by
    intro wx we d2 hdr hee hue
    have hds := hdr.size
    have hue2 : Upd E' wd we := (hdr.mono fun _ _ h => h.elim).trans hue fun _ _ h => h
    have hg : ∀ b, gr E' wx we b → ¬ D10 b := fun b hb h => hb.elim (fun hb => hEDd b hb h) fun hb => by have := hD10b b h; have := hb.1; omega
    refine ⟨(hwd.quiet hdr).other hue hcbd hg, hg, ?_, ?_, ?_, ?_⟩
    · exact fun hb => hb.elim hcbd fun hb => by have := (hwd.sep cb (.inl rfl)).2; have := hb.1; omega
    · exact fun b hb => hb.elim (hEwd b) fun hb => by have := hb.1; omega
    · exact hsld.go hue2 fun b hb h => h.elim (fun h => h) fun h => h.elim (fun h => h) fun h => by have := h.1; omega
    · exact hud.trans hue2 fun b hb h => by have := hEwd b h; omega
  rcases hxm with rfl | ⟨a, rfl, haN, hxl, hxr⟩
  · simp (config := { maxSteps := 3000000 }) (disch := omega) only [push_cast, Nat.reduceBEq, Nat.reduceEqDiff, Nat.reduceAdd, Nat.reduceMul, Nat.reduceSub, Nat.reduceLT, Int.reduceToNat, Int.reduceLT, Int.reduceLE, Int.reduceEq, Int.reduceAdd, Int.reduceSub, Int.reduceNeg, Int.reduceMul, hlt, hc1', hil]
    have hfw := hfrd.sync
    refine Ok.use (sync_ok hed (by have := hfrd.wf.sz.few; omega) fun k hk => by rw [hfrd.cnt] at hk; cases hk) ?_
    rintro v we ⟨rfl, hee, hue⟩
    obtain ⟨f1, f2, f3, f4, f5, f6⟩ := fin (Upd.refl) hee hue
    simp (config := { maxSteps := 3000000 }) (disch := omega) only [push_cast, Nat.reduceBEq, Nat.reduceEqDiff, Nat.reduceAdd, Nat.reduceMul, Nat.reduceSub, Nat.reduceLT, Int.reduceToNat, Int.reduceLT, Int.reduceLE, Int.reduceEq, Int.reduceAdd, Int.reduceSub, Int.reduceNeg, Int.reduceMul]
    exact ⟨k - 1, by omega, i + 1, _, _, by omega, by simp, f1, hee, f2, f3, f4, f5, hfw.1.mono (by omega), htk.symm, f6⟩
  · have hdr : Upd (fun _ => False) wd wd.drew := Upd.drew
    have hc1d := cell_upd hc1' hdr fun h => h
    have hc2d := cell_upd hc2' hdr fun h => h
    have hedd := hed.upd hdr fun _ _ h => h
    have hfw := hfrd.write (x := a) (by omega) hxl hxr
    rw [toDOp_nat] at htk
    simp (config := { maxSteps := 3000000 }) (disch := omega) only [push_cast, Nat.reduceBEq, Nat.reduceEqDiff, Nat.reduceAdd, Nat.reduceMul, Nat.reduceSub, Nat.reduceLT, Int.reduceToNat, Int.reduceLT, Int.reduceLE, Int.reduceEq, Int.reduceAdd, Int.reduceSub, Int.reduceNeg, Int.reduceMul, hlt, hc1', hc2', hc1d, hc2d, hil]
    refine Ok.use (write_ok hedd (by have := hfrd.wf.sz.size; omega) (by have := hfrd.wf.sz.few; omega) (fun k hk => by rw [hfrd.cnt] at hk; cases hk) (a : Int) (hus.upd hdr fun _ h => h.elim)) ?_
    rintro v we ⟨rfl, hee, hue⟩
    obtain ⟨f1, f2, f3, f4, f5, f6⟩ := fin hdr hee hue
    have hue2 : Upd E' wd we := (hdr.mono fun _ _ h => h.elim).trans hue fun _ _ h => h
    have hc1e := cell_upd hc1' hue2 hgb
    have hc2e := cell_upd hc2' hue2 hgb
    have hdre : Upd (fun _ => False) we we.drew := Upd.drew
    have hc1f := cell_upd hc1e hdre fun h => h
    have hc2f := cell_upd hc2e hdre fun h => h
    simp (config := { maxSteps := 3000000 }) (disch := omega) only [push_cast, Nat.reduceBEq, Nat.reduceEqDiff, Nat.reduceAdd, Nat.reduceMul, Nat.reduceSub, Nat.reduceLT, Int.reduceToNat, Int.reduceLT, Int.reduceLE, Int.reduceEq, Int.reduceAdd, Int.reduceSub, Int.reduceNeg, Int.reduceMul, hlt, hil, hc1', hc2', hc1d, hc2d, hc1e, hc2e, hc1f, hc2f]
    exact ⟨k - 1, by omega, i + 1, _, _, by omega, by simp, f1, hee, f2, f3, f4, f5, hfw.1, htk.symm, f6⟩
theorem checkpointCounts_law {w : World} (hK : KT w) (x : Int) (hx : (Lit.int .u8 x).wf = true) {vc vb : Value} (hc : ∃ ls, SlRC w (fun b => w.heap.size ≤ b) vc ls ∧ RngL ls) (hb : ∃ b, SlC w (fun b => w.heap.size ≤ b) vb b ∧ Rng b) (y : Int) (hy : (Lit.int .u8 y).wf = true) :
    Ok (den Tryd.prog 7 #[.int .u8 x, vc, vb, .int .u8 y] w) fun u w' => u = .bool true ∧ Upd (fun _ => False) w w' := by
  obtain ⟨s, rfl, h⟩ := u8_of hx
  obtain ⟨n, rfl, hn⟩ := u8_of hy
  obtain ⟨ls, h1, h2⟩ := hc
  obtain ⟨b, h3, h4⟩ := hb
  exact counts_ok hK h hn h1 h2 h3 h4
end Go.Proofs.YtkceoefmhppddaaDoor.Fd
