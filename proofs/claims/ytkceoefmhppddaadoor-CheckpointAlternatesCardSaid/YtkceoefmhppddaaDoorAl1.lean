/-
  CheckpointAlternates.
-/
import Derived.Test.YtkceoefmhppddaaDoorSl1
namespace Go.Proofs.YtkceoefmhppddaaDoor.Fd
set_option linter.unusedSimpArgs false
set_option linter.unusedVariables false
open Go
set_option maxRecDepth 100000
theorem M64_nil2 {N sz : Nat} : ∀ a, a < N → DurL (M64 N sz []) a = List.replicate sz 0 := by
  intro a ha
  have e : M64 N sz [] = (DS.new N sz).sync.1 := by
    unfold M64 ops64
    simp only [List.length_nil, Nat.zero_min, List.range_zero, List.map_nil, List.nil_append]
    rfl
  rw [e]
  exact new_durl ha
theorem slotS_dur {d : DS} {x n : Nat} (h : d.cache = []) : slotS d x n = slotSL (DurL d) x n := slotSL_congr (L := d.content) fun a _ _ => content_nil h
theorem alt_slot {N sz m g T : Nat} {d d' : DS} {b : List Int} (hlen : ∀ a, a < N → (DurL d' a).length = sz) (hca : d'.cache = []) (hz : 64 ≤ sz ∧ sz ≤ 96) (hm : 3 ≤ m ∧ m ≤ 7 ∧ 1 + 2 * m ≤ N) (hb : b.length ≤ (m - 1) * sz) (hg : g < 4611686018427387904) (hT : T ≤ 1)
    (h4 : ∀ a, a < N → DurL d' a = if a = 1 + T * m then hdrP sz b (g + 1) else if 1 + T * m + 1 ≤ a ∧ a < 1 + T * m + 1 + nch sz b.length then chunk sz b (a - (1 + T * m + 1)) else DurL d a) :
    slotP (slotS d' (1 + T * m) m) = some (b, g + 1) ∧ ∀ T', T' ≤ 1 → T' ≠ T → slotP (slotS d' (1 + T' * m) m) = slotP (slotSL (DurL d) (1 + T' * m) m) := by
  have hnb := nch_bound (by omega : 0 < sz) hb
  have hmz : (m - 1) * sz ≤ 6 * 96 := Nat.mul_le_mul (by omega) (by omega)
  have hTm : T * m ≤ 1 * m := Nat.mul_le_mul_right m hT
  rw [slotS_dur hca]
  refine ⟨?_, fun T' h1 h2 => ?_⟩
  · refine slotP_hdr (by omega) (by omega) (by rw [h4 _ (by omega), if_pos rfl]) (fun i hi => ?_) (fun i hi => hlen _ (by omega)) hb (by omega) ⟨by omega, by omega⟩
    rw [h4 _ (by omega), if_neg (by omega), if_pos ⟨by omega, by omega⟩, show 1 + T * m + 1 + i - (1 + T * m + 1) = i by omega]
  · rw [slotS_dur hca]
    congr 1
    refine slotSL_congr fun a q1 q2 => ?_
    have hT2 : (T = 0 ∧ T' = 1) ∨ (T = 1 ∧ T' = 0) := by omega
    rcases hT2 with ⟨rfl, rfl⟩ | ⟨rfl, rfl⟩
    · rw [h4 a (by omega), if_neg (by omega), if_neg (by omega)]
    · rw [h4 a (by omega), if_neg (by omega), if_neg (by omega)]
/-- What has been saved so far. -/
def AlI (m : Nat) (list : List (List Int)) (i : Nat) (d : DS) (c : CS) : Prop :=
  c.gen = i ∧ (0 < i → c.slot = (i - 1) % 2 ∧ ∃ l, list[i - 1]? = some l ∧ slotP (slotS d (1 + ((i - 1) % 2) * m) m) = some (l, i))
theorem AlI.target {m : Nat} {list : List (List Int)} {i : Nat} {d : DS} {c : CS} (h : AlI m list i d c) : c.target = i % 2 := by
  unfold CS.target
  rw [h.1]
  rcases Nat.eq_zero_or_pos i with h0 | h0
  · rw [if_neg (by omega)]; omega
  · have hs := (h.2 h0).1
    by_cases h1 : c.slot = 0
    · rw [if_pos ⟨h0, h1⟩]; omega
    · rw [if_neg (by omega)]; omega
set_option maxHeartbeats 4000000 in
theorem alternates_ok {w : World} (hK : KT w) {s : Nat} (hs : s < 256) {vc : Value} {list : List (List Int)} (hvc : SlRC w (fun b => w.heap.size ≤ b) vc list) (hrl : RngL list) :
    Ok (den Tryd.prog 3 #[.int .u8 (s : Int), vc] w) fun u w' => u = .bool true ∧ Upd (fun _ => False) w w' := by
  have t := fun {a b c : World} (x : Upd (fun _ => False) a b) (y : Upd (fun _ => False) b c) => x.trans y (F := fun _ => False) (fun _ _ h => h)
  obtain ⟨ca, cc, rfl, _⟩ := id hvc
  refine den_ok (args := [.int .u8 (s : Int), .slice ca list.length cc]) rs3 Tryd.func3 rfl mixed in3 ok3 rfl ?_
  simp (config := { maxSteps := 3000000 }) (disch := omega) only [push_cast, Nat.reduceBEq, Nat.reduceEqDiff, Nat.reduceAdd, Nat.reduceMul, Nat.reduceSub, Nat.reduceLT, Int.reduceToNat, Int.reduceLT, Int.reduceLE, Int.reduceEq, Int.reduceAdd, Int.reduceSub, Int.reduceNeg, Int.reduceMul]
  refine Ok.use (awake_ok hK) ?_
  rintro v w1 ⟨rfl, hu1⟩
  simp (config := { maxSteps := 3000000 }) (disch := omega) only [push_cast, Nat.reduceBEq, Nat.reduceEqDiff, Nat.reduceAdd, Nat.reduceMul, Nat.reduceSub, Nat.reduceLT, Int.reduceToNat, Int.reduceLT, Int.reduceLE, Int.reduceEq, Int.reduceAdd, Int.reduceSub, Int.reduceNeg, Int.reduceMul]
  refine Ok.use (make64_ok (F := fun b => w1.heap.size ≤ b) hs (SlR.nil (a := none) (c := 0)) (fun l hl => by cases hl) fun b hb => hb) ?_
  rintro v w2 ⟨hv, hu2⟩
  have hu02 := t hu1 hu2
  unfold Mk64 at hv
  rw [if_neg (by simp)] at hv
  obtain ⟨p, D, rfl, hd2, hDge⟩ := hv
  by_cases h8 : 8 < list.length
  · have h8i : (8 : Int) < (list.length : Int) := by omega
    simp (config := { maxSteps := 3000000 }) (disch := omega) only [push_cast, Nat.reduceBEq, Nat.reduceEqDiff, Nat.reduceAdd, Nat.reduceMul, Nat.reduceSub, Nat.reduceLT, Int.reduceToNat, Int.reduceLT, Int.reduceLE, Int.reduceEq, Int.reduceAdd, Int.reduceSub, Int.reduceNeg, Int.reduceMul, h8i]
    exact hu02
  have h8i : ¬ (8 : Int) < (list.length : Int) := by omega
  simp (config := { maxSteps := 3000000 }) (disch := omega) only [push_cast, Nat.reduceBEq, Nat.reduceEqDiff, Nat.reduceAdd, Nat.reduceMul, Nat.reduceSub, Nat.reduceLT, Int.reduceToNat, Int.reduceLT, Int.reduceLE, Int.reduceEq, Int.reduceAdd, Int.reduceSub, Int.reduceNeg, Int.reduceMul, h8i]
  obtain ⟨N, hN⟩ : ∃ N, N = 8 + s % 8 := ⟨_, rfl⟩
  obtain ⟨sz, hsz⟩ : ∃ sz, sz = 64 + s / 8 := ⟨_, rfl⟩
  obtain ⟨ct, hct⟩ : ∃ ct, ct = N - 1 := ⟨_, rfl⟩
  obtain ⟨m, hm⟩ : ∃ m, m = ct / 2 := ⟨_, rfl⟩
  rw [← hN, ← hsz] at hd2
  have hN1 : 8 ≤ N ∧ N ≤ 15 := by omega
  have hz1 : 64 ≤ sz ∧ sz ≤ 96 := by omega
  have hm1 : 3 ≤ m ∧ m ≤ 7 ∧ 1 + 2 * m ≤ N := by omega
  have eN : (N : Int) - 1 = (ct : Int) := by omega
  obtain ⟨hfr, hca⟩ := M64_fresh (N := N) (sz := sz) (ls := []) fun l hl => by cases hl
  have hop : openC (M64 N sz []) 1 m = ⟨1, m, 1, [], 0, false⟩ := by
    rw [openC_L, openL_congr (L' := DurL (M64 N sz [])) fun x _ _ => content_nil hca]
    exact openL_zero (by omega) (M64_nil2 _ (by omega)) (M64_nil2 _ (by omega))
  have hlive := live_open (first := 1) (n := m) hfr.wf hfr.off hca (by omega)
  rw [hop] at hlive
  have hwf := hfr.wf
  have hoff := hfr.off
  have hcnt := hfr.cnt
  have hs1 := hu1.size
  have hs2 := hu02.size
  have hDw : ∀ b, D b → w.heap.size ≤ b := fun b hb => by have := hDge b hb; omega
  have hmz : (m - 1) * sz ≤ 6 * 96 := Nat.mul_le_mul (by omega) (by omega)
  clear hfr
  generalize M64 N sz [] = d0 at *
  refine Ok.use (Sectors_ok hd2) ?_
  rintro v _ ⟨rfl, rfl⟩
  rw [hwf.sz.dur]
  simp (config := { maxSteps := 3000000 }) (disch := omega) only [push_cast, Nat.reduceBEq, Nat.reduceEqDiff, Nat.reduceAdd, Nat.reduceMul, Nat.reduceSub, Nat.reduceLT, Int.reduceToNat, Int.reduceLT, Int.reduceLE, Int.reduceEq, Int.reduceAdd, Int.reduceSub, Int.reduceNeg, Int.reduceMul, eN]
  refine Ok.use (copen2_ok (hK.upd hu02 fun h => h) hd2 (fun h => by have := hDw 0 h; have := hK.1; omega) hwf (by omega) hoff hN1 hz1 hct hm) ?_
  rintro v w3 ⟨cb, hcb, rfl, hw3, hu3⟩
  rw [hop] at hw3
  have hu03 := t hu02 hu3
  have hcbw : w.heap.size ≤ cb := by omega
  obtain ⟨R, hR⟩ : ∃ R, R = (m - 1) * sz := ⟨_, rfl⟩
  simp (config := { maxSteps := 3000000 }) (disch := omega) only [push_cast, Nat.reduceBEq, Nat.reduceEqDiff, Nat.reduceAdd, Nat.reduceMul, Nat.reduceSub, Nat.reduceLT, Int.reduceToNat, Int.reduceLT, Int.reduceLE, Int.reduceEq, Int.reduceAdd, Int.reduceSub, Int.reduceNeg, Int.reduceMul]
  refine loop_inv (I := fun k st w' => Bx (∃ i D d c, k + i = list.length ∧ st = [.int .i64 ((i : Nat) : Int)] ∧ CW w' D (fun b => b = cb) p cb (d, c) ∧ (∀ b, D b → w.heap.size ≤ b) ∧ WfD N sz (i * 100) d ∧ Live N sz 1 m d c ∧ d.cnt = none ∧ AlI m list i d c ∧ Upd (fun _ => False) w w') ⟨⟩) ?_ list.length
    ⟨0, D, d0, _, by omega, rfl, hw3, hDw, hwf, hlive, hcnt, ⟨rfl, fun h => absurd h (by omega)⟩, hu03⟩
  clear hw3 hDw hwf hlive hcnt hu03 hDge hca hop hoff hcb hd2
  rintro k st w4 ⟨i, D, d, c, hk, rfl, hw4, hDw, hwf, hlive, hcnt, hA, hu4⟩
  have hfc := hlive.facts (by omega) hm1.2.2 fun a ha => (hwf.durl ha).1
  by_cases hk0 : k = 0
  · obtain rfl : i = list.length := by omega
    have hlt : ¬ ((list.length : Nat) : Int) < (list.length : Int) := by omega
    simp (config := { maxSteps := 3000000 }) (disch := omega) only [push_cast, Nat.reduceBEq, Nat.reduceEqDiff, Nat.reduceAdd, Nat.reduceMul, Nat.reduceSub, Nat.reduceLT, Int.reduceToNat, Int.reduceLT, Int.reduceLE, Int.reduceEq, Int.reduceAdd, Int.reduceSub, Int.reduceNeg, Int.reduceMul, hlt]
    exact hu4
  have hlt : ((i : Nat) : Int) < (list.length : Int) := by omega
  have hx0 : list[i]? = some (list[i]'(by omega)) := List.getElem?_eq_getElem _
  have hxr := hrl _ (List.getElem_mem (l := list) (n := i) (by omega))
  obtain ⟨x, hxe⟩ : ∃ x, x = list[i]'(by omega) := ⟨_, rfl⟩
  rw [← hxe] at hx0 hxr
  obtain ⟨gb, go, xa, xc, rfl, hcell0, hxs⟩ := hvc.at_ hx0
  have hcell := cell_upd hcell0 hu4 fun h => h
  have hs4 := hu4.size
  have hu4d : Upd (fun _ => False) w4 w4.drew := Upd.drew
  have hw4d := hw4.quiet hu4d
  have hu4' := t hu4 hu4d
  have hcelld := cell_upd hcell0 hu4' fun h => h
  have hroom := Room_ok hw4d (by show 1 ≤ c.n; omega) (by show c.n ≤ _; omega) (by show d.size ≤ _; rw [hlive.size]; omega)
  dsimp only at hroom
  rw [hfc.2.2.2.2.1, hlive.size, ← hR] at hroom
  rw [← hR] at hmz
  simp (config := { maxSteps := 3000000 }) (disch := omega) only [push_cast, Nat.reduceBEq, Nat.reduceEqDiff, Nat.reduceAdd, Nat.reduceMul, Nat.reduceSub, Nat.reduceLT, Int.reduceToNat, Int.reduceLT, Int.reduceLE, Int.reduceEq, Int.reduceAdd, Int.reduceSub, Int.reduceNeg, Int.reduceMul, hlt, hcell]
  generalize w4.drew = w5 at *
  refine Ok.use hroom ?_
  rintro v w6 ⟨rfl, hu6⟩
  have hw6 := hw4d.quiet hu6
  have hu6' := t hu4' hu6
  have hcell6 := cell_upd hcell0 hu6' fun h => h
  by_cases hlx : R < x.length
  · have hlxi : (R : Int) < (x.length : Int) := by omega
    simp (config := { maxSteps := 3000000 }) (disch := omega) only [push_cast, Nat.reduceBEq, Nat.reduceEqDiff, Nat.reduceAdd, Nat.reduceMul, Nat.reduceSub, Nat.reduceLT, Int.reduceToNat, Int.reduceLT, Int.reduceLE, Int.reduceEq, Int.reduceAdd, Int.reduceSub, Int.reduceNeg, Int.reduceMul, hlt, hcell, hcelld, hcell6, hlxi]
    exact hu6'
  have hlxi : ¬ (R : Int) < (x.length : Int) := by omega
  simp (config := { maxSteps := 3000000 }) (disch := omega) only [push_cast, Nat.reduceBEq, Nat.reduceEqDiff, Nat.reduceAdd, Nat.reduceMul, Nat.reduceSub, Nat.reduceLT, Int.reduceToNat, Int.reduceLT, Int.reduceLE, Int.reduceEq, Int.reduceAdd, Int.reduceSub, Int.reduceNeg, Int.reduceMul, hlt, hcell, hcelld, hcell6, hlxi]
  have hFF : ∀ q, FF D (fun b => b = cb) q → w.heap.size ≤ q := fun q hq => hq.elim (fun h => hDw q h) fun e => by omega
  have hxs6 : SlC w6 (FF D fun b => b = cb) (.slice xa x.length xc) x := (hxs.upd hu6' fun _ h => h.elim).mono fun q _ hq => hFF q hq
  have hi8 : i < 8 := by omega
  have hsave := save_ok hw6 hwf.sz (by omega) (by omega) (by omega) (by show c.first ≤ _; omega) (by show c.n ≤ _; omega) (by show 1 ≤ c.n; omega) (by show c.gen ≤ _; omega) hxs6 hxr
  have hcs := csave_spec hlive hwf (by omega) (by omega) (by omega) (by omega) hm1.2.2 x
  have hwf' : WfD N sz (i * 100 + 100) (csave (d, c) x).1.1 := csave_wf hwf hxr fun at_ g => by
    rw [hwf.sz.size, saveOps_len (by omega)]
    have := nch_bound (sz := sz) (by omega) (show x.length ≤ (m - 1) * sz by omega)
    omega
  have hcs2 : (csave (d, c) x).2 = 0 ∧ Live N sz 1 m (csave (d, c) x).1.1 (csave (d, c) x).1.2 ∧ (csave (d, c) x).1.1.cnt = none ∧ (csave (d, c) x).1.2 = { c with slot := c.target, newest := x, gen := c.gen + 1 } ∧
      (∀ a, a < N → DurL (csave (d, c) x).1.1 a = if a = 1 + c.target * m then hdrP sz x (c.gen + 1) else if 1 + c.target * m + 1 ≤ a ∧ a < 1 + c.target * m + 1 + nch sz x.length then chunk sz x (a - (1 + c.target * m + 1)) else DurL d a) := by
    have hgi := hA.1
    rcases hcs with ⟨h1, _⟩ | ⟨_, _, h1, h2, h3, h4, h5⟩ | ⟨_, _, _, _, h1, _⟩
    · exact absurd h1 (by omega)
    · exact ⟨h1, h2, h4 hcnt, h3, h5⟩
    · exact absurd hcnt h1
  clear hcs
  refine Ok.use hsave ?_
  rintro v w7 ⟨rfl, D7, hw7, ht7⟩
  clear hsave
  obtain ⟨hu7, hD7⟩ := ht7.fresh hu6' hDw hcbw
  obtain ⟨c1, hlive7, hcnt7, c2, c5⟩ := hcs2
  have htg := hA.target
  rw [htg] at c2 c5
  rw [hA.1] at c2 c5
  generalize csave (d, c) x = r at *
  obtain ⟨⟨d', c'⟩, code⟩ := r
  dsimp only at c1 c2 c5 hlive7 hcnt7 hwf' hw7 ⊢
  subst c1
  have halt := alt_slot (fun a ha => (hwf'.durl ha).1) hlive7.ca hz1 hm1 (by omega) (by omega) (by omega) c5
  have hoff' := hlive7.off
  have hop7 : openC d' 1 m = c' := by
    rw [hlive7.opn, openC_L]
    exact openL_congr fun a _ _ => content_nil hlive7.ca
  have hA7 : AlI m list (i + 1) d' c' := ⟨by rw [c2], fun _ => ⟨by rw [c2]; rfl, x, hx0, halt.1⟩⟩
  unfold errV
  simp (config := { maxSteps := 3000000 }) (disch := omega) only [push_cast, Nat.reduceBEq, Nat.reduceEqDiff, Nat.reduceAdd, Nat.reduceMul, Nat.reduceSub, Nat.reduceLT, Int.reduceToNat, Int.reduceLT, Int.reduceLE, Int.reduceEq, Int.reduceAdd, Int.reduceSub, Int.reduceNeg, Int.reduceMul]
  refine Ok.use (copen2_ok (hK.upd hu7 fun h => h) hw7.disk (fun h => by have := hD7 0 h; have := hK.1; omega) hwf' (by omega) hoff' hN1 hz1 hct hm) ?_
  rintro v w8 ⟨ob, hob, rfl, hw8, hu8⟩
  have hu8' := t hu7 hu8
  dsimp only at hw8
  rw [hop7] at hw8
  simp (config := { maxSteps := 3000000 }) (disch := omega) only [push_cast, Nat.reduceBEq, Nat.reduceEqDiff, Nat.reduceAdd, Nat.reduceMul, Nat.reduceSub, Nat.reduceLT, Int.reduceToNat, Int.reduceLT, Int.reduceLE, Int.reduceEq, Int.reduceAdd, Int.reduceSub, Int.reduceNeg, Int.reduceMul]
  refine Ok.use (load_ok hw8 (by show c'.newest.length ≤ _; rw [c2]; show x.length ≤ _; omega) (by show c'.gen ≤ _; rw [c2]; show i + 1 ≤ _; omega)) ?_
  rintro v w9 ⟨u, rfl, h9⟩
  dsimp only at h9 ⊢
  rw [hlive7.load2] at h9 ⊢
  have e7 : c'.newest = x ∧ c'.gen = i + 1 := ⟨by rw [c2], by rw [c2]⟩
  dsimp only at h9 ⊢
  rw [e7.1] at h9
  rw [e7.2]
  have hu9 := t hu8' h9.upd
  obtain ⟨ua, uc, rfl, _⟩ := h9.own.form
  have hcell9 := cell_upd hcell0 hu9 fun h => h
  have hxs9 := hxs.upd hu9 fun _ h => h.elim
  have cU := cnv_str h9.slc.1
  have cX := cnv_str hxs9.1
  have hse := str_eq hxr hxr
  have eg : IntKind.i64.wrap ((i : Int) + 1) = ((i + 1 : Nat) : Int) := by rw [IntKind.wrap_i64]; omega
  obtain ⟨i1, hi1⟩ : ∃ i1, i1 = i + 1 := ⟨_, rfl⟩
  have eg2 : ((i : Nat) : Int) + 1 = (i1 : Int) := by omega
  rw [← hi1] at eg ⊢
  have hud9 : Upd (fun _ => False) w9 w9.drew := Upd.drew
  have h9d := h9.quiet hud9
  have hu9d := t hu9 hud9
  have hcell9d := cell_upd hcell0 hu9d fun h => h
  have cUd := cnv_str h9d.slc.1
  have cXd := cnv_str (hxs.upd hu9d fun _ h => h.elim).1
  have hw9 := hw7.quiet (t hu8 (t h9.upd hud9))
  simp (config := { maxSteps := 3000000 }) (disch := omega) only [push_cast, Nat.reduceBEq, Nat.reduceEqDiff, Nat.reduceAdd, Nat.reduceMul, Nat.reduceSub, Nat.reduceLT, Int.reduceToNat, Int.reduceLT, Int.reduceLE, Int.reduceEq, Int.reduceAdd, Int.reduceSub, Int.reduceNeg, Int.reduceMul, hcell9, hcell9d, cU, cX, cUd, cXd, hse, eg2]
  generalize w9.drew = w10 at *
  have hslots := slots_ok hw9.disk hwf' (by omega) hoff' hN1.2 (by omega) hct hm (by omega)
  dsimp only at hslots
  refine Ok.use hslots ?_
  rintro v w11 ⟨⟨u0, u1, rfl, hr0, hr1⟩, hu11⟩
  have hu11' := t hu9d hu11
  have g0 := slotS_good (x := 1) (n := m) hwf' (by omega)
  have g1 := slotS_good (x := 1 + m) (n := m) hwf' (by omega)
  obtain ⟨r, hr⟩ : ∃ r, r = i % 2 := ⟨_, rfl⟩
  have er : ((i : Nat) : Int).tmod 2 = (r : Int) := by rw [hr, show (2 : Int) = ((2 : Nat) : Int) from rfl, ← Int.ofNat_tmod]
  have hr2 : r < 2 := by omega
  have key : ∀ {q : Nat} {wx : World} {F : Nat → Prop} {v0 v1 : Value}, q < 2 → SlRC wx F v0 (slotS d' 1 m) → SlRC wx F v1 (slotS d' (1 + m) m) → ∃ uu, (#[v0, v1])[q]? = some uu ∧ SlRC wx F uu (slotS d' (1 + q * m) m) ∧ ∃ qa qc, uu = .slice qa m qc := by
    intro q wx F v0 v1 hq h0 h1
    have hq2 : q = 0 ∨ q = 1 := by omega
    rcases hq2 with rfl | rfl
    · refine ⟨v0, rfl, by rw [Nat.zero_mul, Nat.add_zero]; exact h0, ?_⟩
      obtain ⟨a, c, e, _⟩ := h0
      exact ⟨a, c, by rw [e, slotS_len]⟩
    · refine ⟨v1, rfl, by rw [Nat.one_mul]; exact h1, ?_⟩
      obtain ⟨a, c, e, _⟩ := h1
      exact ⟨a, c, by rw [e, slotS_len]⟩
  have gq : ∀ q, q < 2 → RngL (slotS d' (1 + q * m) m) ∧ ∀ l, l ∈ slotS d' (1 + q * m) m → l.length = sz := fun q hq => slotS_good hwf' (by
    have : q * m ≤ 1 * m := Nat.mul_le_mul_right m (by omega)
    omega)
  obtain ⟨uu, hix0, hsr, qa, qc, rfl⟩ := key hr2 hr0 hr1
  have hix : ∀ w' : World, ixvS Tryd.prog 36 (.agg #[u0, u1]) (.int .i64 (r : Int)) w' = some (.slice qa m qc, w') := fun w' => ixv_agg t36_a t22_s t22_k hr2 hix0
  simp (config := { maxSteps := 3000000 }) (disch := omega) only [push_cast, Nat.reduceBEq, Nat.reduceEqDiff, Nat.reduceAdd, Nat.reduceMul, Nat.reduceSub, Nat.reduceLT, Int.reduceToNat, Int.reduceLT, Int.reduceLE, Int.reduceEq, Int.reduceAdd, Int.reduceSub, Int.reduceNeg, Int.reduceMul, er, hix]
  refine Ok.use (rSlot_ok hsr (gq r hr2).1 slotS_len (by omega) (by omega) (by omega) (by omega) (gq r hr2).2) ?_
  rintro v w12 ⟨⟨y, gy, rfl, hm12⟩, hu12⟩
  rw [hr, halt.1] at hm12
  obtain ⟨rfl, hy⟩ := hm12
  obtain ⟨ya, yc, rfl, _⟩ := id hy.2
  have hu12' := t hu11' hu12
  have h12 := (h9d.quiet hu11).quiet hu12
  have cU12 := cnv_str h12.slc.1
  have cY12 := cnv_str hy.1
  rw [← hi1]
  have hw12 := hw9.quiet (t hu11 hu12)
  rcases Nat.eq_zero_or_pos i with h0 | h0
  · have h0i : ¬ (0 : Int) < ((i : Nat) : Int) := by omega
    simp (config := { maxSteps := 3000000 }) (disch := omega) only [push_cast, Nat.reduceBEq, Nat.reduceEqDiff, Nat.reduceAdd, Nat.reduceMul, Nat.reduceSub, Nat.reduceLT, Int.reduceToNat, Int.reduceLT, Int.reduceLE, Int.reduceEq, Int.reduceAdd, Int.reduceSub, Int.reduceNeg, Int.reduceMul, er, hix, cU12, cY12, hse, h0i]
    exact ⟨k - 1, by omega, i + 1, D7, d', c', by omega, by rw [← hi1, eg2], hw12, hD7, hwf'.mono (by omega), hlive7, hcnt7, hA7, hu12'⟩
  have h0i : (0 : Int) < ((i : Nat) : Int) := by omega
  simp (config := { maxSteps := 3000000 }) (disch := omega) only [push_cast, Nat.reduceBEq, Nat.reduceEqDiff, Nat.reduceAdd, Nat.reduceMul, Nat.reduceSub, Nat.reduceLT, Int.reduceToNat, Int.reduceLT, Int.reduceLE, Int.reduceEq, Int.reduceAdd, Int.reduceSub, Int.reduceNeg, Int.reduceMul, er, hix, cU12, cY12, hse, h0i]
  have hslots := slots_ok hw12.disk hwf' (by omega) hoff' hN1.2 (by omega) hct hm (by omega)
  dsimp only at hslots
  refine Ok.use hslots ?_
  rintro v w13 ⟨⟨u2, u3, rfl, hr2', hr3'⟩, hu13⟩
  have hu13' := t hu12' hu13
  obtain ⟨i0, hi0⟩ : ∃ i0, i0 = i - 1 := ⟨_, rfl⟩
  obtain ⟨r', hr'⟩ : ∃ r', r' = i0 % 2 := ⟨_, rfl⟩
  have e0 : ((i : Nat) : Int) - 1 = (i0 : Int) := by omega
  have er' : ((i0 : Nat) : Int).tmod 2 = (r' : Int) := by rw [hr', show (2 : Int) = ((2 : Nat) : Int) from rfl, ← Int.ofNat_tmod]
  have hr'2 : r' < 2 := by omega
  obtain ⟨uu, hix1, hsr', qa', qc', rfl⟩ := key hr'2 hr2' hr3'
  have hix' : ∀ w' : World, ixvS Tryd.prog 36 (.agg #[u2, u3]) (.int .i64 (r' : Int)) w' = some (.slice qa' m qc', w') := fun w' => ixv_agg t36_a t22_s t22_k hr'2 hix1
  simp (config := { maxSteps := 3000000 }) (disch := omega) only [push_cast, Nat.reduceBEq, Nat.reduceEqDiff, Nat.reduceAdd, Nat.reduceMul, Nat.reduceSub, Nat.reduceLT, Int.reduceToNat, Int.reduceLT, Int.reduceLE, Int.reduceEq, Int.reduceAdd, Int.reduceSub, Int.reduceNeg, Int.reduceMul, e0, er', hix']
  refine Ok.use (rSlot_ok hsr' (gq r' hr'2).1 slotS_len (by omega) (by omega) (by omega) (by omega) (gq r' hr'2).2) ?_
  rintro v w14 ⟨⟨z, gz, rfl, hm14⟩, hu14⟩
  obtain ⟨hsl0, l, hl0, hsp⟩ := hA.2 h0
  rw [← hi0] at hl0
  rw [← hi0, ← hr', slotS_dur hlive.ca] at hsp
  rw [halt.2 r' (by omega) (by omega), hsp] at hm14
  obtain ⟨rfl, hz⟩ := hm14
  have hu14' := t hu13' hu14
  have hw14 := hw12.quiet (t hu13 hu14)
  have hlr := hrl l (List.mem_of_getElem? hl0)
  obtain ⟨gb2, go2, la, lc, e3, hlc, hls⟩ := hvc.at_ hl0
  simp only [Option.some.injEq, Addr.mk.injEq, and_true] at e3
  obtain ⟨rfl, rfl⟩ := e3
  have hlc14 := cell_upd hlc hu14' fun h => h
  have cL := cnv_str (hls.upd hu14' fun _ h => h.elim).1
  obtain ⟨za, zc, rfl, _⟩ := id hz.2
  have cZ := cnv_str hz.1
  have hsl := str_eq hlr hlr
  have hlei0 : ((i0 : Nat) : Int) < (list.length : Int) := by omega
  have hud14 : Upd (fun _ => False) w14 w14.drew := Upd.drew
  have hu14d := t hu14' hud14
  have hlc14d := cell_upd hlc hu14d fun h => h
  have cLd := cnv_str (hls.upd hu14d fun _ h => h.elim).1
  have cZd := cnv_str (hz.1.upd hud14 fun _ h => h.elim)
  have hw14d := hw14.quiet hud14
  simp (config := { maxSteps := 3000000 }) (disch := omega) only [push_cast, Nat.reduceBEq, Nat.reduceEqDiff, Nat.reduceAdd, Nat.reduceMul, Nat.reduceSub, Nat.reduceLT, Int.reduceToNat, Int.reduceLT, Int.reduceLE, Int.reduceEq, Int.reduceAdd, Int.reduceSub, Int.reduceNeg, Int.reduceMul, e0, hlc14, hlc14d, cL, cZ, cLd, cZd, hsl, hlei0]
  exact ⟨k - 1, by omega, i + 1, D7, d', c', by omega, by rw [← hi1, eg2], hw14d, hD7, hwf'.mono (by omega), hlive7, hcnt7, hA7, hu14d⟩
theorem checkpointAlternates_law {w : World} (hK : KT w) (x : Int) (hx : (Lit.int .u8 x).wf = true) {vc : Value} (hc : ∃ ls, SlRC w (fun b => w.heap.size ≤ b) vc ls ∧ RngL ls) :
    Ok (den Tryd.prog 3 #[.int .u8 x, vc] w) fun u w' => u = .bool true ∧ Upd (fun _ => False) w w' := by
  obtain ⟨s, rfl, h⟩ := u8_of hx
  obtain ⟨ls, h1, h2⟩ := hc
  exact alternates_ok hK h h1 h2
end Go.Proofs.YtkceoefmhppddaaDoor.Fd
