/-
  Save as a whole; new disks; awake.
-/
import Derived.Test.YtkceoefmhppddaaDoorSp2
namespace Go.Proofs.YtkceoefmhppddaaDoor.Fd
set_option linter.unusedSimpArgs false
set_option linter.unusedVariables false
open Go
set_option maxRecDepth 100000
theorem newestP_cases {a b : Option (List Int × Nat)} : newestP a b = (1, [], 0) ∨ (∃ x, a = some x ∧ newestP a b = (0, x)) ∨ (∃ x, b = some x ∧ newestP a b = (1, x)) := by
  cases a with
  | none =>
    cases b with
    | none => exact .inl rfl
    | some y => exact .inr (.inr ⟨y, rfl, rfl⟩)
  | some x =>
    cases b with
    | none => exact .inr (.inl ⟨x, rfl, rfl⟩)
    | some y =>
      simp only [newestP]
      split
      · exact .inr (.inr ⟨y, rfl, rfl⟩)
      · exact .inr (.inl ⟨x, rfl, rfl⟩)
theorem slotSL_tail_len {L : Nat → List Int} {x n sz : Nat} (hn : 1 ≤ n) (hl : ∀ a, x ≤ a → a < x + n → (L a).length = sz) : (slotSL L x n).tail.flatten.length = (n - 1) * sz := by
  rw [slotSL_cons hn, List.tail_cons]
  exact bodyL_length fun i hi => hl _ (by omega) (by omega)
theorem openL_facts {L : Nat → List Int} {first n sz : Nat} (hn : 1 ≤ n) (hl : ∀ a, first ≤ a → a < first + 2 * n → (L a).length = sz) :
    (openL L first n).gen ≤ 4611686018427387904 ∧ (openL L first n).newest.length ≤ (n - 1) * sz ∧ (openL L first n).slot ≤ 1 := by
  unfold openL
  rcases newestP_cases (a := slotP (slotSL L first n)) (b := slotP (slotSL L (first + n) n)) with e | ⟨x, h, e⟩ | ⟨x, h, e⟩
  · rw [e]; exact ⟨by show 0 ≤ _; omega, by show 0 ≤ _; omega, by show 1 ≤ 1; omega⟩
  · rw [e]
    have hp := slotP_pos h
    rw [slotSL_tail_len hn fun a h1 h2 => hl a (by omega) (by omega)] at hp
    exact ⟨hp.2.1, hp.2.2.1, by show 0 ≤ 1; omega⟩
  · rw [e]
    have hp := slotP_pos h
    rw [slotSL_tail_len hn fun a h1 h2 => hl a (by omega) (by omega)] at hp
    exact ⟨hp.2.1, hp.2.2.1, by show 1 ≤ 1; omega⟩
theorem Live.facts {N sz first n : Nat} {d : DS} {c : CS} (h : Live N sz first n d c) (hn : 1 ≤ n) (hN : first + 2 * n ≤ N) (hw : ∀ a, a < N → (DurL d a).length = sz) :
    c.gen ≤ 4611686018427387904 ∧ c.newest.length ≤ (n - 1) * sz ∧ c.slot ≤ 1 ∧ c.first = first ∧ c.n = n ∧ c.down = false := by
  have := openL_facts (L := DurL d) (first := first) (sz := sz) hn fun a h1 h2 => hw a (by omega)
  rw [← h.opn] at this
  exact ⟨this.1, this.2.1, this.2.2, by rw [h.opn]; rfl, by rw [h.opn]; rfl, by rw [h.opn]; rfl⟩
theorem WfD.durl {N s i : Nat} {d : DS} (h : WfD N s i d) {a : Nat} (ha : a < N) : (DurL d a).length = s ∧ Rng (DurL d a) := by
  have hyd : a < d.dur.length := by rw [h.sz.dur]; exact ha
  unfold DurL
  rw [List.getD_eq_getElem?_getD, List.getElem?_eq_getElem hyd]
  exact h.dur _ (List.getElem_mem hyd)
/-- The save of a live store: refused, done, or the power has failed. -/
theorem csave_spec {N sz first n i : Nat} {d : DS} {c : CS} (h : Live N sz first n d c) (hw : WfD N sz i d) (hz : 44 ≤ sz) (hz2 : sz ≤ 4096) (hn : 1 ≤ n) (hn2 : n ≤ 60000) (hN : first + 2 * n ≤ N) (b : List Int) :
    (((n - 1) * sz < b.length ∨ c.gen = 4611686018427387904) ∧ csave (d, c) b = ((d, c), 6)) ∨
    (b.length ≤ (n - 1) * sz ∧ c.gen < 4611686018427387904 ∧ (csave (d, c) b).2 = 0 ∧ Live N sz first n (csave (d, c) b).1.1 (csave (d, c) b).1.2 ∧ (csave (d, c) b).1.2 = { c with slot := c.target, newest := b, gen := c.gen + 1 } ∧ (d.cnt = none → (csave (d, c) b).1.1.cnt = none) ∧
      (∀ a, a < N → DurL (csave (d, c) b).1.1 a = if a = first + c.target * n then hdrP sz b (c.gen + 1) else if first + c.target * n + 1 ≤ a ∧ a < first + c.target * n + 1 + nch sz b.length then chunk sz b (a - (first + c.target * n + 1)) else DurL d a)) ∨
    (b.length ≤ (n - 1) * sz ∧ c.gen < 4611686018427387904 ∧ csave (d, c) b = (((runOps d (saveOps sz (first + c.target * n) b (c.gen + 1))).1, { c with down := true }), 8) ∧ (runOps d (saveOps sz (first + c.target * n) b (c.gen + 1))).1.off = true ∧ d.cnt ≠ none ∧
      ∀ L : Nat → List Int, (∀ a, Poss (runOps d (saveOps sz (first + c.target * n) b (c.gen + 1))).1 a (L a)) → openL L first n = c ∨ openL L first n = { c with slot := c.target, newest := b, gen := c.gen + 1 }) := by
  obtain ⟨f1, f2, f3, f4, f5, f6⟩ := h.facts hn hN fun a ha => (hw.durl ha).1
  have hsz := h.size
  obtain ⟨cf, cn, cs, cnew, cg, cd⟩ := c
  dsimp only at f1 f2 f3 f4 f5 f6
  subst f4 f5 f6
  unfold csave
  dsimp only
  rw [hsz]
  simp only [Bool.false_eq_true, if_false]
  by_cases hlim : (cn - 1) * sz < b.length ∨ cg = 4611686018427387904
  · left
    rw [if_pos hlim]
    exact ⟨hlim, rfl⟩
  · right
    rw [if_neg hlim]
    have hb : b.length ≤ (cn - 1) * sz := by omega
    have hg : cg < 4611686018427387904 := by omega
    have hm : (cn - 1) * sz ≤ 60000 * 4096 := Nat.mul_le_mul (by omega) hz2
    rcases save_spec h (fun a ha => (hw.durl ha).1) hz hn hN hb (by omega) hg rfl with ⟨s1, s2, s3, s4⟩ | ⟨s1, s2, s3, s4⟩
    · left
      rw [if_pos s1]
      exact ⟨hb, hg, rfl, s2, rfl, s3, s4⟩
    · right
      rw [if_neg s1]
      exact ⟨hb, hg, rfl, s2, s3, s4⟩
theorem csave_down {d : DS} {c : CS} {b : List Int} (h : c.down = true) : csave (d, c) b = ((d, c), 8) := by
  unfold csave
  dsimp only
  rw [h, if_pos rfl]
theorem csave_wf {N sz i : Nat} {d : DS} {c : CS} (h : WfD N sz i d) {b : List Int} (hb : Rng b) {k : Nat} (hk : ∀ at_ g, (saveOps d.size at_ b g).length ≤ k) : WfD N sz (i + k) (csave (d, c) b).1.1 := by
  have hr : ∀ at_ g, WfD N sz (i + k) (runOps d (saveOps d.size at_ b g)).1 := fun at_ g => (h.ops (saveOps_rng hb)).mono (by have := hk at_ g; omega)
  unfold csave
  dsimp only
  split
  · exact h.mono (by omega)
  · split
    · exact h.mono (by omega)
    · split
      · exact hr _ _
      · exact hr _ _
theorem csave_long {d : DS} {c : CS} {b : List Int} (h : (c.n - 1) * d.size < b.length) : (csave (d, c) b).1 = (d, c) := by
  unfold csave
  dsimp only
  split
  · rfl
  · rw [if_pos (Or.inl h)]
theorem saveOps_len {sz at_ g : Nat} {b : List Int} (hz : 44 ≤ sz) : (saveOps sz at_ b g).length = nch sz b.length + 5 := by
  unfold saveOps putOps
  simp only [List.length_append, chL_length, List.length_singleton]
  rw [nch_one (by omega) (show (List.replicate sz (0 : Int)).length = sz by simp), nch_one (by omega) (hdrP_length hz)]
  omega
theorem openL_zero {L : Nat → List Int} {first n z : Nat} (hn : 1 ≤ n) (h1 : L first = List.replicate z 0) (h2 : L (first + n) = List.replicate z 0) : openL L first n = ⟨first, n, 1, [], 0, false⟩ := by
  unfold openL
  rw [slotSL_cons hn, slotSL_cons hn, slotP_zero h1, slotP_zero h2]
  rfl
theorem new_durl {N s a : Nat} (ha : a < N) : DurL (DS.new N s) a = List.replicate s 0 := by
  unfold DurL DS.new
  rw [List.getD_eq_getElem?_getD, List.getElem?_replicate, if_pos ha]
  rfl
theorem live_open {N sz first n i : Nat} {d : DS} (hw : WfD N sz i d) (hoff : d.off = false) (hca : d.cache = []) (hN : first + 2 * n ≤ N) : Live N sz first n d (openC d first n) :=
  ⟨hoff, hca, hw.sz.dur, hw.sz.size, by rw [openC_L]; exact openL_congr fun a h1 h2 => content_nil hca⟩
set_option maxHeartbeats 2000000 in
theorem awake_ok {w : World} (hK : KT w) : Ok (den Tryd.prog 10 #[] w) fun v w' => v = .bool true ∧ Upd (fun _ => False) w w' := by
  refine den_ok (args := []) rs10 Tryd.func10 rfl mixed in10 ok10 rfl ?_
  simp (config := { maxSteps := 3000000 }) (disch := omega) only [push_cast, Nat.reduceBEq, Nat.reduceEqDiff, Nat.reduceAdd, Nat.reduceMul, Nat.reduceSub, Nat.reduceLT, Int.reduceToNat, Int.reduceLT, Int.reduceLE, Int.reduceEq, Int.reduceAdd, Int.reduceSub, Int.reduceNeg, Int.reduceMul]
  refine Ok.use (new_ok (n := 8) (size := 64) (by omega) (by omega) (by omega) (by omega)) ?_
  rintro v w1 ⟨p, rfl, hd1, hu1⟩
  simp (config := { maxSteps := 3000000 }) (disch := omega) only [push_cast, Nat.reduceBEq, Nat.reduceEqDiff, Nat.reduceAdd, Nat.reduceMul, Nat.reduceSub, Nat.reduceLT, Int.reduceToNat, Int.reduceLT, Int.reduceLE, Int.reduceEq, Int.reduceAdd, Int.reduceSub, Int.reduceNeg, Int.reduceMul]
  have hwf : WfD 8 64 0 (DS.new 8 64) := WfD.new
  have hlive := live_open (first := 0) (n := 4) hwf rfl rfl (by omega)
  have hop : openC (DS.new 8 64) 0 4 = ⟨0, 4, 1, [], 0, false⟩ := by
    rw [hlive.opn]
    exact openL_zero (by omega) (new_durl (by omega)) (new_durl (by omega))
  have hD0 : ¬ gr (fun _ => False) w w1 0 := fun h => h.elim (fun h => h) fun h => by have := hK.1; omega
  refine Ok.use (open_ok (hK.upd hu1 fun h => h) hd1 hD0 hwf.sz (by omega) (by omega) (by omega) (by omega) (first := 0) (count := 8) (by omega) (by omega) (by omega) (by omega) fun y hy => hwf.content hy) ?_
  rintro v w2 ⟨hv, hu2⟩
  rw [show (DS.new 8 64).off = false from rfl] at hv
  simp only [Bool.false_eq_true, if_false] at hv
  obtain ⟨cb, hcb, rfl, hw2⟩ := hv
  rw [show (8 : Nat) / 2 = 4 from rfl, hop] at hw2
  rw [hop] at hlive
  simp (config := { maxSteps := 3000000 }) (disch := omega) only [push_cast, Nat.reduceBEq, Nat.reduceEqDiff, Nat.reduceAdd, Nat.reduceMul, Nat.reduceSub, Nat.reduceLT, Int.reduceToNat, Int.reduceLT, Int.reduceLE, Int.reduceEq, Int.reduceAdd, Int.reduceSub, Int.reduceNeg, Int.reduceMul]
  refine Ok.use (Room_ok hw2 (by show 1 ≤ 4; omega) (by show 4 ≤ _; omega) (by show 64 ≤ 4096; omega)) ?_
  rintro v w3 ⟨rfl, hu3⟩
  have eR : (((4 - 1) * 64 : Nat) : Int) = 192 := rfl
  dsimp only
  rw [show (DS.new 8 64).size = 64 from rfl, eR]
  have hw3 := hw2.quiet hu3
  have hz : SlC (w3.alloc (.cells (List.replicate 100 (Value.int .u8 0)).toArray 5 (0, 0))) (fun b => b < w3.heap.size) (.slice (some ⟨w3.heap.size, 0, none⟩) (List.replicate 100 (0 : Int)).length 100) (List.replicate 100 0) :=
    ⟨slb_blk (E := 5) (by rw [by8_zeros]; exact Blk.new) (by omega), _, _, rfl, by simp⟩
  rw [List.length_replicate] at hz
  have hal : Upd (fun _ => False) w3 (w3.alloc (.cells (List.replicate 100 (Value.int .u8 0)).toArray 5 (0, 0))) := Upd.alloc
  simp (config := { maxSteps := 3000000 }) (disch := omega) only [push_cast, Nat.reduceBEq, Nat.reduceEqDiff, Nat.reduceAdd, Nat.reduceMul, Nat.reduceSub, Nat.reduceLT, Int.reduceToNat, Int.reduceLT, Int.reduceLE, Int.reduceEq, Int.reduceAdd, Int.reduceSub, Int.reduceNeg, Int.reduceMul]
  have hw4 := hw3.quiet hal
  have hFF : ∀ q, FF (gr (fun _ => False) w w1) (fun b => b = cb) q → q < w3.heap.size := fun q hq => hq.elim (fun hd => hw3.disk.bd q hd) fun e => (hw3.sep q e).2
  have hb4 := hz.mono (G := FF (gr (fun _ => False) w w1) fun b => b = cb) fun q _ hq => hFF q hq
  have hu04 : Upd (fun _ => False) w (w3.alloc (.cells (List.replicate 100 (Value.int .u8 0)).toArray 5 (0, 0))) := ((hu1.trans hu2 fun _ _ h => h).trans hu3 fun _ _ h => h).trans hal fun _ _ h => h
  clear hz
  generalize (w3.alloc (.cells (List.replicate 100 (Value.int .u8 0)).toArray 5 (0, 0))) = w4 at *
  have hlz : (List.replicate 100 (0 : Int)).length = 100 := by simp
  have hsv := save_ok hw4 hwf.sz (by omega) (by omega) (by omega) (by show 0 ≤ _; omega) (by show 4 ≤ _; omega) (by show 1 ≤ 4; omega) (by show 0 ≤ _; omega) hb4 Rng.zeros
  have hcs := csave_spec hlive hwf (by omega) (by omega) (by omega) (by omega) (by omega) (List.replicate 100 0)
  rw [hlz] at hcs
  have hcs2 : (csave (DS.new 8 64, ⟨0, 4, 1, [], 0, false⟩) (List.replicate 100 0)).2 = 0 ∧ (csave (DS.new 8 64, ⟨0, 4, 1, [], 0, false⟩) (List.replicate 100 0)).1.2 = ⟨0, 4, 0, List.replicate 100 0, 1, false⟩ ∧ Live 8 64 0 4 (csave (DS.new 8 64, ⟨0, 4, 1, [], 0, false⟩) (List.replicate 100 0)).1.1 (csave (DS.new 8 64, ⟨0, 4, 1, [], 0, false⟩) (List.replicate 100 0)).1.2 ∧ DurL (csave (DS.new 8 64, ⟨0, 4, 1, [], 0, false⟩) (List.replicate 100 0)).1.1 0 = hdrP 64 (List.replicate 100 0) 1 := by
    rcases hcs with ⟨h1, _⟩ | ⟨_, _, h1, h2, h3, _, h4⟩ | ⟨_, _, _, _, h1, _⟩
    · exact absurd h1 (by simp)
    · exact ⟨h1, h3, h2, (h4 0 (by omega)).trans (if_pos rfl)⟩
    · exact absurd rfl h1
  have hwf2 : WfD 8 64 (0 + 100) (csave (DS.new 8 64, ⟨0, 4, 1, [], 0, false⟩) (List.replicate 100 0)).1.1 := csave_wf hwf Rng.zeros fun at_ g => by
    rw [show (DS.new 8 64).size = 64 from rfl, saveOps_len (by omega), hlz]; decide
  refine Ok.use hsv ?_
  rintro v w5 ⟨rfl, D5, hw5, ht5⟩
  clear hcs hsv
  obtain ⟨c1, c2, c3, c4⟩ := hcs2
  generalize csave (DS.new 8 64, ⟨0, 4, 1, [], 0, false⟩) (List.replicate 100 0) = r at *
  obtain ⟨⟨d, c⟩, code⟩ := r
  dsimp only at c1 c2 c3 c4 hwf2 hw5 ⊢
  subst c1 c2
  unfold errV
  simp (config := { maxSteps := 3000000 }) (disch := omega) only [push_cast, Nat.reduceBEq, Nat.reduceEqDiff, Nat.reduceAdd, Nat.reduceMul, Nat.reduceSub, Nat.reduceLT, Int.reduceToNat, Int.reduceLT, Int.reduceLE, Int.reduceEq, Int.reduceAdd, Int.reduceSub, Int.reduceNeg, Int.reduceMul]
  refine Ok.use (Down_ok2 hw5) ?_
  rintro v _ ⟨rfl, rfl⟩
  simp (config := { maxSteps := 3000000 }) (disch := omega) only [push_cast, Nat.reduceBEq, Nat.reduceEqDiff, Nat.reduceAdd, Nat.reduceMul, Nat.reduceSub, Nat.reduceLT, Int.reduceToNat, Int.reduceLT, Int.reduceLE, Int.reduceEq, Int.reduceAdd, Int.reduceSub, Int.reduceNeg, Int.reduceMul]
  refine Ok.use (load_ok hw5 (by simp) (by show 1 ≤ _; omega)) ?_
  rintro v w6 ⟨u, rfl, h6⟩
  have hcl : cload ⟨0, 4, 0, List.replicate 100 0, 1, false⟩ = (List.replicate 100 0, 1) := rfl
  dsimp only at h6 ⊢
  rw [hcl] at h6 ⊢
  have hw6 := hw5.quiet h6.upd
  obtain ⟨ua, uc, rfl, _⟩ := h6.own.form
  rw [hlz] at h6 ⊢
  simp (config := { maxSteps := 3000000 }) (disch := omega) only [push_cast, Nat.reduceBEq, Nat.reduceEqDiff, Nat.reduceAdd, Nat.reduceMul, Nat.reduceSub, Nat.reduceLT, Int.reduceToNat, Int.reduceLT, Int.reduceLE, Int.reduceEq, Int.reduceAdd, Int.reduceSub, Int.reduceNeg, Int.reduceMul]
  have hread := read_ok hw6.disk (by show 0 < d.size; rw [c3.size]; omega) (by have := hwf2.sz.few; show d.cache.length < _; omega) (0 : Int)
  have hrd : d.read 0 = (some (hdrP 64 (List.replicate 100 0) 1), 0) := by
    unfold DS.read
    rw [if_pos ⟨by omega, by rw [c3.len]; decide⟩, c3.off]
    show (some (d.content 0), (0 : Int)) = _
    rw [content_nil c3.ca]
    exact congrArg (fun x => (some x, (0 : Int))) c4
  rw [show (d, (⟨0, 4, 0, List.replicate 100 0, 1, false⟩ : CS)).1.read 0 = _ from hrd] at hread
  refine Ok.use hread ?_
  rintro v w7 ⟨x, rfl, ⟨nb, rfl, hnge, hnb⟩, hu7⟩
  dsimp only at hnb ⊢
  have hhl : (hdrP 64 (List.replicate 100 0) 1).length = 64 := hdrP_length (by omega)
  unfold CV
  rw [hhl]
  have hs7 : SlB w7 (fun _ => False) (.slice (some ⟨nb, 0, none⟩) (hdrP 64 (List.replicate 100 0) 1).length 64) (hdrP 64 (List.replicate 100 0) 1) := slb_new hnb fun h => h
  rw [hhl] at hs7
  have hcv := cnv_str hs7
  have hs7d := hs7.upd (Upd.drew (F := fun _ => False)) fun _ h => h
  have hcvd := cnv_str hs7d
  have hu7d : Upd (fun _ => False) w7 w7.drew := Upd.drew
  have hzb0 : SlB (w7.alloc (.cells (List.replicate 100 (Value.int .u8 0)).toArray 5 (0, 0))) (fun _ => False) (.slice (some ⟨w7.heap.size, 0, none⟩) (List.replicate 100 (0 : Int)).length 100) (List.replicate 100 0) :=
    slb_blk (E := 5) (by rw [by8_zeros]; exact Blk.new) fun h => h
  have hzb := hzb0.upd (Upd.drew (F := fun _ => False)) fun _ h => h
  rw [hlz] at hzb
  have hal8 : Upd (fun _ => False) w7 (w7.alloc (.cells (List.replicate 100 (Value.int .u8 0)).toArray 5 (0, 0))).drew := (Upd.alloc (F := fun _ => False)).drew'
  have hs8 := hs7.upd hal8 fun _ h => h
  have hcv8 := cnv_str hs8
  simp (config := { maxSteps := 3000000 }) (disch := omega) only [push_cast, Nat.reduceBEq, Nat.reduceEqDiff, Nat.reduceAdd, Nat.reduceMul, Nat.reduceSub, Nat.reduceLT, Int.reduceToNat, Int.reduceLT, Int.reduceLE, Int.reduceEq, Int.reduceAdd, Int.reduceSub, Int.reduceNeg, Int.reduceMul, hcv, hcvd, hcv8]
  have hrh := rHeader_ok hzb (by rw [hlz]; omega) (g := 1) (by omega) (size := 64) (by omega) (by omega)
  generalize (w7.alloc (.cells (List.replicate 100 (Value.int .u8 0)).toArray 5 (0, 0))).drew = w8 at *
  refine Ok.use hrh ?_
  rintro v w9 h9
  obtain ⟨va9, vc9, rfl, _⟩ := h9.own.form
  have hcv9 := cnv_str h9.slc.1
  have hs9 := hs8.upd h9.upd fun _ h => h
  have hcv10 := cnv_str hs9
  have hse := str_eq (l := hdrP 64 (List.replicate 100 0) 1) (m := hdrP 64 (List.replicate 100 0) 1) hdrP_rng hdrP_rng
  rw [hhl] at hcv9 ⊢
  simp (config := { maxSteps := 3000000 }) (disch := omega) only [push_cast, Nat.reduceBEq, Nat.reduceEqDiff, Nat.reduceAdd, Nat.reduceMul, Nat.reduceSub, Nat.reduceLT, Int.reduceToNat, Int.reduceLT, Int.reduceLE, Int.reduceEq, Int.reduceAdd, Int.reduceSub, Int.reduceNeg, Int.reduceMul, hcv, hcvd, hcv8, hcv9, hcv10, hse]
  have hs01 := hu1.size
  have hu05 : Upd (fun _ => False) w w5 := hu04.trans ht5.upd fun q hq hh => by
    rcases hh with (hh | hh) | hh
    · exact hh
    · omega
    · omega
  exact (((hu05.trans h6.upd fun _ _ h => h).trans hu7 fun _ _ h => h).trans hal8 fun _ _ h => h).trans h9.upd fun _ _ h => h
end Go.Proofs.YtkceoefmhppddaaDoor.Fd
