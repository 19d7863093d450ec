/-
  OrderDownsets.
-/
import Derived.Test.YtfjccccfkpgmgaaDw5
import Derived.Test.YtfjccccfkpgmgaaDw8
namespace Go.Proofs.Ytfjccccfkpgmgaa.Fd
set_option linter.unusedSimpArgs false
set_option linter.unusedVariables false
open Go
set_option maxRecDepth 100000

theorem bsl_lists0 (w : World) : bslS Try.prog 43 0 #[] w = some (.slice (some ⟨w.heap.size, 0, none⟩) 0 0, w.alloc (.cells #[] 26 (0, 0))) := by kernel_rfl
set_option maxHeartbeats 1000000 in
theorem rdowns_ok {w : World} {lo n : Nat} {mv : Value} {R : Rel} (hm : Mat lo w mv n n R) (hn : n ≤ 12) :
    Ok (den Try.prog 34 #[mv] w) fun v w' => SlL w' v (specD n R) ∧ Upd (fun _ => False) w w' := by
  obtain ⟨av, cv, rfl⟩ := hm.form
  refine den_ok (args := [.slice av n cv]) rs34 Try.func34 rfl mixed in34 ok34 rfl ?_
  simp (disch := omega) only [push_cast, Nat.reduceBEq, Nat.reduceEqDiff, Nat.reduceAdd, Nat.reduceMul, Nat.reduceSub, Nat.reduceLT, Int.reduceToNat, Int.reduceLT, Int.reduceLE, Int.reduceEq, Int.reduceAdd, Int.reduceSub, Int.reduceNeg, Int.reduceMul, bsl_int0, bsl_lists0]
  have hu2 : Upd (fun _ => False) w ((w.alloc (.cells #[] 3 (0, 0))).alloc (.cells #[] 26 (0, 0))) := Upd.refl.alloc'.alloc'
  have hb2 : Blk ((w.alloc (.cells #[] 3 (0, 0))).alloc (.cells #[] 26 (0, 0))) (w.heap.size + 1) [] 26 := Blk.newAt (cs := []) size_alloc
  have hz2 : ((w.alloc (.cells #[] 3 (0, 0))).alloc (.cells #[] 26 (0, 0))).heap.size = w.heap.size + 2 := by rw [size_alloc, size_alloc]
  generalize ((w.alloc (.cells #[] 3 (0, 0))).alloc (.cells #[] 26 (0, 0))) = w2 at *
  have h := gSets_len (n := n) (dn := dnP n R) (k := n) (l := [])
  have h2 : 2 ^ n ≤ 2 ^ 12 := Nat.pow_le_pow_right (by omega) hn
  have h3 : (fromL n R n []).length ≤ 1 + (gSets n (dnP n R) n []).length := by
    rw [fromL, List.length_append]
    split <;> simp
  refine Ok.use (from_ok (lo := lo) (R := R) hm hn n [] _ _ [] w2 hu2 ⟨[], ⟨rfl, .inr ⟨w.heap.size + 1, 0, #[], rfl, Nat.zero_le _, hb2, Nat.le_refl _, Nat.zero_le _, rfl, rfl⟩⟩, fun g hg => by (simp [Value.ownBlock] at hg; omega), rfl, fun j u c hj => by simp at hj⟩
    ⟨w.heap.size, 0, 0, rfl, by omega, fun j x hj => by simp at hj⟩ (fun g hg e => by simp [Value.ownBlock] at hg e; omega) (fun x hx => by simp at hx) (by simp) (.inl ⟨rfl, rfl⟩) (by simp only [List.length_nil]; omega)) ?_
  rintro v w3 ⟨hRL, hu3, _⟩
  simp (disch := omega) only [push_cast, Nat.reduceBEq, Nat.reduceEqDiff, Nat.reduceAdd, Nat.reduceMul, Nat.reduceSub, Nat.reduceLT, Int.reduceToNat, Int.reduceLT, Int.reduceLE, Int.reduceEq, Int.reduceAdd, Int.reduceSub, Int.reduceNeg, Int.reduceMul]
  exact ⟨hRL.sl, hu2.trans hu3 (fun b h1 h2 => by simp [Value.ownBlock] at h2; omega)⟩

set_option maxHeartbeats 4000000 in
theorem orderDownsets_calls {w : World} (n lim : Int) {v : Value} {l : List Pr} (hv : SlP w v l) :
    Calls Try.prog 11 #[.int .i64 n, v, .int .i64 lim] w fun e w' => ∃ u, e = .returned u ∧ u = .bool true ∧ Upd (fun _ => False) w w' := by
  refine (calls_of_wr (args := [.int .i64 n, v, .int .i64 lim]) rs11 Try.func11 rfl ok11 rfl (R := fun u w' => u = .bool true ∧ Upd (fun _ => False) w w') ?_)
  refine wr_seq (wr_of_w mixed ?_)
  simp (disch := omega) only [push_cast, Nat.reduceBEq, Nat.reduceEqDiff, Nat.reduceAdd, Nat.reduceMul, Nat.reduceSub, Nat.reduceLT, Int.reduceToNat, Int.reduceLT, Int.reduceLE, Int.reduceEq, Int.reduceAdd, Int.reduceSub, Int.reduceNeg, Int.reduceMul, KSr_nor]
  refine wr_seq (wr_of_w mixed ?_)
  simp (disch := omega) only [push_cast, Nat.reduceBEq, Nat.reduceEqDiff, Nat.reduceAdd, Nat.reduceMul, Nat.reduceSub, Nat.reduceLT, Int.reduceToNat, Int.reduceLT, Int.reduceLE, Int.reduceEq, Int.reduceAdd, Int.reduceSub, Int.reduceNeg, Int.reduceMul]
  refine Ok.use awake_ok ?_
  rintro v1 w1 ⟨rfl, hu1⟩
  simp (disch := omega) only [push_cast, Nat.reduceBEq, Nat.reduceEqDiff, Nat.reduceAdd, Nat.reduceMul, Nat.reduceSub, Nat.reduceLT, Int.reduceToNat, Int.reduceLT, Int.reduceLE, Int.reduceEq, Int.reduceAdd, Int.reduceSub, Int.reduceNeg, Int.reduceMul, KSr_nor]
  by_cases h12 : 12 < n
  · refine wr_seq (wr_of_w mixed ?_)
    simp (disch := omega) only [push_cast, Nat.reduceBEq, Nat.reduceEqDiff, Nat.reduceAdd, Nat.reduceMul, Nat.reduceSub, Nat.reduceLT, Int.reduceToNat, Int.reduceLT, Int.reduceLE, Int.reduceEq, Int.reduceAdd, Int.reduceSub, Int.reduceNeg, Int.reduceMul, h12, KSr_ret]
    exact hu1
  by_cases hl1 : lim < 1
  · refine wr_seq (wr_of_w mixed ?_)
    simp (disch := omega) only [push_cast, Nat.reduceBEq, Nat.reduceEqDiff, Nat.reduceAdd, Nat.reduceMul, Nat.reduceSub, Nat.reduceLT, Int.reduceToNat, Int.reduceLT, Int.reduceLE, Int.reduceEq, Int.reduceAdd, Int.reduceSub, Int.reduceNeg, Int.reduceMul, h12, hl1, KSr_ret]
    exact hu1
  refine wr_seq (wr_of_w mixed ?_)
  simp (disch := omega) only [push_cast, Nat.reduceBEq, Nat.reduceEqDiff, Nat.reduceAdd, Nat.reduceMul, Nat.reduceSub, Nat.reduceLT, Int.reduceToNat, Int.reduceLT, Int.reduceLE, Int.reduceEq, Int.reduceAdd, Int.reduceSub, Int.reduceNeg, Int.reduceMul, h12, hl1]
  refine Ok.use (fault_ok n (hv.upd hu1)) ?_
  rintro v2 w2 ⟨rfl, hu2⟩
  have hu02 := hu1.trans hu2 (fun _ _ h => h)
  by_cases hf : flt n l = 0
  rotate_left
  · simp (disch := omega) only [push_cast, Nat.reduceBEq, Nat.reduceEqDiff, Nat.reduceAdd, Nat.reduceMul, Nat.reduceSub, Nat.reduceLT, Int.reduceToNat, Int.reduceLT, Int.reduceLE, Int.reduceEq, Int.reduceAdd, Int.reduceSub, Int.reduceNeg, Int.reduceMul, hf, KSr_ret]
    exact hu02
  simp (disch := omega) only [push_cast, Nat.reduceBEq, Nat.reduceEqDiff, Nat.reduceAdd, Nat.reduceMul, Nat.reduceSub, Nat.reduceLT, Int.reduceToNat, Int.reduceLT, Int.reduceLE, Int.reduceEq, Int.reduceAdd, Int.reduceSub, Int.reduceNeg, Int.reduceMul, hf, KSr_nor]
  obtain ⟨m, rfl, hm, hl4, hall, hck, hcy⟩ := flt_zero hf
  obtain ⟨L, rfl⟩ : ∃ L : Nat, lim = (L : Int) := ⟨lim.toNat, by omega⟩
  refine wr_seq (wr_of_w mixed ?_)
  simp (disch := omega) only [push_cast, Nat.reduceBEq, Nat.reduceEqDiff, Nat.reduceAdd, Nat.reduceMul, Nat.reduceSub, Nat.reduceLT, Int.reduceToNat, Int.reduceLT, Int.reduceLE, Int.reduceEq, Int.reduceAdd, Int.reduceSub, Int.reduceNeg, Int.reduceMul]
  refine Ok.use (less_ok hm (hv.upd hu02) hall hl4) ?_
  rintro v3 w3 ⟨hmat, hu3⟩
  have hu03 := hu02.trans hu3 (fun _ _ h => h)
  simp (disch := omega) only [push_cast, Nat.reduceBEq, Nat.reduceEqDiff, Nat.reduceAdd, Nat.reduceMul, Nat.reduceSub, Nat.reduceLT, Int.reduceToNat, Int.reduceLT, Int.reduceLE, Int.reduceEq, Int.reduceAdd, Int.reduceSub, Int.reduceNeg, Int.reduceMul]
  refine Ok.use (rdowns_ok hmat (by omega)) ?_
  rintro v4 w4 ⟨hsl, hu4⟩
  have hu04 := hu03.trans hu4 (fun _ _ h => h)
  simp (disch := omega) only [push_cast, Nat.reduceBEq, Nat.reduceEqDiff, Nat.reduceAdd, Nat.reduceMul, Nat.reduceSub, Nat.reduceLT, Int.reduceToNat, Int.reduceLT, Int.reduceLE, Int.reduceEq, Int.reduceAdd, Int.reduceSub, Int.reduceNeg, Int.reduceMul, KSr_nor]
  have hdc := Downsets_calls (hv.upd hu04) (by omega) (by omega : 1 ≤ L) hf
  refine wr_seq (wr_region (wlr_step ?_))
  simp (disch := omega) only [push_cast, Nat.reduceBEq, Nat.reduceEqDiff, Nat.reduceAdd, Nat.reduceMul, Nat.reduceSub, Nat.reduceLT, Int.reduceToNat, Int.reduceLT, Int.reduceLE, Int.reduceEq, Int.reduceAdd, Int.reduceSub, Int.reduceNeg, Int.reduceMul]
  refine wlr_step ?_
  simp (disch := omega) only [push_cast, Nat.reduceBEq, Nat.reduceEqDiff, Nat.reduceAdd, Nat.reduceMul, Nat.reduceSub, Nat.reduceLT, Int.reduceToNat, Int.reduceLT, Int.reduceLE, Int.reduceEq, Int.reduceAdd, Int.reduceSub, Int.reduceNeg, Int.reduceMul]
  refine wlr_step ?_
  simp (disch := omega) only [push_cast, Nat.reduceBEq, Nat.reduceEqDiff, Nat.reduceAdd, Nat.reduceMul, Nat.reduceSub, Nat.reduceLT, Int.reduceToNat, Int.reduceLT, Int.reduceLE, Int.reduceEq, Int.reduceAdd, Int.reduceSub, Int.reduceNeg, Int.reduceMul]
  refine wlr_call (f := 35) (args := #[.int .i64 m, v, .int .i64 L]) (w1 := w4) rfl (by kernel_rfl) ?_
  refine hdc.mono ?_
  clear hdc
  rintro e w5 ⟨u, rfl, hu5, hres⟩
  refine ⟨_, rfl, wlr_of_wl ?_⟩
  have hu05 := hu04.trans hu5 (fun _ _ h => h)
  obtain ⟨a4, c4, rfl, hel4⟩ := hsl
  generalize hD : specD m (less m l) = D at *
  by_cases hlen : D.length ≤ L
  rotate_left
  · rw [if_neg hlen] at hres
    subst hres
    have hlen' : (L : Int) < D.length := by omega
    simp (disch := omega) only [push_cast, Nat.reduceBEq, Nat.reduceEqDiff, Nat.reduceAdd, Nat.reduceMul, Nat.reduceSub, Nat.reduceLT, Int.reduceToNat, Int.reduceLT, Int.reduceLE, Int.reduceEq, Int.reduceAdd, Int.reduceSub, Int.reduceNeg, Int.reduceMul, KSr_nor]
    refine wr_of_w mixed ?_
    simp (disch := omega) only [push_cast, Nat.reduceBEq, Nat.reduceEqDiff, Nat.reduceAdd, Nat.reduceMul, Nat.reduceSub, Nat.reduceLT, Int.reduceToNat, Int.reduceLT, Int.reduceLE, Int.reduceEq, Int.reduceAdd, Int.reduceSub, Int.reduceNeg, Int.reduceMul, hlen']
    exact hu05
  · rw [if_pos hlen] at hres
    obtain ⟨u0, rfl, a5, c5, rfl, hel5⟩ := hres
    have hlen' : ¬ (L : Int) < D.length := by omega
    have hD13 : D.length ≤ 4096 := by
      rw [← hD, specD_from, fromL, List.length_append]
      have h := gSets_len (n := m) (dn := dnP m (less m l)) (k := m) (l := [])
      have h2 : 2 ^ m ≤ 2 ^ 12 := Nat.pow_le_pow_right (by omega) (by omega)
      split
      · simp; omega
      · simp; omega
    have hDl : ∀ c, c ∈ D → c.length ≤ 64 := by
      intro c hc
      rw [← hD] at hc
      obtain ⟨_, h2, h3⟩ := specD_mem.1 hc
      have := nodup_le m c (asc_nodup h2) h3
      omega
    simp (disch := omega) only [push_cast, Nat.reduceBEq, Nat.reduceEqDiff, Nat.reduceAdd, Nat.reduceMul, Nat.reduceSub, Nat.reduceLT, Int.reduceToNat, Int.reduceLT, Int.reduceLE, Int.reduceEq, Int.reduceAdd, Int.reduceSub, Int.reduceNeg, Int.reduceMul, KSr_nor]
    refine wr_of_w mixed ?_
    simp (disch := omega) only [push_cast, Nat.reduceBEq, Nat.reduceEqDiff, Nat.reduceAdd, Nat.reduceMul, Nat.reduceSub, Nat.reduceLT, Int.reduceToNat, Int.reduceLT, Int.reduceLE, Int.reduceEq, Int.reduceAdd, Int.reduceSub, Int.reduceNeg, Int.reduceMul, hlen']
    refine loop_inv (I := fun k st w' => Bx (∃ i : Nat, k + i = D.length ∧ st = [.int .i64 (i : Int)] ∧ Upd (fun _ => False) w5 w') ⟨⟩) ?_ D.length ⟨0, rfl, rfl, Upd.refl⟩
    rintro k st w6 ⟨i, hki, rfl, hu6⟩
    by_cases hk0 : k = 0
    · simp (disch := omega) only [push_cast, Nat.reduceBEq, Nat.reduceEqDiff, Nat.reduceAdd, Nat.reduceMul, Nat.reduceSub, Nat.reduceLT, Int.reduceToNat, Int.reduceLT, Int.reduceLE, Int.reduceEq, Int.reduceAdd, Int.reduceSub, Int.reduceNeg, Int.reduceMul]
      exact hu05.trans hu6 (fun _ _ h => h)
    have hi : i < D.length := by omega
    have hx := List.getElem?_eq_getElem hi
    have hxl := hDl _ (List.getElem_mem hi)
    generalize D[i] = c at *
    obtain ⟨b4, o4, rfl, q40, q4⟩ := hel4 (by intro e; rw [e] at hi; simp at hi)
    obtain ⟨b5, o5, rfl, q50, q5⟩ := hel5 (by intro e; rw [e] at hi; simp at hi)
    obtain ⟨x4, p4, s4⟩ := q4 i c hx
    obtain ⟨x5, p5, s5⟩ := q5 i c hx
    rw [← World.cell?_of_block (hu5.block b4 q40 (fun h => h)), ← World.cell?_of_block (hu6.block b4 (Nat.lt_of_lt_of_le q40 hu5.size) (fun h => h))] at p4
    rw [← World.cell?_of_block (hu6.block b5 q50 (fun h => h))] at p5
    have t4 := (s4.upd hu5).upd hu6
    have t5 := s5.upd hu6
    obtain ⟨y4, z4, rfl, _⟩ := id t4
    obtain ⟨y5, z5, rfl, _⟩ := id t5
    simp (disch := omega) only [push_cast, Nat.reduceBEq, Nat.reduceEqDiff, Nat.reduceAdd, Nat.reduceMul, Nat.reduceSub, Nat.reduceLT, Int.reduceToNat, Int.reduceLT, Int.reduceLE, Int.reduceEq, Int.reduceAdd, Int.reduceSub, Int.reduceNeg, Int.reduceMul, p4, p5]
    refine Ok.use (same_ok (t5.upd Upd.drew) (t4.upd Upd.drew) (by rw [toI_length]; omega)) ?_
    rintro v7 w7 ⟨rfl, hu7⟩
    simp (disch := omega) only [push_cast, Nat.reduceBEq, Nat.reduceEqDiff, Nat.reduceAdd, Nat.reduceMul, Nat.reduceSub, Nat.reduceLT, Int.reduceToNat, Int.reduceLT, Int.reduceLE, Int.reduceEq, Int.reduceAdd, Int.reduceSub, Int.reduceNeg, Int.reduceMul, decide_eq_true_eq]
    exact ⟨k - 1, by omega, i + 1, by omega, by simp, (hu6.drew').trans hu7 (fun _ _ h => h)⟩
theorem orderDownsets_law {w : World} (n : Int) (_ : (Lit.int .i64 n).wf = true) {v : Value} (h : ∃ l, SlP w v l) (lim : Int) (_ : (Lit.int .i64 lim).wf = true) :
    Calls Try.prog 11 #[.int .i64 n, v, .int .i64 lim] w fun e w' => e = .returned (.bool true) ∧ RowKit.Below w.heap.size w w' := by
  obtain ⟨l, hv⟩ := h
  refine (orderDownsets_calls n lim hv).mono ?_
  rintro e w' ⟨u, rfl, rfl, hu⟩
  exact ⟨rfl, hu.os, hu.tape, hu.output, hu.size, fun k hk => hu.block k hk (fun h => h)⟩
end Go.Proofs.Ytfjccccfkpgmgaa.Fd
