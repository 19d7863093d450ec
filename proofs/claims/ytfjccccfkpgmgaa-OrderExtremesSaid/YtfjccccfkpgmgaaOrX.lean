/-
  The specification's Best; the law OrderExtremes, as a reading.
-/
import Derived.Test.YtfjccccfkpgmgaaOrW
namespace Go.Proofs.Ytfjccccfkpgmgaa.Fd
set_option linter.unusedSimpArgs false
set_option linter.unusedVariables false
open Go
set_option maxRecDepth 100000

theorem setL_mk {n k : Nat} (hk : k < 2 ^ n) : Mk k (setL n k) := by
  intro x
  rw [mem_setL]
  refine ⟨fun h => h.2, fun h => ⟨?_, h⟩⟩
  refine Classical.byContradiction fun hx => ?_
  have := Nat.testBit_lt_two_pow (x := k) (i := x) (Nat.lt_of_lt_of_le hk (Nat.pow_le_pow_right (by omega) (by omega)))
  rw [h] at this
  cases this
theorem setL_nodup {n k : Nat} : (setL n k).Nodup := setL_up.imp fun h => by omega
theorem good_cmp {ch : Bool} {n : Nat} {R : Rel} {c : List Nat} (h : Good ch n R c) {x y : Nat} (hx : x ∈ c) (hy : y ∈ c) (hne : x ≠ y) : (R x y || R y x) = ch := by
  cases ch
  · rw [h.anti rfl x y hx hy, h.anti rfl y x hy hx]; rfl
  · obtain ⟨i, hi⟩ := List.mem_iff_getElem?.1 hx
    obtain ⟨j, hj⟩ := List.mem_iff_getElem?.1 hy
    obtain ⟨h1, h2⟩ := List.getElem?_eq_some_iff.1 hi
    obtain ⟨h3, h4⟩ := List.getElem?_eq_some_iff.1 hj
    have hp := List.pairwise_iff_getElem.1 h.up
    rw [Bool.or_eq_true]
    rcases Nat.lt_trichotomy i j with g | g | g
    · have := hp i j h1 h3 g
      rw [h2, h4] at this
      exact .inl (by simpa using this)
    · subst g
      rw [hi] at hj
      cases hj
      exact absurd rfl hne
    · have := hp j i h3 h1 g
      rw [h2, h4] at this
      exact .inr (by simpa using this)
theorem same_len {c d : List Nat} (hc : c.Nodup) (hd : d.Nodup) (h : ∀ x, x ∈ c ↔ x ∈ d) : c.length = d.length :=
  Nat.le_antisymm (nodup_sub hc fun x hx => (h x).1 hx) (nodup_sub hd fun x hx => (h x).2 hx)
theorem BestI.short {ch : Bool} {n k : Nat} {R : Rel} {B : List Nat} (hir : ∀ a, R a a = false) (h : BestI ch n R k B) (hk : k < 2 ^ n) (hl : (setL n k).length < B.length) : BestI ch n R (k + 1) B := by
  refine h.keep fun c hc hm => bett_false.2 (.inl ?_)
  have := same_len (hc.nodup hir) setL_nodup fun x => (hm x).trans (setL_mk hk x).symm
  omega
theorem BestI.other {ch : Bool} {n k : Nat} {R : Rel} {B : List Nat} (h : BestI ch n R k B) (hk : k < 2 ^ n) (hl : ¬ (setL n k).Pairwise fun x y => (R x y || R y x) = ch) : BestI ch n R (k + 1) B := by
  refine h.keep fun c hc hm => absurd ?_ hl
  have he := fun x => (hm x).trans (setL_mk hk x).symm
  refine setL_up.imp_of_mem ?_
  intro x y hx hy hxy
  exact good_cmp hc ((he x).2 hx) ((he y).2 hy) (by omega)
theorem BestI.new {ch : Bool} {n k : Nat} {R : Rel} {B d : List Nat} (hir : ∀ a, R a a = false) (htr : ∀ a b c, R a c = true → R c b = true → R a b = true) (h : BestI ch n R k B) (hd : Good ch n R d) (hm : Mk k d) : BestI ch n R (k + 1) (if bett d B then d else B) := by
  cases hb : bett d B
  · refine h.keep fun c hc hm2 => ?_
    rw [hc.eq hir htr hd fun x => (hm2 x).trans (hm x).symm]
    exact hb
  · exact h.take hir htr hd hm hb
theorem anti_set {n k : Nat} {R : Rel} (hir : ∀ a, R a a = false) (h : (setL n k).Pairwise fun x y => (R x y || R y x) = false) : Good false n R (setL n k) := by
  refine ⟨fun x hx => (mem_setL.1 hx).1, by simpa using setL_up, fun _ x y hx hy => ?_⟩
  by_cases e : x = y
  · subst e; exact hir x
  obtain ⟨i, hi⟩ := List.mem_iff_getElem?.1 hx
  obtain ⟨j, hj⟩ := List.mem_iff_getElem?.1 hy
  obtain ⟨h1, h2⟩ := List.getElem?_eq_some_iff.1 hi
  obtain ⟨h3, h4⟩ := List.getElem?_eq_some_iff.1 hj
  have hp := List.pairwise_iff_getElem.1 h
  rcases Nat.lt_trichotomy i j with g | g | g
  · have := hp i j h1 h3 g
    rw [h2, h4, Bool.or_eq_false_iff] at this
    exact this.1
  · subst g
    rw [hi] at hj
    cases hj
    exact absurd rfl e
  · have := hp j i h3 h1 g
    rw [h2, h4, Bool.or_eq_false_iff] at this
    exact this.2

set_option maxHeartbeats 2000000 in
theorem Best_ok {w : World} {lo n : Nat} {v : Value} {R : Rel} (hm : Mat lo w v n n R) (hn : n ≤ 12) (ch : Bool) (hir : ∀ a, R a a = false) (htr : ∀ a b c, R a c = true → R c b = true → R a b = true) :
    Ok (den Try.prog 33 #[v, .bool ch] w) fun u w' => (∃ B, SlI w' u (toI B) ∧ BestI ch n R (2 ^ n) B) ∧ Upd (fun _ => False) w w' := by
  have t := fun {a b c : World} (x : Upd (fun _ => False) a b) (y : Upd (fun _ => False) b c) => x.trans y (F := fun _ => False) (fun _ _ h => h)
  obtain ⟨av, cv, rfl⟩ := hm.form
  refine den_ok (args := [.slice av n cv, .bool ch]) rs33 Try.func33 rfl mixed in33 ok33 rfl ?_
  simp (disch := omega) only [push_cast, Nat.reduceBEq, Nat.reduceEqDiff, Nat.reduceAdd, Nat.reduceMul, Nat.reduceSub, Nat.reduceLT, Int.reduceToNat, Int.reduceLT, Int.reduceLE, Int.reduceEq, Int.reduceAdd, Int.reduceSub, Int.reduceNeg, Int.reduceMul]
  have hu0 : Upd (fun _ => False) w (w.alloc (.cells #[] 3 (0, 0))) := Upd.alloc
  have ho0 : (w.alloc (.cells #[] 3 (0, 0))).ownsRow 0 3 1 (.slice (some ⟨w.heap.size, 0, none⟩) 0 0) (toI []).length ((toI []).map (Value.int .i64)) :=
    ⟨rfl, .inr ⟨w.heap.size, 0, #[], rfl, Nat.zero_le _, Blk.new (cs := []), Nat.le_refl _, Nat.zero_le _, rfl, rfl⟩⟩
  have hs0 := SlI.of_own ho0
  clear ho0
  generalize w.alloc (.cells #[] 3 (0, 0)) = w1 at *
  generalize (Value.slice (some ⟨w.heap.size, 0, none⟩) 0 0) = bv at *
  have hpow : ∀ i, i ≤ n → 2 ^ i ≤ 4096 := fun i hi => Nat.le_trans (Nat.pow_le_pow_right (by omega) (by omega : i ≤ 12)) (by decide)
  refine loop_inv (I := fun j st w' => Bx (∃ (i M : Nat), j + i = n ∧ M = 2 ^ i ∧ st = [.int .i64 (M : Int), .int .i64 (i : Int)] ∧ Upd (fun _ => False) w1 w') ⟨⟩) ?_ n
    ⟨0, 1, rfl, rfl, rfl, Upd.refl⟩
  rintro j st w2 ⟨i, M, hji, hM, rfl, hu2⟩
  by_cases hj0 : j = 0
  rotate_left
  · have := hpow i (by omega)
    simp (disch := omega) only [push_cast, Nat.reduceBEq, Nat.reduceEqDiff, Nat.reduceAdd, Nat.reduceMul, Nat.reduceSub, Nat.reduceLT, Int.reduceToNat, Int.reduceLT, Int.reduceLE, Int.reduceEq, Int.reduceAdd, Int.reduceSub, Int.reduceNeg, Int.reduceMul]
    exact ⟨j - 1, by omega, i + 1, M * 2, by omega, by rw [hM, Nat.pow_succ], by simp, hu2⟩
  obtain rfl : i = n := by omega
  have hM4 := hpow i (Nat.le_refl _)
  rw [← hM] at hM4
  clear hpow
  simp (disch := omega) only [push_cast, Nat.reduceBEq, Nat.reduceEqDiff, Nat.reduceAdd, Nat.reduceMul, Nat.reduceSub, Nat.reduceLT, Int.reduceToNat, Int.reduceLT, Int.reduceLE, Int.reduceEq, Int.reduceAdd, Int.reduceSub, Int.reduceNeg, Int.reduceMul]
  refine loop_inv (I := fun j st w' => Bx (∃ (k : Nat) (v : Value) (B : List Nat), j + k = M ∧ st = [v, .int .i64 (k : Int)] ∧ Upd (fun _ => False) w2 w' ∧ SlI w' v (toI B) ∧ BestI ch i R k B) ⟨⟩) ?_ M
    ⟨0, bv, [], rfl, rfl, Upd.refl, hs0.upd hu2, .start⟩
  rintro j st w3 ⟨k, v, B, hjk, rfl, hu3, hB, hI⟩
  have hu13 := t (t hu0 hu2) hu3
  by_cases hj0 : j = 0
  · obtain rfl : k = M := by omega
    simp (disch := omega) only [push_cast, Nat.reduceBEq, Nat.reduceEqDiff, Nat.reduceAdd, Nat.reduceMul, Nat.reduceSub, Nat.reduceLT, Int.reduceToNat, Int.reduceLT, Int.reduceLE, Int.reduceEq, Int.reduceAdd, Int.reduceSub, Int.reduceNeg, Int.reduceMul]
    exact ⟨⟨B, hB, by rw [← hM]; exact hI⟩, hu13⟩
  have hk : k < 2 ^ i := by omega
  have hBn : B.length ≤ i := nodup_le i B (hI.good.nodup hir) hI.good.lt
  simp (disch := omega) only [push_cast, Nat.reduceBEq, Nat.reduceEqDiff, Nat.reduceAdd, Nat.reduceMul, Nat.reduceSub, Nat.reduceLT, Int.reduceToNat, Int.reduceLT, Int.reduceLE, Int.reduceEq, Int.reduceAdd, Int.reduceSub, Int.reduceNeg, Int.reduceMul]
  refine Ok.use (set_ok hn (by omega)) ?_
  rintro v1 w4 ⟨hs, hu4⟩
  have hB4 := hB.upd hu4
  obtain ⟨sa, sc, rfl, _⟩ := id hs
  obtain ⟨ba, bc, rfl, _⟩ := id hB4
  simp only [toI_length] at hs hB4 ⊢
  have hsl := setL_le (n := i) (k := k)
  by_cases hlen : (setL i k).length < B.length
  · simp (disch := omega) only [push_cast, Nat.reduceBEq, Nat.reduceEqDiff, Nat.reduceAdd, Nat.reduceMul, Nat.reduceSub, Nat.reduceLT, Int.reduceToNat, Int.reduceLT, Int.reduceLE, Int.reduceEq, Int.reduceAdd, Int.reduceSub, Int.reduceNeg, Int.reduceMul]
    exact ⟨j - 1, by omega, k + 1, _, B, by omega, by simp, t hu3 hu4, hB4, hI.short hir hk hlen⟩
  simp (disch := omega) only [push_cast, Nat.reduceBEq, Nat.reduceEqDiff, Nat.reduceAdd, Nat.reduceMul, Nat.reduceSub, Nat.reduceLT, Int.reduceToNat, Int.reduceLT, Int.reduceLE, Int.reduceEq, Int.reduceAdd, Int.reduceSub, Int.reduceNeg, Int.reduceMul]
  refine Ok.use (pairwise_ok (hm.upd (t hu13 hu4)) (by omega) hs (by omega) (fun x hx => (mem_setL.1 hx).1) ch) ?_
  rintro v1 w5 ⟨⟨q, rfl, hq⟩, hu5⟩
  have hu35 := t (t hu3 hu4) hu5
  have hB5 := hB4.upd hu5
  cases q
  · simp (disch := omega) only [push_cast, Nat.reduceBEq, Nat.reduceEqDiff, Nat.reduceAdd, Nat.reduceMul, Nat.reduceSub, Nat.reduceLT, Int.reduceToNat, Int.reduceLT, Int.reduceLE, Int.reduceEq, Int.reduceAdd, Int.reduceSub, Int.reduceNeg, Int.reduceMul]
    exact ⟨j - 1, by omega, k + 1, _, B, by omega, by simp, hu35, hB5, hI.other hk fun h => by simpa using hq.2 h⟩
  have hpw := hq.1 rfl
  clear hq
  cases ch
  · have hd := anti_set hir hpw
    have hnew := hI.new hir htr hd (setL_mk hk)
    have hs5 := hs.upd hu5
    by_cases hgt : B.length < (setL i k).length
    · have hb : bett (setL i k) B = true := by unfold bett; simp [hgt]
      rw [hb, if_pos rfl] at hnew
      simp (config := { maxSteps := 3000000 }) (disch := omega) only [push_cast, Nat.reduceBEq, Nat.reduceEqDiff, Nat.reduceAdd, Nat.reduceMul, Nat.reduceSub, Nat.reduceLT, Int.reduceToNat, Int.reduceLT, Int.reduceLE, Int.reduceEq, Int.reduceAdd, Int.reduceSub, Int.reduceNeg, Int.reduceMul]
      exact ⟨j - 1, by omega, k + 1, _, setL i k, by omega, by simp, hu35, hs5, hnew⟩
    have hb : bett (setL i k) B = befo (setL i k) B := by unfold bett; simp [hgt, show (setL i k).length = B.length from by omega]
    rw [hb] at hnew
    simp (config := { maxSteps := 3000000 }) (disch := omega) only [push_cast, Nat.reduceBEq, Nat.reduceEqDiff, Nat.reduceAdd, Nat.reduceMul, Nat.reduceSub, Nat.reduceLT, Int.reduceToNat, Int.reduceLT, Int.reduceLE, Int.reduceEq, Int.reduceAdd, Int.reduceSub, Int.reduceNeg, Int.reduceMul]
    refine Ok.use (Before_ok hs5 hB5 (by omega) (by omega)) ?_
    rintro v1 w6 ⟨rfl, hu6⟩
    cases hbe : befo (setL i k) B
    · rw [hbe] at hnew
      simp (config := { maxSteps := 3000000 }) (disch := omega) only [push_cast, Nat.reduceBEq, Nat.reduceEqDiff, Nat.reduceAdd, Nat.reduceMul, Nat.reduceSub, Nat.reduceLT, Int.reduceToNat, Int.reduceLT, Int.reduceLE, Int.reduceEq, Int.reduceAdd, Int.reduceSub, Int.reduceNeg, Int.reduceMul]
      exact ⟨j - 1, by omega, k + 1, _, B, by omega, by simp, t hu35 hu6, hB5.upd hu6, hnew⟩
    · rw [hbe] at hnew
      simp (config := { maxSteps := 3000000 }) (disch := omega) only [push_cast, Nat.reduceBEq, Nat.reduceEqDiff, Nat.reduceAdd, Nat.reduceMul, Nat.reduceSub, Nat.reduceLT, Int.reduceToNat, Int.reduceLT, Int.reduceLE, Int.reduceEq, Int.reduceAdd, Int.reduceSub, Int.reduceNeg, Int.reduceMul]
      exact ⟨j - 1, by omega, k + 1, _, _, by omega, by simp, t hu35 hu6, hs5.upd hu6, hnew⟩
  · simp (config := { maxSteps := 3000000 }) (disch := omega) only [push_cast, Nat.reduceBEq, Nat.reduceEqDiff, Nat.reduceAdd, Nat.reduceMul, Nat.reduceSub, Nat.reduceLT, Int.reduceToNat, Int.reduceLT, Int.reduceLE, Int.reduceEq, Int.reduceAdd, Int.reduceSub, Int.reduceNeg, Int.reduceMul]
    refine Ok.use (ascending_ok (hm.upd (t (t hu13 hu4) hu5)) (by omega) (hs.upd hu5) (by omega) (fun x hx => (mem_setL.1 hx).1) hir htr setL_nodup hpw) ?_
    rintro v1 w6 ⟨⟨d, hdl, hd, hdm⟩, hu6⟩
    have hnew := hI.new hir htr hd (fun x => (hdm x).trans (setL_mk hk x))
    have hdlen := same_len (hd.nodup hir) setL_nodup hdm
    obtain ⟨da, dc, rfl, _⟩ := id hdl
    simp only [toI_length] at hdl ⊢
    have hB6 := hB5.upd hu6
    have hu36 := t hu35 hu6
    by_cases hgt : B.length < d.length
    · have hb : bett d B = true := by unfold bett; simp [hgt]
      rw [hb, if_pos rfl] at hnew
      simp (config := { maxSteps := 3000000 }) (disch := omega) only [push_cast, Nat.reduceBEq, Nat.reduceEqDiff, Nat.reduceAdd, Nat.reduceMul, Nat.reduceSub, Nat.reduceLT, Int.reduceToNat, Int.reduceLT, Int.reduceLE, Int.reduceEq, Int.reduceAdd, Int.reduceSub, Int.reduceNeg, Int.reduceMul]
      exact ⟨j - 1, by omega, k + 1, _, d, by omega, by simp, hu36, hdl, hnew⟩
    have hb : bett d B = befo d B := by unfold bett; simp [hgt, show d.length = B.length from by omega]
    rw [hb] at hnew
    simp (config := { maxSteps := 3000000 }) (disch := omega) only [push_cast, Nat.reduceBEq, Nat.reduceEqDiff, Nat.reduceAdd, Nat.reduceMul, Nat.reduceSub, Nat.reduceLT, Int.reduceToNat, Int.reduceLT, Int.reduceLE, Int.reduceEq, Int.reduceAdd, Int.reduceSub, Int.reduceNeg, Int.reduceMul]
    refine Ok.use (Before_ok hdl hB6 (by omega) (by omega)) ?_
    rintro v1 w7 ⟨rfl, hu7⟩
    cases hbe : befo d B
    · rw [hbe] at hnew
      simp (config := { maxSteps := 3000000 }) (disch := omega) only [push_cast, Nat.reduceBEq, Nat.reduceEqDiff, Nat.reduceAdd, Nat.reduceMul, Nat.reduceSub, Nat.reduceLT, Int.reduceToNat, Int.reduceLT, Int.reduceLE, Int.reduceEq, Int.reduceAdd, Int.reduceSub, Int.reduceNeg, Int.reduceMul]
      exact ⟨j - 1, by omega, k + 1, _, B, by omega, by simp, t hu36 hu7, hB6.upd hu7, hnew⟩
    · rw [hbe] at hnew
      simp (config := { maxSteps := 3000000 }) (disch := omega) only [push_cast, Nat.reduceBEq, Nat.reduceEqDiff, Nat.reduceAdd, Nat.reduceMul, Nat.reduceSub, Nat.reduceLT, Int.reduceToNat, Int.reduceLT, Int.reduceLE, Int.reduceEq, Int.reduceAdd, Int.reduceSub, Int.reduceNeg, Int.reduceMul]
      exact ⟨j - 1, by omega, k + 1, _, _, by omega, by simp, t hu36 hu7, hdl.upd hu7, hnew⟩

set_option maxHeartbeats 2000000 in
theorem orderExtremes_ok {w : World} (n : Int) {v : Value} {l : List Pr} (hv : SlP w v l) :
    Ok (den Try.prog 10 #[.int .i64 n, v] w) fun u w' => u = .bool true ∧ Upd (fun _ => False) w w' := by
  have t := fun {a b c : World} (x : Upd (fun _ => False) a b) (y : Upd (fun _ => False) b c) => x.trans y (F := fun _ => False) (fun _ _ h => h)
  refine den_ok (args := [.int .i64 n, v]) rs10 Try.func10 rfl mixed in10 ok10 rfl ?_
  simp (disch := omega) only [push_cast, Nat.reduceBEq, Nat.reduceEqDiff, Nat.reduceAdd, Nat.reduceMul, Nat.reduceSub, Nat.reduceLT, Int.reduceToNat, Int.reduceLT, Int.reduceLE, Int.reduceEq, Int.reduceAdd, Int.reduceSub, Int.reduceNeg, Int.reduceMul]
  refine Ok.use awake_ok ?_
  rintro v1 w1 ⟨rfl, hu1⟩
  by_cases h12 : (12 : Int) < n
  · simp (disch := omega) only [push_cast, Nat.reduceBEq, Nat.reduceEqDiff, Nat.reduceAdd, Nat.reduceMul, Nat.reduceSub, Nat.reduceLT, Int.reduceToNat, Int.reduceLT, Int.reduceLE, Int.reduceEq, Int.reduceAdd, Int.reduceSub, Int.reduceNeg, Int.reduceMul]
    exact hu1
  simp (disch := omega) only [push_cast, Nat.reduceBEq, Nat.reduceEqDiff, Nat.reduceAdd, Nat.reduceMul, Nat.reduceSub, Nat.reduceLT, Int.reduceToNat, Int.reduceLT, Int.reduceLE, Int.reduceEq, Int.reduceAdd, Int.reduceSub, Int.reduceNeg, Int.reduceMul]
  refine Ok.use (fault_ok n (hv.upd hu1)) ?_
  rintro v1 w2 ⟨rfl, hu2⟩
  by_cases h0 : flt n l = 0
  rotate_left
  · simp (disch := omega) only [push_cast, Nat.reduceBEq, Nat.reduceEqDiff, Nat.reduceAdd, Nat.reduceMul, Nat.reduceSub, Nat.reduceLT, Int.reduceToNat, Int.reduceLT, Int.reduceLE, Int.reduceEq, Int.reduceAdd, Int.reduceSub, Int.reduceNeg, Int.reduceMul]
    exact t hu1 hu2
  obtain ⟨m, rfl, hm, hl4, hall, hchk, hcy⟩ := flt_zero h0
  rw [h0]
  simp (disch := omega) only [push_cast, Nat.reduceBEq, Nat.reduceEqDiff, Nat.reduceAdd, Nat.reduceMul, Nat.reduceSub, Nat.reduceLT, Int.reduceToNat, Int.reduceLT, Int.reduceLE, Int.reduceEq, Int.reduceAdd, Int.reduceSub, Int.reduceNeg, Int.reduceMul]
  have u2 := t hu1 hu2
  have htr := less_trans hall
  have hir := less_irr hall hcy
  refine Ok.use (less_ok hm (hv.upd u2) hall hl4) ?_
  rintro v1 w3 ⟨hmat, hu3⟩
  have u3 := t u2 hu3
  simp (disch := omega) only [push_cast, Nat.reduceBEq, Nat.reduceEqDiff, Nat.reduceAdd, Nat.reduceMul, Nat.reduceSub, Nat.reduceLT, Int.reduceToNat, Int.reduceLT, Int.reduceLE, Int.reduceEq, Int.reduceAdd, Int.reduceSub, Int.reduceNeg, Int.reduceMul]
  refine Ok.use (LongestChain_ok m (hv.upd u3)) ?_
  rintro v2 w4 ⟨cv, rfl, hc, hu4⟩
  have u4 := t u3 hu4
  obtain ⟨f, c, hf, hK, hch, hc⟩ := hc h0
  rw [Int.toNat_natCast] at hf hK hch
  rw [h0]
  simp (disch := omega) only [push_cast, Nat.reduceBEq, Nat.reduceEqDiff, Nat.reduceAdd, Nat.reduceMul, Nat.reduceSub, Nat.reduceLT, Int.reduceToNat, Int.reduceLT, Int.reduceLE, Int.reduceEq, Int.reduceAdd, Int.reduceSub, Int.reduceNeg, Int.reduceMul]
  refine Ok.use (MaxAntichain_ok m (hv.upd u4)) ?_
  rintro v2 w5 ⟨av, rfl, ha, hu5⟩
  have u5 := t u4 hu5
  obtain ⟨W, a, S, left, hW, hA, ha⟩ := ha h0
  rw [Int.toNat_natCast] at hW hA
  rw [h0]
  simp (disch := omega) only [push_cast, Nat.reduceBEq, Nat.reduceEqDiff, Nat.reduceAdd, Nat.reduceMul, Nat.reduceSub, Nat.reduceLT, Int.reduceToNat, Int.reduceLT, Int.reduceLE, Int.reduceEq, Int.reduceAdd, Int.reduceSub, Int.reduceNeg, Int.reduceMul]
  have hmat5 := (hmat.upd hu4).upd hu5
  have hm12 : m ≤ 12 := by omega
  refine Ok.use (Best_ok hmat5 hm12 true hir htr) ?_
  rintro v2 w6 ⟨⟨B1, hB1, hI1⟩, hu6⟩
  obtain rfl : c = B1 := hI1.done (chain_good htr hch) fun d hd => chain_best hf hK hch hd
  simp (disch := omega) only [push_cast, Nat.reduceBEq, Nat.reduceEqDiff, Nat.reduceAdd, Nat.reduceMul, Nat.reduceSub, Nat.reduceLT, Int.reduceToNat, Int.reduceLT, Int.reduceLE, Int.reduceEq, Int.reduceAdd, Int.reduceSub, Int.reduceNeg, Int.reduceMul]
  refine Ok.use (same_ok ((hc.upd hu5).upd hu6) hB1 (by rw [toI_length]; have := nodup_le m c (hI1.good.nodup hir) hI1.good.lt; omega)) ?_
  rintro v2 w7 ⟨rfl, hu7⟩
  simp (disch := omega) only [push_cast, Nat.reduceBEq, Nat.reduceEqDiff, Nat.reduceAdd, Nat.reduceMul, Nat.reduceSub, Nat.reduceLT, Int.reduceToNat, Int.reduceLT, Int.reduceLE, Int.reduceEq, Int.reduceAdd, Int.reduceSub, Int.reduceNeg, Int.reduceMul]
  have hu57 := t hu6 hu7
  refine Ok.use (Best_ok (hmat5.upd hu57) hm12 false hir htr) ?_
  rintro v2 w8 ⟨⟨B2, hB2, hI2⟩, hu8⟩
  obtain rfl : a = B2 := hI2.done (anti_good hA) fun d hd => anti_best hm hir hW hA hd
  simp (disch := omega) only [push_cast, Nat.reduceBEq, Nat.reduceEqDiff, Nat.reduceAdd, Nat.reduceMul, Nat.reduceSub, Nat.reduceLT, Int.reduceToNat, Int.reduceLT, Int.reduceLE, Int.reduceEq, Int.reduceAdd, Int.reduceSub, Int.reduceNeg, Int.reduceMul]
  refine Ok.use (same_ok ((ha.upd hu57).upd hu8) hB2 (by rw [toI_length]; have := nodup_le m a (hI2.good.nodup hir) hI2.good.lt; omega)) ?_
  rintro v2 w9 ⟨rfl, hu9⟩
  simp (disch := omega) only [push_cast, Nat.reduceBEq, Nat.reduceEqDiff, Nat.reduceAdd, Nat.reduceMul, Nat.reduceSub, Nat.reduceLT, Int.reduceToNat, Int.reduceLT, Int.reduceLE, Int.reduceEq, Int.reduceAdd, Int.reduceSub, Int.reduceNeg, Int.reduceMul]
  exact t (t (t u5 hu57) hu8) hu9
theorem orderExtremes_law {w : World} (n : Int) (_ : (Lit.int .i64 n).wf = true) {v : Value} (h : ∃ l, SlP w v l) :
    Ok (den Try.prog 10 #[.int .i64 n, v] w) fun u w' => u = .bool true ∧ Upd (fun _ => False) w w' := by
  obtain ⟨l, h⟩ := h
  exact orderExtremes_ok n h
end Go.Proofs.Ytfjccccfkpgmgaa.Fd
