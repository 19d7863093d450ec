/-
  The law OrderMirsky, as a reading.
-/
import Derived.Test.YtfjccccfkpgmgaaOrH
namespace Go.Proofs.Ytfjccccfkpgmgaa.Fd
set_option linter.unusedSimpArgs false
set_option linter.unusedVariables false
open Go
set_option maxRecDepth 100000

theorem lev_up {n K : Nat} {R : Rel} {f g : Nat → Nat} (hf : IsLev n R f) (hg : IsUp n R g) (hK : ∀ x, x < n → g x ≤ K) : ∀ k x, x < n → f x ≤ k → f x + g x ≤ K := by
  intro k
  induction k with
  | zero => intro x hx h; have := hK x hx; omega
  | succ k ih =>
    intro x hx h
    rcases hf.eq x hx with h0 | ⟨a, ha, hR, h1⟩
    · have := hK x hx; omega
    · have h2 := ih a ha (by omega)
      have h3 := hg.le a x ha hx hR
      omega
theorem lev_chain {n : Nat} {R : Rel} {f g : Nat → Nat} {c : List Nat} (hf : IsLev n R f) (hg : IsUp n R g) (hK : ∀ x, x < n → g x ≤ c.length) (hc : Chain n R g c.length c) : ∀ (i x : Nat), c[i]? = some x → f x = i := by
  have low : ∀ (i x : Nat), c[i]? = some x → i ≤ f x := by
    intro i
    induction i with
    | zero => intro x _; exact Nat.zero_le _
    | succ i ih =>
      intro x hx
      have hi : i + 1 < c.length := (List.getElem?_eq_some_iff.1 hx).1
      have hy := List.getElem?_eq_getElem (l := c) (i := i) (by omega)
      generalize c[i]'(by omega) = y at hy
      have h1 := ih y hy
      have h2 := hf.le y x (hc.lt i y hy) (hc.lt (i + 1) x hx) (hc.step i y x hy hx)
      omega
  intro i x hx
  have h1 := low i x hx
  have h2 := lev_up hf hg hK (f x) x (hc.lt i x hx) (Nat.le_refl _)
  have h3 := hc.up i x hx
  omega
theorem chain_le {n : Nat} {R : Rel} {f g : Nat → Nat} {c : List Nat} (hf : IsLev n R f) (hg : IsUp n R g) (hK : ∀ x, x < n → g x ≤ c.length) (hc : Chain n R g c.length c) : c.length ≤ n := by
  have hl := lev_chain hf hg hK hc
  refine nodup_le n c ?_ fun x hx => ?_
  · rw [List.Nodup, List.pairwise_iff_getElem]
    intro i j h1 h2 hij e
    have e1 := hl i _ (List.getElem?_eq_getElem h1)
    have e2 := hl j _ (List.getElem?_eq_getElem h2)
    rw [e] at e1
    omega
  · obtain ⟨i, hi⟩ := List.mem_iff_getElem?.1 hx
    exact hc.lt i x hi

set_option maxHeartbeats 2000000 in
theorem orderMirsky_ok {w : World} (n : Int) {v : Value} {l : List Pr} (hv : SlP w v l) :
    Ok (den Try.prog 8 #[.int .i64 n, v] w) fun u w' => u = .bool true ∧ Upd (fun _ => False) w w' := by
  have t := fun {a b c : World} (x : Upd (fun _ => False) a b) (y : Upd (fun _ => False) b c) => x.trans y (F := fun _ => False) (fun _ _ h => h)
  refine den_ok (args := [.int .i64 n, v]) rs8 Try.func8 rfl mixed in8 ok8 rfl ?_
  simp (disch := omega) only [push_cast, Nat.reduceBEq, Nat.reduceEqDiff, Nat.reduceAdd, Nat.reduceMul, Nat.reduceSub, Nat.reduceLT, Int.reduceToNat, Int.reduceLT, Int.reduceLE, Int.reduceEq, Int.reduceAdd, Int.reduceSub, Int.reduceNeg, Int.reduceMul]
  refine Ok.use awake_ok ?_
  rintro v1 w1 ⟨rfl, hu1⟩
  simp (disch := omega) only [push_cast, Nat.reduceBEq, Nat.reduceEqDiff, Nat.reduceAdd, Nat.reduceMul, Nat.reduceSub, Nat.reduceLT, Int.reduceToNat, Int.reduceLT, Int.reduceLE, Int.reduceEq, Int.reduceAdd, Int.reduceSub, Int.reduceNeg, Int.reduceMul]
  refine Ok.use (fault_ok n (hv.upd hu1)) ?_
  rintro v1 w2 ⟨rfl, hu2⟩
  by_cases h0 : flt n l = 0
  rotate_left
  · simp (disch := omega) only [push_cast, Nat.reduceBEq, Nat.reduceEqDiff, Nat.reduceAdd, Nat.reduceMul, Nat.reduceSub, Nat.reduceLT, Int.reduceToNat, Int.reduceLT, Int.reduceLE, Int.reduceEq, Int.reduceAdd, Int.reduceSub, Int.reduceNeg, Int.reduceMul]
    exact t hu1 hu2
  obtain ⟨m, rfl, hm, hl4, hall, hchk, hcy⟩ := flt_zero h0
  rw [h0]
  simp (disch := omega) only [push_cast, Nat.reduceBEq, Nat.reduceEqDiff, Nat.reduceAdd, Nat.reduceMul, Nat.reduceSub, Nat.reduceLT, Int.reduceToNat, Int.reduceLT, Int.reduceLE, Int.reduceEq, Int.reduceAdd, Int.reduceSub, Int.reduceNeg, Int.reduceMul]
  have u2 := t hu1 hu2
  refine Ok.use (Levels_ok m (hv.upd u2)) ?_
  rintro v1 w3 ⟨lv, rfl, hl, hu3⟩
  have u3 := t u2 hu3
  obtain ⟨f, hf, hl⟩ := hl h0
  rw [Int.toNat_natCast] at hf hl
  rw [h0]
  simp (disch := omega) only [push_cast, Nat.reduceBEq, Nat.reduceEqDiff, Nat.reduceAdd, Nat.reduceMul, Nat.reduceSub, Nat.reduceLT, Int.reduceToNat, Int.reduceLT, Int.reduceLE, Int.reduceEq, Int.reduceAdd, Int.reduceSub, Int.reduceNeg, Int.reduceMul]
  refine Ok.use (LongestChain_ok m (hv.upd u3)) ?_
  rintro v1 w4 ⟨cv, rfl, hc, hu4⟩
  have u4 := t u3 hu4
  obtain ⟨g, c, hg, hK, hch, hc⟩ := hc h0
  rw [Int.toNat_natCast] at hg hK hch
  rw [h0]
  simp (disch := omega) only [push_cast, Nat.reduceBEq, Nat.reduceEqDiff, Nat.reduceAdd, Nat.reduceMul, Nat.reduceSub, Nat.reduceLT, Int.reduceToNat, Int.reduceLT, Int.reduceLE, Int.reduceEq, Int.reduceAdd, Int.reduceSub, Int.reduceNeg, Int.reduceMul]
  refine Ok.use (Closure_ok m (hv.upd u4)) ?_
  rintro v1 w5 ⟨pv, rfl, hp, hu5⟩
  have u5 := t u4 hu5
  rw [if_pos hchk, Int.toNat_natCast] at hp
  rw [hchk]
  have hl5 := (hl.upd hu4).upd hu5
  have hc5 := hc.upd hu5
  have hcn := chain_le hf hg hK hch
  have hlev := lev_chain hf hg hK hch
  have hlt : ∀ x, x < m → f x < c.length := fun x hx => by have := lev_up hf hg hK (f x) x hx (Nat.le_refl _); have := hg.pos x hx; omega
  have h64 : m * m ≤ 64 * 64 := Nat.mul_le_mul hm hm
  have hplen := pairsOf_le (n := m) (m := m) (R := less m l)
  clear hl hc hu1 hu2 hu3 hu4 hu5 u2 u3 u4
  obtain ⟨la, lc, rfl, _⟩ := id hl5
  obtain ⟨ca, cc, rfl, _⟩ := id hc5
  obtain ⟨pa, pc, rfl, _⟩ := id hp
  rw [natL_length] at hl5 ⊢
  have hcl : (toI c).length = c.length := toI_length
  rw [hcl] at hc5 ⊢
  have hcg : ∀ (i x : Nat), c[i]? = some x → (toI c)[i]? = some (x : Int) := by
    intro i x hx; unfold toI; rw [List.getElem?_map, hx]; rfl
  have hcn' : ¬ (m : Int) < (c.length : Int) := by omega
  simp (disch := omega) only [push_cast, Nat.reduceBEq, Nat.reduceEqDiff, Nat.reduceAdd, Nat.reduceMul, Nat.reduceSub, Nat.reduceLT, Int.reduceToNat, Int.reduceLT, Int.reduceLE, Int.reduceEq, Int.reduceAdd, Int.reduceSub, Int.reduceNeg, Int.reduceMul]
  refine loop_inv (I := fun k st w' => Bx (∃ i, k + i = m ∧ st = [.int .i64 (i : Int)] ∧ Upd (fun _ => False) w5 w') ⟨⟩) ?_ m ⟨0, rfl, rfl, Upd.refl⟩
  rintro k st w' ⟨i, hki, rfl, hu⟩
  by_cases hk0 : k = 0
  rotate_left
  · have hi : i < m := by omega
    obtain ⟨lb, lo, rfl, hlc⟩ := hl5.at_ hu (by omega)
    have q0 := hlc i _ (natL_get hi)
    have h1 := hlt i hi
    simp (disch := omega) only [push_cast, Nat.reduceBEq, Nat.reduceEqDiff, Nat.reduceAdd, Nat.reduceMul, Nat.reduceSub, Nat.reduceLT, Int.reduceToNat, Int.reduceLT, Int.reduceLE, Int.reduceEq, Int.reduceAdd, Int.reduceSub, Int.reduceNeg, Int.reduceMul, q0]
    exact ⟨k - 1, by omega, i + 1, by omega, by simp, hu⟩
  obtain rfl : i = m := by omega
  clear hki hk0
  simp (disch := omega) only [push_cast, Nat.reduceBEq, Nat.reduceEqDiff, Nat.reduceAdd, Nat.reduceMul, Nat.reduceSub, Nat.reduceLT, Int.reduceToNat, Int.reduceLT, Int.reduceLE, Int.reduceEq, Int.reduceAdd, Int.reduceSub, Int.reduceNeg, Int.reduceMul]
  refine loop_inv (I := fun k st w' => Bx (∃ j, k + j = c.length ∧ st = [.int .i64 (j : Int)] ∧ Upd (fun _ => False) w5 w') ⟨⟩) ?_ c.length ⟨0, rfl, rfl, hu⟩
  clear hu
  rintro k st w' ⟨j, hkj, rfl, hu⟩
  by_cases hk0 : k = 0
  rotate_left
  · have hj : j < c.length := by omega
    have hcj := List.getElem?_eq_getElem hj
    generalize c[j] = x at hcj
    have hxm := hch.lt j x hcj
    obtain ⟨cb, co, rfl, hcc⟩ := hc5.at_ hu (by omega)
    obtain ⟨lb, lo, rfl, hlc⟩ := hl5.at_ hu (by omega)
    have q0 := hcc j _ (hcg j x hcj)
    have q1 := hlc x _ (natL_get hxm)
    rw [hlev j x hcj] at q1
    by_cases hj0 : j = 0
    · simp (disch := omega) only [push_cast, Nat.reduceBEq, Nat.reduceEqDiff, Nat.reduceAdd, Nat.reduceMul, Nat.reduceSub, Nat.reduceLT, Int.reduceToNat, Int.reduceLT, Int.reduceLE, Int.reduceEq, Int.reduceAdd, Int.reduceSub, Int.reduceNeg, Int.reduceMul, q0, q1]
      exact ⟨k - 1, by omega, j + 1, by omega, by simp, hu.drew'⟩
    · have hcj1 := List.getElem?_eq_getElem (l := c) (i := j - 1) (by omega)
      generalize c[j - 1]'(by omega) = y at hcj1
      have q2 : w'.cell? ⟨cb, co + ((j : Int) - 1).toNat, none⟩ = some (.int .i64 (y : Int)) := by
        rw [show ((j : Int) - 1).toNat = j - 1 from by omega]
        exact hcc _ _ (hcg (j - 1) y hcj1)
      have hR := hch.step (j - 1) y x hcj1 (by rw [show j - 1 + 1 = j from by omega]; exact hcj)
      have hym := hch.lt (j - 1) y hcj1
      simp (disch := omega) only [push_cast, Nat.reduceBEq, Nat.reduceEqDiff, Nat.reduceAdd, Nat.reduceMul, Nat.reduceSub, Nat.reduceLT, Int.reduceToNat, Int.reduceLT, Int.reduceLE, Int.reduceEq, Int.reduceAdd, Int.reduceSub, Int.reduceNeg, Int.reduceMul, q0, q1, q2]
      refine Ok.use (has_ok y x ((hp.upd hu).upd Upd.drew) (by omega)) ?_
      rintro v1 w6 ⟨rfl, hu6⟩
      have hin : ((pairsOf i i (less i l)).any fun p => p.1 == (y : Int) && p.2 == (x : Int)) = true := by
        rw [List.any_eq_true]
        exact ⟨prs y x, mem_pairsOf.2 ⟨y, x, hym, hxm, hR, rfl⟩, by simp [prs]⟩
      rw [hin]
      simp (disch := omega) only [push_cast, Nat.reduceBEq, Nat.reduceEqDiff, Nat.reduceAdd, Nat.reduceMul, Nat.reduceSub, Nat.reduceLT, Int.reduceToNat, Int.reduceLT, Int.reduceLE, Int.reduceEq, Int.reduceAdd, Int.reduceSub, Int.reduceNeg, Int.reduceMul]
      exact ⟨k - 1, by omega, j + 1, by omega, by simp, hu.drew'.trans hu6 (fun _ _ h => h)⟩
  obtain rfl : j = c.length := by omega
  clear hkj hk0
  simp (disch := omega) only [push_cast, Nat.reduceBEq, Nat.reduceEqDiff, Nat.reduceAdd, Nat.reduceMul, Nat.reduceSub, Nat.reduceLT, Int.reduceToNat, Int.reduceLT, Int.reduceLE, Int.reduceEq, Int.reduceAdd, Int.reduceSub, Int.reduceNeg, Int.reduceMul]
  refine loop_inv (I := fun k st w' => Bx (∃ j, k + j = (pairsOf i i (less i l)).length ∧ st = [.int .i64 (j : Int)] ∧ Upd (fun _ => False) w5 w') ⟨⟩) ?_ (pairsOf i i (less i l)).length ⟨0, rfl, rfl, hu⟩
  clear hu
  rintro k st w' ⟨j, hkj, rfl, hu⟩
  by_cases hk0 : k = 0
  · simp (disch := omega) only [push_cast, Nat.reduceBEq, Nat.reduceEqDiff, Nat.reduceAdd, Nat.reduceMul, Nat.reduceSub, Nat.reduceLT, Int.reduceToNat, Int.reduceLT, Int.reduceLE, Int.reduceEq, Int.reduceAdd, Int.reduceSub, Int.reduceNeg, Int.reduceMul]
    exact t u5 hu
  have hj : j < (pairsOf i i (less i l)).length := by omega
  have hpj := List.getElem?_eq_getElem hj
  have hmem : (pairsOf i i (less i l))[j] ∈ pairsOf i i (less i l) := List.getElem_mem hj
  generalize (pairsOf i i (less i l))[j] = z at hpj hmem
  obtain ⟨x, y, hx, hy, hR, rfl⟩ := mem_pairsOf.1 hmem
  obtain ⟨pb, po, rfl, hpc⟩ := hp.at_ hu (by omega)
  obtain ⟨lb, lo, rfl, hlc⟩ := hl5.at_ hu (by omega)
  obtain ⟨q0, q1⟩ := hpc j _ hpj
  have q2 := hlc x _ (natL_get hx)
  have q3 := hlc y _ (natL_get hy)
  have hlt2 := hf.le x y hx hy hR
  simp only [prs] at q0 q1
  simp (config := { maxSteps := 3000000 }) (disch := omega) only [push_cast, Nat.reduceBEq, Nat.reduceEqDiff, Nat.reduceAdd, Nat.reduceMul, Nat.reduceSub, Nat.reduceLT, Int.reduceToNat, Int.reduceLT, Int.reduceLE, Int.reduceEq, Int.reduceAdd, Int.reduceSub, Int.reduceNeg, Int.reduceMul, q0, q1, q2, q3]
  exact ⟨k - 1, by omega, j + 1, by omega, by simp, hu.drew'⟩
theorem orderMirsky_law {w : World} (n : Int) (_ : (Lit.int .i64 n).wf = true) {v : Value} (h : ∃ l, SlP w v l) :
    Ok (den Try.prog 8 #[.int .i64 n, v] w) fun u w' => u = .bool true ∧ Upd (fun _ => False) w w' := by
  obtain ⟨l, h⟩ := h
  exact orderMirsky_ok n h
end Go.Proofs.Ytfjccccfkpgmgaa.Fd
