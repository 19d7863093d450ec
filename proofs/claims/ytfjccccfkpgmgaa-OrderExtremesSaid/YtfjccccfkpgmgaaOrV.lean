/-
  The specification's set, pairwise, ascending, Before.
-/
import Derived.Test.YtfjccccfkpgmgaaOrU
namespace Go.Proofs.Ytfjccccfkpgmgaa.Fd
set_option linter.unusedSimpArgs false
set_option linter.unusedVariables false
open Go
set_option maxRecDepth 100000

def setL (n k : Nat) : List Nat := (List.range n).filter fun i => k.testBit i
theorem setL_succ {n k : Nat} : setL (n + 1) k = setL n k ++ if k.testBit n then [n] else [] := by
  unfold setL
  rw [List.range_succ, List.filter_append]
  cases h : k.testBit n <;> simp [h]
theorem setL_le {n k : Nat} : (setL n k).length ≤ n := by
  have := List.length_filter_le (fun i => k.testBit i) (List.range n)
  rwa [List.length_range] at this
theorem mem_setL {n k x : Nat} : x ∈ setL n k ↔ x < n ∧ k.testBit x = true := by
  rw [setL, List.mem_filter, List.mem_range]
theorem setL_up {n k : Nat} : (setL n k).Pairwise (· < ·) := List.pairwise_lt_range.filter _
theorem tdiv_two {K i : Nat} : (((K / 2 ^ i : Nat) : Int)).tdiv 2 = ((K / 2 ^ (i + 1) : Nat) : Int) := by
  rw [show (2 : Int) = ((2 : Nat) : Int) from rfl, ← Int.ofNat_tdiv, Nat.div_div_eq_div_mul, ← Nat.pow_succ]
theorem tmod_two {K : Nat} : ((K : Nat) : Int).tmod 2 = ((K % 2 : Nat) : Int) := by
  rw [show (2 : Int) = ((2 : Nat) : Int) from rfl, ← Int.ofNat_tmod]
set_option maxHeartbeats 1000000 in
theorem set_ok {w : World} {n k : Nat} (hn : n ≤ 12) (hk : k < 4096) :
    Ok (den Try.prog 46 #[.int .i64 (n : Int), .int .i64 (k : Int)] w) fun u w' => SlI w' u (toI (setL n k)) ∧ Upd (fun _ => False) w w' := by
  refine den_ok (args := [.int .i64 (n : Int), .int .i64 (k : Int)]) rs46 Try.func46 rfl mixed in46 ok46 rfl ?_
  simp (disch := omega) only [push_cast, Nat.reduceBEq, Nat.reduceEqDiff, Nat.reduceAdd, Nat.reduceMul, Nat.reduceSub, Nat.reduceLT, Int.reduceToNat, Int.reduceLT, Int.reduceLE, Int.reduceEq, Int.reduceAdd, Int.reduceSub, Int.reduceNeg, Int.reduceMul]
  have hu0 : Upd (fun _ => False) w (w.alloc (.cells #[] 3 (0, 0))) := Upd.alloc
  have ho0 : (w.alloc (.cells #[] 3 (0, 0))).ownsRow 0 3 1 (.slice (some ⟨w.heap.size, 0, none⟩) 0 0) (toI (setL 0 k)).length ((toI (setL 0 k)).map (Value.int .i64)) :=
    ⟨rfl, .inr ⟨w.heap.size, 0, #[], rfl, Nat.zero_le _, Blk.new (cs := []), Nat.le_refl _, Nat.zero_le _, rfl, rfl⟩⟩
  refine loop_inv (I := fun j st w' => Bx (∃ (i q : Nat) (v : Value), j + i = n ∧ q = k / 2 ^ i ∧ st = [.int .i64 (q : Int), v, .int .i64 (i : Int)] ∧ Upd (fun _ => False) w w' ∧ w'.ownsRow 0 3 1 v (toI (setL i k)).length ((toI (setL i k)).map (Value.int .i64)) ∧ ∀ g, v.ownBlock = some g → w.heap.size ≤ g) ⟨⟩) ?_ n
    ⟨0, k, _, rfl, by simp, rfl, hu0, ho0, by simp [Value.ownBlock]⟩
  clear hu0 ho0
  rintro j st w' ⟨i, q, v, hji, hqe, rfl, hu, hown, hfr⟩
  by_cases hj0 : j = 0
  · obtain rfl : i = n := by omega
    simp (disch := omega) only [push_cast, Nat.reduceBEq, Nat.reduceEqDiff, Nat.reduceAdd, Nat.reduceMul, Nat.reduceSub, Nat.reduceLT, Int.reduceToNat, Int.reduceLT, Int.reduceLE, Int.reduceEq, Int.reduceAdd, Int.reduceSub, Int.reduceNeg, Int.reduceMul]
    exact ⟨SlI.of_own hown, hu⟩
  have hi : i < n := by omega
  have hbit : k.testBit i = decide (k / 2 ^ i % 2 = 1) := Nat.testBit_eq_decide_div_mod_eq
  have hle : k / 2 ^ i ≤ k := Nat.div_le_self _ _
  have hle2 : k / 2 ^ (i + 1) ≤ k := Nat.div_le_self _ _
  have e1 := tdiv_two (K := k) (i := i)
  have e2 := tmod_two (K := k / 2 ^ i)
  have hsl := setL_le (n := i) (k := k)
  have htl : (toI (setL i k)).length = (setL i k).length := toI_length
  rw [← hqe] at hbit hle e1 e2
  generalize hq2 : k / 2 ^ (i + 1) = q2 at *
  by_cases hq : q % 2 = 1
  · have e3 : ((q % 2 : Nat) : Int) = 1 := by omega
    rw [e3] at e2
    simp (disch := omega) only [push_cast, Nat.reduceBEq, Nat.reduceEqDiff, Nat.reduceAdd, Nat.reduceMul, Nat.reduceSub, Nat.reduceLT, Int.reduceToNat, Int.reduceLT, Int.reduceLE, Int.reduceEq, Int.reduceAdd, Int.reduceSub, Int.reduceNeg, Int.reduceMul, e1, e2]
    refine app_int (hown.alloc _) (by omega) (x := (i : Int)) Blk.new ?_
    intro v' w8 hown8 hu8 hfr8
    simp (disch := omega) only [push_cast, Nat.reduceBEq, Nat.reduceEqDiff, Nat.reduceAdd, Nat.reduceMul, Nat.reduceSub, Nat.reduceLT, Int.reduceToNat, Int.reduceLT, Int.reduceLE, Int.reduceEq, Int.reduceAdd, Int.reduceSub, Int.reduceNeg, Int.reduceMul, e1, e2]
    have hu38 : Upd (fun b => v.ownBlock = some b) w' w8 := Upd.alloc.trans hu8 (fun _ _ h => h)
    have hI : toI (setL (i + 1) k) = toI (setL i k) ++ [(i : Int)] := by rw [setL_succ, hbit]; simp [hq, toI]
    have hs := hu.size
    refine ⟨j - 1, by omega, i + 1, q2, v', by omega, hq2.symm, by simp, hu.trans hu38 (fun b h1 h2 => by have := hfr b h2; omega), by rw [hI]; exact hown8, fun g hg => ?_⟩
    rcases hfr8 g hg with h | h
    · exact hfr g h
    · rw [size_alloc] at h; omega
  · have e3 : ¬ ((q % 2 : Nat) : Int) = 1 := by omega
    simp (disch := omega) only [push_cast, Nat.reduceBEq, Nat.reduceEqDiff, Nat.reduceAdd, Nat.reduceMul, Nat.reduceSub, Nat.reduceLT, Int.reduceToNat, Int.reduceLT, Int.reduceLE, Int.reduceEq, Int.reduceAdd, Int.reduceSub, Int.reduceNeg, Int.reduceMul, e1, e2, e3]
    have hI : setL (i + 1) k = setL i k := by rw [setL_succ, hbit]; simp [hq]
    exact ⟨j - 1, by omega, i + 1, q2, v, by omega, hq2.symm, by simp, hu, by rw [hI]; exact hown, hfr⟩
theorem befo_drop {c d : List Nat} {i x y : Nat} (hx : c[i]? = some x) (hy : d[i]? = some y) : befo (c.drop i) (d.drop i) = if x = y then befo (c.drop (i + 1)) (d.drop (i + 1)) else decide (x < y) := by
  obtain ⟨h1, h2⟩ := List.getElem?_eq_some_iff.1 hx
  obtain ⟨h3, h4⟩ := List.getElem?_eq_some_iff.1 hy
  rw [List.drop_eq_getElem_cons h1, List.drop_eq_getElem_cons h3, h2, h4]
  rfl
theorem befo_end {c d : List Nat} {i : Nat} (h : i = c.length ∨ i = d.length) (h1 : i ≤ c.length) (h2 : i ≤ d.length) : befo (c.drop i) (d.drop i) = decide (c.length < d.length) := by
  by_cases hc : i = c.length
  · rw [List.drop_of_length_le (by omega : c.length ≤ i)]
    show decide (0 < (d.drop i).length) = _
    rw [List.length_drop]
    congr 1
    exact propext ⟨fun h => by omega, fun h => by omega⟩
  · have hd : i = d.length := h.resolve_left hc
    rw [List.drop_of_length_le (by omega : d.length ≤ i), List.drop_eq_getElem_cons (by omega : i < c.length)]
    show false = _
    rw [eq_comm, decide_eq_false_iff_not]
    omega
theorem Before_ok {w : World} {v1 v2 : Value} {c d : List Nat} (hc : SlI w v1 (toI c)) (hd : SlI w v2 (toI d)) (hc12 : c.length ≤ 12) (hd12 : d.length ≤ 12) :
    Ok (den Try.prog 49 #[v1, v2] w) fun u w' => u = .bool (befo c d) ∧ Upd (fun _ => False) w w' := by
  obtain ⟨ca, cc, rfl, _⟩ := id hc
  obtain ⟨da, dc, rfl, _⟩ := id hd
  rw [toI_length] at hc hd ⊢
  rw [toI_length]
  refine den_ok (args := [.slice ca c.length cc, .slice da d.length dc]) rs49 Try.func49 rfl mixed in49 ok49 rfl ?_
  simp (disch := omega) only [push_cast, Nat.reduceBEq, Nat.reduceEqDiff, Nat.reduceAdd, Nat.reduceMul, Nat.reduceSub, Nat.reduceLT, Int.reduceToNat, Int.reduceLT, Int.reduceLE, Int.reduceEq, Int.reduceAdd, Int.reduceSub, Int.reduceNeg, Int.reduceMul]
  refine loop_inv (I := fun j st w' => Bx (∃ (i : Nat), j + i = min c.length d.length ∧ st = [.int .i64 (i : Int)] ∧ Upd (fun _ => False) w w' ∧ befo (c.drop i) (d.drop i) = befo c d) ⟨⟩) ?_ (min c.length d.length) ⟨0, rfl, rfl, Upd.refl, rfl⟩
  rintro j st w' ⟨i, hji, rfl, hu, hin⟩
  by_cases hj0 : j = 0
  · rw [← hin, befo_end (by omega) (by omega) (by omega)]
    by_cases h1 : i = c.length
    · simp (disch := omega) only [push_cast, Nat.reduceBEq, Nat.reduceEqDiff, Nat.reduceAdd, Nat.reduceMul, Nat.reduceSub, Nat.reduceLT, Int.reduceToNat, Int.reduceLT, Int.reduceLE, Int.reduceEq, Int.reduceAdd, Int.reduceSub, Int.reduceNeg, Int.reduceMul, h1]
      refine ⟨?_, hu⟩
      exact congrArg _ (decide_eq_decide.2 (by omega))
    · have h2 : i = d.length := by omega
      simp (disch := omega) only [push_cast, Nat.reduceBEq, Nat.reduceEqDiff, Nat.reduceAdd, Nat.reduceMul, Nat.reduceSub, Nat.reduceLT, Int.reduceToNat, Int.reduceLT, Int.reduceLE, Int.reduceEq, Int.reduceAdd, Int.reduceSub, Int.reduceNeg, Int.reduceMul, h2]
      exact hu
  have hi : i < c.length := by omega
  have hi2 : i < d.length := by omega
  have hx := List.getElem?_eq_getElem hi
  have hy := List.getElem?_eq_getElem hi2
  generalize c[i] = x at hx
  generalize d[i] = y at hy
  obtain ⟨cb, co, rfl, hcc⟩ := hc.at_ hu (by omega)
  obtain ⟨db, do_, rfl, hdd⟩ := hd.at_ hu (by omega)
  have q0 := hcc i _ (toI_get hx)
  have q1 := hdd i _ (toI_get hy)
  have hb := befo_drop hx hy
  by_cases e : x = y
  · subst e
    rw [if_pos rfl] at hb
    simp (config := { maxSteps := 3000000 }) (disch := omega) only [push_cast, Nat.reduceBEq, Nat.reduceEqDiff, Nat.reduceAdd, Nat.reduceMul, Nat.reduceSub, Nat.reduceLT, Int.reduceToNat, Int.reduceLT, Int.reduceLE, Int.reduceEq, Int.reduceAdd, Int.reduceSub, Int.reduceNeg, Int.reduceMul, q0, q1]
    exact ⟨j - 1, by omega, i + 1, by omega, by simp, hu.drew', by rw [← hb]; exact hin⟩
  · rw [if_neg e] at hb
    have e' : ¬ (x : Int) = (y : Int) := by omega
    simp (config := { maxSteps := 3000000 }) (disch := omega) only [push_cast, Nat.reduceBEq, Nat.reduceEqDiff, Nat.reduceAdd, Nat.reduceMul, Nat.reduceSub, Nat.reduceLT, Int.reduceToNat, Int.reduceLT, Int.reduceLE, Int.reduceEq, Int.reduceAdd, Int.reduceSub, Int.reduceNeg, Int.reduceMul, q0, q1, e']
    rw [← hin, hb]
    refine ⟨?_, hu.drew'.drew'⟩
    exact congrArg _ (decide_eq_decide.2 (by omega))
end Go.Proofs.Ytfjccccfkpgmgaa.Fd
