/-
  The program's acyclic, Closure, Acyclic; the laws' same, samePairs.
-/
import Derived.Test.YtfjccccfkpgmgaaOr3
import Derived.ChangeKeysEq
import Derived.Laws.StructEq
namespace Go.Proofs.Ytfjccccfkpgmgaa.Fd
set_option linter.unusedSimpArgs false
set_option linter.unusedVariables false
open Go
set_option maxRecDepth 100000

theorem chk_zero {n : Int} {l : List Pr} (h : chk n l = 0) : ∃ m : Nat, n = (m : Int) ∧ m ≤ 64 ∧ l.length ≤ 4096 ∧ l.all (inR m) = true := by
  unfold chk at h
  by_cases h1 : n < 0 ∨ 64 < n
  · rw [if_pos h1] at h; omega
  rw [if_neg h1] at h
  by_cases h2 : 4096 < l.length
  · rw [if_pos h2] at h; omega
  rw [if_neg h2] at h
  cases h3 : l.all (inR n)
  · rw [h3] at h
    simp at h
  · refine ⟨n.toNat, by omega, by omega, by omega, ?_⟩
    rw [show ((n.toNat : Nat) : Int) = n from by omega]
    exact h3
theorem chk_nonneg {n : Int} {l : List Pr} : 0 ≤ chk n l ∧ chk n l ≤ 6 := by
  unfold chk
  repeat' split
  all_goals omega
/-- The closure of the pairs, as a relation. -/
def less (n : Int) (l : List Pr) : Rel := clos n.toNat (relOf l)
def flt (n : Int) (l : List Pr) : Int := if chk n l = 0 then (if cyc n.toNat (less n l) then 9 else 0) else chk n l

theorem bld_tab (w : World) : bldS Try.prog 53 #[] w = some (.agg (tabL fun _ => 0#64).toArray, w) := by kernel_rfl
attribute [push_cast] bld_tab tabL_zero
/-- A new variable that bears a table. -/
theorem new_tab {w : World} {r : Nat → BitVec 64} : Blk ((w.alloc (.cells (tabL fun _ => 0#64).toArray 53 (0, 0))).setRow w.heap.size (tabL r).toArray) w.heap.size (tabL r) 53 ∧
    Upd (fun _ => False) w ((w.alloc (.cells (tabL fun _ => 0#64).toArray 53 (0, 0))).setRow w.heap.size (tabL r).toArray) :=
  ⟨Blk.new.setRow, Upd.alloc.trans (Upd.setRow (F := fun b => b = w.heap.size) rfl) (fun b h1 h2 => by omega)⟩

set_option maxHeartbeats 1000000 in
theorem acyclic_ok {w : World} (n : Int) {v : Value} {l : List Pr} (hv : SlP w v l) :
    Ok (den Try.prog 36 #[.int .i64 n, v] w) fun u w' => ∃ r, u = .tuple #[.agg (tabL r).toArray, .int .i64 (flt n l)] ∧ (flt n l = 0 → ∀ a b, a < 64 → b < 64 → rbit r a b = less n l a b) ∧ Upd (fun _ => False) w w' := by
  refine den_okC2 (args := [.int .i64 n, v]) 4 53 5 Try.func36 rfl mixed in36 ok36 rfl ?_
  simp (disch := omega) only [push_cast, Nat.reduceBEq, Nat.reduceEqDiff, Nat.reduceAdd, Nat.reduceMul, Nat.reduceSub, Nat.reduceLT, Int.reduceToNat, Int.reduceLT, Int.reduceLE, Int.reduceEq, Int.reduceAdd, Int.reduceSub, Int.reduceNeg, Int.reduceMul]
  have hb0 : Blk (w.alloc (.cells (tabL fun _ => 0#64).toArray 53 (0, 0))) w.heap.size (tabL fun _ => 0#64) 53 := Blk.new
  have hu0 : Upd (fun _ => False) w (w.alloc (.cells (tabL fun _ => 0#64).toArray 53 (0, 0))) := Upd.refl.alloc'
  generalize w.alloc (.cells (tabL fun _ => 0#64).toArray 53 (0, 0)) = w0 at *
  refine Ok.use (check_ok n (hv.upd hu0)) ?_
  rintro v w1 ⟨rfl, hu1⟩
  have hb1 := hb0.upd hu1 (fun h => h)
  have hfin : ∀ {w2 : World} {r : Nat → BitVec 64}, Upd (fun _ => False) w0 w2 → Upd (fun _ => False) w (w2.setRow w.heap.size (tabL r).toArray) := fun h => (hu0.trans h (fun _ _ h => h)).trans (Upd.setRow (F := fun b => b = w.heap.size) rfl) (fun b h1 h2 => by omega)
  have hrow : ∀ {w2 : World} {r : Nat → BitVec 64}, Upd (fun _ => False) w0 w2 → Blk (w2.setRow w.heap.size (tabL r).toArray) w.heap.size (tabL r) 53 := fun h => (hb0.upd h (fun h => h)).setRow
  by_cases hc : chk n l = 0
  rotate_left
  · have hf : flt n l = chk n l := by rw [flt, if_neg hc]
    simp (disch := omega) only [push_cast, Nat.reduceBEq, Nat.reduceEqDiff, Nat.reduceAdd, Nat.reduceMul, Nat.reduceSub, Nat.reduceLT, Int.reduceToNat, Int.reduceLT, Int.reduceLE, Int.reduceEq, Int.reduceAdd, Int.reduceSub, Int.reduceNeg, Int.reduceMul, st_tab hb1, ld_tab (hrow hu1 (r := fun _ => 0#64))]
    rw [hf]
    exact ⟨_, rfl, fun h => absurd h hc, hfin hu1⟩
  · obtain ⟨m, rfl, hm, hl4, hall⟩ := chk_zero hc
    rw [hc]
    simp (disch := omega) only [push_cast, Nat.reduceBEq, Nat.reduceEqDiff, Nat.reduceAdd, Nat.reduceMul, Nat.reduceSub, Nat.reduceLT, Int.reduceToNat, Int.reduceLT, Int.reduceLE, Int.reduceEq, Int.reduceAdd, Int.reduceSub, Int.reduceNeg, Int.reduceMul]
    refine Ok.use (closed_ok hm ((hv.upd hu0).upd hu1) hall hl4) ?_
    rintro v w2 ⟨r, rfl, hr, hu2⟩
    have hb2 : Blk (w2.alloc (.cells (tabL fun _ => 0#64).toArray 53 (0, 0))) w2.heap.size (tabL fun _ => 0#64) 53 := Blk.new
    obtain ⟨hb3, hu3⟩ := new_tab (w := w2) (r := r)
    simp (disch := omega) only [push_cast, Nat.reduceBEq, Nat.reduceEqDiff, Nat.reduceAdd, Nat.reduceMul, Nat.reduceSub, Nat.reduceLT, Int.reduceToNat, Int.reduceLT, Int.reduceLE, Int.reduceEq, Int.reduceAdd, Int.reduceSub, Int.reduceNeg, Int.reduceMul, st_tab hb2]
    generalize (w2.alloc (.cells (tabL fun _ => 0#64).toArray 53 (0, 0))).setRow w2.heap.size (tabL r).toArray = w3 at *
    have hu03 : Upd (fun _ => False) w0 w3 := (hu1.trans hu2 (fun _ _ h => h)).trans hu3 (fun _ _ h => h)
    have hbb := hb0.upd hu03 (fun h => h)
    refine Ok.use (cyclic_ok hb3 hm) ?_
    rintro v w4 ⟨rfl, rfl⟩
    have hcy : cyc m (rbit r) = cyc m (less m l) := cyc_congr fun i hi => hr i i (by omega) (by omega)
    have hf : flt m l = if cyc m (less m l) then 9 else 0 := by rw [flt, if_pos hc]; rfl
    rw [hcy]
    rw [hf]
    cases cyc m (less m l)
    · simp (disch := omega) only [push_cast, Nat.reduceBEq, Nat.reduceEqDiff, Nat.reduceAdd, Nat.reduceMul, Nat.reduceSub, Nat.reduceLT, Int.reduceToNat, Int.reduceLT, Int.reduceLE, Int.reduceEq, Int.reduceAdd, Int.reduceSub, Int.reduceNeg, Int.reduceMul, ld_tab hb3, st_tab hbb, ld_tab (hrow hu03 (r := r))]
      exact ⟨r, rfl, fun _ => hr, hfin hu03⟩
    · simp (disch := omega) only [push_cast, Nat.reduceBEq, Nat.reduceEqDiff, Nat.reduceAdd, Nat.reduceMul, Nat.reduceSub, Nat.reduceLT, Int.reduceToNat, Int.reduceLT, Int.reduceLE, Int.reduceEq, Int.reduceAdd, Int.reduceSub, Int.reduceNeg, Int.reduceMul, ld_tab hb3, st_tab hbb, ld_tab (hrow hu03 (r := fun _ => 0#64))]
      exact ⟨_, rfl, fun h => by simp at h, hfin hu03⟩

set_option maxHeartbeats 1000000 in
theorem Closure_ok {w : World} (n : Int) {v : Value} {l : List Pr} (hv : SlP w v l) :
    Ok (den Try.prog 18 #[.int .i64 n, v] w) fun u w' => ∃ u0, u = .tuple #[u0, .int .i64 (chk n l)] ∧ SlP w' u0 (if chk n l = 0 then pairsOf n.toNat n.toNat (less n l) else []) ∧ Upd (fun _ => False) w w' := by
  refine den_ok (args := [.int .i64 n, v]) rs18 Try.func18 rfl mixed in18 ok18 rfl ?_
  simp (disch := omega) only [push_cast, Nat.reduceBEq, Nat.reduceEqDiff, Nat.reduceAdd, Nat.reduceMul, Nat.reduceSub, Nat.reduceLT, Int.reduceToNat, Int.reduceLT, Int.reduceLE, Int.reduceEq, Int.reduceAdd, Int.reduceSub, Int.reduceNeg, Int.reduceMul]
  refine Ok.use (check_ok n hv) ?_
  rintro v w1 ⟨rfl, hu1⟩
  by_cases hc : chk n l = 0
  rotate_left
  · simp (disch := omega) only [push_cast, Nat.reduceBEq, Nat.reduceEqDiff, Nat.reduceAdd, Nat.reduceMul, Nat.reduceSub, Nat.reduceLT, Int.reduceToNat, Int.reduceLT, Int.reduceLE, Int.reduceEq, Int.reduceAdd, Int.reduceSub, Int.reduceNeg, Int.reduceMul]
    rw [if_neg hc]
    exact ⟨_, rfl, ⟨none, 0, rfl, fun h => absurd rfl h⟩, hu1⟩
  · obtain ⟨m, rfl, hm, hl4, hall⟩ := chk_zero hc
    rw [hc]
    simp (disch := omega) only [push_cast, Nat.reduceBEq, Nat.reduceEqDiff, Nat.reduceAdd, Nat.reduceMul, Nat.reduceSub, Nat.reduceLT, Int.reduceToNat, Int.reduceLT, Int.reduceLE, Int.reduceEq, Int.reduceAdd, Int.reduceSub, Int.reduceNeg, Int.reduceMul]
    refine Ok.use (closed_ok hm (hv.upd hu1) hall hl4) ?_
    rintro v w2 ⟨r, rfl, hr, hu2⟩
    have hb2 : Blk (w2.alloc (.cells (tabL fun _ => 0#64).toArray 53 (0, 0))) w2.heap.size (tabL fun _ => 0#64) 53 := Blk.new
    obtain ⟨hb3, hu3⟩ := new_tab (w := w2) (r := r)
    simp (disch := omega) only [push_cast, Nat.reduceBEq, Nat.reduceEqDiff, Nat.reduceAdd, Nat.reduceMul, Nat.reduceSub, Nat.reduceLT, Int.reduceToNat, Int.reduceLT, Int.reduceLE, Int.reduceEq, Int.reduceAdd, Int.reduceSub, Int.reduceNeg, Int.reduceMul, st_tab hb2]
    generalize (w2.alloc (.cells (tabL fun _ => 0#64).toArray 53 (0, 0))).setRow w2.heap.size (tabL r).toArray = w3 at *
    refine Ok.use (list_ok hb3 hm) ?_
    rintro v w4 ⟨hs, hu4, _⟩
    simp (disch := omega) only [push_cast, Nat.reduceBEq, Nat.reduceEqDiff, Nat.reduceAdd, Nat.reduceMul, Nat.reduceSub, Nat.reduceLT, Int.reduceToNat, Int.reduceLT, Int.reduceLE, Int.reduceEq, Int.reduceAdd, Int.reduceSub, Int.reduceNeg, Int.reduceMul]
    have e : pairsOf m m (rbit r) = pairsOf m m (less m l) := pairsOf_congr fun a b ha hb => hr a b (by omega) (by omega)
    rw [← e]
    exact ⟨_, rfl, hs, ((hu1.trans hu2 (fun _ _ h => h)).trans hu3 (fun _ _ h => h)).trans hu4 (fun _ _ h => h)⟩

set_option maxHeartbeats 1000000 in
theorem Acyclic_ok {w : World} (n : Int) {v : Value} {l : List Pr} (hv : SlP w v l) :
    Ok (den Try.prog 19 #[.int .i64 n, v] w) fun u w' => u = .tuple #[.bool (decide (chk n l = 0) && !cyc n.toNat (less n l)), .int .i64 (chk n l)] ∧ Upd (fun _ => False) w w' := by
  refine den_ok (args := [.int .i64 n, v]) rs19 Try.func19 rfl mixed in19 ok19 rfl ?_
  simp (disch := omega) only [push_cast, Nat.reduceBEq, Nat.reduceEqDiff, Nat.reduceAdd, Nat.reduceMul, Nat.reduceSub, Nat.reduceLT, Int.reduceToNat, Int.reduceLT, Int.reduceLE, Int.reduceEq, Int.reduceAdd, Int.reduceSub, Int.reduceNeg, Int.reduceMul]
  refine Ok.use (check_ok n hv) ?_
  rintro v w1 ⟨rfl, hu1⟩
  by_cases hc : chk n l = 0
  rotate_left
  · simp (disch := omega) only [push_cast, Nat.reduceBEq, Nat.reduceEqDiff, Nat.reduceAdd, Nat.reduceMul, Nat.reduceSub, Nat.reduceLT, Int.reduceToNat, Int.reduceLT, Int.reduceLE, Int.reduceEq, Int.reduceAdd, Int.reduceSub, Int.reduceNeg, Int.reduceMul]
    exact ⟨by simp, hu1⟩
  · obtain ⟨m, rfl, hm, hl4, hall⟩ := chk_zero hc
    rw [hc]
    simp (disch := omega) only [push_cast, Nat.reduceBEq, Nat.reduceEqDiff, Nat.reduceAdd, Nat.reduceMul, Nat.reduceSub, Nat.reduceLT, Int.reduceToNat, Int.reduceLT, Int.reduceLE, Int.reduceEq, Int.reduceAdd, Int.reduceSub, Int.reduceNeg, Int.reduceMul]
    refine Ok.use (closed_ok hm (hv.upd hu1) hall hl4) ?_
    rintro v w2 ⟨r, rfl, hr, hu2⟩
    have hb2 : Blk (w2.alloc (.cells (tabL fun _ => 0#64).toArray 53 (0, 0))) w2.heap.size (tabL fun _ => 0#64) 53 := Blk.new
    obtain ⟨hb3, hu3⟩ := new_tab (w := w2) (r := r)
    simp (disch := omega) only [push_cast, Nat.reduceBEq, Nat.reduceEqDiff, Nat.reduceAdd, Nat.reduceMul, Nat.reduceSub, Nat.reduceLT, Int.reduceToNat, Int.reduceLT, Int.reduceLE, Int.reduceEq, Int.reduceAdd, Int.reduceSub, Int.reduceNeg, Int.reduceMul, st_tab hb2]
    generalize (w2.alloc (.cells (tabL fun _ => 0#64).toArray 53 (0, 0))).setRow w2.heap.size (tabL r).toArray = w3 at *
    refine Ok.use (cyclic_ok hb3 hm) ?_
    rintro v w4 ⟨rfl, rfl⟩
    have hcy : cyc m (rbit r) = cyc m (less m l) := cyc_congr fun i hi => hr i i (by omega) (by omega)
    rw [hcy]
    simp (disch := omega) only [push_cast, Nat.reduceBEq, Nat.reduceEqDiff, Nat.reduceAdd, Nat.reduceMul, Nat.reduceSub, Nat.reduceLT, Int.reduceToNat, Int.reduceLT, Int.reduceLE, Int.reduceEq, Int.reduceAdd, Int.reduceSub, Int.reduceNeg, Int.reduceMul]
    exact ⟨rfl, (hu1.trans hu2 (fun _ _ h => h)).trans hu3 (fun _ _ h => h)⟩

/-! the laws' comparisons -/
theorem eqd_I {d : Nat} {x y : Int} {w : World} : (Op.equalIn (d + 1) 3 (.int .i64 x) (.int .i64 y)).run Try.prog w = .ok (x == y) w := by
  have hu := Try.underlying3
  simp [Op.equalIn, underlying, hu]
theorem eqm_Pr {a b c d : Int} {w : World} : (Op.equalIn 10000 29 (.agg #[.int .i64 a, .int .i64 b]) (.agg #[.int .i64 c, .int .i64 d])).run Try.prog w = .ok (a == c && b == d) w := by
  have hs : siz Try.prog 3 = some 1 := t3_s
  unfold siz at hs
  cases hi : Try.prog.info? 3 with
  | none => rw [hi] at hs; cases hs
  | some i =>
    have hp : Try.prog.plainKey 3 = true := by kernel_rfl
    have hc : Try.prog.cellsOf 3 = 1 := by kernel_rfl
    rw [Go.run_equalIn_array (P := Try.prog) w 9999 _ _ Try.underlying29 hi, hc]
    have r2 : List.range 2 = [0, 1] := rfl
    have p0 : ∀ x y : Int, (part 3 #[Value.int .i64 x, .int .i64 y] (0 * 1)).run Try.prog w = .ok (.int .i64 x) w := fun x y => run_part_plain w hp rfl
    have p1 : ∀ x y : Int, (part 3 #[Value.int .i64 x, .int .i64 y] (1 * 1)).run Try.prog w = .ok (.int .i64 y) w := fun x y => run_part_plain w hp rfl
    have e : ∀ x y : Int, (Op.equalIn 9999 3 (.int .i64 x) (.int .i64 y)).run Try.prog w = .ok (x == y) w := fun x y => eqd_I (d := 9998)
    rw [r2]
    simp only [Op.eqItems, Sem.run_bind, p0, p1, e, Result.andThen_ok]
    cases a == c
    · simp
    · simp only [Bool.not_true, Bool.false_eq_true, if_false, if_true, Sem.run_bind, p0, p1, e, Result.andThen_ok, Bool.true_and]
      cases b == d <;> simp
theorem bin_neqPr {ox oy : Operand} {a b c d : Int} {w : World} : binS Try.prog .neq 29 ox oy (.agg #[.int .i64 a, .int .i64 b]) (.agg #[.int .i64 c, .int .i64 d]) w = some (.bool (!(a == c && b == d)), w) := by
  have h := eqm_Pr (a := a) (b := b) (c := c) (d := d) (w := w)
  have hm : Try.prog.eqGuardType Try.prog.depth 29 = false := by kernel_rfl
  unfold binS lift
  rw [Sem.run_bind, run_eqGuard_agg (P := Try.prog) w .neq _ _ _ _ _ hm, Result.andThen_ok, run_neq_struct, h]
  rfl
theorem bin_eqlPr {ox oy : Operand} {a b c d : Int} {w : World} : binS Try.prog .eql 29 ox oy (.agg #[.int .i64 a, .int .i64 b]) (.agg #[.int .i64 c, .int .i64 d]) w = some (.bool (a == c && b == d), w) := by
  have h := eqm_Pr (a := a) (b := b) (c := c) (d := d) (w := w)
  have hm : Try.prog.eqGuardType Try.prog.depth 29 = false := by kernel_rfl
  unfold binS lift
  rw [Sem.run_bind, run_eqGuard_agg (P := Try.prog) w .eql _ _ _ _ _ hm, Result.andThen_ok, run_eql_struct, h]
  rfl
attribute [push_cast] bin_neqPr bin_eqlPr
theorem samePairs_ok {w : World} {v v2 : Value} {l m : List Pr} (hv : SlP w v l) (hv2 : SlP w v2 m) (hl : l.length < 1000000) :
    Ok (den Try.prog 21 #[v, v2] w) fun u w' => u = .bool (decide (l = m)) ∧ Upd (fun _ => False) w w' := by
  obtain ⟨a, c, rfl, hl1⟩ := hv
  obtain ⟨a2, c2, rfl, hl2⟩ := hv2
  refine den_ok (args := [.slice a l.length c, .slice a2 m.length c2]) rs21 Try.func21 rfl mixed in21 ok21 rfl ?_
  by_cases hlen : l.length = m.length
  rotate_left
  · have hlen' : ¬ (l.length : Int) = m.length := by omega
    simp (disch := omega) only [push_cast, Nat.reduceBEq, Nat.reduceEqDiff, Nat.reduceAdd, Nat.reduceMul, Nat.reduceSub, Nat.reduceLT, Int.reduceToNat, Int.reduceLT, Int.reduceLE, Int.reduceEq, Int.reduceAdd, Int.reduceSub, Int.reduceNeg, Int.reduceMul]
    exact ⟨by rw [decide_eq_false (fun e => hlen (by rw [e]))], Upd.refl⟩
  have hlen' : (l.length : Int) = m.length := by omega
  simp (disch := omega) only [push_cast, Nat.reduceBEq, Nat.reduceEqDiff, Nat.reduceAdd, Nat.reduceMul, Nat.reduceSub, Nat.reduceLT, Int.reduceToNat, Int.reduceLT, Int.reduceLE, Int.reduceEq, Int.reduceAdd, Int.reduceSub, Int.reduceNeg, Int.reduceMul]
  refine loop_inv (I := fun k st w' => Bx (∃ i, k + i = l.length ∧ st = [.int .i64 (i : Int)] ∧ Upd (fun _ => False) w w' ∧ ∀ j, j < i → l[j]? = m[j]?) ⟨⟩) ?_ l.length ⟨0, rfl, rfl, Upd.refl, fun j hj => by omega⟩
  rintro k st w' ⟨i, hki, rfl, hu, hin⟩
  by_cases hk0 : k = 0
  · simp (disch := omega) only [push_cast, Nat.reduceBEq, Nat.reduceEqDiff, Nat.reduceAdd, Nat.reduceMul, Nat.reduceSub, Nat.reduceLT, Int.reduceToNat, Int.reduceLT, Int.reduceLE, Int.reduceEq, Int.reduceAdd, Int.reduceSub, Int.reduceNeg, Int.reduceMul]
    refine ⟨?_, hu⟩
    rw [decide_eq_true]
    apply List.ext_getElem?
    intro j
    by_cases hj : j < i
    · exact hin j hj
    · rw [List.getElem?_eq_none (by omega), List.getElem?_eq_none (by omega)]
  · have hi : i < l.length := by omega
    have hi2 : i < m.length := by omega
    obtain ⟨b, o, rfl, hb, hcl⟩ := hl1 (by intro e; rw [e] at hi; simp at hi)
    obtain ⟨b2, o2, rfl, hb2, hcl2⟩ := hl2 (by intro e; rw [e] at hi2; simp at hi2)
    obtain ⟨q0, q1⟩ := hcl i _ (List.getElem?_eq_getElem hi)
    obtain ⟨q2, q3⟩ := hcl2 i _ (List.getElem?_eq_getElem hi2)
    rw [← World.cell?_of_block (hu.block b hb (fun h => h))] at q0 q1
    rw [← World.cell?_of_block (hu.block b2 hb2 (fun h => h))] at q2 q3
    have hx := List.getElem?_eq_getElem hi
    have hy := List.getElem?_eq_getElem hi2
    generalize l[i] = x at *
    generalize m[i] = y at *
    obtain ⟨x0, x1⟩ := x
    obtain ⟨y0, y1⟩ := y
    simp only at q0 q1 q2 q3
    cases he : (x0 == y0 && x1 == y1)
    · simp (disch := omega) only [push_cast, Nat.reduceBEq, Nat.reduceEqDiff, Nat.reduceAdd, Nat.reduceMul, Nat.reduceSub, Nat.reduceLT, Int.reduceToNat, Int.reduceLT, Int.reduceLE, Int.reduceEq, Int.reduceAdd, Int.reduceSub, Int.reduceNeg, Int.reduceMul, q0, q1, q2, q3, he]
      refine ⟨?_, hu.drew'⟩
      rw [decide_eq_false]
      intro e
      rw [← e, hx] at hy
      cases hy
      simp at he
    · simp (disch := omega) only [push_cast, Nat.reduceBEq, Nat.reduceEqDiff, Nat.reduceAdd, Nat.reduceMul, Nat.reduceSub, Nat.reduceLT, Int.reduceToNat, Int.reduceLT, Int.reduceLE, Int.reduceEq, Int.reduceAdd, Int.reduceSub, Int.reduceNeg, Int.reduceMul, q0, q1, q2, q3, he]
      refine ⟨k - 1, by omega, i + 1, by omega, by simp, hu.drew', fun j hj => ?_⟩
      by_cases e : j = i
      · subst e
        rw [hx, hy]
        simp at he
        rw [he.1, he.2]
      · exact hin j (by omega)
theorem same_ok {w : World} {v v2 : Value} {l m : List Int} (hv : SlI w v l) (hv2 : SlI w v2 m) (hl : l.length < 1000000) :
    Ok (den Try.prog 27 #[v, v2] w) fun u w' => u = .bool (decide (l = m)) ∧ Upd (fun _ => False) w w' := by
  obtain ⟨a, c, rfl, hl1⟩ := hv
  obtain ⟨a2, c2, rfl, hl2⟩ := hv2
  refine den_ok (args := [.slice a l.length c, .slice a2 m.length c2]) rs27 Try.func27 rfl mixed in27 ok27 rfl ?_
  by_cases hlen : l.length = m.length
  rotate_left
  · have hlen' : ¬ (l.length : Int) = m.length := by omega
    simp (disch := omega) only [push_cast, Nat.reduceBEq, Nat.reduceEqDiff, Nat.reduceAdd, Nat.reduceMul, Nat.reduceSub, Nat.reduceLT, Int.reduceToNat, Int.reduceLT, Int.reduceLE, Int.reduceEq, Int.reduceAdd, Int.reduceSub, Int.reduceNeg, Int.reduceMul]
    exact ⟨by rw [decide_eq_false (fun e => hlen (by rw [e]))], Upd.refl⟩
  have hlen' : (l.length : Int) = m.length := by omega
  simp (disch := omega) only [push_cast, Nat.reduceBEq, Nat.reduceEqDiff, Nat.reduceAdd, Nat.reduceMul, Nat.reduceSub, Nat.reduceLT, Int.reduceToNat, Int.reduceLT, Int.reduceLE, Int.reduceEq, Int.reduceAdd, Int.reduceSub, Int.reduceNeg, Int.reduceMul]
  refine loop_inv (I := fun k st w' => Bx (∃ i, k + i = l.length ∧ st = [.int .i64 (i : Int)] ∧ Upd (fun _ => False) w w' ∧ ∀ j, j < i → l[j]? = m[j]?) ⟨⟩) ?_ l.length ⟨0, rfl, rfl, Upd.refl, fun j hj => by omega⟩
  rintro k st w' ⟨i, hki, rfl, hu, hin⟩
  by_cases hk0 : k = 0
  · simp (disch := omega) only [push_cast, Nat.reduceBEq, Nat.reduceEqDiff, Nat.reduceAdd, Nat.reduceMul, Nat.reduceSub, Nat.reduceLT, Int.reduceToNat, Int.reduceLT, Int.reduceLE, Int.reduceEq, Int.reduceAdd, Int.reduceSub, Int.reduceNeg, Int.reduceMul]
    refine ⟨?_, hu⟩
    rw [decide_eq_true]
    apply List.ext_getElem?
    intro j
    by_cases hj : j < i
    · exact hin j hj
    · rw [List.getElem?_eq_none (by omega), List.getElem?_eq_none (by omega)]
  · have hi : i < l.length := by omega
    have hi2 : i < m.length := by omega
    obtain ⟨b, o, rfl, hb, hcl⟩ := hl1 (by intro e; rw [e] at hi; simp at hi)
    obtain ⟨b2, o2, rfl, hb2, hcl2⟩ := hl2 (by intro e; rw [e] at hi2; simp at hi2)
    have q0 := hcl i _ (List.getElem?_eq_getElem hi)
    have q2 := hcl2 i _ (List.getElem?_eq_getElem hi2)
    rw [← World.cell?_of_block (hu.block b hb (fun h => h))] at q0
    rw [← World.cell?_of_block (hu.block b2 hb2 (fun h => h))] at q2
    have hx := List.getElem?_eq_getElem hi
    have hy := List.getElem?_eq_getElem hi2
    generalize l[i] = x at *
    generalize m[i] = y at *
    by_cases he : x = y
    · simp (disch := omega) only [push_cast, Nat.reduceBEq, Nat.reduceEqDiff, Nat.reduceAdd, Nat.reduceMul, Nat.reduceSub, Nat.reduceLT, Int.reduceToNat, Int.reduceLT, Int.reduceLE, Int.reduceEq, Int.reduceAdd, Int.reduceSub, Int.reduceNeg, Int.reduceMul, q0, q2]
      refine ⟨k - 1, by omega, i + 1, by omega, by simp, hu.drew', fun j hj => ?_⟩
      by_cases e : j = i
      · subst e
        rw [hx, hy, he]
      · exact hin j (by omega)
    · simp (disch := omega) only [push_cast, Nat.reduceBEq, Nat.reduceEqDiff, Nat.reduceAdd, Nat.reduceMul, Nat.reduceSub, Nat.reduceLT, Int.reduceToNat, Int.reduceLT, Int.reduceLE, Int.reduceEq, Int.reduceAdd, Int.reduceSub, Int.reduceNeg, Int.reduceMul, q0, q2]
      refine ⟨?_, hu.drew'⟩
      rw [decide_eq_false]
      intro e
      rw [← e, hx] at hy
      cases hy
      exact he rfl
end Go.Proofs.Ytfjccccfkpgmgaa.Fd
