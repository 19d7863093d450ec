/-
  The program's Check, closed, cyclic, list.
-/
import Derived.Test.YtfjccccfkpgmgaaOr1
namespace Go.Proofs.Ytfjccccfkpgmgaa.Fd
set_option linter.unusedSimpArgs false
set_option linter.unusedVariables false
open Go
set_option maxRecDepth 100000

theorem all_take {l : List Pr} {n : Int} {i : Nat} (h : ∀ j x, j < i → l[j]? = some x → inR n x = true) (hi : i = l.length) : l.all (inR n) = true := by
  rw [List.all_eq_true]
  intro x hx
  obtain ⟨j, hj, e⟩ := List.mem_iff_getElem.1 hx
  exact h j x (by omega) (by rw [List.getElem?_eq_getElem hj, e])
theorem all_bad {l : List Pr} {n : Int} {i : Nat} {x : Pr} (h : l[i]? = some x) (hx : inR n x = false) : l.all (inR n) = false := by
  rw [List.all_eq_false]
  exact ⟨x, List.mem_of_getElem? h, by simp [hx]⟩

set_option maxHeartbeats 1000000 in
theorem check_ok {w : World} (n : Int) {v : Value} {l : List Pr} (hv : SlP w v l) :
    Ok (den Try.prog 17 #[.int .i64 n, v] w) fun u w' => u = .int .i64 (chk n l) ∧ Upd (fun _ => False) w w' := by
  obtain ⟨a, c, rfl, hl⟩ := hv
  refine den_ok (args := [.int .i64 n, .slice a l.length c]) rs17 Try.func17 rfl mixed in17 ok17 rfl ?_
  by_cases h1 : n < 0
  · simp (disch := omega) only [push_cast, Nat.reduceBEq, Nat.reduceEqDiff, Nat.reduceAdd, Nat.reduceMul, Nat.reduceSub, Nat.reduceLT, Int.reduceToNat, Int.reduceLT, Int.reduceLE, Int.reduceEq, Int.reduceAdd, Int.reduceSub, Int.reduceNeg, Int.reduceMul]
    rw [chk, if_pos (.inl h1)]
    exact ⟨rfl, Upd.refl⟩
  by_cases h2 : 64 < n
  · simp (disch := omega) only [push_cast, Nat.reduceBEq, Nat.reduceEqDiff, Nat.reduceAdd, Nat.reduceMul, Nat.reduceSub, Nat.reduceLT, Int.reduceToNat, Int.reduceLT, Int.reduceLE, Int.reduceEq, Int.reduceAdd, Int.reduceSub, Int.reduceNeg, Int.reduceMul]
    rw [chk, if_pos (.inr h2)]
    exact ⟨rfl, Upd.refl⟩
  by_cases h3 : (4096 : Int) < l.length
  · simp (disch := omega) only [push_cast, Nat.reduceBEq, Nat.reduceEqDiff, Nat.reduceAdd, Nat.reduceMul, Nat.reduceSub, Nat.reduceLT, Int.reduceToNat, Int.reduceLT, Int.reduceLE, Int.reduceEq, Int.reduceAdd, Int.reduceSub, Int.reduceNeg, Int.reduceMul]
    rw [chk, if_neg (by omega), if_pos (by omega)]
    exact ⟨rfl, Upd.refl⟩
  have hc : chk n l = if l.all (inR n) then 0 else 5 := by rw [chk, if_neg (by omega), if_neg (by omega)]
  rw [hc]
  simp (disch := omega) only [push_cast, Nat.reduceBEq, Nat.reduceEqDiff, Nat.reduceAdd, Nat.reduceMul, Nat.reduceSub, Nat.reduceLT, Int.reduceToNat, Int.reduceLT, Int.reduceLE, Int.reduceEq, Int.reduceAdd, Int.reduceSub, Int.reduceNeg, Int.reduceMul]
  refine loop_inv (I := fun k st w' => Bx (∃ i, k + i = l.length ∧ st = [.int .i64 (i : Int)] ∧ Upd (fun _ => False) w w' ∧ ∀ j x, j < i → l[j]? = some x → inR n x = true) ⟨⟩) ?_ l.length ⟨0, rfl, rfl, Upd.refl, fun j x hj => by omega⟩
  rintro k st w' ⟨i, hki, rfl, hu, hin⟩
  by_cases hk0 : k = 0
  · simp (disch := omega) only [push_cast, Nat.reduceBEq, Nat.reduceEqDiff, Nat.reduceAdd, Nat.reduceMul, Nat.reduceSub, Nat.reduceLT, Int.reduceToNat, Int.reduceLT, Int.reduceLE, Int.reduceEq, Int.reduceAdd, Int.reduceSub, Int.reduceNeg, Int.reduceMul]
    rw [all_take hin (by omega)]
    exact ⟨rfl, hu⟩
  · have hi : i < l.length := by omega
    obtain ⟨b, o, rfl, hb, hcl⟩ := hl (by intro e; rw [e] at hi; simp at hi)
    obtain ⟨q0, q1⟩ := hcl i _ (List.getElem?_eq_getElem hi)
    rw [← World.cell?_of_block (hu.block b hb (fun h => h))] at q0 q1
    have hx := List.getElem?_eq_getElem hi
    generalize l[i] = x at *
    obtain ⟨x0, x1⟩ := x
    simp only at q0 q1
    have bad : inR n (x0, x1) = false → l.all (inR n) = false := all_bad hx
    have hsz := hu.size
    have fin : Upd (fun _ => False) w (((w'.alloc (.cells #[Value.int .i64 0, Value.int .i64 0] 29 (0, 0))).setCell ⟨w'.heap.size, 0, none⟩ (.int .i64 x0)).setCell ⟨w'.heap.size, 1, none⟩ (.int .i64 x1)) := (hu.alloc'.setNew hsz).setNew hsz
    by_cases e1 : x0 < 0
    · simp (disch := omega) only [push_cast, Nat.reduceBEq, Nat.reduceEqDiff, Nat.reduceAdd, Nat.reduceMul, Nat.reduceSub, Nat.reduceLT, Int.reduceToNat, Int.reduceLT, Int.reduceLE, Int.reduceEq, Int.reduceAdd, Int.reduceSub, Int.reduceNeg, Int.reduceMul, q0, q1]
      rw [bad (by simp [inR]; omega)]
      exact ⟨rfl, fin⟩
    by_cases e2 : n ≤ x0
    · simp (disch := omega) only [push_cast, Nat.reduceBEq, Nat.reduceEqDiff, Nat.reduceAdd, Nat.reduceMul, Nat.reduceSub, Nat.reduceLT, Int.reduceToNat, Int.reduceLT, Int.reduceLE, Int.reduceEq, Int.reduceAdd, Int.reduceSub, Int.reduceNeg, Int.reduceMul, q0, q1]
      rw [bad (by simp [inR]; omega)]
      exact ⟨rfl, fin⟩
    by_cases e3 : x1 < 0
    · simp (disch := omega) only [push_cast, Nat.reduceBEq, Nat.reduceEqDiff, Nat.reduceAdd, Nat.reduceMul, Nat.reduceSub, Nat.reduceLT, Int.reduceToNat, Int.reduceLT, Int.reduceLE, Int.reduceEq, Int.reduceAdd, Int.reduceSub, Int.reduceNeg, Int.reduceMul, q0, q1]
      rw [bad (by simp [inR]; omega)]
      exact ⟨rfl, fin⟩
    by_cases e4 : n ≤ x1
    · simp (disch := omega) only [push_cast, Nat.reduceBEq, Nat.reduceEqDiff, Nat.reduceAdd, Nat.reduceMul, Nat.reduceSub, Nat.reduceLT, Int.reduceToNat, Int.reduceLT, Int.reduceLE, Int.reduceEq, Int.reduceAdd, Int.reduceSub, Int.reduceNeg, Int.reduceMul, q0, q1]
      rw [bad (by simp [inR]; omega)]
      exact ⟨rfl, fin⟩
    simp (disch := omega) only [push_cast, Nat.reduceBEq, Nat.reduceEqDiff, Nat.reduceAdd, Nat.reduceMul, Nat.reduceSub, Nat.reduceLT, Int.reduceToNat, Int.reduceLT, Int.reduceLE, Int.reduceEq, Int.reduceAdd, Int.reduceSub, Int.reduceNeg, Int.reduceMul, q0, q1]
    refine ⟨k - 1, by omega, i + 1, by omega, by simp, fin, fun j y hj hy => ?_⟩
    by_cases e : j = i
    · subst e
      rw [hx] at hy
      cases hy
      simp [inR]
      omega
    · exact hin j y (by omega) hy

theorem tabL_zero : List.replicate 64 (Value.int .u64 0) = tabL fun _ => 0#64 := by rfl
theorem ld_tab {w : World} {b : Nat} {r : Nat → BitVec 64} {E : TypeId} (h : Blk w b (tabL r) E) : ldS Try.prog 53 (.pointer (some ⟨b, 0, none⟩)) w = some (.agg (tabL r).toArray, w) :=
  ld_blk h t53_k (by rw [tabL_length]; exact t53_s)
theorem st_tab {w : World} {b : Nat} {r r' : Nat → BitVec 64} {E : TypeId} (h : Blk w b (tabL r) E) : stS Try.prog 53 (.pointer (some ⟨b, 0, none⟩)) (.agg (tabL r').toArray) w = some (undef, w.setRow b (tabL r').toArray) :=
  st_blk h (by rw [tabL_length]; exact t53_s) (by rw [tabL_length, tabL_length]) tabL_one

theorem rbit_or {r : Nat → BitVec 64} {p q a b : Nat} (hb : b < 64) : rbit (fun i => if i = p then r p ||| BitVec.twoPow 64 q else r i) a b = (rbit r a b || (decide (a = p) && decide (b = q))) := by
  unfold rbit
  by_cases h : a = p
  · subst h
    by_cases h2 : b = q
    · subst h2; simp [hb]
    · simp [h2, Ne.symm h2]
  · simp [h]
theorem rbit_row {r : Nat → BitVec 64} {p k a b : Nat} : rbit (fun i => if i = p then r p ||| r k else r i) a b = if a = p then (rbit r p b || rbit r k b) else rbit r a b := by
  unfold rbit
  by_cases h : a = p
  · subst h; simp
  · simp [h]
theorem relOf_take {l : List Pr} {i : Nat} {x : Pr} (h : l[i]? = some x) {a b : Nat} : relOf (l.take (i + 1)) a b = (relOf (l.take i) a b || (x.1 == (a : Int) && x.2 == (b : Int))) := by
  unfold relOf
  rw [List.take_add_one, h]
  simp
theorem inR_nat {n : Nat} {x : Pr} (h : inR n x = true) : ∃ p q : Nat, x = ((p : Int), (q : Int)) ∧ p < n ∧ q < n := by
  obtain ⟨x0, x1⟩ := x
  simp only [inR, decide_eq_true_eq] at h
  exact ⟨x0.toNat, x1.toNat, by simp; omega, by omega, by omega⟩
theorem wstep_row {R : Rel} {k b : Nat} : (R k b || (R k k && R k b)) = R k b := by cases R k b <;> cases R k k <;> rfl

theorem relOf_lt {n : Nat} {l : List Pr} (h : l.all (inR n) = true) {a b : Nat} (hr : relOf l a b = true) : a < n ∧ b < n := by
  unfold relOf at hr
  obtain ⟨x, hx, h2⟩ := List.any_eq_true.1 hr
  have h3 := List.all_eq_true.1 h x hx
  simp only [inR, decide_eq_true_eq] at h3
  simp at h2
  omega
theorem clos_lt {R : Rel} {n : Nat} (h : ∀ a b, R a b = true → a < n ∧ b < n) : ∀ {k a b : Nat}, clos k R a b = true → a < n ∧ b < n := by
  intro k
  induction k with
  | zero => intro a b h'; exact h a b h'
  | succ k ih =>
    intro a b h'
    simp only [clos, wstep, Bool.or_eq_true, Bool.and_eq_true] at h'
    rcases h' with h' | ⟨h1, h2⟩
    · exact ih h'
    · exact ⟨(ih h1).1, (ih h2).2⟩
set_option maxHeartbeats 4000000 in
theorem closed_ok {w : World} {n : Nat} (hn : n ≤ 64) {v : Value} {l : List Pr} (hv : SlP w v l) (hr : l.all (inR n) = true) (h4 : l.length ≤ 4096) :
    Ok (den Try.prog 38 #[.int .i64 n, v] w) fun u w' => ∃ r, u = .agg (tabL r).toArray ∧ (∀ a b, a < 64 → b < 64 → rbit r a b = clos n (relOf l) a b) ∧ Upd (fun _ => False) w w' := by
  obtain ⟨a, c, rfl, hl⟩ := hv
  refine den_okC1 (args := [.int .i64 n, .slice a l.length c]) 4 53 Try.func38 rfl mixed in38 ok38 rfl ?_
  simp (disch := omega) only [push_cast, Nat.reduceBEq, Nat.reduceEqDiff, Nat.reduceAdd, Nat.reduceMul, Nat.reduceSub, Nat.reduceLT, Int.reduceToNat, Int.reduceLT, Int.reduceLE, Int.reduceEq, Int.reduceAdd, Int.reduceSub, Int.reduceNeg, Int.reduceMul, tabL_zero]
  have hb1 : Blk ((w.alloc (.cells (tabL fun _ => 0#64).toArray 53 (0, 0))).alloc (.cells (tabL fun _ => 0#64).toArray 53 (0, 0))) w.heap.size (tabL fun _ => 0#64) 53 := Blk.new.alloc _
  have hb2 : ∀ {w1 : World}, w1.heap.size = w.heap.size + 1 → Blk (w1.alloc (.cells (tabL fun _ => 0#64).toArray 53 (0, 0))) (w.heap.size + 1) (tabL fun _ => 0#64) 53 := by
    intro w1 h; rw [← h]; exact Blk.new
  replace hb2 := hb2 (w1 := w.alloc (.cells (tabL fun _ => 0#64).toArray 53 (0, 0))) size_alloc
  have hu0 : Upd (fun _ => False) w ((w.alloc (.cells (tabL fun _ => 0#64).toArray 53 (0, 0))).alloc (.cells (tabL fun _ => 0#64).toArray 53 (0, 0))) := Upd.refl.alloc'.alloc'
  generalize (w.alloc (.cells (tabL fun _ => 0#64).toArray 53 (0, 0))).alloc (.cells (tabL fun _ => 0#64).toArray 53 (0, 0)) = w0 at *
  refine loop_inv (I := fun k st w' => Bx (∃ i r, k + i = l.length ∧ st = [.int .i64 (i : Int)] ∧ Upd (fun _ => False) w w' ∧ Blk w' w.heap.size (tabL fun _ => 0#64) 53 ∧ Blk w' (w.heap.size + 1) (tabL r) 53 ∧
    ∀ a b, a < 64 → b < 64 → rbit r a b = relOf (l.take i) a b) ⟨⟩) ?_ l.length ⟨0, fun _ => 0#64, rfl, rfl, hu0, hb1, hb2, fun a b _ _ => by simp [rbit, relOf]⟩
  clear hb1 hb2 hu0
  rintro k st w' ⟨i, r, hki, rfl, hu, hb1, hb2, hrel⟩
  have hsz := hu.size
  have hl1 := hb1.lt
  have hl2 := hb2.lt
  by_cases hk0 : k = 0
  rotate_left
  · have hi : i < l.length := by omega
    obtain ⟨b, o, rfl, hb, hcl⟩ := hl (by intro e; rw [e] at hi; simp at hi)
    obtain ⟨q0, q1⟩ := hcl i _ (List.getElem?_eq_getElem hi)
    rw [← World.cell?_of_block (hu.block b hb (fun h => h))] at q0 q1
    have hx := List.getElem?_eq_getElem hi
    have hxr : inR n l[i] = true := List.all_eq_true.1 hr _ (List.getElem_mem hi)
    generalize l[i] = x at *
    obtain ⟨p, q, rfl, hp, hq⟩ := inR_nat hxr
    simp only at q0 q1
    simp (disch := omega) only [push_cast, Nat.reduceBEq, Nat.reduceEqDiff, Nat.reduceAdd, Nat.reduceMul, Nat.reduceSub, Nat.reduceLT, Int.reduceToNat, Int.reduceLT, Int.reduceLE, Int.reduceEq, Int.reduceAdd, Int.reduceSub, Int.reduceNeg, Int.reduceMul, q0, q1, hb2.cell, hb2.free, tabL_get]
    have hu1 : Upd (fun b => b = w.heap.size + 1) w' (((((w'.alloc (.cells #[Value.int .i64 0, Value.int .i64 0] 29 (0, 0))).setCell ⟨w'.heap.size, 0, none⟩ (.int .i64 p)).setCell ⟨w'.heap.size, 1, none⟩ (.int .i64 q)).setCell ⟨w.heap.size + 1, p, none⟩ (U (r p ||| BitVec.twoPow 64 q))).drew) :=
      (((((Upd.refl (F := fun b => b = w.heap.size + 1)).alloc').setNew (Nat.le_refl _)).setNew (Nat.le_refl _)).setIn rfl).drew'
    refine ⟨k - 1, by omega, i + 1, fun i => if i = p then r p ||| BitVec.twoPow 64 q else r i, by omega, by simp, hu.trans hu1 (fun b h1 h2 => by omega), hb1.upd hu1 (by omega), ?_, ?_⟩
    · rw [← tabL_set]
      exact ((((hb2.alloc _).other _ (by show w'.heap.size ≠ _; omega)).other _ (by show w'.heap.size ≠ _; omega)).set p _).drew
    · intro a' b' ha hb'
      rw [rbit_or hb', relOf_take hx, hrel a' b' ha hb']
      congr 1
      rw [Bool.eq_iff_iff]
      simp
      omega
  obtain rfl : i = l.length := by omega
  rw [List.take_length] at hrel
  simp (disch := omega) only [push_cast, Nat.reduceBEq, Nat.reduceEqDiff, Nat.reduceAdd, Nat.reduceMul, Nat.reduceSub, Nat.reduceLT, Int.reduceToNat, Int.reduceLT, Int.reduceLE, Int.reduceEq, Int.reduceAdd, Int.reduceSub, Int.reduceNeg, Int.reduceMul]
  refine loop_inv (I := fun k st w' => Bx (∃ i r, k + i = n ∧ st = [.int .i64 (i : Int)] ∧ Upd (fun _ => False) w w' ∧ Blk w' w.heap.size (tabL fun _ => 0#64) 53 ∧ Blk w' (w.heap.size + 1) (tabL r) 53 ∧
    ∀ a b, a < 64 → b < 64 → rbit r a b = clos i (relOf l) a b) ⟨⟩) ?_ n ⟨0, r, rfl, rfl, hu, hb1, hb2, hrel⟩
  clear hb1 hb2 hu hrel hki hk0 hsz hl1 hl2
  rintro k st w' ⟨i, r, hki, rfl, hu, hb1, hb2, hrel⟩
  have hsz := hu.size
  have hl1 := hb1.lt
  have hl2 := hb2.lt
  by_cases hk0 : k = 0
  · obtain rfl : i = n := by omega
    have hb3 : Blk (w'.setRow w.heap.size (tabL r).toArray) w.heap.size (tabL r) 53 := hb1.setRow
    simp (disch := omega) only [push_cast, Nat.reduceBEq, Nat.reduceEqDiff, Nat.reduceAdd, Nat.reduceMul, Nat.reduceSub, Nat.reduceLT, Int.reduceToNat, Int.reduceLT, Int.reduceLE, Int.reduceEq, Int.reduceAdd, Int.reduceSub, Int.reduceNeg, Int.reduceMul, ld_tab hb2, st_tab hb1, ld_tab hb3]
    exact ⟨r, rfl, hrel, hu.trans (Upd.setRow (F := fun b => b = w.heap.size) rfl) (fun b h1 h2 => by omega)⟩
  · have hi : i < n := by omega
    simp (disch := omega) only [push_cast, Nat.reduceBEq, Nat.reduceEqDiff, Nat.reduceAdd, Nat.reduceMul, Nat.reduceSub, Nat.reduceLT, Int.reduceToNat, Int.reduceLT, Int.reduceLE, Int.reduceEq, Int.reduceAdd, Int.reduceSub, Int.reduceNeg, Int.reduceMul]
    refine loop_inv (I := fun k2 st w' => Bx (∃ j r, k2 + j = n ∧ st = [.int .i64 (j : Int)] ∧ Upd (fun _ => False) w w' ∧ Blk w' w.heap.size (tabL fun _ => 0#64) 53 ∧ Blk w' (w.heap.size + 1) (tabL r) 53 ∧
      ∀ a b, a < 64 → b < 64 → rbit r a b = if a < j then clos (i + 1) (relOf l) a b else clos i (relOf l) a b) ⟨⟩) ?_ n ⟨0, r, rfl, rfl, hu, hb1, hb2, fun a b ha hb => by simpa using hrel a b ha hb⟩
    clear hb1 hb2 hu hrel hsz hl1 hl2 r
    rintro k2 st w' ⟨j, r, hkj, rfl, hu, hb1, hb2, hrel⟩
    have hsz := hu.size
    have hl1 := hb1.lt
    have hl2 := hb2.lt
    by_cases hk2 : k2 = 0
    · obtain rfl : j = n := by omega
      simp (disch := omega) only [push_cast, Nat.reduceBEq, Nat.reduceEqDiff, Nat.reduceAdd, Nat.reduceMul, Nat.reduceSub, Nat.reduceLT, Int.reduceToNat, Int.reduceLT, Int.reduceLE, Int.reduceEq, Int.reduceAdd, Int.reduceSub, Int.reduceNeg, Int.reduceMul]
      refine ⟨k - 1, by omega, i + 1, r, by omega, by simp, hu, hb1, hb2, fun a b ha hb => ?_⟩
      rw [hrel a b ha hb]
      split
      · rfl
      · rename_i hge
        have h0 : ∀ m, clos m (relOf l) a b = false := fun m => by
          cases h : clos m (relOf l) a b
          · rfl
          · exact absurd (clos_lt (fun a b h => relOf_lt hr h) h).1 hge
        rw [h0, h0]
    · have hj : j < n := by omega
      have hcol : rbit r j i = clos i (relOf l) j i := by rw [hrel j i (by omega) (by omega), if_neg (by omega)]
      have hrow : ∀ b, b < 64 → rbit r i b = clos i (relOf l) i b := by
        intro b hb
        rw [hrel i b (by omega) hb]
        split
        · exact wstep_row
        · rfl
      cases hbit : (r j).getLsbD i
      · simp (disch := omega) only [push_cast, Nat.reduceBEq, Nat.reduceEqDiff, Nat.reduceAdd, Nat.reduceMul, Nat.reduceSub, Nat.reduceLT, Int.reduceToNat, Int.reduceLT, Int.reduceLE, Int.reduceEq, Int.reduceAdd, Int.reduceSub, Int.reduceNeg, Int.reduceMul, hb2.cell, hb2.free, tabL_get, hbit]
        refine ⟨k2 - 1, by omega, j + 1, r, by omega, by simp, hu, hb1, hb2, fun a b ha hb => ?_⟩
        rw [hrel a b ha hb]
        by_cases e : a = j
        · subst e
          rw [if_neg (by omega), if_pos (by omega)]
          have : clos i (relOf l) a i = false := by rw [← hcol]; exact hbit
          simp [clos, wstep, this]
        · by_cases e2 : a < j
          · rw [if_pos e2, if_pos (by omega)]
          · rw [if_neg e2, if_neg (by omega)]
      · simp (disch := omega) only [push_cast, Nat.reduceBEq, Nat.reduceEqDiff, Nat.reduceAdd, Nat.reduceMul, Nat.reduceSub, Nat.reduceLT, Int.reduceToNat, Int.reduceLT, Int.reduceLE, Int.reduceEq, Int.reduceAdd, Int.reduceSub, Int.reduceNeg, Int.reduceMul, hb2.cell, hb2.free, tabL_get, hbit]
        have hu1 : Upd (fun b => b = w.heap.size + 1) w' (w'.setCell ⟨w.heap.size + 1, j, none⟩ (U (r j ||| r i))).drew := ((Upd.refl (F := fun b => b = w.heap.size + 1)).setIn rfl).drew'
        refine ⟨k2 - 1, by omega, j + 1, fun a => if a = j then r j ||| r i else r a, by omega, by simp, hu.trans hu1 (fun b h1 h2 => by omega), hb1.upd hu1 (by omega), ?_, ?_⟩
        · rw [← tabL_set]
          exact (hb2.set j _).drew
        · intro a b ha hb
          rw [rbit_row]
          by_cases e : a = j
          · subst e
            rw [if_pos rfl, if_pos (by omega), hrow b hb, hrel a b ha hb, if_neg (by omega)]
            have : clos i (relOf l) a i = true := by rw [← hcol]; exact hbit
            simp [clos, wstep, this]
          · rw [if_neg e, hrel a b ha hb]
            by_cases e2 : a < j
            · rw [if_pos e2, if_pos (by omega)]
            · rw [if_neg e2, if_neg (by omega)]
end Go.Proofs.Ytfjccccfkpgmgaa.Fd
