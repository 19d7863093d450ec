/-
  maps.Keys at a map keyed by a struct; slices.AppendSeq, slices.Collect of it.
-/
import Derived.Test.YtpgfokhpacdhjaaFdM
import Derived.RangeFuncGives
import Derived.RangeFuncLeaves
import Derived.RangeFuncIn
import Derived.Maps.AppendAt
import Derived.Shelf.Abstract
import Derived.Shelf.AbstractIn
import Derived.Sort.MapsRangeIn
import Derived.WalkKit
import Derived.OwnWalkIn
import Derived.TacticsInMore
import Derived.RegionIn
import Derived.LoopNIn
import Derived.LoopIn
namespace Go.Proofs.Ytpgfokhpacdhjaa.Fd
set_option linter.unusedSimpArgs false
set_option linter.unusedVariables false
open Go Go.RowKit Go.MapKept Go.ChangeMaps
set_option maxRecDepth 100000

theorem IterP.alloc {w : World} {i r : Nat} {m : List (NP × Value)} {seen : Array Nat} {o : Obj} (h : IterP w i r m seen) : IterP (w.alloc o) i r m seen := by
  have hlt : i < w.heap.size := by unfold IterP at h; rw [Array.getElem?_eq_some_iff] at h; exact h.1
  unfold IterP at h ⊢
  rw [(Upd.alloc (F := fun _ => False) (w := w) (o := o)).block i hlt (fun h => h), h]
section
variable {F : Fence} {n : Nat} {ops : Array Oper} {Q : Exit → Act → World → Prop} {o : Oper} {rest : List Oper} {a : Act} {w : World}
theorem wpIn_range_p (hg : o.guard = none) (m : Operand) (hop : o.op = Op.range 77 m) {r : Nat} {mm : List (NP × Value)} (hm : a.eval m = .map (some r)) (hmap : MapP w r mm)
    (hK : wpListIn F n Try.prog ops Q rest (a.put o.dst (.pointer (some ⟨w.heap.size, 0, none⟩))) (w.alloc (.mapIter (some r) mm.length #[] mm.length))) : wpListIn F n Try.prog ops Q (o :: rest) a w := by
  refine wpListIn_plain hg fun K' hK' => ?_
  have hrun := run_range_p hmap
  unfold Oper.wpIn
  refine ⟨by simp [Oper.about, hop], ?_⟩
  rw [Oper.semAt_plain F _ _ (by rw [hop]; intro c hc'; cases hc')]
  simp [execOp, hop, hm, hrun, Result.andThen]
  exact hK' _ _ hK
theorem wpIn_next_p (hg : o.guard = none) (it : Operand) (hop : o.op = Op.next it false) {i r : Nat} {mm : List (NP × Value)} {seen : Array Nat} (hit : a.eval it = .pointer (some ⟨i, 0, none⟩)) (hi : IterP w i r mm seen) (hmap : MapP w r mm)
    (hD : (∀ j, j < mm.length → j ∈ seen) → wpListIn F n Try.prog ops Q rest (a.put o.dst (.tuple #[.bool false])) w)
    (hM : ∀ j k v w1, mm[j]? = some (k, v) → j ∉ seen → (w1 = w ∨ w1 = w.drew) → wpListIn F n Try.prog ops Q rest (a.put o.dst (.tuple #[.bool true, keyV k, v])) (setBlock w1 i (.mapIter (some r) mm.length (seen.push j) mm.length))) : wpListIn F n Try.prog ops Q (o :: rest) a w := by
  refine wpListIn_plain hg fun K' hK' => ?_
  unfold Oper.wpIn
  refine ⟨by simp [Oper.about, hop], ?_⟩
  rw [Oper.semAt_plain F _ _ (by rw [hop]; intro c hc'; cases hc')]
  rcases run_next_p (ty := o.type) hi hmap with ⟨h0, hrun⟩ | ⟨j, k, v, w1, h1, h2, h3, hrun⟩
  · simp [execOp, hop, hit, hrun, Result.andThen]
    exact hK' _ _ (hD h0)
  · simp [execOp, hop, hit, hrun, Result.andThen]
    exact hK' _ _ (hM j k v w1 h1 h2 h3)
end
theorem nodup_le : ∀ (n : Nat) (l : List Nat), l.Nodup → (∀ x ∈ l, x < n) → l.length ≤ n := by
  intro n
  induction n with
  | zero =>
    intro l _ h
    cases l with
    | nil => simp
    | cons x r => have := h x (by simp); omega
  | succ n ih =>
    intro l hn h
    have h1 := ih (l.erase n) (hn.erase n) fun x hx => by
      have h2 := h x (List.mem_of_mem_erase hx)
      have h3 : x ≠ n := fun e => by subst e; exact hn.not_mem_erase hx
      omega
    rw [List.length_erase] at h1
    split at h1 <;> omega
def iterLeft (w : World) (it : Nat) : Nat := match w.heap[it]? with
  | some (.mapIter _ k seen _) => k - seen.size
  | _ => 0
def keyAt (m : List (NP × Value)) (j : Nat) : NP := (m.map (·.1)).getD j (0, 0)

set_option maxHeartbeats 2000000 in
theorem keysP_in (l Bm b : Nat) (m : List (NP × Value)) (J : List NP → World → Prop)
    (hY : ∀ pre x W, J pre W → pre.length < m.length → YieldAt Fence.wide 0 Try.prog l #[keyV x] W fun e W' => e = .returned (.bool true) ∧ J (pre ++ [x]) W' ∧ KeepsWalks W W')
    (W : World) (hJ : AbidesFrom W.heap.size J) (hm : W.cell? ⟨Bm, 0, none⟩ = some (.map (some b))) (hown : MapP W b m) (h0 : J [] W) :
    CallsIn Fence.wide 1 Try.prog 52 #[.func (.yield l) #[] #[], .pointer (some ⟨Bm, 0, none⟩)] W fun e W' => (∃ v, e = .returned v) ∧ ∃ ss : List NP, ss.Perm (m.map (·.1)) ∧ J ss W' := by
  refine callsIn_of_wp Try.func52 rfl trivial ?_ rfl
  simp only [Try.ntmps52, List.size_toArray, List.length_cons, List.length_nil, Nat.reduceAdd, Nat.reduceSub, Array.replicate_succ, Array.replicate_zero, List.push_toArray, List.append_toArray, List.nil_append, List.cons_append]
  gi_wp2_with (first
    | (gi_at_range; refine wpIn_range_p rfl _ rfl rfl hown ?_)
    | gi_in)
  go_frame
  have hW0 : IterP (W.alloc (.mapIter (some b) m.length #[] m.length)) W.heap.size b m #[] := by
    unfold IterP; exact World.alloc_heap_new W _
  have hM0 : MapP (W.alloc (.mapIter (some b) m.length #[] m.length)) b m := hown.upd (F := fun _ => False) Upd.alloc (fun h => h)
  have hJ0 : J [] (W.alloc (.mapIter (some b) m.length #[] m.length)) := hJ [] W _ none h0 (World.grownBy_alloc W _ none) (fun r e => by cases e)
  have hit : (W.alloc (.mapIter (some b) m.length #[] m.length)).heap.size = W.heap.size + 1 := size_alloc
  generalize W.alloc (.mapIter (some b) m.length #[] m.length) = W0 at *
  gi_loopw [3] (fun _ wr => ∃ (seen : Array Nat), IterP wr W.heap.size b m seen ∧ MapP wr b m ∧ W.heap.size < wr.heap.size ∧ seen.toList.Nodup ∧ (∀ j ∈ seen, j < m.length) ∧ J (seen.toList.map (keyAt m)) wr)
    (fun _ wr => iterLeft wr W.heap.size)
  case atStart => exact ⟨#[], hW0, hM0, by omega, by simp, by simp, hJ0⟩
  case round =>
    obtain ⟨seen, hI, hM, hsz, hnd, hlt, hJs⟩ := hrel
    gi_wp2_with (first
      | (gi_at_next; refine wpIn_next_p rfl _ rfl rfl hI hM ?_ ?_)
      | gi_in)
    · intro hall
      gi_wp2
      go_end0
      refine ⟨⟨_, rfl⟩, _, ?_, hJs⟩
      have hp : seen.toList.Perm (List.range m.length) := (List.perm_ext_iff_of_nodup hnd List.nodup_range).2 fun j => by
        rw [List.mem_range, Array.mem_toList_iff]
        exact ⟨hlt j, hall j⟩
      have h2 := hp.map (keyAt m)
      have h3 : (List.range m.length).map (keyAt m) = m.map (·.1) := by
        apply List.ext_getElem?
        intro j
        rw [List.getElem?_map]
        by_cases hj : j < m.length
        · rw [List.getElem?_range hj, Option.map_some, keyAt, List.getD_eq_getElem?_getD, List.getElem?_eq_getElem (by simpa using hj)]; rfl
        · rw [List.getElem?_eq_none (by simpa using hj), List.getElem?_eq_none (by simpa using hj)]; rfl
      rwa [h3] at h2
    · intro j ka kb v w1 hj hnj hw1
      have hI2 : IterP (setBlock w1 W.heap.size (.mapIter (some b) m.length (seen.push j) m.length)) W.heap.size b m (seen.push j) := by
        unfold IterP
        refine setBlock_at ?_
        rcases hw1 with rfl | rfl <;> exact hsz
      have hg2 : wr.grownBy (setBlock w1 W.heap.size (.mapIter (some b) m.length (seen.push j) m.length)) (some W.heap.size) := by
        have h1 : wr.grownBy w1 none := by rcases hw1 with rfl | rfl <;> exact ⟨rfl, rfl, rfl, Nat.le_refl _, fun _ _ _ => rfl⟩
        refine ⟨h1.os, h1.tape, h1.output, by have := h1.size; simpa [setBlock] using this, fun k hk hne => ?_⟩
        rw [← h1.block k hk (by simp)]
        simp only [setBlock]
        rw [Array.getElem?_setIfInBounds_ne (fun e => hne (by rw [e]))]
      have hM2 : MapP (setBlock w1 W.heap.size (.mapIter (some b) m.length (seen.push j) m.length)) b m := by
        unfold MapP
        have hbne : b ≠ W.heap.size := fun e => by have := hown.lt; omega
        rw [hg2.block b hM.lt (fun e => hbne (by injection e))]
        exact hM
      have hw2 : (setBlock w1 W.heap.size (.mapIter (some b) m.length (seen.push j) m.length)).heap.size = wr.heap.size := by
        rcases hw1 with rfl | rfl
        · simp [setBlock]
        · show (wr.heap.setIfInBounds _ _).size = _; simp
      generalize setBlock w1 W.heap.size (.mapIter (some b) m.length (seen.push j) m.length) = w2 at *
      have hen := run_entry_p hI2 hM2 hj
      have hJ2 := hJ _ wr w2 (some W.heap.size) hJs hg2 (fun r e => by cases e; exact ⟨Nat.le_refl _, _, hI, rfl⟩)
      have hJ3 : J (seen.toList.map (keyAt m)) (w2.alloc (.cells #[.int .i64 ka, .int .i64 kb] 76)) := hJ _ w2 _ none hJ2 (World.grownBy_alloc w2 _ none) (fun r e => by cases e)
      have hlen : (seen.toList.map (keyAt m)).length < m.length := by
        rw [List.length_map]
        have hjl := (List.getElem?_eq_some_iff.1 hj).1
        have h1 : (j :: seen.toList).Nodup := List.nodup_cons.2 ⟨by rwa [Array.mem_toList_iff], hnd⟩
        have := nodup_le m.length _ h1 fun x hx => by
          rcases List.mem_cons.1 hx with rfl | h
          · exact hjl
          · exact hlt x (Array.mem_toList_iff.1 h)
        rw [List.length_cons, Array.length_toList] at this
        rw [Array.length_toList]
        omega
      obtain ⟨fn, tmps, assign, body, hy, hR⟩ := hY _ (ka, kb) _ hJ3 hlen
      unfold keyV at hen hy
      gi_wp2
      refine hR.mono ?_
      rintro e W3 ⟨rfl, hJ4, hk3⟩
      gi_wp2
      go_roundw
      case rel =>
        have hI3 : IterP W3 W.heap.size b m (seen.push j) := hk3.same _ _ (by have := hI2.alloc (o := .cells #[.int .i64 ka, .int .i64 kb] 76 (0, 0)); exact this) rfl
        have hM3 : MapP W3 b m := hk3.same _ _ (hM2.upd (F := fun _ => False) Upd.alloc (fun h => h)) rfl
        refine ⟨seen.push j, hI3, hM3, ?_, ?_, ?_, ?_⟩
        · have := hk3.size; rw [size_alloc] at this; omega
        · rw [Array.toList_push, List.nodup_append]
          refine ⟨hnd, by simp, ?_⟩
          intro x hx y hy
          simp at hy
          subst hy
          intro e; subst e; exact hnj (Array.mem_toList_iff.1 hx)
        · intro x hx
          rcases Array.mem_push.1 hx with h | h
          · exact hlt x h
          · subst h; exact (List.getElem?_eq_some_iff.1 hj).1
        · rw [Array.toList_push, List.map_append]
          have : keyAt m j = (ka, kb) := by
            rw [keyAt, List.getD_eq_getElem?_getD, List.getElem?_map, hj]; rfl
          rw [List.map_singleton, this]
          exact hJ4
      case measure =>
        have hI3 : IterP W3 W.heap.size b m (seen.push j) := hk3.same _ _ (by have := hI2.alloc (o := .cells #[.int .i64 ka, .int .i64 kb] 76 (0, 0)); exact this) rfl
        unfold IterP at hI hI3
        unfold iterLeft
        rw [hI, hI3]
        rw [List.length_map, Array.length_toList] at hlen
        simp only [Array.size_push]
        omega
end Go.Proofs.Ytpgfokhpacdhjaa.Fd
