/-
  The law DiskMemory, as a reading: slices that were passed or returned can be changed.
-/
import Derived.Test.YtdekhojafpkgfaaDk7
import Derived.Test.YtdekhojafpkgfaaFdD
namespace Go.Proofs.Ytdekhojafpkgfaa.Fd
set_option linter.unusedSimpArgs false
set_option linter.unusedVariables false
open Go Go.ChangeMaps
set_option maxRecDepth 100000

theorem cnv_u8 {w : World} {F : Nat → Prop} {v : Value} {l : List Int} (h : SlB w F v l) : cnvS Try.prog 32 9 v w = some (.string (strOfNums l), w) :=
  cnv_bytes Try.underlying32 Try.underlying5 Try.underlying9 h

def mem1 (l : List Int) : DS := { size := l.length, dur := [List.replicate l.length 0, List.replicate l.length 0], cache := [(1, l)], off := false, cnt := none }
def mem2 (l : List Int) : DS := { size := l.length, dur := [List.replicate l.length 0, l], cache := [], off := false, cnt := none }
theorem mem1_eq {l : List Int} : (DS.new 2 l.length).write 1 l = (mem1 l, 0) := by
  unfold DS.write
  rw [if_pos ⟨by omega, by show (1 : Int) < 2; omega, rfl⟩]
  rfl
theorem mem2_eq {l : List Int} : (mem1 l).sync = (mem2 l, 0) := rfl
theorem mem1_read {l : List Int} : (mem1 l).read 1 = (some l, 0) := rfl
theorem mem2_read {l : List Int} : (mem2 l).read 1 = (some l, 0) := rfl

set_option maxHeartbeats 2000000 in
theorem diskMemory_ok {w : World} {v : Value} {l : List Int} (hv : SlB w (fun b => w.heap.size ≤ b) v l) :
    Ok (den Try.prog 8 #[v] w) fun v w' => v = .bool true ∧ Upd (fun _ => False) w w' := by
  have hv' := hv
  obtain ⟨a, c, rfl, hl⟩ := hv
  refine den_ok (args := [.slice a l.length c]) rs8 Try.func8 rfl mixed in8 ok8 rfl ?_
  simp (disch := omega) only [push_cast, Nat.reduceBEq, Nat.reduceEqDiff, Nat.reduceAdd, Nat.reduceMul, Nat.reduceSub, Nat.reduceLT, Int.reduceToNat, Int.reduceLT, Int.reduceLE, Int.reduceEq, Int.reduceAdd, Int.reduceSub, Int.reduceNeg, Int.reduceMul]
  refine Ok.use awake_ok ?_
  rintro v w1 ⟨rfl, hu1⟩
  by_cases hn : (l.length : Int) < 16
  · simp (disch := omega) only [push_cast, Nat.reduceBEq, Nat.reduceEqDiff, Nat.reduceAdd, Nat.reduceMul, Nat.reduceSub, Nat.reduceLT, Int.reduceToNat, Int.reduceLT, Int.reduceLE, Int.reduceEq, Int.reduceAdd, Int.reduceSub, Int.reduceNeg, Int.reduceMul]
    exact hu1
  by_cases hn2 : (4096 : Int) < l.length
  · simp (disch := omega) only [push_cast, Nat.reduceBEq, Nat.reduceEqDiff, Nat.reduceAdd, Nat.reduceMul, Nat.reduceSub, Nat.reduceLT, Int.reduceToNat, Int.reduceLT, Int.reduceLE, Int.reduceEq, Int.reduceAdd, Int.reduceSub, Int.reduceNeg, Int.reduceMul]
    exact hu1
  simp (disch := omega) only [push_cast, Nat.reduceBEq, Nat.reduceEqDiff, Nat.reduceAdd, Nat.reduceMul, Nat.reduceSub, Nat.reduceLT, Int.reduceToNat, Int.reduceLT, Int.reduceLE, Int.reduceEq, Int.reduceAdd, Int.reduceSub, Int.reduceNeg, Int.reduceMul]
  refine Ok.use (new_ok (n := 2) (size := l.length) (by omega) (by omega) (by omega) (by omega)) ?_
  rintro v w2 ⟨p, rfl, h, hu⟩
  have a1 : At w w2 _ p (DS.new 2 l.length) := At.new hu1 h hu
  clear h hu
  generalize gr (fun _ => False) w1 w2 = F1 at *
  simp (disch := omega) only [push_cast, Nat.reduceBEq, Nat.reduceEqDiff, Nat.reduceAdd, Nat.reduceMul, Nat.reduceSub, Nat.reduceLT, Int.reduceToNat, Int.reduceLT, Int.reduceLE, Int.reduceEq, Int.reduceAdd, Int.reduceSub, Int.reduceNeg, Int.reduceMul]
  have hp0 : 0 < l.length := by omega
  have hb0 := Blk.new (w := w2) (cs := []) (E := 5)
  have hu3 : Upd (fun _ => False) w2 (w2.alloc (.cells #[] 5 (0, 0))) := Upd.alloc
  have hs3 : (w2.alloc (.cells #[] 5 (0, 0))).heap.size = w2.heap.size + 1 := size_alloc
  have a2 := a1.quiet hu3
  have hold := a1.disk.bd
  have h02 := a1.upd.size
  change Blk (w2.alloc (.cells #[] 5 (0, 0))) w2.heap.size [] 5 at hb0
  generalize w2.alloc (.cells #[] 5 (0, 0)) = w3 at *
  refine app_clone (hv'.to a2.upd (F := fun b => w.heap.size ≤ b) (fun _ h => h)) hp0 (by omega) (by omega) hb0 ?_
  intro g c4 w4 hg hu4 hbuf hlies
  have hgF : ¬ F1 g := fun h => by have := hold g h; omega
  have hgw : w.heap.size ≤ g := by omega
  have hu24 : Upd (fun _ => False) w2 w4 := hu3.trans hu4 (fun b h1 h2 => by omega)
  replace a1 := a1.quiet hu24
  have hg4 : g < w4.heap.size := by
    have := hu4.size
    omega
  clear a2 hu3 hs3 hb0 hu4 hu24 hold hg
  simp (disch := omega) only [push_cast, Nat.reduceBEq, Nat.reduceEqDiff, Nat.reduceAdd, Nat.reduceMul, Nat.reduceSub, Nat.reduceLT, Int.reduceToNat, Int.reduceLT, Int.reduceLE, Int.reduceEq, Int.reduceAdd, Int.reduceSub, Int.reduceNeg, Int.reduceMul]
  refine Ok.use (write_ok a1.disk (by show 0 < l.length; omega) (by show 0 < 1000000000; omega) (fun k h => by cases h) 1 (l := l) ⟨_, _, rfl, fun _ => ⟨_, _, rfl, hlies, hgF⟩⟩) ?_
  rintro v w5 ⟨rfl, h, hu⟩
  rw [mem1_eq] at h ⊢
  replace a1 : At w w5 _ p (mem1 l) := a1.step h hu
  have hbuf5 := hbuf.upd hu hgF
  have hgF5 : ¬ gr F1 w4 w5 g := by
    rintro (h | h)
    · exact hgF h
    · omega
  clear h hu hbuf hlies
  generalize gr F1 w4 w5 = F2 at *
  simp (disch := omega) only [push_cast, Nat.reduceBEq, Nat.reduceEqDiff, Nat.reduceAdd, Nat.reduceMul, Nat.reduceSub, Nat.reduceLT, Int.reduceToNat, Int.reduceLT, Int.reduceLE, Int.reduceEq, Int.reduceAdd, Int.reduceSub, Int.reduceNeg, Int.reduceMul]
  refine loop_inv (I := fun k st w' => Bx (∃ i, k + i = l.length ∧ st = [.int .i64 (i : Int)] ∧ At w w' F2 p (mem1 l) ∧ Buf w' g l.length) ⟨⟩) ?_ l.length ⟨0, rfl, rfl, a1, hbuf5⟩
  clear a1 hbuf5
  rintro k st w6 ⟨i, hki, rfl, a1, hbuf⟩
  by_cases hk : k = 0
  rotate_left
  · obtain ⟨x, hx⟩ := hbuf.get (j := i) (by omega)
    simp (disch := omega) only [push_cast, Nat.reduceBEq, Nat.reduceEqDiff, Nat.reduceAdd, Nat.reduceMul, Nat.reduceSub, Nat.reduceLT, Int.reduceToNat, Int.reduceLT, Int.reduceLE, Int.reduceEq, Int.reduceAdd, Int.reduceSub, Int.reduceNeg, Int.reduceMul, hx, hbuf.free]
    have hu7 : Upd (fun b => b = g) w6 (w6.setCell ⟨g, i, none⟩ (.int .u8 (IntKind.u8.wrap (x + 1)))) := Upd.refl.setIn rfl
    exact ⟨k - 1, by omega, i + 1, by omega, by simp, ⟨a1.disk.upd hu7 (fun b hb e => hgF5 (e ▸ hb)), a1.fresh, a1.upd.trans hu7 (fun b h1 h2 => by omega)⟩, hbuf.set _ _⟩
  obtain rfl : i = l.length := by omega
  simp (disch := omega) only [push_cast, Nat.reduceBEq, Nat.reduceEqDiff, Nat.reduceAdd, Nat.reduceMul, Nat.reduceSub, Nat.reduceLT, Int.reduceToNat, Int.reduceLT, Int.reduceLE, Int.reduceEq, Int.reduceAdd, Int.reduceSub, Int.reduceNeg, Int.reduceMul]
  refine Ok.use (read_ok a1.disk (by show 0 < l.length; omega) (by show 1 < 1000000000; omega) 1) ?_
  rintro v w7 ⟨u, rfl, hr, hu⟩
  rw [mem1_read] at hr ⊢
  obtain ⟨b7, rfl, hb7l, hb7⟩ := hr
  have hb7F : ¬ F2 b7 := fun h => by have := a1.disk.bd _ h; omega
  have hb7w : w.heap.size ≤ b7 := Nat.le_trans a1.upd.size hb7l
  replace a1 := a1.quiet hu
  clear hu
  have s7 : SlB w7 (fun _ => False) (.slice (some ⟨b7, 0, none⟩) l.length l.length) l := ⟨_, _, rfl, fun _ => ⟨_, _, rfl, Lies.of_blk hb7, fun h => h⟩⟩
  have t7 := hv'.to a1.upd (F := fun b => w.heap.size ≤ b) (fun _ h => h)
  simp (disch := omega) only [push_cast, Nat.reduceBEq, Nat.reduceEqDiff, Nat.reduceAdd, Nat.reduceMul, Nat.reduceSub, Nat.reduceLT, Int.reduceToNat, Int.reduceLT, Int.reduceLE, Int.reduceEq, Int.reduceAdd, Int.reduceSub, Int.reduceNeg, Int.reduceMul, CV, cnv_u8 s7, cnv_u8 t7, beq_self_eq_true]
  refine loop_inv (I := fun k st w' => Bx (∃ i, k + i = l.length ∧ st = [.int .i64 (i : Int)] ∧ At w w' F2 p (mem1 l) ∧ Buf w' b7 l.length) ⟨⟩) ?_ l.length ⟨0, rfl, rfl, a1, Buf.of_blk hb7⟩
  clear a1 hbuf s7 t7 hb7
  rintro k st w8 ⟨i, hki, rfl, a1, hbuf⟩
  by_cases hk : k = 0
  rotate_left
  · obtain ⟨x, hx⟩ := hbuf.get (j := i) (by omega)
    simp (disch := omega) only [push_cast, Nat.reduceBEq, Nat.reduceEqDiff, Nat.reduceAdd, Nat.reduceMul, Nat.reduceSub, Nat.reduceLT, Int.reduceToNat, Int.reduceLT, Int.reduceLE, Int.reduceEq, Int.reduceAdd, Int.reduceSub, Int.reduceNeg, Int.reduceMul, hx, hbuf.free]
    have hu7 : Upd (fun b => b = b7) w8 (w8.setCell ⟨b7, i, none⟩ (.int .u8 (IntKind.u8.wrap (x + 1)))) := Upd.refl.setIn rfl
    exact ⟨k - 1, by omega, i + 1, by omega, by simp, ⟨a1.disk.upd hu7 (fun b hb e => hb7F (e ▸ hb)), a1.fresh, a1.upd.trans hu7 (fun b h1 h2 => by omega)⟩, hbuf.set _ _⟩
  obtain rfl : i = l.length := by omega
  simp (disch := omega) only [push_cast, Nat.reduceBEq, Nat.reduceEqDiff, Nat.reduceAdd, Nat.reduceMul, Nat.reduceSub, Nat.reduceLT, Int.reduceToNat, Int.reduceLT, Int.reduceLE, Int.reduceEq, Int.reduceAdd, Int.reduceSub, Int.reduceNeg, Int.reduceMul]
  refine Ok.use (sync_ok a1.disk (by show 1 < 1000000000; omega) (fun k h => by cases h)) ?_
  rintro v w9 ⟨rfl, h, hu⟩
  rw [mem2_eq] at h ⊢
  replace a1 : At w w9 _ p (mem2 l) := a1.step h hu
  clear h hu
  generalize gr F2 w8 w9 = F3 at *
  simp (disch := omega) only [push_cast, Nat.reduceBEq, Nat.reduceEqDiff, Nat.reduceAdd, Nat.reduceMul, Nat.reduceSub, Nat.reduceLT, Int.reduceToNat, Int.reduceLT, Int.reduceLE, Int.reduceEq, Int.reduceAdd, Int.reduceSub, Int.reduceNeg, Int.reduceMul]
  refine Ok.use (read_ok a1.disk (by show 0 < l.length; omega) (by show 0 < 1000000000; omega) 1) ?_
  rintro v w10 ⟨u, rfl, hr, hu⟩
  rw [mem2_read] at hr ⊢
  obtain ⟨b8, rfl, _, hb8⟩ := hr
  replace a1 := a1.quiet hu
  clear hu
  have s8 : SlB w10 (fun _ => False) (.slice (some ⟨b8, 0, none⟩) l.length l.length) l := ⟨_, _, rfl, fun _ => ⟨_, _, rfl, Lies.of_blk hb8, fun h => h⟩⟩
  have t8 := hv'.to a1.upd (F := fun b => w.heap.size ≤ b) (fun _ h => h)
  simp (disch := omega) only [push_cast, Nat.reduceBEq, Nat.reduceEqDiff, Nat.reduceAdd, Nat.reduceMul, Nat.reduceSub, Nat.reduceLT, Int.reduceToNat, Int.reduceLT, Int.reduceLE, Int.reduceEq, Int.reduceAdd, Int.reduceSub, Int.reduceNeg, Int.reduceMul, CV, cnv_u8 s8, cnv_u8 t8, beq_self_eq_true]
  exact a1.upd
theorem diskMemory_law {w : World} {v : Value} (h : ∃ l, SlB w (fun b => w.heap.size ≤ b) v l ∧ ∀ x ∈ l, (Lit.int .u8 x).wf = true) :
    Ok (den Try.prog 8 #[v] w) fun v w' => v = .bool true ∧ Upd (fun _ => False) w w' := by
  obtain ⟨l, h, _⟩ := h
  exact diskMemory_ok h
end Go.Proofs.Ytdekhojafpkgfaa.Fd
