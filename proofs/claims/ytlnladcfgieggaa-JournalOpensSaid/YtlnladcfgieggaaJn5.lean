/-
  The specification's reader: Uint, Bytes, Text, Left.
-/
import Derived.Test.YtlnladcfgieggaaJn4
namespace Go.Proofs.Ytlnladcfgieggaa.Fd
set_option linter.unusedSimpArgs false
set_option linter.unusedVariables false
open Go
set_option maxRecDepth 100000

structure Ri (w : World) (p : Nat) (d : List Int) (at_ last : Nat) (bad : Bool) (v : Value) : Prop where
  head : Blk w p [v, .int .i64 at_, .int .i64 last, .bool bad] 91
  data : SlC w (fun b => b = p) v d
  rng : Rng d
  len : d.length ≤ 1000000
  le : at_ ≤ d.length
theorem Ri.upd {w w' : World} {p : Nat} {d : List Int} {at_ last : Nat} {bad : Bool} {v : Value} (h : Ri w p d at_ last bad v) (hu : Upd (fun _ => False) w w') : Ri w' p d at_ last bad v :=
  ⟨h.head.upd hu (fun h => h), h.data.upd hu (fun _ h => h.elim), h.rng, h.len, h.le⟩
theorem Ri.set1 {w w' : World} {p : Nat} {d : List Int} {at_ last : Nat} {bad : Bool} {v : Value} (h : Ri w p d at_ last bad v) (hu : Upd (fun b => b = p) w w') {at2 last2 : Nat} {bad2 : Bool} (hb : Blk w' p [v, .int .i64 at2, .int .i64 last2, .bool bad2] 91) (hle : at2 ≤ d.length) : Ri w' p d at2 last2 bad2 v :=
  ⟨hb, h.data.upd hu (fun _ h => h), h.rng, h.len, hle⟩
theorem riLeft_ok {w : World} {p : Nat} {d : List Int} {at_ last : Nat} {bad : Bool} {v : Value} (h : Ri w p d at_ last bad v) : Ok (den Try.prog 57 #[.pointer (some ⟨p, 0, none⟩)] w) fun u w' => u = .int .i64 ((d.length : Int) - at_) ∧ Upd (fun _ => False) w w' := by
  obtain ⟨va, vc, rfl, _⟩ := h.data.2
  refine den_ok (args := [.pointer (some ⟨p, 0, none⟩)]) rs57 Try.func57 rfl mixed in57 ok57 rfl ?_
  have hl := h.len
  have hle := h.le
  simp (disch := omega) only [push_cast, Nat.reduceBEq, Nat.reduceEqDiff, Nat.reduceAdd, Nat.reduceMul, Nat.reduceSub, Nat.reduceLT, Int.reduceToNat, Int.reduceLT, Int.reduceLE, Int.reduceEq, Int.reduceAdd, Int.reduceSub, Int.reduceNeg, Int.reduceMul, h.head.cell]
  exact Upd.drew
/-- The bytes after a read. -/
def RiB (w w' : World) (p : Nat) (d : List Int) (at_ : Nat) (v u : Value) : Option (List Int × Nat) → Prop
  | none => u = .slice none 0 0 ∧ ∃ last', Ri w' p d at_ last' true v
  | some (b, nx) => Bow w' u b ∧ (∀ g, u.ownBlock = some g → w.heap.size ≤ g) ∧ ∃ last', Ri w' p d nx last' false v
set_option maxHeartbeats 2000000 in
theorem riBytes_ok {w : World} {p : Nat} {d : List Int} {at_ last : Nat} {v : Value} (h : Ri w p d at_ last false v) :
    Ok (den Try.prog 58 #[.pointer (some ⟨p, 0, none⟩)] w) fun u w' => RiB w w' p d at_ v u (byt_ d at_) ∧ Upd (fun b => b = p) w w' := by
  obtain ⟨va, vc, hv, hvc⟩ := h.data.2
  subst hv
  have hl := h.len
  have hle := h.le
  refine den_ok (args := [.pointer (some ⟨p, 0, none⟩)]) rs58 Try.func58 rfl mixed in58 ok58 rfl ?_
  simp (config := { maxSteps := 3000000 }) (disch := omega) only [push_cast, Nat.reduceBEq, Nat.reduceEqDiff, Nat.reduceAdd, Nat.reduceMul, Nat.reduceSub, Nat.reduceLT, Int.reduceToNat, Int.reduceLT, Int.reduceLE, Int.reduceEq, Int.reduceAdd, Int.reduceSub, Int.reduceNeg, Int.reduceMul, h.head.cell, h.head.free]
  have hu1 : Upd (fun b => b = p) w (w.setCell ⟨p, 2, none⟩ (.int .i64 at_)) := Upd.set rfl
  have h1 := h.set1 hu1 (h.head.set 2 _) hle
  generalize w.setCell ⟨p, 2, none⟩ (.int .i64 at_) = w1 at *
  replace h1 := h1.upd Upd.drew
  replace hu1 := hu1.drew'
  generalize w1.drew = w1' at *
  refine Ok.use (raw_ok h1.data h1.rng hl hle) ?_
  rintro u w2 ⟨⟨n, nx, ok, rfl, hnum⟩, hu2⟩
  have h2 := h1.upd hu2
  have hu12 : Upd (fun b => b = p) w w2 := hu1.trans hu2 (fun _ _ h => h.elim)
  cases ok
  · have hb : byt_ d at_ = none := by unfold byt_; rw [hnum]; rfl
    rw [hb]
    simp (config := { maxSteps := 3000000 }) (disch := omega) only [push_cast, Nat.reduceBEq, Nat.reduceEqDiff, Nat.reduceAdd, Nat.reduceMul, Nat.reduceSub, Nat.reduceLT, Int.reduceToNat, Int.reduceLT, Int.reduceLE, Int.reduceEq, Int.reduceAdd, Int.reduceSub, Int.reduceNeg, Int.reduceMul, h1.head.cell, h2.head.cell, h2.head.free]
    have hu3 : Upd (fun b => b = p) w2 (w2.setCell ⟨p, 3, none⟩ (.bool true)) := Upd.set rfl
    exact ⟨⟨rfl, at_, h2.set1 hu3 (h2.head.set 3 _) hle⟩, hu12.trans hu3 (fun _ _ h => h)⟩
  simp only [if_true] at hnum
  have hnx := num_next hnum
  have hn64 := num_lt hnum
  have e1 : IntKind.u64.wrap ((d.length : Int) - nx) = ((d.length - nx : Nat) : Int) := by rw [IntKind.wrap_u64]; omega
  have hsub : ((d.length - nx : Nat) : Int) = (d.length : Int) - nx := by omega
  by_cases hbad : d.length - nx < n
  · have hb : byt_ d at_ = none := by unfold byt_; rw [hnum]; dsimp only; rw [if_pos hbad]
    rw [hb]
    rw [hsub] at e1
    have hbad' : (d.length : Int) - nx < n := by omega
    simp (config := { maxSteps := 3000000 }) (disch := omega) only [push_cast, Nat.reduceBEq, Nat.reduceEqDiff, Nat.reduceAdd, Nat.reduceMul, Nat.reduceSub, Nat.reduceLT, Int.reduceToNat, Int.reduceLT, Int.reduceLE, Int.reduceEq, Int.reduceAdd, Int.reduceSub, Int.reduceNeg, Int.reduceMul, h1.head.cell, h2.head.cell, h2.head.free, e1]
    have hu3 : Upd (fun b => b = p) w2 (w2.setCell ⟨p, 3, none⟩ (.bool true)) := Upd.set rfl
    exact ⟨⟨rfl, at_, (h2.set1 hu3 (h2.head.set 3 _) hle)⟩, (hu12.trans hu3 (fun _ _ h => h))⟩
  have hb : byt_ d at_ = some ((d.drop nx).take n, nx + n) := by unfold byt_; rw [hnum]; dsimp only; rw [if_neg hbad]
  rw [hb]
  rw [hsub] at e1
  obtain ⟨y, hy⟩ : ∃ y, d[at_]? = some y := ⟨d[at_]'(by omega), List.getElem?_eq_getElem (by omega)⟩
  obtain ⟨g, o, c, hv, _⟩ := h2.data.at_ hy
  injection hv with e2 _ e4
  subst e2
  subst e4
  have hgood : ¬ (d.length : Int) - nx < n := by omega
  have e5 : IntKind.i64.wrap (n : Int) = (n : Int) := by rw [IntKind.wrap_i64]; omega
  have hu3 : Upd (fun b => b = p) w2 (w2.setCell ⟨p, 1, none⟩ (.int .i64 ((nx + n : Nat) : Int))) := Upd.set rfl
  have h3 := h2.set1 hu3 (h2.head.set 1 _) (by omega)
  have e6 : ((nx + n : Nat) : Int) = (nx : Int) + (n : Int) := by omega
  have hsl2 := slb_lh h3.data.1 (l := nx) (n := n) (by omega) hvc
  rw [e6] at hsl2 h3 hu3
  generalize hw3 : w2.setCell ⟨p, 1, none⟩ (.int .i64 ((nx : Int) + (n : Int))) = w3 at *
  have hp3 := h3.head.alloc (.cells #[] 5 (0, 0))
  have hs2 : w3.heap.size = w2.heap.size := by rw [← hw3]; exact size_set
  have ez : ((nx : Int) + (n : Int)).toNat - nx = n := by omega
  simp (config := { maxSteps := 3000000 }) (disch := omega) only [push_cast, Nat.reduceBEq, Nat.reduceEqDiff, Nat.reduceAdd, Nat.reduceMul, Nat.reduceSub, Nat.reduceLT, Int.reduceToNat, Int.reduceLT, Int.reduceLE, Int.reduceEq, Int.reduceAdd, Int.reduceSub, Int.reduceNeg, Int.reduceMul, h1.head.cell, h2.head.cell, h2.head.free, e1, e5, h3.head.cell, hw3, hp3.cell, ez]
  have hs3 := hu3.size
  have hln : ((d.drop nx).take n).length = n := by rw [List.length_take, List.length_drop]; omega
  refine app_by (Bow.empty ((Blk.new (cs := [])).drew)) ((hsl2.upd (Upd.alloc (F := fun _ => False)) (fun _ h => h.elim)).upd (Upd.drew (F := fun _ => False)) (fun _ h => h.elim)) (by rw [hln]; simp; omega) ?_
  intro v' w5 hown hu5 hfr
  rw [List.nil_append] at hown
  obtain ⟨va', vc', rfl, _⟩ := hown.form
  have hu35 : Upd (fun _ => False) w3 w5 := Upd.alloc.drew'.trans hu5 fun b hb e => by have e := ownB e; omega
  have h5 := h3.upd hu35
  simp (config := { maxSteps := 3000000 }) (disch := omega) only [push_cast, Nat.reduceBEq, Nat.reduceEqDiff, Nat.reduceAdd, Nat.reduceMul, Nat.reduceSub, Nat.reduceLT, Int.reduceToNat, Int.reduceLT, Int.reduceLE, Int.reduceEq, Int.reduceAdd, Int.reduceSub, Int.reduceNeg, Int.reduceMul, h5.head.cell, h3.head.cell, hp3.cell, e5, ez]
  have hs1 := hu12.size
  refine ⟨⟨hown, fun g' hg => ?_, at_, h5⟩, (hu12.trans hu3 (fun _ _ h => h)).trans hu35 (fun _ _ h => h.elim)⟩
  rcases hfr g' hg with h6 | h6
  · have := ownB h6; omega
  · have : ((w3.alloc (.cells #[] 5 (0, 0))).drew).heap.size = w3.heap.size + 1 := size_alloc
    omega
def RiT (w' : World) (p : Nat) (d : List Int) (at_ : Nat) (v u : Value) : Option (List Int × Nat) → Prop
  | none => u = .string (strOfNums []) ∧ ∃ last', Ri w' p d at_ last' true v
  | some (b, nx) => u = .string (strOfNums b) ∧ ∃ last', Ri w' p d nx last' false v
theorem riText_ok {w : World} {p : Nat} {d : List Int} {at_ last : Nat} {v : Value} (h : Ri w p d at_ last false v) :
    Ok (den Try.prog 55 #[.pointer (some ⟨p, 0, none⟩)] w) fun u w' => RiT w' p d at_ v u (byt_ d at_) ∧ Upd (fun b => b = p) w w' := by
  refine den_ok (args := [.pointer (some ⟨p, 0, none⟩)]) rs55 Try.func55 rfl mixed in55 ok55 rfl ?_
  simp (disch := omega) only [push_cast, Nat.reduceBEq, Nat.reduceEqDiff, Nat.reduceAdd, Nat.reduceMul, Nat.reduceSub, Nat.reduceLT, Int.reduceToNat, Int.reduceLT, Int.reduceLE, Int.reduceEq, Int.reduceAdd, Int.reduceSub, Int.reduceNeg, Int.reduceMul]
  refine Ok.use (riBytes_ok h) ?_
  rintro u w1 ⟨hr, hu⟩
  cases hb : byt_ d at_ with
  | none =>
    rw [hb] at hr
    obtain ⟨rfl, hr⟩ := hr
    simp (disch := omega) only [push_cast, Nat.reduceBEq, Nat.reduceEqDiff, Nat.reduceAdd, Nat.reduceMul, Nat.reduceSub, Nat.reduceLT, Int.reduceToNat, Int.reduceLT, Int.reduceLE, Int.reduceEq, Int.reduceAdd, Int.reduceSub, Int.reduceNeg, Int.reduceMul, cnv_str (l := []) (w := w1) (v := .slice none 0 0) (F := fun _ => False) ⟨none, 0, rfl, fun h => absurd rfl h⟩]
    exact ⟨⟨rfl, hr⟩, hu⟩
  | some x =>
    obtain ⟨b, nx⟩ := x
    rw [hb] at hr
    obtain ⟨hown, _, hr⟩ := hr
    simp (disch := omega) only [push_cast, Nat.reduceBEq, Nat.reduceEqDiff, Nat.reduceAdd, Nat.reduceMul, Nat.reduceSub, Nat.reduceLT, Int.reduceToNat, Int.reduceLT, Int.reduceLE, Int.reduceEq, Int.reduceAdd, Int.reduceSub, Int.reduceNeg, Int.reduceMul, cnv_str (hown.slb (F := fun _ => False) fun _ _ h => h)]
    exact ⟨⟨rfl, hr⟩, hu⟩
def RiU (w' : World) (p : Nat) (d : List Int) (at_ : Nat) (v u : Value) : Option (Nat × Nat) → Prop
  | none => ∃ last', Ri w' p d at_ last' true v
  | some (n, nx) => u = .int .u64 (n : Int) ∧ ∃ last', Ri w' p d nx last' false v
theorem riUint_ok {w : World} {p : Nat} {d : List Int} {at_ last : Nat} {v : Value} (h : Ri w p d at_ last false v) :
    Ok (den Try.prog 56 #[.pointer (some ⟨p, 0, none⟩)] w) fun u w' => RiU w' p d at_ v u (num d at_) ∧ (∃ x, u = .int .u64 x) ∧ Upd (fun b => b = p) w w' := by
  obtain ⟨va, vc, hv, hvc⟩ := h.data.2
  subst hv
  have hl := h.len
  have hle := h.le
  refine den_ok (args := [.pointer (some ⟨p, 0, none⟩)]) rs56 Try.func56 rfl mixed in56 ok56 rfl ?_
  simp (config := { maxSteps := 3000000 }) (disch := omega) only [push_cast, Nat.reduceBEq, Nat.reduceEqDiff, Nat.reduceAdd, Nat.reduceMul, Nat.reduceSub, Nat.reduceLT, Int.reduceToNat, Int.reduceLT, Int.reduceLE, Int.reduceEq, Int.reduceAdd, Int.reduceSub, Int.reduceNeg, Int.reduceMul, h.head.cell, h.head.free]
  have hu1 : Upd (fun b => b = p) w (w.setCell ⟨p, 2, none⟩ (.int .i64 at_)) := Upd.set rfl
  have h1 := h.set1 hu1 (h.head.set 2 _) hle
  generalize w.setCell ⟨p, 2, none⟩ (.int .i64 at_) = w1 at *
  replace h1 := h1.upd Upd.drew
  replace hu1 := hu1.drew'
  generalize w1.drew = w1' at *
  refine Ok.use (raw_ok h1.data h1.rng hl hle) ?_
  rintro u w2 ⟨⟨n, nx, ok, rfl, hnum⟩, hu2⟩
  have h2 := h1.upd hu2
  have hu12 : Upd (fun b => b = p) w w2 := hu1.trans hu2 (fun _ _ h => h.elim)
  cases ok
  · simp only [Bool.false_eq_true, if_false] at hnum
    rw [hnum]
    simp (config := { maxSteps := 3000000 }) (disch := omega) only [push_cast, Nat.reduceBEq, Nat.reduceEqDiff, Nat.reduceAdd, Nat.reduceMul, Nat.reduceSub, Nat.reduceLT, Int.reduceToNat, Int.reduceLT, Int.reduceLE, Int.reduceEq, Int.reduceAdd, Int.reduceSub, Int.reduceNeg, Int.reduceMul, h1.head.cell, h2.head.cell, h2.head.free]
    have hu3 : Upd (fun b => b = p) w2 (w2.setCell ⟨p, 3, none⟩ (.bool true)) := Upd.set rfl
    exact ⟨⟨at_, h2.set1 hu3 (h2.head.set 3 _) hle⟩, ⟨_, rfl⟩, hu12.trans hu3 (fun _ _ h => h)⟩
  · simp only [if_true] at hnum
    have hnx := num_next hnum
    rw [hnum]
    simp (config := { maxSteps := 3000000 }) (disch := omega) only [push_cast, Nat.reduceBEq, Nat.reduceEqDiff, Nat.reduceAdd, Nat.reduceMul, Nat.reduceSub, Nat.reduceLT, Int.reduceToNat, Int.reduceLT, Int.reduceLE, Int.reduceEq, Int.reduceAdd, Int.reduceSub, Int.reduceNeg, Int.reduceMul, h1.head.cell, h2.head.cell, h2.head.free]
    have hu3 : Upd (fun b => b = p) w2 (w2.setCell ⟨p, 1, none⟩ (.int .i64 nx)) := Upd.set rfl
    exact ⟨⟨rfl, at_, h2.set1 hu3 (h2.head.set 1 _) hnx.2⟩, ⟨_, rfl⟩, hu12.trans hu3 (fun _ _ h => h)⟩
theorem riUintE_ok {w : World} {p : Nat} {d : List Int} {at_ last : Nat} {v : Value} (h : Ri w p d at_ last true v) :
    Ok (den Try.prog 56 #[.pointer (some ⟨p, 0, none⟩)] w) fun u w' => u = .int .u64 0 ∧ w = w' := by
  obtain ⟨va, vc, hv, hvc⟩ := h.data.2
  subst hv
  refine den_ok (args := [.pointer (some ⟨p, 0, none⟩)]) rs56 Try.func56 rfl mixed in56 ok56 rfl ?_
  simp (config := { maxSteps := 3000000 }) (disch := omega) only [push_cast, Nat.reduceBEq, Nat.reduceEqDiff, Nat.reduceAdd, Nat.reduceMul, Nat.reduceSub, Nat.reduceLT, Int.reduceToNat, Int.reduceLT, Int.reduceLE, Int.reduceEq, Int.reduceAdd, Int.reduceSub, Int.reduceNeg, Int.reduceMul, h.head.cell, h.head.free]
end Go.Proofs.Ytlnladcfgieggaa.Fd
