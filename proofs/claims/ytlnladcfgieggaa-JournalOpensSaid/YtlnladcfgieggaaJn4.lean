/-
  wire.Reader: Bytes, Text, Uint; the specification's In.
-/
import Derived.Test.YtlnladcfgieggaaJn3
namespace Go.Proofs.Ytlnladcfgieggaa.Fd
set_option linter.unusedSimpArgs false
set_option linter.unusedVariables false
open Go
set_option maxRecDepth 100000

theorem Rd.set1 {w w' : World} {p : Nat} {d : List Int} {at_ item : Nat} {err : Int} {v : Value} (h : Rd w p d at_ item err v) (hu : Upd (fun b => b = p) w w') {at2 item2 : Nat} {err2 : Int} (hb : Blk w' p [v, .int .i64 at2, .int .i64 item2, .int .i64 err2] 105) (hle : at2 ≤ d.length) : Rd w' p d at2 item2 err2 v :=
  ⟨hb, h.own.upd hu h.ne, h.ne, h.rng, h.len, hle⟩
/-- The bytes after a read. -/
def RdB (w w' : World) (p : Nat) (d : List Int) (at_ : Nat) (v u : Value) : Option (List Int × Nat) → Prop
  | none => u = .slice none 0 0 ∧ ∃ item', Rd w' p d at_ item' 2 v
  | some (b, nx) => Bow w' u b ∧ (∀ g, u.ownBlock = some g → w.heap.size ≤ g) ∧ ∃ item', Rd w' p d nx item' 0 v
set_option maxHeartbeats 2000000 in
theorem rdBytes_ok {w : World} {p : Nat} {d : List Int} {at_ item : Nat} {v : Value} (h : Rd w p d at_ item 0 v) :
    Ok (den Try.prog 68 #[.pointer (some ⟨p, 0, none⟩)] w) fun u w' => RdB w w' p d at_ v u (byt_ d at_) ∧ Upd (fun b => b = p) w w' := by
  obtain ⟨va, vc, hv, hvc⟩ := h.own.form
  subst hv
  have hl := h.len
  have hle := h.le
  refine den_ok (args := [.pointer (some ⟨p, 0, none⟩)]) rs68 Try.func68 rfl mixed in68 ok68 rfl ?_
  simp (disch := omega) only [push_cast, Nat.reduceBEq, Nat.reduceEqDiff, Nat.reduceAdd, Nat.reduceMul, Nat.reduceSub, Nat.reduceLT, Int.reduceToNat, Int.reduceLT, Int.reduceLE, Int.reduceEq, Int.reduceAdd, Int.reduceSub, Int.reduceNeg, Int.reduceMul]
  refine Ok.use (begin_ok h) ?_
  rintro u w1 ⟨rfl, ⟨item1, h1⟩, hu1⟩
  simp (disch := omega) only [push_cast, Nat.reduceBEq, Nat.reduceEqDiff, Nat.reduceAdd, Nat.reduceMul, Nat.reduceSub, Nat.reduceLT, Int.reduceToNat, Int.reduceLT, Int.reduceLE, Int.reduceEq, Int.reduceAdd, Int.reduceSub, Int.reduceNeg, Int.reduceMul]
  refine Ok.use (number_ok h1) ?_
  rintro u w2 ⟨⟨n, nx, ok, rfl, hnum⟩, hu2⟩
  have h2 := h1.upd hu2
  have hu12 : Upd (fun b => b = p) w w2 := hu1.trans hu2 (fun _ _ h => h.elim)
  cases ok
  · have hb : byt_ d at_ = none := by unfold byt_; rw [hnum]; rfl
    rw [hb]
    simp (config := { maxSteps := 3000000 }) (disch := omega) only [push_cast, Nat.reduceBEq, Nat.reduceEqDiff, Nat.reduceAdd, Nat.reduceMul, Nat.reduceSub, Nat.reduceLT, Int.reduceToNat, Int.reduceLT, Int.reduceLE, Int.reduceEq, Int.reduceAdd, Int.reduceSub, Int.reduceNeg, Int.reduceMul, h2.head.cell, h2.head.free]
    have hu3 : Upd (fun b => b = p) w2 (w2.setCell ⟨p, 3, none⟩ (.int .i64 2)) := Upd.set rfl
    exact ⟨⟨rfl, item1, h2.set1 hu3 (h2.head.set 3 _) hle⟩, hu12.trans hu3 (fun _ _ h => h)⟩
  simp only [if_true] at hnum
  have hnx := num_next hnum
  have hn64 := num_lt hnum
  have e1 : IntKind.u64.wrap ((d.length : Int) - nx) = ((d.length - nx : Nat) : Int) := by rw [IntKind.wrap_u64]; omega
  have hsub : ((d.length - nx : Nat) : Int) = (d.length : Int) - nx := by omega
  by_cases hbad : d.length - nx < n
  · have hb : byt_ d at_ = none := by unfold byt_; rw [hnum]; dsimp only; rw [if_pos hbad]
    rw [hb]
    rw [hsub] at e1
    have hbad' : (d.length : Int) - nx < n := by omega
    simp (config := { maxSteps := 3000000 }) (disch := omega) only [push_cast, Nat.reduceBEq, Nat.reduceEqDiff, Nat.reduceAdd, Nat.reduceMul, Nat.reduceSub, Nat.reduceLT, Int.reduceToNat, Int.reduceLT, Int.reduceLE, Int.reduceEq, Int.reduceAdd, Int.reduceSub, Int.reduceNeg, Int.reduceMul, h2.head.cell, h2.head.free, e1]
    have hu3 : Upd (fun b => b = p) w2 (w2.setCell ⟨p, 3, none⟩ (.int .i64 2)) := Upd.set rfl
    exact ⟨⟨rfl, item1, (h2.set1 hu3 (h2.head.set 3 _) hle)⟩, (hu12.trans hu3 (fun _ _ h => h))⟩
  have hb : byt_ d at_ = some ((d.drop nx).take n, nx + n) := by unfold byt_; rw [hnum]; dsimp only; rw [if_neg hbad]
  rw [hb]
  rw [hsub] at e1
  obtain ⟨g, c, hv, hc, hli, hgp, hglt⟩ := h2.slb (by omega)
  injection hv with e2 _ e4
  subst e2
  subst e4
  have hgood : ¬ (d.length : Int) - nx < n := by omega
  have e5 : IntKind.i64.wrap (n : Int) = (n : Int) := by rw [IntKind.wrap_i64]; omega
  have hu3 : Upd (fun b => b = p) w2 (w2.setCell ⟨p, 1, none⟩ (.int .i64 ((nx + n : Nat) : Int))) := Upd.set rfl
  have h3 := h2.set1 hu3 (h2.head.set 1 _) (by omega)
  have e6 : ((nx + n : Nat) : Int) = (nx : Int) + (n : Int) := by omega
  have hsl : SlB (w2.setCell ⟨p, 1, none⟩ (.int .i64 ((nx + n : Nat) : Int))) (fun b => b = p) (.slice (some ⟨g, 0, none⟩) d.length vc) d := ⟨_, _, rfl, fun _ => ⟨g, 0, rfl, hli.upd hu3 hglt hgp, hgp⟩⟩
  have hsl2 := slb_lh hsl (l := nx) (n := n) (by omega) hc
  rw [e6] at hsl2 h3 hu3
  generalize hw3 : w2.setCell ⟨p, 1, none⟩ (.int .i64 ((nx : Int) + (n : Int))) = w3 at *
  have hp3 := h3.head.alloc (.cells #[] 5 (0, 0))
  have hs2 : w3.heap.size = w2.heap.size := by rw [← hw3]; exact size_set
  have ez : ((nx : Int) + (n : Int)).toNat - nx = n := by omega
  rw [Nat.zero_add] at hsl2
  simp (config := { maxSteps := 3000000 }) (disch := omega) only [push_cast, Nat.reduceBEq, Nat.reduceEqDiff, Nat.reduceAdd, Nat.reduceMul, Nat.reduceSub, Nat.reduceLT, Int.reduceToNat, Int.reduceLT, Int.reduceLE, Int.reduceEq, Int.reduceAdd, Int.reduceSub, Int.reduceNeg, Int.reduceMul, h2.head.cell, h2.head.free, e1, e5, h3.head.cell, hw3, hp3.cell, ez]
  have hs3 := hu3.size
  have hln : ((d.drop nx).take n).length = n := by rw [List.length_take, List.length_drop]; omega
  refine app_by (Bow.empty ((Blk.new (cs := [])).drew)) ((hsl2.upd (Upd.alloc (F := fun _ => False)) (fun _ h => h.elim)).upd (Upd.drew (F := fun _ => False)) (fun _ h => h.elim)) (by rw [hln]; simp; omega) ?_
  intro v' w5 hown hu5 hfr
  rw [List.nil_append] at hown
  obtain ⟨va', vc', rfl, _⟩ := hown.form
  have hu35 : Upd (fun _ => False) w3 w5 := Upd.alloc.drew'.trans hu5 fun b hb e => by have e := ownB e; omega
  have h5 := h3.upd hu35
  simp (config := { maxSteps := 3000000 }) (disch := omega) only [push_cast, Nat.reduceBEq, Nat.reduceEqDiff, Nat.reduceAdd, Nat.reduceMul, Nat.reduceSub, Nat.reduceLT, Int.reduceToNat, Int.reduceLT, Int.reduceLE, Int.reduceEq, Int.reduceAdd, Int.reduceSub, Int.reduceNeg, Int.reduceMul, h5.head.cell, h3.head.cell, hp3.cell, e5, ez]
  have hs1 := hu12.size
  refine ⟨⟨hown, fun g' hg => ?_, item1, h5⟩, (hu12.trans hu3 (fun _ _ h => h)).trans hu35 (fun _ _ h => h.elim)⟩
  rcases hfr g' hg with h6 | h6
  · have := ownB h6; omega
  · have : ((w3.alloc (.cells #[] 5 (0, 0))).drew).heap.size = w3.heap.size + 1 := size_alloc
    omega
theorem cnv_str {w : World} {F : Nat → Prop} {v : Value} {l : List Int} (h : SlB w F v l) : cnvS Try.prog 46 9 v w = some (.string (strOfNums l), w) :=
  cnv_bytes Try.underlying46 Try.underlying5 Try.underlying9 h
/-- The string after a read. -/
def RdT (w' : World) (p : Nat) (d : List Int) (at_ : Nat) (v u : Value) : Option (List Int × Nat) → Prop
  | none => u = .string (strOfNums []) ∧ ∃ item', Rd w' p d at_ item' 2 v
  | some (b, nx) => u = .string (strOfNums b) ∧ ∃ item', Rd w' p d nx item' 0 v
theorem rdText_ok {w : World} {p : Nat} {d : List Int} {at_ item : Nat} {v : Value} (h : Rd w p d at_ item 0 v) :
    Ok (den Try.prog 63 #[.pointer (some ⟨p, 0, none⟩)] w) fun u w' => RdT w' p d at_ v u (byt_ d at_) ∧ Upd (fun b => b = p) w w' := by
  refine den_ok (args := [.pointer (some ⟨p, 0, none⟩)]) rs63 Try.func63 rfl mixed in63 ok63 rfl ?_
  simp (disch := omega) only [push_cast, Nat.reduceBEq, Nat.reduceEqDiff, Nat.reduceAdd, Nat.reduceMul, Nat.reduceSub, Nat.reduceLT, Int.reduceToNat, Int.reduceLT, Int.reduceLE, Int.reduceEq, Int.reduceAdd, Int.reduceSub, Int.reduceNeg, Int.reduceMul]
  refine Ok.use (rdBytes_ok h) ?_
  rintro u w1 ⟨hr, hu⟩
  cases hb : byt_ d at_ with
  | none =>
    rw [hb] at hr
    obtain ⟨rfl, hr⟩ := hr
    simp (disch := omega) only [push_cast, Nat.reduceBEq, Nat.reduceEqDiff, Nat.reduceAdd, Nat.reduceMul, Nat.reduceSub, Nat.reduceLT, Int.reduceToNat, Int.reduceLT, Int.reduceLE, Int.reduceEq, Int.reduceAdd, Int.reduceSub, Int.reduceNeg, Int.reduceMul, cnv_str (l := []) (w := w1) (v := .slice none 0 0) (F := fun _ => False) ⟨none, 0, rfl, fun h => absurd rfl h⟩]
    exact ⟨⟨rfl, hr⟩, hu⟩
  | some x =>
    obtain ⟨b, nx⟩ := x
    rw [hb] at hr
    obtain ⟨hown, _, hr⟩ := hr
    simp (disch := omega) only [push_cast, Nat.reduceBEq, Nat.reduceEqDiff, Nat.reduceAdd, Nat.reduceMul, Nat.reduceSub, Nat.reduceLT, Int.reduceToNat, Int.reduceLT, Int.reduceLE, Int.reduceEq, Int.reduceAdd, Int.reduceSub, Int.reduceNeg, Int.reduceMul, cnv_str (hown.slb (F := fun _ => False) fun _ _ h => h)]
    exact ⟨⟨rfl, hr⟩, hu⟩
/-- The number after a read. -/
def RdU (w' : World) (p : Nat) (d : List Int) (at_ : Nat) (v u : Value) : Option (Nat × Nat) → Prop
  | none => ∃ item', Rd w' p d at_ item' 2 v
  | some (n, nx) => u = .int .u64 (n : Int) ∧ ∃ item', Rd w' p d nx item' 0 v
theorem rdUint_ok {w : World} {p : Nat} {d : List Int} {at_ item : Nat} {v : Value} (h : Rd w p d at_ item 0 v) :
    Ok (den Try.prog 64 #[.pointer (some ⟨p, 0, none⟩)] w) fun u w' => RdU w' p d at_ v u (num d at_) ∧ (∃ x, u = .int .u64 x) ∧ Upd (fun b => b = p) w w' := by
  obtain ⟨va, vc, hv, hvc⟩ := h.own.form
  subst hv
  have hle := h.le
  refine den_ok (args := [.pointer (some ⟨p, 0, none⟩)]) rs64 Try.func64 rfl mixed in64 ok64 rfl ?_
  simp (disch := omega) only [push_cast, Nat.reduceBEq, Nat.reduceEqDiff, Nat.reduceAdd, Nat.reduceMul, Nat.reduceSub, Nat.reduceLT, Int.reduceToNat, Int.reduceLT, Int.reduceLE, Int.reduceEq, Int.reduceAdd, Int.reduceSub, Int.reduceNeg, Int.reduceMul]
  refine Ok.use (begin_ok h) ?_
  rintro u w1 ⟨rfl, ⟨item1, h1⟩, hu1⟩
  simp (disch := omega) only [push_cast, Nat.reduceBEq, Nat.reduceEqDiff, Nat.reduceAdd, Nat.reduceMul, Nat.reduceSub, Nat.reduceLT, Int.reduceToNat, Int.reduceLT, Int.reduceLE, Int.reduceEq, Int.reduceAdd, Int.reduceSub, Int.reduceNeg, Int.reduceMul]
  refine Ok.use (number_ok h1) ?_
  rintro u w2 ⟨⟨n, nx, ok, rfl, hnum⟩, hu2⟩
  have h2 := h1.upd hu2
  have hu12 : Upd (fun b => b = p) w w2 := hu1.trans hu2 (fun _ _ h => h.elim)
  cases ok
  · simp only [Bool.false_eq_true, if_false] at hnum
    rw [hnum]
    simp (config := { maxSteps := 3000000 }) (disch := omega) only [push_cast, Nat.reduceBEq, Nat.reduceEqDiff, Nat.reduceAdd, Nat.reduceMul, Nat.reduceSub, Nat.reduceLT, Int.reduceToNat, Int.reduceLT, Int.reduceLE, Int.reduceEq, Int.reduceAdd, Int.reduceSub, Int.reduceNeg, Int.reduceMul, h2.head.cell, h2.head.free]
    have hu3 : Upd (fun b => b = p) w2 (w2.setCell ⟨p, 3, none⟩ (.int .i64 2)) := Upd.set rfl
    exact ⟨⟨item1, h2.set1 hu3 (h2.head.set 3 _) hle⟩, ⟨_, rfl⟩, hu12.trans hu3 (fun _ _ h => h)⟩
  · simp only [if_true] at hnum
    have hnx := num_next hnum
    rw [hnum]
    simp (config := { maxSteps := 3000000 }) (disch := omega) only [push_cast, Nat.reduceBEq, Nat.reduceEqDiff, Nat.reduceAdd, Nat.reduceMul, Nat.reduceSub, Nat.reduceLT, Int.reduceToNat, Int.reduceLT, Int.reduceLE, Int.reduceEq, Int.reduceAdd, Int.reduceSub, Int.reduceNeg, Int.reduceMul, h2.head.cell, h2.head.free]
    have hu3 : Upd (fun b => b = p) w2 (w2.setCell ⟨p, 1, none⟩ (.int .i64 nx)) := Upd.set rfl
    exact ⟨⟨rfl, item1, h2.set1 hu3 (h2.head.set 1 _) hnx.2⟩, ⟨_, rfl⟩, hu12.trans hu3 (fun _ _ h => h)⟩
/-- After an error nothing is read. -/
theorem rdUintE_ok {w : World} {p : Nat} {d : List Int} {at_ item : Nat} {v : Value} (h : Rd w p d at_ item 2 v) :
    Ok (den Try.prog 64 #[.pointer (some ⟨p, 0, none⟩)] w) fun u w' => (∃ x, u = .int .u64 x) ∧ (∃ item', Rd w' p d at_ item' 2 v) ∧ Upd (fun b => b = p) w w' := by
  refine den_ok (args := [.pointer (some ⟨p, 0, none⟩)]) rs64 Try.func64 rfl mixed in64 ok64 rfl ?_
  simp (disch := omega) only [push_cast, Nat.reduceBEq, Nat.reduceEqDiff, Nat.reduceAdd, Nat.reduceMul, Nat.reduceSub, Nat.reduceLT, Int.reduceToNat, Int.reduceLT, Int.reduceLE, Int.reduceEq, Int.reduceAdd, Int.reduceSub, Int.reduceNeg, Int.reduceMul]
  refine Ok.use (begin_ok h) ?_
  rintro u w1 ⟨rfl, h1, hu1⟩
  simp (disch := omega) only [push_cast, Nat.reduceBEq, Nat.reduceEqDiff, Nat.reduceAdd, Nat.reduceMul, Nat.reduceSub, Nat.reduceLT, Int.reduceToNat, Int.reduceLT, Int.reduceLE, Int.reduceEq, Int.reduceAdd, Int.reduceSub, Int.reduceNeg, Int.reduceMul]
  exact ⟨⟨_, rfl⟩, h1, hu1⟩

/-! the specification's reader -/
/-- Bytes that may be read and sliced. -/
def SlC (w : World) (F : Nat → Prop) (v : Value) (d : List Int) : Prop := SlB w F v d ∧ ∃ a c, v = .slice a d.length c ∧ d.length ≤ c
theorem SlC.upd {w w' : World} {F G : Nat → Prop} {v : Value} {l : List Int} (h : SlC w F v l) (hu : Upd G w w') (hG : ∀ b, G b → F b) : SlC w' F v l := ⟨h.1.upd hu hG, h.2⟩
theorem SlC.mono {w : World} {F G : Nat → Prop} {v : Value} {l : List Int} (h : SlC w F v l) (hG : ∀ b, b < w.heap.size → G b → F b) : SlC w G v l := ⟨h.1.mono hG, h.2⟩
theorem Bow.slc {w : World} {v : Value} {l : List Int} (h : Bow w v l) {F : Nat → Prop} (hF : ∀ g, v.ownBlock = some g → ¬ F g) : SlC w F v l := ⟨h.slb hF, h.form⟩
theorem SlC.at_ {w : World} {F : Nat → Prop} {v : Value} {d : List Int} (h : SlC w F v d) {j : Nat} {x : Int} (hx : d[j]? = some x) : ∃ g o c, v = .slice (some ⟨g, o, none⟩) d.length c ∧ w.cell? ⟨g, o + j, none⟩ = some (.int .u8 x) := by
  have hj := (List.getElem?_eq_some_iff.1 hx).1
  obtain ⟨⟨a, c, hv, hl⟩, _⟩ := h
  obtain ⟨g, o, rfl, h1, _⟩ := hl (by intro e; rw [e] at hj; simp at hj)
  refine ⟨g, o, c, hv, ?_⟩
  have := h1 j (by rw [by8_length]; exact hj)
  rw [this, by8, List.getElem?_map, hx]
  rfl
theorem Rng.nat {l : List Int} (h : Rng l) {j : Nat} {x : Int} (hx : l[j]? = some x) : ∃ y : Nat, x = y ∧ y < 256 := by
  have := h x (List.mem_of_getElem? hx)
  exact ⟨x.toNat, by omega, by omega⟩
set_option maxHeartbeats 2000000 in
theorem raw_ok {w : World} {F : Nat → Prop} {v : Value} {d : List Int} (h : SlC w F v d) (hr : Rng d) (hl : d.length ≤ 1000000) {at_ : Nat} (hle : at_ ≤ d.length) :
    Ok (den Try.prog 72 #[v, .int .i64 (at_ : Int)] w) fun u w' => (∃ n nx ok, u = .tuple #[.int .u64 ((n : Nat) : Int), .int .i64 ((nx : Nat) : Int), .bool ok] ∧ num d at_ = if ok then some (n, nx) else none) ∧ Upd (fun _ => False) w w' := by
  obtain ⟨va, vc, hv, _⟩ := h.2
  subst hv
  refine den_ok (args := [.slice va d.length vc, .int .i64 (at_ : Int)]) rs72 Try.func72 rfl mixed in72 ok72 rfl ?_
  simp (disch := omega) only [push_cast, Nat.reduceBEq, Nat.reduceEqDiff, Nat.reduceAdd, Nat.reduceMul, Nat.reduceSub, Nat.reduceLT, Int.reduceToNat, Int.reduceLT, Int.reduceLE, Int.reduceEq, Int.reduceAdd, Int.reduceSub, Int.reduceNeg, Int.reduceMul]
  refine loop_inv (I := fun k st w' => Bx (∃ (i n : Nat), k + i = 10 ∧ st = [.int .u64 (n : Int), .int .i64 (i : Int)] ∧ n < 2 ^ (7 * i) ∧ num d at_ = numF d at_ k i n ∧ Upd (fun _ => False) w w') ⟨⟩) ?_ 10
    ⟨0, 0, rfl, rfl, by simp, rfl, Upd.refl⟩
  rintro k st w' ⟨i, n, hki, rfl, hn, hnum, hu⟩
  by_cases hk0 : k = 0
  · subst hk0
    obtain rfl : i = 10 := by omega
    simp (config := { maxSteps := 3000000 }) (disch := omega) only [push_cast, Nat.reduceBEq, Nat.reduceEqDiff, Nat.reduceAdd, Nat.reduceMul, Nat.reduceSub, Nat.reduceLT, Int.reduceToNat, Int.reduceLT, Int.reduceLE, Int.reduceEq, Int.reduceAdd, Int.reduceSub, Int.reduceNeg, Int.reduceMul]
    first | exact ⟨⟨0, at_, false, rfl, hnum⟩, hu⟩ | exact ⟨⟨0, at_, false, rfl, hnum⟩, hu.drew'⟩
  obtain ⟨k, rfl⟩ : ∃ k', k = k' + 1 := ⟨k - 1, by omega⟩
  rw [numF] at hnum
  by_cases hlt : at_ + i < d.length
  rotate_left
  · rw [List.getElem?_eq_none (by omega)] at hnum
    simp (config := { maxSteps := 3000000 }) (disch := omega) only [push_cast, Nat.reduceBEq, Nat.reduceEqDiff, Nat.reduceAdd, Nat.reduceMul, Nat.reduceSub, Nat.reduceLT, Int.reduceToNat, Int.reduceLT, Int.reduceLE, Int.reduceEq, Int.reduceAdd, Int.reduceSub, Int.reduceNeg, Int.reduceMul]
    first | exact ⟨⟨0, at_, false, rfl, hnum⟩, hu⟩ | exact ⟨⟨0, at_, false, rfl, hnum⟩, hu.drew'⟩
  have hx := List.getElem?_eq_getElem hlt
  generalize d[at_ + i] = x at hx
  obtain ⟨y, rfl, hy⟩ := hr.nat hx
  obtain ⟨g, o, c, hv, q0⟩ := (h.upd hu (fun _ h => h.elim)).at_ hx
  injection hv with e1 _ e3
  subst e1
  rw [hx] at hnum
  dsimp only at hnum
  have e7 : (7 * (i : Int)).toNat = 7 * i := by omega
  have e8 : IntKind.u64.wrap (7 * IntKind.u64.wrap (i : Int)) = 7 * (i : Int) := by rw [IntKind.wrap_u64, IntKind.wrap_u64]; omega
  have ea : ((at_ : Int) + (i : Int)).toNat = at_ + i := by omega
  by_cases h9 : i = 9 ∧ 1 < y
  · rw [if_pos ⟨h9.1, by omega⟩] at hnum
    obtain ⟨h9', h9⟩ := h9
    have h9'' : (i : Int) = 9 := by omega
    simp (config := { maxSteps := 3000000 }) (disch := omega) only [push_cast, Nat.reduceBEq, Nat.reduceEqDiff, Nat.reduceAdd, Nat.reduceMul, Nat.reduceSub, Nat.reduceLT, Int.reduceToNat, Int.reduceLT, Int.reduceLE, Int.reduceEq, Int.reduceAdd, Int.reduceSub, Int.reduceNeg, Int.reduceMul, q0, ea]
    first | exact ⟨⟨0, at_, false, rfl, hnum⟩, hu⟩ | exact ⟨⟨0, at_, false, rfl, hnum⟩, hu.drew'⟩ | exact ⟨⟨0, at_, false, rfl, hnum⟩, hu.drew'.drew'⟩
  rw [if_neg (by omega)] at hnum
  have hX : y % 128 * 2 ^ (7 * i) < 2 ^ 64 := by
    by_cases e : i = 9
    · subst e
      have : y % 128 ≤ 1 := by omega
      have := Nat.mul_le_mul_right (2 ^ (7 * 9)) this
      omega
    · have h1 : y % 128 * 2 ^ (7 * i) ≤ 127 * 2 ^ 56 := Nat.mul_le_mul (by omega) (Nat.pow_le_pow_right (by omega) (by omega))
      omega
  have a1 := tmod128 (m := y)
  have a2 : IntKind.u64.wrap ((y % 128 : Nat) : Int) = ((y % 128 : Nat) : Int) := by rw [IntKind.wrap_u64]; omega
  have a3 := shl7 (x := y % 128) (i := i) (by omega) hX
  have hn' : n + y % 128 * 2 ^ (7 * i) < 2 ^ (7 * (i + 1)) := by
    have h1 : y % 128 * 2 ^ (7 * i) ≤ 127 * 2 ^ (7 * i) := Nat.mul_le_mul_right _ (by omega)
    rw [show 7 * (i + 1) = 7 * i + 7 from by omega, Nat.pow_add]
    omega
  have h64 : n + y % 128 * 2 ^ (7 * i) < 2 ^ 64 := by
    by_cases e : i = 9
    · subst e
      have : y % 128 ≤ 1 := by omega
      have := Nat.mul_le_mul_right (2 ^ (7 * 9)) this
      omega
    · exact Nat.lt_of_lt_of_le hn' (Nat.pow_le_pow_right (by omega) (by omega))
  have a4 : IntKind.u64.wrap ((n : Int) + ((y % 128 * 2 ^ (7 * i) : Nat) : Int)) = ((n + y % 128 * 2 ^ (7 * i) : Nat) : Int) := by rw [IntKind.wrap_u64]; omega
  rw [show ((y : Int).toNat % 128) = y % 128 from by omega] at hnum
  generalize n + y % 128 * 2 ^ (7 * i) = n2 at *
  generalize y % 128 * 2 ^ (7 * i) = Y at *
  generalize y % 128 = X at *
  have hi9 : (i : Int) = 9 ∨ ¬ (i : Int) = 9 := by omega
  by_cases hlt2 : y < 128
  · rw [if_pos (by omega)] at hnum
    by_cases h0 : y = 0 ∧ 0 < i
    · rw [if_pos ⟨by omega, h0.2⟩] at hnum
      obtain ⟨hy0, h0⟩ := h0
      have hy0' : (y : Int) = 0 := by omega
      have hi0 : ¬ (i : Int) = 0 := by omega
      rcases hi9 with hi9 | hi9 <;> simp (config := { maxSteps := 3000000 }) (disch := omega) only [push_cast, Nat.reduceBEq, Nat.reduceEqDiff, Nat.reduceAdd, Nat.reduceMul, Nat.reduceSub, Nat.reduceLT, Int.reduceToNat, Int.reduceLT, Int.reduceLE, Int.reduceEq, Int.reduceAdd, Int.reduceSub, Int.reduceNeg, Int.reduceMul, q0, a1, a2, a3, a4, e7, e8, ea] <;> first | exact ⟨⟨0, at_, false, by simp, hnum⟩, hu.drew'.drew'.drew'⟩ | exact ⟨⟨0, at_, false, by simp, hnum⟩, hu.drew'.drew'⟩ | exact ⟨⟨0, at_, false, by simp, hnum⟩, hu.drew'⟩ | exact ⟨⟨0, at_, false, by simp, hnum⟩, hu⟩
    · rw [if_neg (by omega)] at hnum
      by_cases hy0 : y = 0
      · have hi0 : (i : Int) = 0 := by omega
        have hy0' : (y : Int) = 0 := by omega
        have hi9' : ¬ (i : Int) = 9 := by omega
        simp (config := { maxSteps := 3000000 }) (disch := omega) only [push_cast, Nat.reduceBEq, Nat.reduceEqDiff, Nat.reduceAdd, Nat.reduceMul, Nat.reduceSub, Nat.reduceLT, Int.reduceToNat, Int.reduceLT, Int.reduceLE, Int.reduceEq, Int.reduceAdd, Int.reduceSub, Int.reduceNeg, Int.reduceMul, q0, a1, a2, a3, a4, e7, e8, ea] <;> first | exact ⟨⟨n2, at_ + i + 1, true, by simp, hnum⟩, hu.drew'.drew'.drew'⟩ | exact ⟨⟨n2, at_ + i + 1, true, by simp, hnum⟩, hu.drew'.drew'⟩ | exact ⟨⟨n2, at_ + i + 1, true, by simp, hnum⟩, hu.drew'⟩ | exact ⟨⟨n2, at_ + i + 1, true, by simp, hnum⟩, hu⟩
      · have hy0' : ¬ (y : Int) = 0 := by omega
        rcases hi9 with hi9 | hi9 <;> simp (config := { maxSteps := 3000000 }) (disch := omega) only [push_cast, Nat.reduceBEq, Nat.reduceEqDiff, Nat.reduceAdd, Nat.reduceMul, Nat.reduceSub, Nat.reduceLT, Int.reduceToNat, Int.reduceLT, Int.reduceLE, Int.reduceEq, Int.reduceAdd, Int.reduceSub, Int.reduceNeg, Int.reduceMul, q0, a1, a2, a3, a4, e7, e8, ea] <;> first | exact ⟨⟨n2, at_ + i + 1, true, by simp, hnum⟩, hu.drew'.drew'.drew'⟩ | exact ⟨⟨n2, at_ + i + 1, true, by simp, hnum⟩, hu.drew'.drew'⟩ | exact ⟨⟨n2, at_ + i + 1, true, by simp, hnum⟩, hu.drew'⟩ | exact ⟨⟨n2, at_ + i + 1, true, by simp, hnum⟩, hu⟩
  · rw [if_neg (by omega)] at hnum
    have hi9' : ¬ (i : Int) = 9 := by omega
    simp (config := { maxSteps := 3000000 }) (disch := omega) only [push_cast, Nat.reduceBEq, Nat.reduceEqDiff, Nat.reduceAdd, Nat.reduceMul, Nat.reduceSub, Nat.reduceLT, Int.reduceToNat, Int.reduceLT, Int.reduceLE, Int.reduceEq, Int.reduceAdd, Int.reduceSub, Int.reduceNeg, Int.reduceMul, q0, a1, a2, a3, a4, e7, e8, ea] <;> first | exact ⟨k, by omega, i + 1, n2, by omega, by simp, hn', hnum, hu.drew'.drew'.drew'⟩ | exact ⟨k, by omega, i + 1, n2, by omega, by simp, hn', hnum, hu.drew'.drew'⟩ | exact ⟨k, by omega, i + 1, n2, by omega, by simp, hn', hnum, hu.drew'⟩ | exact ⟨k, by omega, i + 1, n2, by omega, by simp, hn', hnum, hu⟩
end Go.Proofs.Ytlnladcfgieggaa.Fd
