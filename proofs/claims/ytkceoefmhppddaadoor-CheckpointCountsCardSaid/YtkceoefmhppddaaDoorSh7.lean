/-
  The program's digest.
-/
import Derived.Test.YtkceoefmhppddaaDoorSh6
namespace Go.Proofs.YtkceoefmhppddaaDoor.Fd
set_option linter.unusedSimpArgs false
set_option linter.unusedVariables false
open Go
set_option maxRecDepth 100000
set_option maxHeartbeats 2000000 in
theorem initial_ok {w : World} : Ok (den Tryd.prog 56 #[] w) fun v w' => v = initP.val ∧ Upd (fun _ => False) w w' := by
  refine den_okC1 (args := []) 0 100 Tryd.func56 rfl mixed in56 ok56 rfl ?_
  rw [init_val]
  have hup : Upd (fun _ => False) w (set8 (w.alloc (.cells [Value.int .u32 0, .int .u32 0, .int .u32 0, .int .u32 0, .int .u32 0, .int .u32 0, .int .u32 0, .int .u32 0].toArray 100 (0, 0))) w.heap.size initP) := Upd.alloc.trans set8_upd fun x hx e => by omega
  unfold set8 at hup
  simp (config := { maxSteps := 3000000 }) (disch := omega) only [push_cast, Nat.reduceBEq, Nat.reduceEqDiff, Nat.reduceAdd, Nat.reduceMul, Nat.reduceSub, Nat.reduceLT, Int.reduceToNat, Int.reduceLT, Int.reduceLE, Int.reduceEq, Int.reduceAdd, Int.reduceSub, Int.reduceNeg, Int.reduceMul]
  exact hup
/-- The object of a digest under way. -/
def SO (w : World) (p : Nat) (s : H8) (rest : Value) (n : Nat) : Prop := Blk w p (s.row ++ [rest, .int .i64 n]) 103
theorem bld_state (a b c d e f g h : Int) (w : World) : bldS Tryd.prog 103 #[(0, .agg #[.int .u32 a, .int .u32 b, .int .u32 c, .int .u32 d, .int .u32 e, .int .u32 f, .int .u32 g, .int .u32 h])] w =
    some (.agg #[.int .u32 a, .int .u32 b, .int .u32 c, .int .u32 d, .int .u32 e, .int .u32 f, .int .u32 g, .int .u32 h, .slice none 0 0, .int .i64 0], w) := by kernel_rfl
attribute [push_cast] bld_state
set_option maxHeartbeats 2000000 in
theorem shaNew_ok {w : World} : Ok (den Tryd.prog 53 #[] w) fun v w' => ∃ p, v = .pointer (some ⟨p, 0, none⟩) ∧ w.heap.size ≤ p ∧ SO w' p initP (.slice none 0 0) 0 ∧ Upd (fun _ => False) w w' := by
  refine den_ok (args := []) rs53 Tryd.func53 rfl mixed in53 ok53 rfl ?_
  simp (config := { maxSteps := 3000000 }) (disch := omega) only [push_cast, Nat.reduceBEq, Nat.reduceEqDiff, Nat.reduceAdd, Nat.reduceMul, Nat.reduceSub, Nat.reduceLT, Int.reduceToNat, Int.reduceLT, Int.reduceLE, Int.reduceEq, Int.reduceAdd, Int.reduceSub, Int.reduceNeg, Int.reduceMul]
  refine Ok.use initial_ok ?_
  rintro v w1 ⟨rfl, hu1⟩
  rw [init_val]
  simp (config := { maxSteps := 3000000 }) (disch := omega) only [push_cast, Nat.reduceBEq, Nat.reduceEqDiff, Nat.reduceAdd, Nat.reduceMul, Nat.reduceSub, Nat.reduceLT, Int.reduceToNat, Int.reduceLT, Int.reduceLE, Int.reduceEq, Int.reduceAdd, Int.reduceSub, Int.reduceNeg, Int.reduceMul]
  exact ⟨_, rfl, hu1.size, Blk.new, hu1.trans Upd.alloc fun _ _ h => h⟩
theorem slc_take {w : World} {F : Nat → Prop} {b o c : Nat} {d : List Int} (h : SlB w F (.slice (some ⟨b, o, none⟩) d.length c) d) {n : Nat} (hn : n ≤ d.length) (hc : d.length ≤ c) : SlC w F (.slice (some ⟨b, o, none⟩) n c) (d.take n) := by
  have hl : (d.take n).length = n := by rw [List.length_take]; omega
  have h2 := slb_lh h (l := 0) (n := n) (by omega) hc
  rw [List.drop_zero, Nat.sub_zero] at h2
  refine ⟨?_, _, c, by rw [hl], by omega⟩
  have e : (if c = 0 then o else o + 0) = o := by split <;> omega
  rw [e] at h2
  exact h2
theorem slc_drop {w : World} {F : Nat → Prop} {b o c : Nat} {d : List Int} (h : SlB w F (.slice (some ⟨b, o, none⟩) d.length c) d) {l : Nat} (hl : l ≤ d.length) (hc : d.length ≤ c) : SlC w F (.slice (some ⟨b, if c = l then o else o + l, none⟩) (d.length - l) (c - l)) (d.drop l) := by
  have hl2 : (d.drop l).length = d.length - l := by rw [List.length_drop]
  have h2 := slb_lh h (l := l) (n := d.length - l) (by omega) hc
  rw [List.take_of_length_le (by omega)] at h2
  exact ⟨h2, _, _, by rw [hl2], by omega⟩
theorem set8_blkT {w : World} {b : Nat} {s r : H8} {E : TypeId} {tl : List Value} (h : Blk w b (r.row ++ tl) E) : Blk (set8 w b s) b (s.row ++ tl) E :=
  (((((((h.set 0 (vW s.a)).set 1 (vW s.b)).set 2 (vW s.c)).set 3 (vW s.d)).set 4 (vW s.e)).set 5 (vW s.f)).set 6 (vW s.g)).set 7 (vW s.h)
theorem fo_next {B : List Int} {s : H8} {t : Nat} : fo B s (t + 1) = blkP ((B.drop (64 * t)).take 64) (fo B s t) := rfl
set_option maxHeartbeats 2000000 in
theorem shaWrite_ok {w : World} (hK : KT w) {p : Nat} (hS : SO w p initP (.slice none 0 0) 0) (hp : p ≠ 0) {y : Value} {b : List Int} (hy : SlC w (fun x => x = p) y b) (hl : b.length ≤ 900000000) :
    Ok (den Tryd.prog 54 #[.pointer (some ⟨p, 0, none⟩), y] w) fun _ w' => ∃ rv, SO w' p (fo b initP (b.length / 64)) rv b.length ∧ Bow w' rv (b.drop (64 * (b.length / 64))) ∧ (∀ g, rv.ownBlock = some g → w.heap.size ≤ g) ∧ Upd (fun x => x = p) w w' := by
  obtain ⟨ya, yc, rfl, hyc⟩ := id hy.2
  refine den_ok (args := [.pointer (some ⟨p, 0, none⟩), .slice ya b.length yc]) rs54 Tryd.func54 rfl mixed in54 ok54 rfl ?_
  have hS' := hS
  unfold SO initP H8.row vW at hS
  dsimp only [List.cons_append, List.nil_append] at hS
  have hpl := hS.lt
  have hb0 : Blk (w.setCell ⟨p, 9, none⟩ (.int .i64 (0 + (b.length : Int)))) p ((fo b initP 0).row ++ [.slice none 0 0, .int .i64 b.length]) 103 := by
    have h0 := hS'.set 9 (.int .i64 (0 + (b.length : Int)))
    rw [Int.zero_add] at h0 ⊢
    exact h0
  have hu0 : Upd (fun x => x = p) w (w.setCell ⟨p, 9, none⟩ (.int .i64 (0 + (b.length : Int)))) := Upd.set rfl
  simp (config := { maxSteps := 3000000 }) (disch := omega) only [push_cast, Nat.reduceBEq, Nat.reduceEqDiff, Nat.reduceAdd, Nat.reduceMul, Nat.reduceSub, Nat.reduceLT, Int.reduceToNat, Int.reduceLT, Int.reduceLE, Int.reduceEq, Int.reduceAdd, Int.reduceSub, Int.reduceNeg, Int.reduceMul, hS.cell, hS.free]
  generalize w.setCell ⟨p, 9, none⟩ (.int .i64 (0 + (b.length : Int))) = w0 at *
  clear hS hS'
  have hT : b.length / 64 * 64 ≤ b.length ∧ b.length < b.length / 64 * 64 + 64 := by omega
  obtain ⟨T, hTe⟩ : ∃ T, T = b.length / 64 := ⟨_, rfl⟩
  rw [← hTe] at hT ⊢
  refine loop_inv (I := fun k st w' => Bx (∃ t v, k + t = T ∧ st = [v] ∧ SlC w' (fun x => x = p) v (b.drop (64 * t)) ∧ Blk w' p ((fo b initP t).row ++ [.slice none 0 0, .int .i64 b.length]) 103 ∧ Upd (fun x => x = p) w w') ⟨⟩) ?_ T
    ⟨0, _, by omega, rfl, by simpa using hy.upd hu0 (fun _ h => h), hb0, hu0⟩
  clear hb0 hu0
  rintro k st w1 ⟨t, v, hk, rfl, h1, hb1, hu1⟩
  obtain ⟨va, vc, rfl, hvc⟩ := id h1.2
  have hs1 := hu1.size
  have hld : (b.drop (64 * t)).length = b.length - 64 * t := List.length_drop
  have hnext := fo_next (B := b) (s := initP) (t := t)
  obtain ⟨N, hN⟩ : ∃ N, N = b.length := ⟨_, rfl⟩
  rw [← hN] at hb1 ⊢
  have hd64 : b.drop (64 * (t + 1)) = (b.drop (64 * t)).drop 64 := by rw [List.drop_drop]; congr 1
  have hlt1 := hb1.lt
  by_cases hk0 : k = 0
  · obtain rfl : t = T := by omega
    generalize fo b initP t = s at *
    obtain ⟨a, b', c', d, e, f, g', h⟩ := s
    unfold H8.row vW at hb1
    dsimp only [List.cons_append, List.nil_append] at hb1
    have hlt : ¬ (64 : Int) ≤ (b.drop (64 * t)).length := by omega
    simp (config := { maxSteps := 3000000 }) (disch := omega) only [push_cast, Nat.reduceBEq, Nat.reduceEqDiff, Nat.reduceAdd, Nat.reduceMul, Nat.reduceSub, Nat.reduceLT, Int.reduceToNat, Int.reduceLT, Int.reduceLE, Int.reduceEq, Int.reduceAdd, Int.reduceSub, Int.reduceNeg, Int.reduceMul, hlt]
    refine (Fr.empty).app (h1.1.upd (Upd.alloc (F := fun _ => False)) fun _ h => h.elim) (by rw [List.length_nil, hld]; omega) ?_
    intro v2 w2 h2 hu2
    rw [List.nil_append] at h2
    obtain ⟨va2, vc2, rfl, _⟩ := h2.own.form
    have hb2 := hb1.upd h2.upd fun h => h
    simp (config := { maxSteps := 3000000 }) (disch := omega) only [push_cast, Nat.reduceBEq, Nat.reduceEqDiff, Nat.reduceAdd, Nat.reduceMul, Nat.reduceSub, Nat.reduceLT, Int.reduceToNat, Int.reduceLT, Int.reduceLE, Int.reduceEq, Int.reduceAdd, Int.reduceSub, Int.reduceNeg, Int.reduceMul, hb2.cell, hb2.free]
    have hu3 : Upd (fun x => x = p) w2 (w2.setCell ⟨p, 8, none⟩ (.slice va2 (b.drop (64 * t)).length vc2)) := Upd.set rfl
    have hnew : ∀ g, (Value.slice va2 (b.drop (64 * t)).length vc2).ownBlock = some g → w.heap.size ≤ g := fun g hg => by have := h2.new g hg; omega
    exact ⟨_, hb2.set 8 _, h2.own.upd hu3 fun g hg e => by have := h2.new g hg; omega, hnew, (hu1.trans (h2.upd.mono (G := fun x => x = p) fun _ _ h => h.elim) fun _ _ h => h).trans hu3 fun _ _ h => h⟩
  have hlt : (64 : Int) ≤ (b.drop (64 * t)).length := by omega
  generalize fo b initP t = s at *
  generalize b.drop (64 * t) = B at *
  have hB0 : B[0]? = some (B[0]'(by omega)) := List.getElem?_eq_getElem _
  obtain ⟨g, o, c, e, hx⟩ := h1.at_ hB0
  clear hB0 hx
  injection e with e1 e2 e3
  subst e1 e3
  clear e2
  have htk := slc_take h1.1 (n := 64) (by omega) hvc
  have hdr := slc_drop h1.1 (l := 64) (by omega) hvc
  have hl64 : (B.take 64).length = 64 := by rw [List.length_take]; omega
  generalize B.take 64 = Q at *
  obtain ⟨a, b', c', d, e, f, g', h⟩ := s
  have hs3 := hb1
  unfold H8.row vW at hb1
  dsimp only [List.cons_append, List.nil_append] at hb1
  have hcn : (64 : Int) ≤ vc := by omega
  have hsx := slc_hi (P := Tryd.prog) (t := 31) (w := w1) (b := g) (o := o) (n := B.length) (c := vc) (k := .i64) (h := 64) (by omega) hcn
  have hsld := htk.1.upd (Upd.drew (F := fun _ => False)) fun _ h => h.elim
  have hdrd := hdr.upd (Upd.drew (F := fun _ => False)) fun _ h => h.elim
  have hb3d := hb1.drew
  have hs3d := hs3.drew
  have hu3d := hu1.drew'
  have hsxd := slc_hi (P := Tryd.prog) (t := 31) (w := w1.drew) (b := g) (o := o) (n := B.length) (c := vc) (k := .i64) (h := 64) (by omega) hcn
  simp (config := { maxSteps := 3000000 }) (disch := omega) only [push_cast, Nat.reduceBEq, Nat.reduceEqDiff, Nat.reduceAdd, Nat.reduceMul, Nat.reduceSub, Nat.reduceLT, Int.reduceToNat, Int.reduceLT, Int.reduceLE, Int.reduceEq, Int.reduceAdd, Int.reduceSub, Int.reduceNeg, Int.reduceMul, hb1.cell, hb1.free, hlt, hsx]
  generalize w1.drew = w3d at *
  rw [← hl64] at hsld
  have hcall := block_ok (s := ⟨a, b', c', d, e, f, g', h⟩) (hK.upd hu3d (fun e => hp e.symm)) hl64 hsld
  rw [hl64] at hcall
  refine Ok.use hcall ?_
  rintro v w4 ⟨rfl, hu4⟩
  rw [← hnext]
  generalize hfo : fo b initP (t + 1) = s' at *
  obtain ⟨a1, b1, c1, d1, e1, f1, g1, h1⟩ := s'
  have hb4 := hb3d.upd hu4 fun h => h
  have hsx4 := slc_hi (P := Tryd.prog) (t := 31) (w := w4) (b := g) (o := o) (n := B.length) (c := vc) (k := .i64) (h := 64) (by omega) hcn
  unfold H8.val H8.row vW
  simp (config := { maxSteps := 3000000 }) (disch := omega) only [push_cast, Nat.reduceBEq, Nat.reduceEqDiff, Nat.reduceAdd, Nat.reduceMul, Nat.reduceSub, Nat.reduceLT, Int.reduceToNat, Int.reduceLT, Int.reduceLE, Int.reduceEq, Int.reduceAdd, Int.reduceSub, Int.reduceNeg, Int.reduceMul, hb1.cell, hb1.free, hb3d.cell, hb3d.free, hb4.cell, hb4.free, hlt, hsx, hsxd, hsx4]
  have hb := set8_blkT (s := ⟨a1, b1, c1, d1, e1, f1, g1, h1⟩) (hs3d.upd hu4 fun h => h)
  have hup8 := set8_upd (w := w4) (b := p) (s := ⟨a1, b1, c1, d1, e1, f1, g1, h1⟩)
  have hup := (hu3d.trans (hu4.mono (G := fun x => x = p) fun _ _ h => h.elim) fun _ _ h => h).trans hup8 fun _ _ h => h
  have hsl := (hdrd.upd hu4 (fun _ h => h.elim)).upd hup8 fun _ h => h
  unfold set8 vW at hb hup hsl
  dsimp only at hb hup hsl
  rw [← hd64] at hsl
  generalize ((((((((w4.setCell ⟨p, 0, none⟩ (.int .u32 a1.toNat)).setCell ⟨p, 1, none⟩ (.int .u32 b1.toNat)).setCell ⟨p, 2, none⟩ (.int .u32 c1.toNat)).setCell ⟨p, 3, none⟩ (.int .u32 d1.toNat)).setCell ⟨p, 4, none⟩ (.int .u32 e1.toNat)).setCell ⟨p, 5, none⟩ (.int .u32 f1.toNat)).setCell ⟨p, 6, none⟩ (.int .u32 g1.toNat)).setCell ⟨p, 7, none⟩ (.int .u32 h1.toNat)) = w5 at *
  have hall : Bx (∃ t v, k - 1 + t = T ∧ [Value.slice (some ⟨g, if vc = 64 then o else o + 64, none⟩) (B.length - 64) (vc - 64)] = [v] ∧ SlC w5 (fun x => x = p) v (b.drop (64 * t)) ∧ Blk w5 p ((fo b initP t).row ++ [.slice none 0 0, .int .i64 N]) 103 ∧ Upd (fun x => x = p) w w5) ⟨⟩ :=
    ⟨t + 1, _, by omega, rfl, hsl, by rw [hfo]; exact hb, hup⟩
  exact ⟨k - 1, by omega, hall⟩
end Go.Proofs.YtkceoefmhppddaaDoor.Fd
