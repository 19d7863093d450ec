/-
  Open.
-/
import Derived.Test.YtkceoefmhppddaaDoorSt6
namespace Go.Proofs.YtkceoefmhppddaaDoor.Fd
set_option linter.unusedSimpArgs false
set_option linter.unusedVariables false
open Go
set_option maxRecDepth 100000
def newestP (a b : Option (List Int × Nat)) : Nat × List Int × Nat :=
  match a, b with
  | none, none => (1, [], 0)
  | some x, none => (0, x)
  | none, some y => (1, y)
  | some x, some y => if x.2 < y.2 then (1, y) else (0, x)
theorem slotP_pos {ss : List (List Int)} {x : List Int × Nat} (h : slotP ss = some x) : 1 ≤ x.2 ∧ x.2 ≤ 4611686018427387904 ∧ x.1.length ≤ ss.tail.flatten.length ∧ ∃ k, x.1 = ss.tail.flatten.take k := by
  unfold slotP at h
  dsimp only at h
  split at h
  · rename_i hc
    cases h
    exact ⟨hc.1, hc.2.1, by rw [List.length_take]; omega, _, rfl⟩
  · cases h
/-- What Open finds. -/
def openC (d : DS) (first n : Nat) : CS :=
  let r := newestP (slotP (slotS d first n)) (slotP (slotS d (first + n) n))
  ⟨first, n, r.1, r.2.1, r.2.2, false⟩
def stepC (c : CS) (x : Nat) (r : Option (List Int × Nat)) : CS :=
  match r with
  | none => c
  | some y => if c.gen < y.2 then { c with slot := x, newest := y.1, gen := y.2 } else c
theorem openC_eq {d : DS} {first n : Nat} : openC d first n = stepC (stepC ⟨first, n, 1, [], 0, false⟩ 0 (slotP (slotS d (first + 0 * n) n))) 1 (slotP (slotS d (first + 1 * n) n)) := by
  unfold openC
  rw [Nat.zero_mul, Nat.one_mul, Nat.add_zero]
  cases ha : slotP (slotS d first n) with
  | none =>
    cases hb : slotP (slotS d (first + n) n) with
    | none => rfl
    | some y =>
      have := (slotP_pos hb).1
      show _ = stepC ⟨first, n, 1, [], 0, false⟩ 1 (some y)
      simp only [newestP, stepC]
      rw [if_pos (by show 0 < y.2; omega)]
  | some x =>
    have hx := (slotP_pos ha).1
    have e : stepC ⟨first, n, 1, [], 0, false⟩ 0 (some x) = ⟨first, n, 0, x.1, x.2, false⟩ := by
      simp only [stepC]
      rw [if_pos (by show 0 < x.2; omega)]
    rw [e]
    cases hb : slotP (slotS d (first + n) n) with
    | none => rfl
    | some y =>
      simp only [newestP, stepC]
      by_cases h : x.2 < y.2
      · rw [if_pos h, if_pos h]
      · rw [if_neg h, if_neg h]
theorem CW.set3 {w : World} {D J : Nat → Prop} {p cb : Nat} {s : DS × CS} (h : CW w D J p cb s) {nv : Value} {b : List Int} (hb : SlC w (FF D J) nv b) (hr : Rng b) (tg g : Nat) :
    CW (((w.setCell ⟨cb, 3, none⟩ (.int .i64 (tg : Int))).setCell ⟨cb, 4, none⟩ nv).setCell ⟨cb, 5, none⟩ (.int .i64 (g : Int))) D J p cb (s.1, { s.2 with slot := tg, newest := b, gen := g }) ∧ Upd (fun x => x = cb) w (((w.setCell ⟨cb, 3, none⟩ (.int .i64 (tg : Int))).setCell ⟨cb, 4, none⟩ nv).setCell ⟨cb, 5, none⟩ (.int .i64 (g : Int))) := by
  obtain ⟨sv, h1, h2, h3⟩ := h.obj
  have q1 : Upd (fun x => x = cb) w (w.setCell ⟨cb, 3, none⟩ (.int .i64 (tg : Int))) := Upd.set rfl
  have q2 := q1.setIn (a := ⟨cb, 4, none⟩) (v := nv) rfl
  have q3 := q2.setIn (a := ⟨cb, 5, none⟩) (v := .int .i64 (g : Int)) rfl
  exact ⟨(h.set q3 ⟨nv, ((h1.set 3 _).set 4 _).set 5 _, hb.upd q3 (fun x e => .inr (by rw [e]; exact h.jj)), hr⟩).1, q3⟩
theorem bld_store (a : Option Addr) (x y z : Int) (w : World) : bldS Tryd.prog 68 #[(0, .pointer a), (1, .int .i64 x), (2, .int .i64 y), (3, .int .i64 z)] w = some (.agg #[.pointer a, .int .i64 x, .int .i64 y, .int .i64 z, .slice none 0 0, .int .i64 0, .bool false], w) := by kernel_rfl
attribute [push_cast] bld_store
theorem open_bad {w : World} {D : Nat → Prop} {p : Nat} {d : DS} (h : IsDisk w D p d) {first count : Int} (hN : d.dur.length ≤ 100000) (hf : -9223372036854775808 ≤ first ∧ first < 9223372036854775808) (hb : first < 0 ∨ count < 4 ∨ (d.dur.length : Int) < count ∨ (d.dur.length : Int) - count < first ∨ d.size < 64) :
    Ok (den Tryd.prog 13 #[.pointer (some ⟨p, 0, none⟩), .int .i64 first, .int .i64 count] w) fun v w' => v = .tuple #[.pointer none, .int .i64 1] ∧ Upd (fun _ => False) w w' := by
  refine den_ok (args := [.pointer (some ⟨p, 0, none⟩), .int .i64 first, .int .i64 count]) rs13 Tryd.func13 rfl mixed in13 ok13 rfl ?_
  by_cases h1 : first < 0
  · simp (config := { maxSteps := 3000000 }) (disch := omega) only [push_cast, Nat.reduceBEq, Nat.reduceEqDiff, Nat.reduceAdd, Nat.reduceMul, Nat.reduceSub, Nat.reduceLT, Int.reduceToNat, Int.reduceLT, Int.reduceLE, Int.reduceEq, Int.reduceAdd, Int.reduceSub, Int.reduceNeg, Int.reduceMul, h1]
    exact Upd.refl
  by_cases h2 : count < 4
  · simp (config := { maxSteps := 3000000 }) (disch := omega) only [push_cast, Nat.reduceBEq, Nat.reduceEqDiff, Nat.reduceAdd, Nat.reduceMul, Nat.reduceSub, Nat.reduceLT, Int.reduceToNat, Int.reduceLT, Int.reduceLE, Int.reduceEq, Int.reduceAdd, Int.reduceSub, Int.reduceNeg, Int.reduceMul, h1, h2]
    exact Upd.refl
  simp (config := { maxSteps := 3000000 }) (disch := omega) only [push_cast, Nat.reduceBEq, Nat.reduceEqDiff, Nat.reduceAdd, Nat.reduceMul, Nat.reduceSub, Nat.reduceLT, Int.reduceToNat, Int.reduceLT, Int.reduceLE, Int.reduceEq, Int.reduceAdd, Int.reduceSub, Int.reduceNeg, Int.reduceMul, h1, h2]
  refine Ok.use (Sectors_ok h) ?_
  rintro v _ ⟨rfl, rfl⟩
  generalize hn : d.dur.length = n at *
  by_cases h3 : (n : Int) < count
  · simp (config := { maxSteps := 3000000 }) (disch := omega) only [push_cast, Nat.reduceBEq, Nat.reduceEqDiff, Nat.reduceAdd, Nat.reduceMul, Nat.reduceSub, Nat.reduceLT, Int.reduceToNat, Int.reduceLT, Int.reduceLE, Int.reduceEq, Int.reduceAdd, Int.reduceSub, Int.reduceNeg, Int.reduceMul, h3]
    exact Upd.refl
  simp (config := { maxSteps := 3000000 }) (disch := omega) only [push_cast, Nat.reduceBEq, Nat.reduceEqDiff, Nat.reduceAdd, Nat.reduceMul, Nat.reduceSub, Nat.reduceLT, Int.reduceToNat, Int.reduceLT, Int.reduceLE, Int.reduceEq, Int.reduceAdd, Int.reduceSub, Int.reduceNeg, Int.reduceMul, h3]
  refine Ok.use (Sectors_ok h) ?_
  rintro v _ ⟨rfl, rfl⟩
  rw [hn]
  by_cases h4 : (n : Int) - count < first
  · simp (config := { maxSteps := 3000000 }) (disch := omega) only [push_cast, Nat.reduceBEq, Nat.reduceEqDiff, Nat.reduceAdd, Nat.reduceMul, Nat.reduceSub, Nat.reduceLT, Int.reduceToNat, Int.reduceLT, Int.reduceLE, Int.reduceEq, Int.reduceAdd, Int.reduceSub, Int.reduceNeg, Int.reduceMul, h4]
    exact Upd.refl
  simp (config := { maxSteps := 3000000 }) (disch := omega) only [push_cast, Nat.reduceBEq, Nat.reduceEqDiff, Nat.reduceAdd, Nat.reduceMul, Nat.reduceSub, Nat.reduceLT, Int.reduceToNat, Int.reduceLT, Int.reduceLE, Int.reduceEq, Int.reduceAdd, Int.reduceSub, Int.reduceNeg, Int.reduceMul, h4]
  refine Ok.use (Size_ok h) ?_
  rintro v _ ⟨rfl, rfl⟩
  have h5 : (d.size : Int) < 64 := by omega
  simp (config := { maxSteps := 3000000 }) (disch := omega) only [push_cast, Nat.reduceBEq, Nat.reduceEqDiff, Nat.reduceAdd, Nat.reduceMul, Nat.reduceSub, Nat.reduceLT, Int.reduceToNat, Int.reduceLT, Int.reduceLE, Int.reduceEq, Int.reduceAdd, Int.reduceSub, Int.reduceNeg, Int.reduceMul, h5]
  exact Upd.refl
set_option maxHeartbeats 2000000 in
theorem open_ok {w : World} (hK : KT w) {D : Nat → Prop} {p : Nat} {d : DS} (h : IsDisk w D p d) (hD0 : ¬ D 0) {N sz i : Nat} (hs : Sz N sz i d) (hi : i ≤ 900000) (hN : N ≤ 100000) (hz : 64 ≤ sz) (hz2 : sz ≤ 4096) {first count : Nat} (hc4 : 4 ≤ count) (hfc : first + count ≤ N) (hc6 : count ≤ 60000) (hf6 : first ≤ 60000)
    (hsec : ∀ y, y < N → (d.content y).length = sz ∧ Rng (d.content y)) :
    Ok (den Tryd.prog 13 #[.pointer (some ⟨p, 0, none⟩), .int .i64 (first : Int), .int .i64 (count : Int)] w) fun v w' =>
      (if d.off then v = .tuple #[.pointer none, .int .i64 8] else ∃ cb, w.heap.size ≤ cb ∧ v = .tuple #[.pointer (some ⟨cb, 0, none⟩), .int .i64 0] ∧ CW w' D (fun b => b = cb) p cb (d, openC d first (count / 2))) ∧ Upd (fun _ => False) w w' := by
  have hdl := hs.dur
  have hsz := hs.size
  refine den_ok (args := [.pointer (some ⟨p, 0, none⟩), .int .i64 (first : Int), .int .i64 (count : Int)]) rs13 Tryd.func13 rfl mixed in13 ok13 rfl ?_
  have h1 : ¬ (first : Int) < 0 := by omega
  have h2 : ¬ (count : Int) < 4 := by omega
  have h3 : ¬ (N : Int) < (count : Int) := by omega
  have h4 : ¬ (N : Int) - (count : Int) < (first : Int) := by omega
  have h5 : ¬ (sz : Int) < 64 := by omega
  simp (config := { maxSteps := 3000000 }) (disch := omega) only [push_cast, Nat.reduceBEq, Nat.reduceEqDiff, Nat.reduceAdd, Nat.reduceMul, Nat.reduceSub, Nat.reduceLT, Int.reduceToNat, Int.reduceLT, Int.reduceLE, Int.reduceEq, Int.reduceAdd, Int.reduceSub, Int.reduceNeg, Int.reduceMul, h1, h2]
  refine Ok.use (Sectors_ok h) ?_
  rintro v _ ⟨rfl, rfl⟩
  rw [hdl]
  simp (config := { maxSteps := 3000000 }) (disch := omega) only [push_cast, Nat.reduceBEq, Nat.reduceEqDiff, Nat.reduceAdd, Nat.reduceMul, Nat.reduceSub, Nat.reduceLT, Int.reduceToNat, Int.reduceLT, Int.reduceLE, Int.reduceEq, Int.reduceAdd, Int.reduceSub, Int.reduceNeg, Int.reduceMul, h3]
  refine Ok.use (Sectors_ok h) ?_
  rintro v _ ⟨rfl, rfl⟩
  rw [hdl]
  simp (config := { maxSteps := 3000000 }) (disch := omega) only [push_cast, Nat.reduceBEq, Nat.reduceEqDiff, Nat.reduceAdd, Nat.reduceMul, Nat.reduceSub, Nat.reduceLT, Int.reduceToNat, Int.reduceLT, Int.reduceLE, Int.reduceEq, Int.reduceAdd, Int.reduceSub, Int.reduceNeg, Int.reduceMul, h4]
  refine Ok.use (Size_ok h) ?_
  rintro v _ ⟨rfl, rfl⟩
  rw [hsz]
  simp (config := { maxSteps := 3000000 }) (disch := omega) only [push_cast, Nat.reduceBEq, Nat.reduceEqDiff, Nat.reduceAdd, Nat.reduceMul, Nat.reduceSub, Nat.reduceLT, Int.reduceToNat, Int.reduceLT, Int.reduceLE, Int.reduceEq, Int.reduceAdd, Int.reduceSub, Int.reduceNeg, Int.reduceMul, h5]
  refine Ok.use (Down_ok h) ?_
  rintro v _ ⟨rfl, rfl⟩
  cases hoff : d.off
  · have e2 : IntKind.i64.wrap ((count : Int).tdiv 2) = ((count / 2 : Nat) : Int) := by
      rw [show (2 : Int) = ((2 : Nat) : Int) from rfl, ← Int.ofNat_tdiv, IntKind.wrap_i64]; omega
    obtain ⟨n, hn⟩ : ∃ n, n = count / 2 := ⟨_, rfl⟩
    rw [← hn] at e2 ⊢
    simp (config := { maxSteps := 3000000 }) (disch := omega) only [push_cast, Nat.reduceBEq, Nat.reduceEqDiff, Nat.reduceAdd, Nat.reduceMul, Nat.reduceSub, Nat.reduceLT, Int.reduceToNat, Int.reduceLT, Int.reduceLE, Int.reduceEq, Int.reduceAdd, Int.reduceSub, Int.reduceNeg, Int.reduceMul, e2]
    have hnew : Blk (w.alloc (.cells [.pointer (some ⟨p, 0, none⟩), .int .i64 (first : Int), .int .i64 (n : Int), .int .i64 1, .slice none 0 0, .int .i64 0, .bool false].toArray 68 (0, 0))) w.heap.size [.pointer (some ⟨p, 0, none⟩), .int .i64 (first : Int), .int .i64 (n : Int), .int .i64 1, .slice none 0 0, .int .i64 0, .bool false] 68 := Blk.new
    have hal : Upd (fun _ => False) w (w.alloc (.cells [.pointer (some ⟨p, 0, none⟩), .int .i64 (first : Int), .int .i64 (n : Int), .int .i64 1, .slice none 0 0, .int .i64 0, .bool false].toArray 68 (0, 0))) := Upd.alloc
    have hsz1 : (w.alloc (.cells [.pointer (some ⟨p, 0, none⟩), .int .i64 (first : Int), .int .i64 (n : Int), .int .i64 1, .slice none 0 0, .int .i64 0, .bool false].toArray 68 (0, 0))).heap.size = w.heap.size + 1 := size_alloc
    have hbd := h.bd
    obtain ⟨cb, hcb⟩ : ∃ cb, cb = w.heap.size := ⟨_, rfl⟩
    have hw0 : CW (w.alloc (.cells [.pointer (some ⟨p, 0, none⟩), .int .i64 (first : Int), .int .i64 (n : Int), .int .i64 1, .slice none 0 0, .int .i64 0, .bool false].toArray 68 (0, 0))) D (fun b => b = cb) p cb (d, ⟨first, n, 1, [], 0, false⟩) :=
      ⟨h.upd hal (fun _ _ h => h), ⟨.slice none 0 0, by rw [hcb]; exact hnew, ⟨⟨none, 0, rfl, fun h => absurd rfl h⟩, none, 0, rfl, Nat.le_refl _⟩, fun x hx => by cases hx⟩, rfl, fun b hb => ⟨fun hd => by have := hbd b hd; omega, by rw [hsz1, hb, hcb]; omega⟩, hK.upd hal (fun h => h), hD0, fun e => by have := hK.1; omega⟩
    rw [← hcb]
    generalize (w.alloc (.cells [.pointer (some ⟨p, 0, none⟩), .int .i64 (first : Int), .int .i64 (n : Int), .int .i64 1, .slice none 0 0, .int .i64 0, .bool false].toArray 68 (0, 0))) = w0 at *
    rw [openC_eq]
    refine loop_inv (I := fun k st w' => Bx (∃ t c, k + t = 2 ∧ st = [.int .i64 (t : Int)] ∧ CW w' D (fun b => b = cb) p cb (d, c) ∧ c.first = first ∧ c.n = n ∧ c.gen ≤ 4611686018427387904 ∧ Upd (fun x => x = cb) w0 w' ∧
        stepC (stepC ⟨first, n, 1, [], 0, false⟩ 0 (slotP (slotS d (first + 0 * n) n))) 1 (slotP (slotS d (first + 1 * n) n)) = (if t = 0 then stepC (stepC c 0 (slotP (slotS d (first + 0 * n) n))) 1 (slotP (slotS d (first + 1 * n) n)) else if t = 1 then stepC c 1 (slotP (slotS d (first + 1 * n) n)) else c)) ⟨⟩) ?_ 2
      ⟨0, _, by omega, rfl, hw0, rfl, rfl, by show 0 ≤ _; omega, Upd.refl, by rw [if_pos rfl]⟩
    rintro k st w1 ⟨t, c, hk, rfl, hw1, hcf, hcn, hcg, hu1, hrest⟩
    by_cases hk0 : k = 0
    · obtain rfl : t = 2 := by omega
      rw [if_neg (by omega), if_neg (by omega)] at hrest
      rw [hrest]
      simp (config := { maxSteps := 3000000 }) (disch := omega) only [push_cast, Nat.reduceBEq, Nat.reduceEqDiff, Nat.reduceAdd, Nat.reduceMul, Nat.reduceSub, Nat.reduceLT, Int.reduceToNat, Int.reduceLT, Int.reduceLE, Int.reduceEq, Int.reduceAdd, Int.reduceSub, Int.reduceNeg, Int.reduceMul]
      exact ⟨⟨cb, by omega, rfl, hw1⟩, hal.trans hu1 fun x hx e => by omega⟩
    have htle : (t : Int) < 2 := by omega
    have hread := cread_ok hw1 hs hi (by omega) hz2 (by show c.first ≤ _; omega) (by show c.n ≤ _; omega) (by show 1 ≤ c.n; omega) (x := t) (by omega) (by show c.first + t * c.n + c.n ≤ N; rw [hcf, hcn]; have : t * n ≤ 1 * n := Nat.mul_le_mul_right n (by omega); omega) hoff hsec
    dsimp only at hread
    rw [hcf, hcn] at hread
    obtain ⟨cf, cn, cs, cnew, cg, cd⟩ := c
    dsimp only at hcf hcn hcg
    subst hcf hcn
    obtain ⟨sa, sc, hb1, hn1, _⟩ := hw1.at_
    dsimp only at hb1
    simp (config := { maxSteps := 3000000 }) (disch := omega) only [push_cast, Nat.reduceBEq, Nat.reduceEqDiff, Nat.reduceAdd, Nat.reduceMul, Nat.reduceSub, Nat.reduceLT, Int.reduceToNat, Int.reduceLT, Int.reduceLE, Int.reduceEq, Int.reduceAdd, Int.reduceSub, Int.reduceNeg, Int.reduceMul, htle, hb1.cell]
    refine Ok.use hread ?_
    rintro v w2 ⟨⟨u, g, hd, rfl, hm⟩, hu2⟩
    have hw2 := hw1.quiet hu2
    have hb2 := hb1.upd hu2 fun h => h
    have hnext : stepC (stepC ⟨cf, cn, 1, [], 0, false⟩ 0 (slotP (slotS d (cf + 0 * cn) cn))) 1 (slotP (slotS d (cf + 1 * cn) cn)) = (if t + 1 = 0 then stepC (stepC (stepC ⟨cf, cn, cs, cnew, cg, cd⟩ t (slotP (slotS d (cf + t * cn) cn))) 0 (slotP (slotS d (cf + 0 * cn) cn))) 1 (slotP (slotS d (cf + 1 * cn) cn)) else if t + 1 = 1 then stepC (stepC ⟨cf, cn, cs, cnew, cg, cd⟩ t (slotP (slotS d (cf + t * cn) cn))) 1 (slotP (slotS d (cf + 1 * cn) cn)) else stepC ⟨cf, cn, cs, cnew, cg, cd⟩ t (slotP (slotS d (cf + t * cn) cn))) := by
      rw [hrest]
      rw [if_neg (show ¬ t + 1 = 0 by omega)]
      have ht : t = 0 ∨ t = 1 := by omega
      rcases ht with rfl | rfl
      · rw [if_pos rfl, if_pos rfl]
      · rw [if_neg (by omega), if_pos rfl, if_neg (by omega)]
    have hu12 : Upd (fun x => x = cb) w0 w2 := hu1.trans (hu2.mono (G := fun x => x = cb) fun _ _ h => h.elim) fun _ _ h => h
    clear hrest hread
    generalize hq : slotP (slotS d (cf + t * cn) cn) = q at *
    cases q with
    | none =>
      dsimp only at hm
      subst hm
      simp (config := { maxSteps := 3000000 }) (disch := omega) only [push_cast, Nat.reduceBEq, Nat.reduceEqDiff, Nat.reduceAdd, Nat.reduceMul, Nat.reduceSub, Nat.reduceLT, Int.reduceToNat, Int.reduceLT, Int.reduceLE, Int.reduceEq, Int.reduceAdd, Int.reduceSub, Int.reduceNeg, Int.reduceMul, htle, hb2.cell]
      exact ⟨k - 1, by omega, t + 1, ⟨cf, cn, cs, cnew, cg, cd⟩, by omega, by simp, hw2, rfl, rfl, hcg, hu12, hnext⟩
    | some y =>
      obtain ⟨b, g'⟩ := y
      dsimp only at hm
      obtain ⟨rfl, rfl, hsl⟩ := hm
      have hpos := slotP_pos hq
      have hst : stepC ⟨cf, cn, cs, cnew, cg, cd⟩ t (some (b, g')) = if cg < g' then ⟨cf, cn, t, b, g', cd⟩ else ⟨cf, cn, cs, cnew, cg, cd⟩ := rfl
      rw [hst] at hnext
      obtain ⟨ua, uc, rfl, _⟩ := id hsl.2
      by_cases hgt : cg < g'
      · rw [if_pos hgt] at hnext
        have hgi : (cg : Int) < (g' : Int) := by omega
        have hsl2 : SlC w2 (FF D fun b => b = cb) (.slice ua b.length uc) b := hsl.mono fun q _ hq2 => hq2.elim (fun hd => hw1.disk.bd q hd) fun e => (hw1.sep q e).2
        have hrb : Rng b := by
          obtain ⟨kk, e⟩ := hpos.2.2.2
          dsimp only at e
          rw [e]
          refine Rng.take (fun x hx => ?_) kk
          obtain ⟨l, hl, hxl⟩ := List.mem_flatten.1 hx
          obtain ⟨i, hi, rfl⟩ := List.mem_map.1 (List.mem_of_mem_tail hl)
          have := List.mem_range.1 hi
          have : t * cn ≤ 1 * cn := Nat.mul_le_mul_right cn (by omega)
          exact (hsec _ (by omega)).2 x hxl
        obtain ⟨hw3, hu3⟩ := hw2.set3 hsl2 hrb t g'
        simp (config := { maxSteps := 3000000 }) (disch := omega) only [push_cast, Nat.reduceBEq, Nat.reduceEqDiff, Nat.reduceAdd, Nat.reduceMul, Nat.reduceSub, Nat.reduceLT, Int.reduceToNat, Int.reduceLT, Int.reduceLE, Int.reduceEq, Int.reduceAdd, Int.reduceSub, Int.reduceNeg, Int.reduceMul, htle, hb2.cell, hb2.free, hgi]
        exact ⟨k - 1, by omega, t + 1, ⟨cf, cn, t, b, g', cd⟩, by omega, by simp, hw3, rfl, rfl, hpos.2.1, hu12.trans hu3 fun _ _ h => h, hnext⟩
      · rw [if_neg hgt] at hnext
        have hgi : ¬ (cg : Int) < (g' : Int) := by omega
        simp (config := { maxSteps := 3000000 }) (disch := omega) only [push_cast, Nat.reduceBEq, Nat.reduceEqDiff, Nat.reduceAdd, Nat.reduceMul, Nat.reduceSub, Nat.reduceLT, Int.reduceToNat, Int.reduceLT, Int.reduceLE, Int.reduceEq, Int.reduceAdd, Int.reduceSub, Int.reduceNeg, Int.reduceMul, htle, hb2.cell, hgi]
        exact ⟨k - 1, by omega, t + 1, ⟨cf, cn, cs, cnew, cg, cd⟩, by omega, by simp, hw2, rfl, rfl, hcg, hu12, hnext⟩
  · simp (config := { maxSteps := 3000000 }) (disch := omega) only [push_cast, Nat.reduceBEq, Nat.reduceEqDiff, Nat.reduceAdd, Nat.reduceMul, Nat.reduceSub, Nat.reduceLT, Int.reduceToNat, Int.reduceLT, Int.reduceLE, Int.reduceEq, Int.reduceAdd, Int.reduceSub, Int.reduceNeg, Int.reduceMul]
    exact Upd.refl
end Go.Proofs.YtkceoefmhppddaaDoor.Fd
