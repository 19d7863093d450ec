/-
  The law JournalAgain, as a reading.
-/
import Derived.Test.YtlnladcfgieggaaJnZ
namespace Go.Proofs.Ytlnladcfgieggaa.Fd
set_option linter.unusedSimpArgs false
set_option linter.unusedVariables false
open Go
set_option maxRecDepth 100000

set_option maxHeartbeats 8000000 in
theorem journalAgain_ok {w : World} {x y z z2 : Nat} (hx : x < 256) (hy : y < 256) (hz : z < 256) (hz2 : z2 < 256) {v vm vk vr : Value} {ops more : List OpJ} (hv : SlO w v ops) (hm : SlO w vm more) {keep rest : List Bool} (hk : SlT w (fun b => w.heap.size ≤ b) vk keep) (hr0 : SlT w (fun b => w.heap.size ≤ b) vr rest) :
    Ok (den Try.prog 9 #[.int .u8 (x : Int), .int .u8 (y : Int), v, vm, .int .u8 (z : Int), .int .u8 (z2 : Int), vk, vr] w) fun u w' => u = .bool true ∧ Upd (fun _ => False) w w' := by
  have t := fun {a b c : World} (x : Upd (fun _ => False) a b) (y : Upd (fun _ => False) b c) => x.trans y (F := fun _ => False) (fun _ _ h => h)
  obtain ⟨va, vc, rfl⟩ := hv.form
  obtain ⟨ma, mc, rfl⟩ := hm.form
  obtain ⟨ka, kc, rfl⟩ := hk.form
  obtain ⟨ra, rc, rfl⟩ := hr0.form
  refine den_ok (args := [.int .u8 (x : Int), .int .u8 (y : Int), .slice va ops.length vc, .slice ma more.length mc, .int .u8 (z : Int), .int .u8 (z2 : Int), .slice ka keep.length kc, .slice ra rest.length rc]) rs9 Try.func9 rfl mixed in9 ok9 rfl ?_
  simp (config := { maxSteps := 3000000 }) (disch := omega) only [push_cast, Nat.reduceBEq, Nat.reduceEqDiff, Nat.reduceAdd, Nat.reduceMul, Nat.reduceSub, Nat.reduceLT, Int.reduceToNat, Int.reduceLT, Int.reduceLE, Int.reduceEq, Int.reduceAdd, Int.reduceSub, Int.reduceNeg, Int.reduceMul]
  refine Ok.use (Few_ok hv Upd.refl) ?_
  rintro v w1 ⟨⟨q, rfl, hq⟩, hu1⟩
  cases q
  · simp (config := { maxSteps := 3000000 }) (disch := omega) only [push_cast, Nat.reduceBEq, Nat.reduceEqDiff, Nat.reduceAdd, Nat.reduceMul, Nat.reduceSub, Nat.reduceLT, Int.reduceToNat, Int.reduceLT, Int.reduceLE, Int.reduceEq, Int.reduceAdd, Int.reduceSub, Int.reduceNeg, Int.reduceMul]
    refine Ok.use awake_ok ?_
    rintro v w2 ⟨rfl, hu2⟩
    simp (config := { maxSteps := 3000000 }) (disch := omega) only [push_cast, Nat.reduceBEq, Nat.reduceEqDiff, Nat.reduceAdd, Nat.reduceMul, Nat.reduceSub, Nat.reduceLT, Int.reduceToNat, Int.reduceLT, Int.reduceLE, Int.reduceEq, Int.reduceAdd, Int.reduceSub, Int.reduceNeg, Int.reduceMul]
    exact t hu1 hu2
  have hfew := hq.1 rfl
  simp (config := { maxSteps := 3000000 }) (disch := omega) only [push_cast, Nat.reduceBEq, Nat.reduceEqDiff, Nat.reduceAdd, Nat.reduceMul, Nat.reduceSub, Nat.reduceLT, Int.reduceToNat, Int.reduceLT, Int.reduceLE, Int.reduceEq, Int.reduceAdd, Int.reduceSub, Int.reduceNeg, Int.reduceMul]
  refine Ok.use (Few_ok hm hu1) ?_
  rintro v w1b ⟨⟨q2, rfl, hq2⟩, hu1b⟩
  have hu1 := t hu1 hu1b
  cases q2
  · simp (config := { maxSteps := 3000000 }) (disch := omega) only [push_cast, Nat.reduceBEq, Nat.reduceEqDiff, Nat.reduceAdd, Nat.reduceMul, Nat.reduceSub, Nat.reduceLT, Int.reduceToNat, Int.reduceLT, Int.reduceLE, Int.reduceEq, Int.reduceAdd, Int.reduceSub, Int.reduceNeg, Int.reduceMul]
    refine Ok.use awake_ok ?_
    rintro v w2 ⟨rfl, hu2⟩
    simp (config := { maxSteps := 3000000 }) (disch := omega) only [push_cast, Nat.reduceBEq, Nat.reduceEqDiff, Nat.reduceAdd, Nat.reduceMul, Nat.reduceSub, Nat.reduceLT, Int.reduceToNat, Int.reduceLT, Int.reduceLE, Int.reduceEq, Int.reduceAdd, Int.reduceSub, Int.reduceNeg, Int.reduceMul]
    exact t hu1 hu2
  have hfewm := hq2.1 rfl
  by_cases hk100 : 100 < keep.length
  · have hk100' : (100 : Int) < keep.length := by omega
    simp (config := { maxSteps := 3000000 }) (disch := omega) only [push_cast, Nat.reduceBEq, Nat.reduceEqDiff, Nat.reduceAdd, Nat.reduceMul, Nat.reduceSub, Nat.reduceLT, Int.reduceToNat, Int.reduceLT, Int.reduceLE, Int.reduceEq, Int.reduceAdd, Int.reduceSub, Int.reduceNeg, Int.reduceMul]
    refine Ok.use awake_ok ?_
    rintro v w2 ⟨rfl, hu2⟩
    simp (config := { maxSteps := 3000000 }) (disch := omega) only [push_cast, Nat.reduceBEq, Nat.reduceEqDiff, Nat.reduceAdd, Nat.reduceMul, Nat.reduceSub, Nat.reduceLT, Int.reduceToNat, Int.reduceLT, Int.reduceLE, Int.reduceEq, Int.reduceAdd, Int.reduceSub, Int.reduceNeg, Int.reduceMul]
    exact t hu1 hu2
  have hk100' : ¬ (100 : Int) < keep.length := by omega
  by_cases hr100 : 100 < rest.length
  · have hr100' : (100 : Int) < rest.length := by omega
    simp (config := { maxSteps := 3000000 }) (disch := omega) only [push_cast, Nat.reduceBEq, Nat.reduceEqDiff, Nat.reduceAdd, Nat.reduceMul, Nat.reduceSub, Nat.reduceLT, Int.reduceToNat, Int.reduceLT, Int.reduceLE, Int.reduceEq, Int.reduceAdd, Int.reduceSub, Int.reduceNeg, Int.reduceMul]
    refine Ok.use awake_ok ?_
    rintro v w2 ⟨rfl, hu2⟩
    simp (config := { maxSteps := 3000000 }) (disch := omega) only [push_cast, Nat.reduceBEq, Nat.reduceEqDiff, Nat.reduceAdd, Nat.reduceMul, Nat.reduceSub, Nat.reduceLT, Int.reduceToNat, Int.reduceLT, Int.reduceLE, Int.reduceEq, Int.reduceAdd, Int.reduceSub, Int.reduceNeg, Int.reduceMul]
    exact t hu1 hu2
  have hr100' : ¬ (100 : Int) < rest.length := by omega
  simp (config := { maxSteps := 3000000 }) (disch := omega) only [push_cast, Nat.reduceBEq, Nat.reduceEqDiff, Nat.reduceAdd, Nat.reduceMul, Nat.reduceSub, Nat.reduceLT, Int.reduceToNat, Int.reduceLT, Int.reduceLE, Int.reduceEq, Int.reduceAdd, Int.reduceSub, Int.reduceNeg, Int.reduceMul]
  refine Ok.use (shape_small hx hy) ?_
  rintro v w2 ⟨n, s, A, rfl, hS, hu2⟩
  have hdims := hS.dims
  have hA := hS.area
  have em := hS.mul
  obtain ⟨n1, n2, s1, s2, _, _, _, a1⟩ := hS
  simp (config := { maxSteps := 3000000 }) (disch := omega) only [push_cast, Nat.reduceBEq, Nat.reduceEqDiff, Nat.reduceAdd, Nat.reduceMul, Nat.reduceSub, Nat.reduceLT, Int.reduceToNat, Int.reduceLT, Int.reduceLE, Int.reduceEq, Int.reduceAdd, Int.reduceSub, Int.reduceNeg, Int.reduceMul]
  refine Ok.use (new_run (by omega) (by omega) s1 (by omega) (t hu1 hu2)) ?_
  rintro v w3 ⟨p, D, rfl, hd3, hu3, hD⟩
  simp (config := { maxSteps := 3000000 }) (disch := omega) only [push_cast, Nat.reduceBEq, Nat.reduceEqDiff, Nat.reduceAdd, Nat.reduceMul, Nat.reduceSub, Nat.reduceLT, Int.reduceToNat, Int.reduceLT, Int.reduceLE, Int.reduceEq, Int.reduceAdd, Int.reduceSub, Int.reduceNeg, Int.reduceMul]
  refine Ok.use (open_run (f := 0) (c := n) hd3 (GoodD.new hdims) hdims (t (t hu1 hu2) hu3) hD) ?_
  rintro v w4 ⟨jb, rfl, hr4, hu4, hjb⟩
  have ez : IntKind.i64.wrap (z : Int) = (z : Int) := by rw [IntKind.wrap_i64]; omega
  have ez2 : IntKind.i64.wrap (z2 : Int) = (z2 : Int) := by rw [IntKind.wrap_i64]; omega
  simp (config := { maxSteps := 3000000 }) (disch := omega) only [push_cast, Nat.reduceBEq, Nat.reduceEqDiff, Nat.reduceAdd, Nat.reduceMul, Nat.reduceSub, Nat.reduceLT, Int.reduceToNat, Int.reduceLT, Int.reduceLE, Int.reduceEq, Int.reduceAdd, Int.reduceSub, Int.reduceNeg, Int.reduceMul, ez]
  refine Ok.use (hr4.fail (k := (z : Int)) (by omega)) ?_
  rintro v w5 ⟨D5, hr5, ht5⟩
  generalize (DS.new n s).fail (z : Int) = d5 at *
  have hu6 : Upd (fun _ => False) w5 (w5.alloc (.cells #[] 46 (0, 0))) := Upd.alloc
  have hr6 := hr5.quiet hu6
  simp (config := { maxSteps := 3000000 }) (disch := omega) only [push_cast, Nat.reduceBEq, Nat.reduceEqDiff, Nat.reduceAdd, Nat.reduceMul, Nat.reduceSub, Nat.reduceLT, Int.reduceToNat, Int.reduceLT, Int.reduceLE, Int.reduceEq, Int.reduceAdd, Int.reduceSub, Int.reduceNeg, Int.reduceMul, em]
  refine Ok.use (run_ok hr6 hdims hv hfew (lv := .slice (some ⟨w5.heap.size, 0, none⟩) 0 0) .nil hA) ?_
  rintro v w7 ⟨u0, u1, kk, rfl, hR⟩
  simp (config := { maxSteps := 3000000 }) (disch := omega) only [push_cast, Nat.reduceBEq, Nat.reduceEqDiff, Nat.reduceAdd, Nat.reduceMul, Nat.reduceSub, Nat.reduceLT, Int.reduceToNat, Int.reduceLT, Int.reduceLE, Int.reduceEq, Int.reduceAdd, Int.reduceSub, Int.reduceNeg, Int.reduceMul, em]
  refine Ok.use (hR.crash hdims hk) ?_
  rintro v w8 ⟨D8, d8, la, lb, l, _, _, _, _, _, _, hg, hdk, hc8, hu8, hn8, hb8⟩
  simp (config := { maxSteps := 3000000 }) (disch := omega) only [push_cast, Nat.reduceBEq, Nat.reduceEqDiff, Nat.reduceAdd, Nat.reduceMul, Nat.reduceSub, Nat.reduceLT, Int.reduceToNat, Int.reduceLT, Int.reduceLE, Int.reduceEq, Int.reduceAdd, Int.reduceSub, Int.reduceNeg, Int.reduceMul, em]
  refine Ok.use (open_run (f := 0) (c := n) hdk hg hdims hu8 hn8) ?_
  rintro v w9 ⟨jb9, rfl, hr9, hu9, _⟩
  simp (config := { maxSteps := 3000000 }) (disch := omega) only [push_cast, Nat.reduceBEq, Nat.reduceEqDiff, Nat.reduceAdd, Nat.reduceMul, Nat.reduceSub, Nat.reduceLT, Int.reduceToNat, Int.reduceLT, Int.reduceLE, Int.reduceEq, Int.reduceAdd, Int.reduceSub, Int.reduceNeg, Int.reduceMul, em, ez2]
  refine Ok.use (hr9.fail (k := (z2 : Int)) (by omega)) ?_
  rintro v w10 ⟨D10, hr10, ht10⟩
  generalize d8.fail (z2 : Int) = d10 at *
  simp (config := { maxSteps := 3000000 }) (disch := omega) only [push_cast, Nat.reduceBEq, Nat.reduceEqDiff, Nat.reduceAdd, Nat.reduceMul, Nat.reduceSub, Nat.reduceLT, Int.reduceToNat, Int.reduceLT, Int.reduceLE, Int.reduceEq, Int.reduceAdd, Int.reduceSub, Int.reduceNeg, Int.reduceMul, em]
  refine Ok.use (hr10.records hdims) ?_
  rintro v w11 ⟨hrec, hu11⟩
  have hr11 := hr10.quiet hu11
  have hlt := hr10.lt
  have hrec := hrec.go (F' := FF D10 fun b => b = jb9) (Upd.refl (F := fun _ => False)) fun b hb h => h.elim False.elim fun h => hlt b h
  obtain ⟨qa, qc, rfl, _⟩ := id hrec
  simp (config := { maxSteps := 3000000 }) (disch := omega) only [push_cast, Nat.reduceBEq, Nat.reduceEqDiff, Nat.reduceAdd, Nat.reduceMul, Nat.reduceSub, Nat.reduceLT, Int.reduceToNat, Int.reduceLT, Int.reduceLE, Int.reduceEq, Int.reduceAdd, Int.reduceSub, Int.reduceNeg, Int.reduceMul, em]
  refine Ok.use (run_ok hr11 hdims hm hfewm hrec hA) ?_
  rintro v w12 ⟨u2, u3, kk2, rfl, hR2⟩
  simp (config := { maxSteps := 3000000 }) (disch := omega) only [push_cast, Nat.reduceBEq, Nat.reduceEqDiff, Nat.reduceAdd, Nat.reduceMul, Nat.reduceSub, Nat.reduceLT, Int.reduceToNat, Int.reduceLT, Int.reduceLE, Int.reduceEq, Int.reduceAdd, Int.reduceSub, Int.reduceNeg, Int.reduceMul, em]
  refine Ok.use (hR2.crash hdims hr0) ?_
  rintro v w13 ⟨D13, d13, la2, lb2, l2, g0, g1, ra2, rb2, fa2, hl2, hg13, hdk13, hc13, hu13, hn13, hb13⟩
  simp (config := { maxSteps := 3000000 }) (disch := omega) only [push_cast, Nat.reduceBEq, Nat.reduceEqDiff, Nat.reduceAdd, Nat.reduceMul, Nat.reduceSub, Nat.reduceLT, Int.reduceToNat, Int.reduceLT, Int.reduceLE, Int.reduceEq, Int.reduceAdd, Int.reduceSub, Int.reduceNeg, Int.reduceMul, em]
  refine Ok.use (open_run (f := 0) (c := n) hdk13 hg13 hdims hu13 hn13) ?_
  rintro v w14 ⟨jb14, rfl, hr14, hu14, _⟩
  have g0 := g0.go (F' := fun _ => False) hu14 fun b _ h => h.elim False.elim False.elim
  have g1 := g1.go (F' := fun _ => False) hu14 fun b _ h => h.elim False.elim False.elim
  simp (config := { maxSteps := 3000000 }) (disch := omega) only [push_cast, Nat.reduceBEq, Nat.reduceEqDiff, Nat.reduceAdd, Nat.reduceMul, Nat.reduceSub, Nat.reduceLT, Int.reduceToNat, Int.reduceLT, Int.reduceLE, Int.reduceEq, Int.reduceAdd, Int.reduceSub, Int.reduceNeg, Int.reduceMul, em]
  refine Ok.use awake_ok ?_
  rintro v w15 ⟨rfl, hu15⟩
  have hr15 := hr14.quiet hu15
  have g0 := g0.go (F' := fun _ => False) hu15 fun b _ h => h.elim False.elim False.elim
  have g1 := g1.go (F' := fun _ => False) hu15 fun b _ h => h.elim False.elim False.elim
  have hfit := hr15.good.fit
  rw [hA] at hfit
  have hlen := stream_len_le (ls := l2)
  simp (config := { maxSteps := 3000000 }) (disch := omega) only [push_cast, Nat.reduceBEq, Nat.reduceEqDiff, Nat.reduceAdd, Nat.reduceMul, Nat.reduceSub, Nat.reduceLT, Int.reduceToNat, Int.reduceLT, Int.reduceLE, Int.reduceEq, Int.reduceAdd, Int.reduceSub, Int.reduceNeg, Int.reduceMul, em]
  refine Ok.use (hr15.records hdims) ?_
  rintro v w16 ⟨hrec2, hu16⟩
  have hr16 := hr15.quiet hu16
  have g0 := g0.go (F' := fun _ => False) hu16 fun b _ h => h.elim False.elim False.elim
  have g1 := g1.go (F' := fun _ => False) hu16 fun b _ h => h.elim False.elim False.elim
  simp (config := { maxSteps := 3000000 }) (disch := omega) only [push_cast, Nat.reduceBEq, Nat.reduceEqDiff, Nat.reduceAdd, Nat.reduceMul, Nat.reduceSub, Nat.reduceLT, Int.reduceToNat, Int.reduceLT, Int.reduceLE, Int.reduceEq, Int.reduceAdd, Int.reduceSub, Int.reduceNeg, Int.reduceMul, em]
  refine Ok.use (Same_ok hrec2 g0 hr16.good.rl ra2 (by omega)) ?_
  rintro v w17 ⟨rfl, hu17⟩
  have hr17 := hr16.quiet hu17
  have g1 := g1.go (F' := fun _ => False) hu17 fun b _ h => h.elim False.elim False.elim
  by_cases hla : l2 = la2
  · rw [decide_eq_true hla]
    simp (config := { maxSteps := 3000000 }) (disch := omega) only [push_cast, Nat.reduceBEq, Nat.reduceEqDiff, Nat.reduceAdd, Nat.reduceMul, Nat.reduceSub, Nat.reduceLT, Int.reduceToNat, Int.reduceLT, Int.reduceLE, Int.reduceEq, Int.reduceAdd, Int.reduceSub, Int.reduceNeg, Int.reduceMul, em]
    exact hr17.upd
  · have hlb : l2 = lb2 := hl2.resolve_left hla
    rw [decide_eq_false hla]
    simp (config := { maxSteps := 3000000 }) (disch := omega) only [push_cast, Nat.reduceBEq, Nat.reduceEqDiff, Nat.reduceAdd, Nat.reduceMul, Nat.reduceSub, Nat.reduceLT, Int.reduceToNat, Int.reduceLT, Int.reduceLE, Int.reduceEq, Int.reduceAdd, Int.reduceSub, Int.reduceNeg, Int.reduceMul, em]
    refine Ok.use (hr17.records hdims) ?_
    rintro v w18 ⟨hrec3, hu18⟩
    have hr18 := hr17.quiet hu18
    have g1 := g1.go (F' := fun _ => False) hu18 fun b _ h => h.elim False.elim False.elim
    simp (config := { maxSteps := 3000000 }) (disch := omega) only [push_cast, Nat.reduceBEq, Nat.reduceEqDiff, Nat.reduceAdd, Nat.reduceMul, Nat.reduceSub, Nat.reduceLT, Int.reduceToNat, Int.reduceLT, Int.reduceLE, Int.reduceEq, Int.reduceAdd, Int.reduceSub, Int.reduceNeg, Int.reduceMul, em]
    refine Ok.use (Same_ok hrec3 g1 hr18.good.rl rb2 (by omega)) ?_
    rintro v w19 ⟨rfl, hu19⟩
    rw [decide_eq_true hlb]
    have hr19 := hr18.quiet hu19
    simp (config := { maxSteps := 3000000 }) (disch := omega) only [push_cast, Nat.reduceBEq, Nat.reduceEqDiff, Nat.reduceAdd, Nat.reduceMul, Nat.reduceSub, Nat.reduceLT, Int.reduceToNat, Int.reduceLT, Int.reduceLE, Int.reduceEq, Int.reduceAdd, Int.reduceSub, Int.reduceNeg, Int.reduceMul, em]
    exact hr19.upd
theorem journalAgain_law {w : World} (x : Int) (hx : (Lit.int .u8 x).wf = true) (y : Int) (hy : (Lit.int .u8 y).wf = true) {v : Value} (h : ∃ l, SlO w v l) {vm : Value} (hm : ∃ l, SlO w vm l) (z : Int) (hz : (Lit.int .u8 z).wf = true) (z2 : Int) (hz2 : (Lit.int .u8 z2).wf = true) {vk : Value} (hk : ∃ l, SlT w (fun b => w.heap.size ≤ b) vk l) {vr : Value} (hr : ∃ l, SlT w (fun b => w.heap.size ≤ b) vr l) :
    Ok (den Try.prog 9 #[.int .u8 x, .int .u8 y, v, vm, .int .u8 z, .int .u8 z2, vk, vr] w) fun u w' => u = .bool true ∧ Upd (fun _ => False) w w' := by
  obtain ⟨l, h⟩ := h
  obtain ⟨l2, hm⟩ := hm
  obtain ⟨k, hk⟩ := hk
  obtain ⟨r, hr⟩ := hr
  obtain ⟨a, rfl, ha⟩ := u8_nat hx
  obtain ⟨b, rfl, hb⟩ := u8_nat hy
  obtain ⟨c, rfl, hc⟩ := u8_nat hz
  obtain ⟨c2, rfl, hc2⟩ := u8_nat hz2
  exact journalAgain_ok ha hb hc hc2 h hm hk hr
end Go.Proofs.Ytlnladcfgieggaa.Fd
