/-
  The laws JournalCrash, JournalAgain, as readings.
-/
import Derived.Test.YtlnladcfgieggaaJnY
namespace Go.Proofs.Ytlnladcfgieggaa.Fd
set_option linter.unusedSimpArgs false
set_option linter.unusedVariables false
open Go
set_option maxRecDepth 100000

theorem SlT.form {w : World} {F : Nat → Prop} {v : Value} {l : List Bool} (h : SlT w F v l) : ∃ a c, v = .slice a l.length c := by
  obtain ⟨a, c, hv, _⟩ := h
  exact ⟨a, c, hv⟩
theorem open_boolsJ {H : Type} {enc : TypeId × Value → H} {w : World} {v : Value} {r : Reach} {b0 : Nat} {d : DataW H} {ps : List MemPlace} (hval : Value.okWide Try.prog w r b0 58 v) (h : DataW.Trod enc Try.prog w 0 (fun _ => true) true 58 v d ps) :
    ∃ l, SlT w (fun b => w.heap.size ≤ b) v l := open_boolsG Try.underlying58 Try.underlying4 (by kernel_rfl) hval h
set_option maxHeartbeats 4000000 in
theorem journalCrash_ok {w : World} {x y z : Nat} (hx : x < 256) (hy : y < 256) (hz : z < 256) {v vk : Value} {ops : List OpJ} (hv : SlO w v ops) {keep : List Bool} (hk : SlT w (fun b => w.heap.size ≤ b) vk keep) :
    Ok (den Try.prog 8 #[.int .u8 (x : Int), .int .u8 (y : Int), v, .int .u8 (z : Int), vk] w) fun u w' => u = .bool true ∧ Upd (fun _ => False) w w' := by
  have t := fun {a b c : World} (x : Upd (fun _ => False) a b) (y : Upd (fun _ => False) b c) => x.trans y (F := fun _ => False) (fun _ _ h => h)
  obtain ⟨va, vc, rfl⟩ := hv.form
  obtain ⟨ka, kc, rfl⟩ := hk.form
  refine den_ok (args := [.int .u8 (x : Int), .int .u8 (y : Int), .slice va ops.length vc, .int .u8 (z : Int), .slice ka keep.length kc]) rs8 Try.func8 rfl mixed in8 ok8 rfl ?_
  simp (config := { maxSteps := 3000000 }) (disch := omega) only [push_cast, Nat.reduceBEq, Nat.reduceEqDiff, Nat.reduceAdd, Nat.reduceMul, Nat.reduceSub, Nat.reduceLT, Int.reduceToNat, Int.reduceLT, Int.reduceLE, Int.reduceEq, Int.reduceAdd, Int.reduceSub, Int.reduceNeg, Int.reduceMul]
  refine Ok.use (Few_ok hv Upd.refl) ?_
  rintro v w1 ⟨⟨q, rfl, hq⟩, hu1⟩
  cases q
  · simp (config := { maxSteps := 3000000 }) (disch := omega) only [push_cast, Nat.reduceBEq, Nat.reduceEqDiff, Nat.reduceAdd, Nat.reduceMul, Nat.reduceSub, Nat.reduceLT, Int.reduceToNat, Int.reduceLT, Int.reduceLE, Int.reduceEq, Int.reduceAdd, Int.reduceSub, Int.reduceNeg, Int.reduceMul]
    refine Ok.use awake_ok ?_
    rintro v w2 ⟨rfl, hu2⟩
    simp (config := { maxSteps := 3000000 }) (disch := omega) only [push_cast, Nat.reduceBEq, Nat.reduceEqDiff, Nat.reduceAdd, Nat.reduceMul, Nat.reduceSub, Nat.reduceLT, Int.reduceToNat, Int.reduceLT, Int.reduceLE, Int.reduceEq, Int.reduceAdd, Int.reduceSub, Int.reduceNeg, Int.reduceMul]
    exact t hu1 hu2
  have hfew := hq.1 rfl
  have h30 := hfew.1
  by_cases hk100 : 100 < keep.length
  · have hk100' : (100 : Int) < keep.length := by omega
    simp (config := { maxSteps := 3000000 }) (disch := omega) only [push_cast, Nat.reduceBEq, Nat.reduceEqDiff, Nat.reduceAdd, Nat.reduceMul, Nat.reduceSub, Nat.reduceLT, Int.reduceToNat, Int.reduceLT, Int.reduceLE, Int.reduceEq, Int.reduceAdd, Int.reduceSub, Int.reduceNeg, Int.reduceMul]
    refine Ok.use awake_ok ?_
    rintro v w2 ⟨rfl, hu2⟩
    simp (config := { maxSteps := 3000000 }) (disch := omega) only [push_cast, Nat.reduceBEq, Nat.reduceEqDiff, Nat.reduceAdd, Nat.reduceMul, Nat.reduceSub, Nat.reduceLT, Int.reduceToNat, Int.reduceLT, Int.reduceLE, Int.reduceEq, Int.reduceAdd, Int.reduceSub, Int.reduceNeg, Int.reduceMul]
    exact t hu1 hu2
  have hk100' : ¬ (100 : Int) < keep.length := by omega
  simp (config := { maxSteps := 3000000 }) (disch := omega) only [push_cast, Nat.reduceBEq, Nat.reduceEqDiff, Nat.reduceAdd, Nat.reduceMul, Nat.reduceSub, Nat.reduceLT, Int.reduceToNat, Int.reduceLT, Int.reduceLE, Int.reduceEq, Int.reduceAdd, Int.reduceSub, Int.reduceNeg, Int.reduceMul]
  refine Ok.use (shape_small hx hy) ?_
  rintro v w2 ⟨n, s, A, rfl, hS, hu2⟩
  have hdims := hS.dims
  have hA := hS.area
  have em := hS.mul
  obtain ⟨n1, n2, s1, s2, _, _, _, a1⟩ := hS
  simp (config := { maxSteps := 3000000 }) (disch := omega) only [push_cast, Nat.reduceBEq, Nat.reduceEqDiff, Nat.reduceAdd, Nat.reduceMul, Nat.reduceSub, Nat.reduceLT, Int.reduceToNat, Int.reduceLT, Int.reduceLE, Int.reduceEq, Int.reduceAdd, Int.reduceSub, Int.reduceNeg, Int.reduceMul]
  refine Ok.use (new_run (by omega) (by omega) s1 (by omega) (t hu1 hu2)) ?_
  rintro v w3 ⟨p, D, rfl, hd3, hu3, hD⟩
  simp (config := { maxSteps := 3000000 }) (disch := omega) only [push_cast, Nat.reduceBEq, Nat.reduceEqDiff, Nat.reduceAdd, Nat.reduceMul, Nat.reduceSub, Nat.reduceLT, Int.reduceToNat, Int.reduceLT, Int.reduceLE, Int.reduceEq, Int.reduceAdd, Int.reduceSub, Int.reduceNeg, Int.reduceMul]
  refine Ok.use (open_run (f := 0) (c := n) hd3 (GoodD.new hdims) hdims (t (t hu1 hu2) hu3) hD) ?_
  rintro v w4 ⟨jb, rfl, hr4, hu4, hjb⟩
  have ez : IntKind.i64.wrap (z : Int) = (z : Int) := by rw [IntKind.wrap_i64]; omega
  simp (config := { maxSteps := 3000000 }) (disch := omega) only [push_cast, Nat.reduceBEq, Nat.reduceEqDiff, Nat.reduceAdd, Nat.reduceMul, Nat.reduceSub, Nat.reduceLT, Int.reduceToNat, Int.reduceLT, Int.reduceLE, Int.reduceEq, Int.reduceAdd, Int.reduceSub, Int.reduceNeg, Int.reduceMul, ez]
  refine Ok.use (hr4.fail (k := (z : Int)) (by omega)) ?_
  rintro v w5 ⟨D5, hr5, ht5⟩
  generalize (DS.new n s).fail (z : Int) = d5 at *
  have hu6 : Upd (fun _ => False) w5 (w5.alloc (.cells #[] 46 (0, 0))) := Upd.alloc
  have hr6 := hr5.quiet hu6
  simp (config := { maxSteps := 3000000 }) (disch := omega) only [push_cast, Nat.reduceBEq, Nat.reduceEqDiff, Nat.reduceAdd, Nat.reduceMul, Nat.reduceSub, Nat.reduceLT, Int.reduceToNat, Int.reduceLT, Int.reduceLE, Int.reduceEq, Int.reduceAdd, Int.reduceSub, Int.reduceNeg, Int.reduceMul, em]
  refine Ok.use (run_ok hr6 hdims hv hfew (lv := .slice (some ⟨w5.heap.size, 0, none⟩) 0 0) .nil hA) ?_
  rintro v w7 ⟨u0, u1, kk, rfl, hR⟩
  simp (config := { maxSteps := 3000000 }) (disch := omega) only [push_cast, Nat.reduceBEq, Nat.reduceEqDiff, Nat.reduceAdd, Nat.reduceMul, Nat.reduceSub, Nat.reduceLT, Int.reduceToNat, Int.reduceLT, Int.reduceLE, Int.reduceEq, Int.reduceAdd, Int.reduceSub, Int.reduceNeg, Int.reduceMul, em]
  refine Ok.use (hR.crash hdims hk) ?_
  rintro v w8 ⟨D8, d8, la, lb, l, g0, g1, ra, rb, fa, hl, hg, hdk, hc8, hu8, hn8, hb8⟩
  simp (config := { maxSteps := 3000000 }) (disch := omega) only [push_cast, Nat.reduceBEq, Nat.reduceEqDiff, Nat.reduceAdd, Nat.reduceMul, Nat.reduceSub, Nat.reduceLT, Int.reduceToNat, Int.reduceLT, Int.reduceLE, Int.reduceEq, Int.reduceAdd, Int.reduceSub, Int.reduceNeg, Int.reduceMul, em]
  refine Ok.use (open_run (f := 0) (c := n) hdk hg hdims hu8 hn8) ?_
  rintro v w9 ⟨jb9, rfl, hr9, hu9, _⟩
  have g0 := g0.go (F' := fun _ => False) hu9 fun b _ h => h.elim False.elim False.elim
  have g1 := g1.go (F' := fun _ => False) hu9 fun b _ h => h.elim False.elim False.elim
  simp (config := { maxSteps := 3000000 }) (disch := omega) only [push_cast, Nat.reduceBEq, Nat.reduceEqDiff, Nat.reduceAdd, Nat.reduceMul, Nat.reduceSub, Nat.reduceLT, Int.reduceToNat, Int.reduceLT, Int.reduceLE, Int.reduceEq, Int.reduceAdd, Int.reduceSub, Int.reduceNeg, Int.reduceMul, em]
  refine Ok.use (hr9.records hdims) ?_
  rintro v w10 ⟨hrec, hu10⟩
  have hr10 := hr9.quiet hu10
  have g0 := g0.go (F' := fun _ => False) hu10 fun b _ h => h.elim False.elim False.elim
  have g1 := g1.go (F' := fun _ => False) hu10 fun b _ h => h.elim False.elim False.elim
  have hrec := hrec.go (F' := fun _ => False) (Upd.refl (F := fun _ => False)) fun b _ h => h.elim False.elim False.elim
  simp (config := { maxSteps := 3000000 }) (disch := omega) only [push_cast, Nat.reduceBEq, Nat.reduceEqDiff, Nat.reduceAdd, Nat.reduceMul, Nat.reduceSub, Nat.reduceLT, Int.reduceToNat, Int.reduceLT, Int.reduceLE, Int.reduceEq, Int.reduceAdd, Int.reduceSub, Int.reduceNeg, Int.reduceMul, em]
  refine Ok.use awake_ok ?_
  rintro v w11 ⟨rfl, hu11⟩
  have hr11 := hr10.quiet hu11
  have g0 := g0.go (F' := fun _ => False) hu11 fun b _ h => h.elim False.elim False.elim
  have g1 := g1.go (F' := fun _ => False) hu11 fun b _ h => h.elim False.elim False.elim
  have hrec := hrec.go (F' := fun _ => False) hu11 fun b _ h => h.elim False.elim False.elim
  have hfit := hr11.good.fit
  rw [hA] at hfit
  have hlen := stream_len_le (ls := l)
  simp (config := { maxSteps := 3000000 }) (disch := omega) only [push_cast, Nat.reduceBEq, Nat.reduceEqDiff, Nat.reduceAdd, Nat.reduceMul, Nat.reduceSub, Nat.reduceLT, Int.reduceToNat, Int.reduceLT, Int.reduceLE, Int.reduceEq, Int.reduceAdd, Int.reduceSub, Int.reduceNeg, Int.reduceMul, em]
  refine Ok.use (Same_ok hrec g0 hr11.good.rl ra (by omega)) ?_
  rintro v w12 ⟨rfl, hu12⟩
  have hr12 := hr11.quiet hu12
  have g1 := g1.go (F' := fun _ => False) hu12 fun b _ h => h.elim False.elim False.elim
  have hrec := hrec.go (F' := fun _ => False) hu12 fun b _ h => h.elim False.elim False.elim
  by_cases hla : l = la
  · rw [decide_eq_true hla]
    simp (config := { maxSteps := 3000000 }) (disch := omega) only [push_cast, Nat.reduceBEq, Nat.reduceEqDiff, Nat.reduceAdd, Nat.reduceMul, Nat.reduceSub, Nat.reduceLT, Int.reduceToNat, Int.reduceLT, Int.reduceLE, Int.reduceEq, Int.reduceAdd, Int.reduceSub, Int.reduceNeg, Int.reduceMul, em]
    refine Ok.use (hr12.left hdims) ?_
    rintro v w13 ⟨rfl, hu13⟩
    rw [hA]
    have hr13 := hr12.quiet hu13
    have hrec := hrec.go (F' := fun _ => False) hu13 fun b _ h => h.elim False.elim False.elim
    simp (config := { maxSteps := 3000000 }) (disch := omega) only [push_cast, Nat.reduceBEq, Nat.reduceEqDiff, Nat.reduceAdd, Nat.reduceMul, Nat.reduceSub, Nat.reduceLT, Int.reduceToNat, Int.reduceLT, Int.reduceLE, Int.reduceEq, Int.reduceAdd, Int.reduceSub, Int.reduceNeg, Int.reduceMul, em]
    refine Ok.use (rLeftS_ok hrec (area := A) hfit (by omega)) ?_
    rintro v w14 ⟨rfl, hu14⟩
    have hr14 := hr13.quiet hu14
    simp (config := { maxSteps := 3000000 }) (disch := omega) only [push_cast, Nat.reduceBEq, Nat.reduceEqDiff, Nat.reduceAdd, Nat.reduceMul, Nat.reduceSub, Nat.reduceLT, Int.reduceToNat, Int.reduceLT, Int.reduceLE, Int.reduceEq, Int.reduceAdd, Int.reduceSub, Int.reduceNeg, Int.reduceMul, em]
    exact hr14.upd
  · have hlb : l = lb := hl.resolve_left hla
    rw [decide_eq_false hla]
    simp (config := { maxSteps := 3000000 }) (disch := omega) only [push_cast, Nat.reduceBEq, Nat.reduceEqDiff, Nat.reduceAdd, Nat.reduceMul, Nat.reduceSub, Nat.reduceLT, Int.reduceToNat, Int.reduceLT, Int.reduceLE, Int.reduceEq, Int.reduceAdd, Int.reduceSub, Int.reduceNeg, Int.reduceMul, em]
    refine Ok.use (Same_ok hrec g1 hr12.good.rl rb (by omega)) ?_
    rintro v w12b ⟨rfl, hu12b⟩
    rw [decide_eq_true hlb]
    have hr12b := hr12.quiet hu12b
    have hrec := hrec.go (F' := fun _ => False) hu12b fun b _ h => h.elim False.elim False.elim
    simp (config := { maxSteps := 3000000 }) (disch := omega) only [push_cast, Nat.reduceBEq, Nat.reduceEqDiff, Nat.reduceAdd, Nat.reduceMul, Nat.reduceSub, Nat.reduceLT, Int.reduceToNat, Int.reduceLT, Int.reduceLE, Int.reduceEq, Int.reduceAdd, Int.reduceSub, Int.reduceNeg, Int.reduceMul, em]
    refine Ok.use (hr12b.left hdims) ?_
    rintro v w13 ⟨rfl, hu13⟩
    rw [hA]
    have hr13 := hr12b.quiet hu13
    have hrec := hrec.go (F' := fun _ => False) hu13 fun b _ h => h.elim False.elim False.elim
    simp (config := { maxSteps := 3000000 }) (disch := omega) only [push_cast, Nat.reduceBEq, Nat.reduceEqDiff, Nat.reduceAdd, Nat.reduceMul, Nat.reduceSub, Nat.reduceLT, Int.reduceToNat, Int.reduceLT, Int.reduceLE, Int.reduceEq, Int.reduceAdd, Int.reduceSub, Int.reduceNeg, Int.reduceMul, em]
    refine Ok.use (rLeftS_ok hrec (area := A) hfit (by omega)) ?_
    rintro v w14 ⟨rfl, hu14⟩
    have hr14 := hr13.quiet hu14
    simp (config := { maxSteps := 3000000 }) (disch := omega) only [push_cast, Nat.reduceBEq, Nat.reduceEqDiff, Nat.reduceAdd, Nat.reduceMul, Nat.reduceSub, Nat.reduceLT, Int.reduceToNat, Int.reduceLT, Int.reduceLE, Int.reduceEq, Int.reduceAdd, Int.reduceSub, Int.reduceNeg, Int.reduceMul, em]
    exact hr14.upd
theorem journalCrash_law {w : World} (x : Int) (hx : (Lit.int .u8 x).wf = true) (y : Int) (hy : (Lit.int .u8 y).wf = true) {v : Value} (h : ∃ l, SlO w v l) (z : Int) (hz : (Lit.int .u8 z).wf = true) {vk : Value} (hk : ∃ l, SlT w (fun b => w.heap.size ≤ b) vk l) :
    Ok (den Try.prog 8 #[.int .u8 x, .int .u8 y, v, .int .u8 z, vk] w) fun u w' => u = .bool true ∧ Upd (fun _ => False) w w' := by
  obtain ⟨l, h⟩ := h
  obtain ⟨k, hk⟩ := hk
  obtain ⟨a, rfl, ha⟩ := u8_nat hx
  obtain ⟨b, rfl, hb⟩ := u8_nat hy
  obtain ⟨c, rfl, hc⟩ := u8_nat hz
  exact journalCrash_ok ha hb hc h hk
end Go.Proofs.Ytlnladcfgieggaa.Fd
