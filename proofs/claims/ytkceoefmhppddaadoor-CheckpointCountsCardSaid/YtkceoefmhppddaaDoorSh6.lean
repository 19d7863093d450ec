/-
  The digest as a plain function; the specification's digest.
-/
import Derived.Test.YtkceoefmhppddaaDoorSh5
namespace Go.Proofs.YtkceoefmhppddaaDoor.Fd
set_option linter.unusedSimpArgs false
set_option linter.unusedVariables false
open Go
set_option maxRecDepth 100000
def initP : H8 := ⟨1779033703#32, 3144134277#32, 1013904242#32, 2773480762#32, 1359893119#32, 2600822924#32, 528734635#32, 1541459225#32⟩
/-- The words behind t blocks. -/
def fo (B : List Int) (s : H8) : Nat → H8
  | 0 => s
  | t + 1 => blkP ((B.drop (64 * t)).take 64) (fo B s t)
def wby (x : BitVec 32) : List Int := beL 4 x.toNat
/-- The bytes of the first t words. -/
def outP (s : H8) : Nat → List Int
  | 0 => []
  | t + 1 => outP s t ++ wby (s.get t)
def sumP (b : List Int) : List Int := outP (fo (padP b) initP ((padP b).length / 64)) 8
theorem outP_length {s : H8} : ∀ {t : Nat}, (outP s t).length = 4 * t
  | 0 => rfl
  | t + 1 => by rw [outP, List.length_append, outP_length (t := t), wby, beL_length]; omega
theorem sumP_length {b : List Int} : (sumP b).length = 32 := by rw [sumP, outP_length]
theorem outP_rng {s : H8} : ∀ {t : Nat}, Rng (outP s t)
  | 0 => fun x hx => by cases hx
  | t + 1 => (outP_rng (t := t)).append beL_rng
theorem sumP_rng {b : List Int} : Rng (sumP b) := outP_rng
theorem bsl_u8x4 (a b c d : Int) (w : World) : bslS Tryd.prog 31 4 #[(0, .int .u8 a), (1, .int .u8 b), (2, .int .u8 c), (3, .int .u8 d)] w = some (.slice (some ⟨w.heap.size, 0, none⟩) 4 4, w.alloc (.cells [.int .u8 a, .int .u8 b, .int .u8 c, .int .u8 d].toArray 5 (0, 0))) := by kernel_rfl
theorem cnv_u32_u8 {k : IntKind} {n : Int} {w : World} : cnvS Tryd.prog 90 5 (.int k n) w = some (.int .u8 (IntKind.u8.wrap n), w) := cnv_int (by kernel_rfl) (by kernel_rfl)
attribute [push_cast] bsl_u8x4 cnv_u32_u8
theorem wby_eq {x : BitVec 32} : wby x = [IntKind.u8.wrap ((x >>> 24).toNat : Int), IntKind.u8.wrap ((x >>> 16).toNat : Int), IntKind.u8.wrap ((x >>> 8).toNat : Int), IntKind.u8.wrap (x.toNat : Int)] := by
  simp only [u8_wrap_nat, BitVec.toNat_ushiftRight, Nat.shiftRight_eq_div_pow]
  unfold wby beL beL beL beL beL
  simp
theorem Fr.push4 {w0 w : World} {v : Value} {l : List Int} (h : Fr w0 w v l) {x : BitVec 32} (hlen : l.length < 900000000) {ty : TypeId}
    {K : Value × World → Prop} (hk : ∀ v' w', Fr w0 w' v' (l ++ wby x) → Upd (fun b => w0.heap.size ≤ b) w w' → K (v', w')) :
    Okk (appS Tryd.prog #[31, 31] ty v (.slice (some ⟨w.heap.size, 0, none⟩) 4 4) (w.alloc (.cells [.int .u8 (IntKind.u8.wrap ((x >>> 24).toNat : Int)), .int .u8 (IntKind.u8.wrap ((x >>> 16).toNat : Int)), .int .u8 (IntKind.u8.wrap ((x >>> 8).toNat : Int)), .int .u8 (IntKind.u8.wrap (x.toNat : Int))].toArray 5 (0, 0)))) K := by
  rw [wby_eq] at hk
  exact (h.quiet Upd.alloc).app (slb_new (l := [_, _, _, _]) Blk.new (F := fun _ => False) fun h => h) (by show _ + 4 ≤ _; omega) fun v' w' h1 h2 => hk v' w' h1 ((Upd.alloc (F := fun b => w0.heap.size ≤ b)).trans h2 fun _ _ h => h)
theorem init_val : initP.val = .agg #[.int .u32 1779033703, .int .u32 3144134277, .int .u32 1013904242, .int .u32 2773480762, .int .u32 1359893119, .int .u32 2600822924, .int .u32 528734635, .int .u32 1541459225] := by rfl
set_option maxHeartbeats 2000000 in
theorem rSum_ok {w : World} {F : Nat → Prop} {y : Value} {b : List Int} (hy : SlB w F y b) (hl : b.length ≤ 900000000) :
    Ok (den Tryd.prog 45 #[y] w) fun u w' => u = .string (strOfNums (sumP b)) ∧ Upd (fun _ => False) w w' := by
  obtain ⟨ya, yc, rfl, _⟩ := id hy
  refine den_ok (args := [.slice ya b.length yc]) rs45 Tryd.func45 rfl mixed in45 ok45 rfl ?_
  have hb0 : Blk (set8 (w.alloc (.cells [Value.int .u32 0, .int .u32 0, .int .u32 0, .int .u32 0, .int .u32 0, .int .u32 0, .int .u32 0, .int .u32 0].toArray 91 (0, 0))) w.heap.size initP) w.heap.size initP.row 91 := set8_blk (cs := [Value.int .u32 0, .int .u32 0, .int .u32 0, .int .u32 0, .int .u32 0, .int .u32 0, .int .u32 0, .int .u32 0]) rfl Blk.new
  have hu0 : Upd (fun _ => False) w (set8 (w.alloc (.cells [Value.int .u32 0, .int .u32 0, .int .u32 0, .int .u32 0, .int .u32 0, .int .u32 0, .int .u32 0, .int .u32 0].toArray 91 (0, 0))) w.heap.size initP) := Upd.alloc.trans set8_upd fun x hx e => by omega
  have hs0 : (set8 (w.alloc (.cells [Value.int .u32 0, .int .u32 0, .int .u32 0, .int .u32 0, .int .u32 0, .int .u32 0, .int .u32 0, .int .u32 0].toArray 91 (0, 0))) w.heap.size initP).heap.size = w.heap.size + 1 := by rw [set8_size, size_alloc]
  unfold set8 at hb0 hu0 hs0
  rw [show vW initP.a = .int .u32 1779033703 from rfl, show vW initP.b = .int .u32 3144134277 from rfl, show vW initP.c = .int .u32 1013904242 from rfl, show vW initP.d = .int .u32 2773480762 from rfl, show vW initP.e = .int .u32 1359893119 from rfl, show vW initP.f = .int .u32 2600822924 from rfl, show vW initP.g = .int .u32 528734635 from rfl, show vW initP.h = .int .u32 1541459225 from rfl] at hb0 hu0 hs0
  simp (config := { maxSteps := 3000000 }) (disch := omega) only [push_cast, Nat.reduceBEq, Nat.reduceEqDiff, Nat.reduceAdd, Nat.reduceMul, Nat.reduceSub, Nat.reduceLT, Int.reduceToNat, Int.reduceLT, Int.reduceLE, Int.reduceEq, Int.reduceAdd, Int.reduceSub, Int.reduceNeg, Int.reduceMul]
  generalize (((((((((w.alloc (.cells [Value.int .u32 0, .int .u32 0, .int .u32 0, .int .u32 0, .int .u32 0, .int .u32 0, .int .u32 0, .int .u32 0].toArray 91 (0, 0))).setCell ⟨w.heap.size, 0, none⟩ (.int .u32 1779033703)).setCell ⟨w.heap.size, 1, none⟩ (.int .u32 3144134277)).setCell ⟨w.heap.size, 2, none⟩ (.int .u32 1013904242)).setCell ⟨w.heap.size, 3, none⟩ (.int .u32 2773480762)).setCell ⟨w.heap.size, 4, none⟩ (.int .u32 1359893119)).setCell ⟨w.heap.size, 5, none⟩ (.int .u32 2600822924)).setCell ⟨w.heap.size, 6, none⟩ (.int .u32 528734635)).setCell ⟨w.heap.size, 7, none⟩ (.int .u32 1541459225)) = w1 at *
  refine Ok.use (rPadded_ok (hy.upd hu0 fun _ h => h.elim) hl) ?_
  rintro v w2 h2
  have hb2 := hb0.upd h2.upd fun h => h
  have hs2 := h2.upd.size
  have hu2 := hu0.trans h2.upd fun _ _ h => h
  have hpl := padP_length (b := b)
  have hpm := pad_mul (n := b.length)
  have hz : zerosN b.length < 64 := by unfold zerosN; omega
  have hp0 : (padP b)[0]? = some ((padP b)[0]'(by omega)) := List.getElem?_eq_getElem _
  obtain ⟨g, o, c, rfl, hx0⟩ := h2.slc.at_ hp0
  clear hx0 hp0
  have hcap : (padP b).length ≤ c := by
    obtain ⟨a', c', e, h⟩ := h2.slc.2
    injection e with _ _ e
    omega
  have hsp : SlB w2 (fun b => b < w1.heap.size) (.slice (some ⟨g, o, none⟩) (padP b).length c) (padP b) := h2.slc.1
  obtain ⟨T, hT⟩ : ∃ T, (padP b).length = 64 * T := ⟨(padP b).length / 64, by omega⟩
  have hsum : sumP b = outP (fo (padP b) initP T) 8 := by rw [sumP, hT, Nat.mul_div_cancel_left _ (by omega)]
  rw [hsum]
  have hP9 : (padP b).length ≤ 900000200 := by omega
  clear hpl hpm hsum h2 hu0 hb0
  generalize padP b = P at *
  obtain ⟨u, hu⟩ : ∃ u, u = w.heap.size := ⟨_, rfl⟩
  rw [← hu] at hb2 ⊢
  obtain ⟨n, hn⟩ : ∃ n, n = P.length := ⟨_, rfl⟩
  rw [← hn] at hsp ⊢
  simp (config := { maxSteps := 3000000 }) (disch := omega) only [push_cast, Nat.reduceBEq, Nat.reduceEqDiff, Nat.reduceAdd, Nat.reduceMul, Nat.reduceSub, Nat.reduceLT, Int.reduceToNat, Int.reduceLT, Int.reduceLE, Int.reduceEq, Int.reduceAdd, Int.reduceSub, Int.reduceNeg, Int.reduceMul]
  refine loop_inv (I := fun k st w' => Bx (∃ t, k + t = T ∧ st = [.int .i64 ((64 * t : Nat) : Int)] ∧ Blk w' u (fo P initP t).row 91 ∧ Upd (fun x => x = u) w2 w') ⟨⟩) ?_ T
    ⟨0, by omega, rfl, hb2, Upd.refl⟩
  clear hb2
  rintro k st w3 ⟨t, hk, rfl, hb3, hu3⟩
  have hsp3 : SlB w3 (fun b => b < w1.heap.size) (.slice (some ⟨g, o, none⟩) n c) P := hsp.upd hu3 fun b hb => by omega
  have hu03 : Upd (fun _ => False) w w3 := hu2.trans hu3 fun b hb e => by omega
  by_cases hk0 : k = 0
  · obtain rfl : t = T := by omega
    have htn : ¬ (((64 * t : Nat) : Int) < (n : Int)) := by omega
    generalize fo P initP t = s at *
    obtain ⟨N, hN⟩ : ∃ N, N = 64 * t := ⟨_, rfl⟩
    rw [← hN] at htn ⊢
    simp (config := { maxSteps := 3000000 }) (disch := omega) only [push_cast, Nat.reduceBEq, Nat.reduceEqDiff, Nat.reduceAdd, Nat.reduceMul, Nat.reduceSub, Nat.reduceLT, Int.reduceToNat, Int.reduceLT, Int.reduceLE, Int.reduceEq, Int.reduceAdd, Int.reduceSub, Int.reduceNeg, Int.reduceMul, htn]
    refine loop_inv (I := fun k st w' => Bx (∃ t v, k + t = 8 ∧ st = [v, .int .i64 (t : Int)] ∧ Fr w3 w' v (outP s t)) ⟨⟩) ?_ 8
      ⟨0, _, by omega, rfl, Fr.nil⟩
    rintro k st w4 ⟨t, v, hk, rfl, h4⟩
    obtain ⟨va4, vc4, rfl, _⟩ := h4.own.form
    by_cases hk0 : k = 0
    · obtain rfl : t = 8 := by omega
      have hc := cnv_str h4.slc.1
      simp (config := { maxSteps := 3000000 }) (disch := omega) only [push_cast, Nat.reduceBEq, Nat.reduceEqDiff, Nat.reduceAdd, Nat.reduceMul, Nat.reduceSub, Nat.reduceLT, Int.reduceToNat, Int.reduceLT, Int.reduceLE, Int.reduceEq, Int.reduceAdd, Int.reduceSub, Int.reduceNeg, Int.reduceMul, hc]
      exact hu03.trans h4.upd fun _ _ h => h
    have qr := row_at (s := s) (i := t) (by omega)
    unfold vW at qr
    have hb4 := hb3.upd h4.upd fun h => h
    have hle : (t : Int) < 8 := by omega
    have hol := outP_length (s := s) (t := t)
    have hnext : outP s (t + 1) = outP s t ++ wby (s.get t) := rfl
    generalize s.get t = x at *
    generalize s.row = r at *
    have x1 := x.isLt
    have e24 := v_shr (x := x) (n := 24) (by omega)
    simp (config := { maxSteps := 3000000 }) (disch := omega) only [push_cast, Nat.reduceBEq, Nat.reduceEqDiff, Nat.reduceAdd, Nat.reduceMul, Nat.reduceSub, Nat.reduceLT, Int.reduceToNat, Int.reduceLT, Int.reduceLE, Int.reduceEq, Int.reduceAdd, Int.reduceSub, Int.reduceNeg, Int.reduceMul, hb4.cell, hb4.free, qr, hle]
    refine h4.push4 (by omega) ?_
    intro v5 w5 h5 _
    simp (config := { maxSteps := 3000000 }) (disch := omega) only [push_cast, Nat.reduceBEq, Nat.reduceEqDiff, Nat.reduceAdd, Nat.reduceMul, Nat.reduceSub, Nat.reduceLT, Int.reduceToNat, Int.reduceLT, Int.reduceLE, Int.reduceEq, Int.reduceAdd, Int.reduceSub, Int.reduceNeg, Int.reduceMul]
    exact ⟨k - 1, by omega, t + 1, v5, by omega, by simp, by rw [hnext]; exact h5⟩
  have hP : ((P.drop (64 * t)).take 64).length = 64 := by rw [List.length_take, List.length_drop]; omega
  have hnext : fo P initP (t + 1) = blkP ((P.drop (64 * t)).take 64) (fo P initP t) := rfl
  have htn : ((64 * t : Nat) : Int) < (n : Int) := by omega
  have hcn : n ≤ c := by omega
  have hsl : SlB w3 (fun b => b < w1.heap.size) (.slice (some ⟨g, if c = 64 * t then o else o + 64 * t, none⟩) 64 (c - 64 * t)) ((P.drop (64 * t)).take 64) := by
    rw [hn] at hsp3
    exact slb_lh hsp3 (l := 64 * t) (n := 64) (by omega) hcap
  obtain ⟨N, hN⟩ : ∃ N, N = 64 * t := ⟨_, rfl⟩
  have hc1 : ((N : Int) + 64) ≤ c := by omega
  rw [← hN] at htn hsl ⊢
  rw [← hN] at hP hnext
  generalize (P.drop N).take 64 = Q at *
  generalize fo P initP t = s at *
  obtain ⟨a, b', c', d, e, f, g', h⟩ := s
  have hs3 := hb3
  unfold H8.row vW at hb3
  dsimp only at hb3
  have hsx := slc_lh (P := Tryd.prog) (t := 31) (w := w3) (b := g) (o := o) (n := n) (c := c) (k := .i64) (k' := .i64) (l := (N : Int)) (h := (N : Int) + 64) (by omega) (by omega) hc1
  have e64 : ((N : Int) + 64).toNat - N = 64 := by omega
  have hsld := hsl.upd (Upd.drew (F := fun _ => False)) fun _ h => h.elim
  have hb3d := hb3.drew
  have hs3d := hs3.drew
  have hu3d := hu3.drew'
  have hlt3 := hb3.lt
  simp (config := { maxSteps := 3000000 }) (disch := omega) only [push_cast, Nat.reduceBEq, Nat.reduceEqDiff, Nat.reduceAdd, Nat.reduceMul, Nat.reduceSub, Nat.reduceLT, Int.reduceToNat, Int.reduceLT, Int.reduceLE, Int.reduceEq, Int.reduceAdd, Int.reduceSub, Int.reduceNeg, Int.reduceMul, hb3.cell, hb3.free, htn, hsx, e64]
  generalize w3.drew = w3d at *
  rw [← hP] at hsld
  have hcall := rblock_ok (s := ⟨a, b', c', d, e, f, g', h⟩) hP hsld
  rw [hP] at hcall
  refine Ok.use hcall ?_
  rintro v w4 ⟨rfl, hu4⟩
  rw [← hnext]
  generalize hfo : fo P initP (t + 1) = s' at *
  obtain ⟨a1, b1, c1, d1, e1, f1, g1, h1⟩ := s'
  have hb4 := hb3d.upd hu4 fun h => h
  have hs4 := hs3d.upd hu4 fun h => h
  unfold H8.val H8.row vW
  simp (config := { maxSteps := 3000000 }) (disch := omega) only [push_cast, Nat.reduceBEq, Nat.reduceEqDiff, Nat.reduceAdd, Nat.reduceMul, Nat.reduceSub, Nat.reduceLT, Int.reduceToNat, Int.reduceLT, Int.reduceLE, Int.reduceEq, Int.reduceAdd, Int.reduceSub, Int.reduceNeg, Int.reduceMul, hb3.cell, hb3.free, hb3d.cell, hb3d.free, hb4.cell, hb4.free, htn, hsx, e64]
  have hb := set8_blk (s := ⟨a1, b1, c1, d1, e1, f1, g1, h1⟩) rfl hb4
  have hup := (hu3d.trans (hu4.mono (G := fun x => x = u) fun _ _ h => h.elim) fun _ _ h => h).trans (set8_upd (b := u) (s := ⟨a1, b1, c1, d1, e1, f1, g1, h1⟩)) fun _ _ h => h
  have est : [Value.int .i64 ((N : Int) + 64)] = [Value.int .i64 ((64 * (t + 1) : Nat) : Int)] := by
    rw [show ((64 * (t + 1) : Nat) : Int) = (N : Int) + 64 by omega]
  unfold set8 vW at hb hup
  dsimp only at hb hup
  have hall : Bx (∃ t, k - 1 + t = T ∧ [Value.int .i64 ((N : Int) + 64)] = [.int .i64 ((64 * t : Nat) : Int)] ∧ Blk ((((((((w4.setCell ⟨u, 0, none⟩ (.int .u32 a1.toNat)).setCell ⟨u, 1, none⟩ (.int .u32 b1.toNat)).setCell ⟨u, 2, none⟩ (.int .u32 c1.toNat)).setCell ⟨u, 3, none⟩ (.int .u32 d1.toNat)).setCell ⟨u, 4, none⟩ (.int .u32 e1.toNat)).setCell ⟨u, 5, none⟩ (.int .u32 f1.toNat)).setCell ⟨u, 6, none⟩ (.int .u32 g1.toNat)).setCell ⟨u, 7, none⟩ (.int .u32 h1.toNat)) u (fo P initP t).row 91 ∧ Upd (fun x => x = u) w2 ((((((((w4.setCell ⟨u, 0, none⟩ (.int .u32 a1.toNat)).setCell ⟨u, 1, none⟩ (.int .u32 b1.toNat)).setCell ⟨u, 2, none⟩ (.int .u32 c1.toNat)).setCell ⟨u, 3, none⟩ (.int .u32 d1.toNat)).setCell ⟨u, 4, none⟩ (.int .u32 e1.toNat)).setCell ⟨u, 5, none⟩ (.int .u32 f1.toNat)).setCell ⟨u, 6, none⟩ (.int .u32 g1.toNat)).setCell ⟨u, 7, none⟩ (.int .u32 h1.toNat))) ⟨⟩ :=
    ⟨t + 1, by omega, est, by rw [hfo]; exact hb, hup⟩
  exact ⟨k - 1, by omega, hall⟩
end Go.Proofs.YtkceoefmhppddaaDoor.Fd
