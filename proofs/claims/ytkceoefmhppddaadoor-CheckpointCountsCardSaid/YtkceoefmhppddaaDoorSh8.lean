/-
  The program's digest, its end.
-/
import Derived.Test.YtkceoefmhppddaaDoorSh7
namespace Go.Proofs.YtkceoefmhppddaaDoor.Fd
set_option linter.unusedSimpArgs false
set_option linter.unusedVariables false
open Go
set_option maxRecDepth 100000
section
variable {P : Program} {D : Den} {ty : TypeId} {e : Operand → Value} {w : World}
def ixvS (P : Program) (t : TypeId) (x i : Value) (w : World) : Option (Value × World) := lift ((Instr.index t x i).run P w)
theorem opX_ixv {t : TypeId} {x i : Operand} : opX P D (.index t x i) ty e w = ixvS P t (e x) (e i) w := by
  simp only [opX, opS, execOp, ixvS, lift]
  generalize Instr.index t (e x) (e i) = s
  simp
  cases s.run P w <;> simp
theorem ixv_agg {t el : TypeId} {cs : Array Value} {n : Nat} {k : IntKind} {i : Nat} {v : Value} (ht : arrOf P t = some (n, el)) (hs : siz P el = some 1) (hk : knd P el = some false) (h1 : i < n) (hv : cs[i]? = some v) :
    ixvS P t (.agg cs) (.int k (i : Int)) w = some (v, w) := by
  unfold arrOf at ht
  unfold siz at hs
  unfold knd at hk
  split at ht
  · rename_i n' el' hu
    simp only [Option.some.injEq, Prod.mk.injEq] at ht
    obtain ⟨rfl, rfl⟩ := ht
    cases hi : P.info? el' with
    | none => rw [hi] at hs; cases hs
    | some inf =>
      rw [hi] at hs
      simp only [Option.map_some, Option.some.injEq] at hs
      have h2 : (i : Int) < n' := by omega
      simp [ixvS, lift, Instr.index, asIntOf, underlying, hu, h2, sizeOf, typeInfo, hi, hs, part, isAgg]
      rw [if_pos h1]
      cases hq : P.underlying el' with
      | none => rw [hq] at hk; cases hk
      | some d =>
        rw [hq] at hk
        cases d <;> first | (cases hk; done) | simp [hv]
  · cases ht
end
attribute [push_cast] opX_ixv
def endP (rest : List Int) (n : Nat) : List Int := rest ++ [128] ++ List.replicate (zerosN rest.length) 0 ++ beL 8 (8 * n)
theorem fo_split {B : List Int} {s : H8} {m : Nat} : ∀ {t : Nat}, fo B s (m + t) = fo (B.drop (64 * m)) (fo B s m) t
  | 0 => rfl
  | t + 1 => by
    show blkP ((B.drop (64 * (m + t))).take 64) (fo B s (m + t)) = blkP _ _
    rw [fo_split (t := t), List.drop_drop, Nat.mul_add]
theorem fo_prefix {b c : List Int} {s : H8} : ∀ {m : Nat}, 64 * m ≤ b.length → fo (b ++ c) s m = fo b s m
  | 0, _ => rfl
  | m + 1, h => by
    show blkP _ _ = blkP _ _
    rw [fo_prefix (m := m) (by omega), List.drop_append_of_le_length (by omega), List.take_append_of_le_length (by rw [List.length_drop]; omega)]
theorem endP_length {rest : List Int} {n : Nat} : (endP rest n).length = rest.length + 1 + zerosN rest.length + 8 := by simp [endP, beL_length]; omega
theorem sum_split {b : List Int} : outP (fo (endP (b.drop (64 * (b.length / 64))) b.length) (fo b initP (b.length / 64)) ((endP (b.drop (64 * (b.length / 64))) b.length).length / 64)) 8 = sumP b := by
  have hz : zerosN (b.drop (64 * (b.length / 64))).length = zerosN b.length := by
    rw [List.length_drop]; unfold zerosN; omega
  have hE : endP (b.drop (64 * (b.length / 64))) b.length = (padP b).drop (64 * (b.length / 64)) := by
    unfold endP padP
    rw [hz, List.append_assoc, List.append_assoc, List.append_assoc, List.append_assoc, List.drop_append_of_le_length (by omega)]
  have h1 : fo b initP (b.length / 64) = fo (padP b) initP (b.length / 64) := by
    unfold padP
    rw [List.append_assoc, List.append_assoc, fo_prefix (by omega)]
  rw [hE, h1, ← fo_split, sumP, List.length_drop]
  have hl := padP_length (b := b)
  congr 2
  omega
set_option maxHeartbeats 2000000 in
theorem shaSum_ok {w : World} (hK : KT w) {p : Nat} {s : H8} {rv : Value} {rest : List Int} {n : Nat} (hS : SO w p s rv n) {F : Nat → Prop} (hr : SlB w F rv rest) (hrl : rest.length < 64) (hn : n ≤ 900000000) :
    Ok (den Tryd.prog 55 #[.pointer (some ⟨p, 0, none⟩)] w) fun u w' => u = .string (strOfNums (outP (fo (endP rest n) s ((endP rest n).length / 64)) 8)) ∧ Upd (fun _ => False) w w' := by
  obtain ⟨ya, yc, rfl, _⟩ := id hr
  refine den_ok (args := [.pointer (some ⟨p, 0, none⟩)]) rs55 Tryd.func55 rfl mixed in55 ok55 rfl ?_
  have hS' := hS
  unfold SO at hS
  obtain ⟨a, b', c', d, e, f, g', h⟩ := s
  unfold H8.row vW at hS
  dsimp only [List.cons_append, List.nil_append] at hS
  have hpl := hS.lt
  simp (config := { maxSteps := 3000000 }) (disch := omega) only [push_cast, Nat.reduceBEq, Nat.reduceEqDiff, Nat.reduceAdd, Nat.reduceMul, Nat.reduceSub, Nat.reduceLT, Int.reduceToNat, Int.reduceLT, Int.reduceLE, Int.reduceEq, Int.reduceAdd, Int.reduceSub, Int.reduceNeg, Int.reduceMul, hS.cell, hS.free]
  refine (Fr.empty).app ((Fr.empty).old hr) (by simp; omega) ?_
  intro v' w2 h2 _
  rw [List.nil_append] at h2
  simp (config := { maxSteps := 3000000 }) (disch := omega) only [push_cast, Nat.reduceBEq, Nat.reduceEqDiff, Nat.reduceAdd, Nat.reduceMul, Nat.reduceSub, Nat.reduceLT, Int.reduceToNat, Int.reduceLT, Int.reduceLE, Int.reduceEq, Int.reduceAdd, Int.reduceSub, Int.reduceNeg, Int.reduceMul]
  refine h2.push (by omega) ?_
  intro v3 w3 h3 _
  simp (config := { maxSteps := 3000000 }) (disch := omega) only [push_cast, Nat.reduceBEq, Nat.reduceEqDiff, Nat.reduceAdd, Nat.reduceMul, Nat.reduceSub, Nat.reduceLT, Int.reduceToNat, Int.reduceLT, Int.reduceLE, Int.reduceEq, Int.reduceAdd, Int.reduceSub, Int.reduceNeg, Int.reduceMul]
  refine loop_inv (I := fun k st w' => Bx (∃ t v, k + t = zerosN rest.length ∧ st = [v] ∧ Fr w w' v (rest ++ [128] ++ List.replicate t 0)) ⟨⟩) ?_ (zerosN rest.length)
    ⟨0, v3, by omega, rfl, by simpa using h3⟩
  rintro k st w4 ⟨t, v, hk, rfl, h4⟩
  obtain ⟨va, vc, rfl, _⟩ := h4.own.form
  have hlen : (rest ++ [128] ++ List.replicate t 0).length = rest.length + 1 + t := by simp; omega
  obtain ⟨L, hL⟩ : ∃ L, L = rest.length + 1 + t := ⟨_, rfl⟩
  rw [hlen, ← hL] at h4 ⊢
  have hz9 : zerosN rest.length < 64 := by unfold zerosN; omega
  by_cases hk0 : k = 0
  · obtain rfl : t = zerosN rest.length := by omega
    have e1 : (L : Int).tmod 64 = 56 := by rw [tmod64, hL, zeros_at]; rfl
    have e2 : IntKind.u64.wrap (n : Int) = (n : Int) := by rw [IntKind.wrap_u64]; omega
    have e3 : IntKind.u64.wrap ((n : Int) * 8) = ((8 * n : Nat) : Int) := by rw [IntKind.wrap_u64]; omega
    obtain ⟨N, hN⟩ : ∃ N, N = 8 * n := ⟨_, rfl⟩
    rw [← hN] at e3
    have hb4 := hS.upd h4.upd fun h => h
    have hS4 := Blk.upd hS' h4.upd fun h => h
    simp (config := { maxSteps := 3000000 }) (disch := omega) only [push_cast, Nat.reduceBEq, Nat.reduceEqDiff, Nat.reduceAdd, Nat.reduceMul, Nat.reduceSub, Nat.reduceLT, Int.reduceToNat, Int.reduceLT, Int.reduceLE, Int.reduceEq, Int.reduceAdd, Int.reduceSub, Int.reduceNeg, Int.reduceMul, e1, e2, e3, hb4.cell, hb4.free]
    have hpad : endP rest n = rest ++ [128] ++ List.replicate (zerosN rest.length) 0 ++ beL 8 N := by rw [endP, hN]
    have hEl := endP_length (rest := rest) (n := n)
    have hEm : (endP rest n).length % 64 = 0 := by rw [hEl]; unfold zerosN; omega
    generalize endP rest n = E at *
    subst hpad
    generalize rest ++ [128] ++ List.replicate (zerosN rest.length) 0 = P at *
    clear hb4 hS4
    refine loop_inv (I := fun k st w' => Bx (k ≤ 8 ∧ ∃ v, st = [v, .int .i64 (8 * (k : Int) - 8)] ∧ Fr w w' v (P ++ (beL 8 N).take (8 - k))) ⟨⟩) ?_ 8
      ⟨by omega, _, rfl, by simpa using h4⟩
    rintro k st w5 ⟨hk8, v, rfl, h5⟩
    obtain ⟨va5, vc5, rfl, hcap5⟩ := h5.own.form
    cases k with
    | zero =>
      rw [show 8 - 0 = 8 from rfl, List.take_of_length_le (by rw [beL_length]; omega)] at h5 hcap5 ⊢
      generalize P ++ beL 8 N = E at *
      have hb5 := hS.upd h5.upd fun h => h
      have hbv : Blk (set8 (w5.alloc (.cells [Value.int .u32 0, .int .u32 0, .int .u32 0, .int .u32 0, .int .u32 0, .int .u32 0, .int .u32 0, .int .u32 0].toArray 100 (0, 0))) w5.heap.size ⟨a, b', c', d, e, f, g', h⟩) w5.heap.size (H8.row ⟨a, b', c', d, e, f, g', h⟩) 100 := set8_blk (cs := [Value.int .u32 0, .int .u32 0, .int .u32 0, .int .u32 0, .int .u32 0, .int .u32 0, .int .u32 0, .int .u32 0]) rfl Blk.new
      have huv : Upd (fun _ => False) w5 (set8 (w5.alloc (.cells [Value.int .u32 0, .int .u32 0, .int .u32 0, .int .u32 0, .int .u32 0, .int .u32 0, .int .u32 0, .int .u32 0].toArray 100 (0, 0))) w5.heap.size ⟨a, b', c', d, e, f, g', h⟩) := Upd.alloc.trans set8_upd fun x hx e => by omega
      unfold set8 vW at hbv huv
      dsimp only at hbv huv
      simp (config := { maxSteps := 3000000 }) (disch := omega) only [push_cast, Nat.reduceBEq, Nat.reduceEqDiff, Nat.reduceAdd, Nat.reduceMul, Nat.reduceSub, Nat.reduceLT, Int.reduceToNat, Int.reduceLT, Int.reduceLE, Int.reduceEq, Int.reduceAdd, Int.reduceSub, Int.reduceNeg, Int.reduceMul, hb5.cell, hb5.free]
      have h6 := h5.quiet huv
      generalize (((((((((w5.alloc (.cells [Value.int .u32 0, .int .u32 0, .int .u32 0, .int .u32 0, .int .u32 0, .int .u32 0, .int .u32 0, .int .u32 0].toArray 100 (0, 0))).setCell ⟨w5.heap.size, 0, none⟩ (.int .u32 (a.toNat : Int))).setCell ⟨w5.heap.size, 1, none⟩ (.int .u32 (b'.toNat : Int))).setCell ⟨w5.heap.size, 2, none⟩ (.int .u32 (c'.toNat : Int))).setCell ⟨w5.heap.size, 3, none⟩ (.int .u32 (d.toNat : Int))).setCell ⟨w5.heap.size, 4, none⟩ (.int .u32 (e.toNat : Int))).setCell ⟨w5.heap.size, 5, none⟩ (.int .u32 (f.toNat : Int))).setCell ⟨w5.heap.size, 6, none⟩ (.int .u32 (g'.toNat : Int))).setCell ⟨w5.heap.size, 7, none⟩ (.int .u32 (h.toNat : Int))) = w6 at *
      have hw5 := h5.upd.size
      obtain ⟨u, hu⟩ : ∃ u, u = w5.heap.size := ⟨_, rfl⟩
      rw [← hu] at hbv ⊢
      have hKT := hK.upd h6.upd fun h => h
      have hK0 := hK.1
      have huw := h6.upd
      have hsl6 : SlC w6 (fun x => x = u) (.slice va5 E.length vc5) E := by
        refine h6.own.slc fun g hg e => ?_
        have := h5.own.lt hg
        omega
      clear h6 h5 huv hb5 hS hS' h4 h3 h2
      generalize (⟨a, b', c', d, e, f, g', h⟩ : H8) = s at *
      obtain ⟨T, hT⟩ : ∃ T, T = E.length / 64 := ⟨_, rfl⟩
      rw [← hT]
      refine loop_inv (I := fun k st w' => Bx (∃ t v, k + t = T ∧ st = [v] ∧ SlC w' (fun x => x = u) v (E.drop (64 * t)) ∧ Blk w' u (fo E s t).row 100 ∧ Upd (fun x => x = u) w6 w') ⟨⟩) ?_ T
        ⟨0, _, by omega, rfl, by simpa using hsl6, hbv, Upd.refl⟩
      clear hbv hsl6
      rintro k st w7 ⟨t, v, hk, rfl, h7, hb7, hu7⟩
      obtain ⟨va7, vc7, rfl, hvc⟩ := id h7.2
      have hld : (E.drop (64 * t)).length = E.length - 64 * t := List.length_drop
      have hnext := fo_next (B := E) (s := s) (t := t)
      have hd64 : E.drop (64 * (t + 1)) = (E.drop (64 * t)).drop 64 := by rw [List.drop_drop]; congr 1
      have hlt7 := hb7.lt
      by_cases hk0 : k = 0
      · obtain rfl : t = T := by omega
        generalize fo E s t = s7 at *
        obtain ⟨a1, b1, c1, d1, e1, f1, g1, h1⟩ := s7
        have hlt : ¬ (0 : Int) < (E.drop (64 * t)).length := by omega
        have hb7' := hb7
        unfold H8.row vW at hb7
        dsimp only at hb7
        obtain ⟨w8, e8, hB8, hu8, hs8⟩ := mk0_run (w := w7) (k := .i64) (k' := .i64) (n := 32) (by omega) (by omega)
        have hf8 : Fr w7 w8 (.slice (some ⟨w7.heap.size, 0, none⟩) 0 32) [] := ⟨hB8, fun g hg => by have := ownB hg; omega, hu8⟩
        have hb8 := hb7.upd hu8 fun h => h
        simp (config := { maxSteps := 3000000 }) (disch := omega) only [push_cast, Nat.reduceBEq, Nat.reduceEqDiff, Nat.reduceAdd, Nat.reduceMul, Nat.reduceSub, Nat.reduceLT, Int.reduceToNat, Int.reduceLT, Int.reduceLE, Int.reduceEq, Int.reduceAdd, Int.reduceSub, Int.reduceNeg, Int.reduceMul, hlt, hb7.cell, hb7.free, e8, hb8.cell, hb8.free]
        have hlen0 := hf8.own.form
        refine loop_inv (I := fun k st w' => Bx (∃ t v, k + t = 8 ∧ st = [v, .int .i64 (t : Int)] ∧ Fr w7 w' v (outP ⟨a1, b1, c1, d1, e1, f1, g1, h1⟩ t)) ⟨⟩) ?_ 8
          ⟨0, _, by omega, rfl, hf8⟩
        rintro k st w9 ⟨t, v, hk, rfl, h9⟩
        obtain ⟨va9, vc9, rfl, _⟩ := h9.own.form
        by_cases hk0 : k = 0
        · obtain rfl : t = 8 := by omega
          have hc := cnv_str h9.slc.1
          simp (config := { maxSteps := 3000000 }) (disch := omega) only [push_cast, Nat.reduceBEq, Nat.reduceEqDiff, Nat.reduceAdd, Nat.reduceMul, Nat.reduceSub, Nat.reduceLT, Int.reduceToNat, Int.reduceLT, Int.reduceLE, Int.reduceEq, Int.reduceAdd, Int.reduceSub, Int.reduceNeg, Int.reduceMul, hc]
          exact (huw.trans (hu7.mono (G := fun b => w.heap.size ≤ b) fun b _ e => by omega) fun b hb h => by omega).trans h9.upd fun _ _ h => h
        have hol := outP_length (s := ⟨a1, b1, c1, d1, e1, f1, g1, h1⟩) (t := t)
        have qr := row_at (s := ⟨a1, b1, c1, d1, e1, f1, g1, h1⟩) (i := t) (by omega)
        have hle : (t : Int) < 8 := by omega
        have qr2 : (#[Value.int .u32 (a1.toNat : Int), .int .u32 (b1.toNat : Int), .int .u32 (c1.toNat : Int), .int .u32 (d1.toNat : Int), .int .u32 (e1.toNat : Int), .int .u32 (f1.toNat : Int), .int .u32 (g1.toNat : Int), .int .u32 (h1.toNat : Int)])[t]? = some (.int .u32 ((H8.get ⟨a1, b1, c1, d1, e1, f1, g1, h1⟩ t).toNat : Int)) := by
          rw [← List.getElem?_toArray] at qr
          exact qr
        have hix := ixv_agg (w := w9) (k := .i64) t100_a t90_s t90_k (by omega) qr2
        have hnx : outP ⟨a1, b1, c1, d1, e1, f1, g1, h1⟩ (t + 1) = outP ⟨a1, b1, c1, d1, e1, f1, g1, h1⟩ t ++ wby (H8.get ⟨a1, b1, c1, d1, e1, f1, g1, h1⟩ t) := rfl
        generalize H8.get ⟨a1, b1, c1, d1, e1, f1, g1, h1⟩ t = x at *
        simp (config := { maxSteps := 3000000 }) (disch := omega) only [push_cast, Nat.reduceBEq, Nat.reduceEqDiff, Nat.reduceAdd, Nat.reduceMul, Nat.reduceSub, Nat.reduceLT, Int.reduceToNat, Int.reduceLT, Int.reduceLE, Int.reduceEq, Int.reduceAdd, Int.reduceSub, Int.reduceNeg, Int.reduceMul, hle, hix]
        refine h9.push4 (by omega) ?_
        intro v10 w10 h10 _
        simp (config := { maxSteps := 3000000 }) (disch := omega) only [push_cast, Nat.reduceBEq, Nat.reduceEqDiff, Nat.reduceAdd, Nat.reduceMul, Nat.reduceSub, Nat.reduceLT, Int.reduceToNat, Int.reduceLT, Int.reduceLE, Int.reduceEq, Int.reduceAdd, Int.reduceSub, Int.reduceNeg, Int.reduceMul]
        exact ⟨k - 1, by omega, t + 1, v10, by omega, by simp, by rw [hnx]; exact h10⟩
      have hlt : (0 : Int) < (E.drop (64 * t)).length := by omega
      have hl9 : 64 ≤ (E.drop (64 * t)).length := by omega
      generalize fo E s t = s7 at *
      generalize E.drop (64 * t) = B at *
      have hB0 : B[0]? = some (B[0]'(by omega)) := List.getElem?_eq_getElem _
      obtain ⟨g0, o, c, e0, hx⟩ := h7.at_ hB0
      clear hB0 hx
      injection e0 with q1 q2 q3
      subst q1 q3
      clear q2
      have htk := slc_take h7.1 (n := 64) (by omega) hvc
      have hdr := slc_drop h7.1 (l := 64) (by omega) hvc
      have hl64 : (B.take 64).length = 64 := by rw [List.length_take]; omega
      generalize B.take 64 = Q at *
      obtain ⟨a1, b1, c1, d1, e1, f1, g1, h1⟩ := s7
      have hs3 := hb7
      unfold H8.row vW at hb7
      dsimp only at hb7
      have hcn : (64 : Int) ≤ vc7 := by omega
      have hsx := slc_hi (P := Tryd.prog) (t := 31) (w := w7) (b := g0) (o := o) (n := B.length) (c := vc7) (k := .i64) (h := 64) (by omega) hcn
      have hsld := htk.1.upd (Upd.drew (F := fun _ => False)) fun _ h => h.elim
      have hdrd := hdr.upd (Upd.drew (F := fun _ => False)) fun _ h => h.elim
      have hb3d := hb7.drew
      have hs3d := hs3.drew
      have hu3d := hu7.drew'
      have hsxd := slc_hi (P := Tryd.prog) (t := 31) (w := w7.drew) (b := g0) (o := o) (n := B.length) (c := vc7) (k := .i64) (h := 64) (by omega) hcn
      simp (config := { maxSteps := 3000000 }) (disch := omega) only [push_cast, Nat.reduceBEq, Nat.reduceEqDiff, Nat.reduceAdd, Nat.reduceMul, Nat.reduceSub, Nat.reduceLT, Int.reduceToNat, Int.reduceLT, Int.reduceLE, Int.reduceEq, Int.reduceAdd, Int.reduceSub, Int.reduceNeg, Int.reduceMul, hb7.cell, hb7.free, hlt, hsx]
      generalize w7.drew = w3d at *
      rw [← hl64] at hsld
      have hcall := block_ok (s := ⟨a1, b1, c1, d1, e1, f1, g1, h1⟩) (hKT.upd hu3d (fun e => by omega)) hl64 hsld
      rw [hl64] at hcall
      refine Ok.use hcall ?_
      rintro v w8 ⟨rfl, hu4⟩
      rw [← hnext]
      generalize hfo : fo E s (t + 1) = s' at *
      obtain ⟨a2, b2, c2, d2, e2', f2, g2, h2'⟩ := s'
      have hb4 := hb3d.upd hu4 fun h => h
      have hsx4 := slc_hi (P := Tryd.prog) (t := 31) (w := w8) (b := g0) (o := o) (n := B.length) (c := vc7) (k := .i64) (h := 64) (by omega) hcn
      unfold H8.val H8.row vW
      simp (config := { maxSteps := 3000000 }) (disch := omega) only [push_cast, Nat.reduceBEq, Nat.reduceEqDiff, Nat.reduceAdd, Nat.reduceMul, Nat.reduceSub, Nat.reduceLT, Int.reduceToNat, Int.reduceLT, Int.reduceLE, Int.reduceEq, Int.reduceAdd, Int.reduceSub, Int.reduceNeg, Int.reduceMul, hb7.cell, hb7.free, hb3d.cell, hb3d.free, hb4.cell, hb4.free, hlt, hsx, hsxd, hsx4]
      have hb := set8_blk (s := ⟨a2, b2, c2, d2, e2', f2, g2, h2'⟩) rfl (hs3d.upd hu4 fun h => h)
      have hup8 := set8_upd (w := w8) (b := u) (s := ⟨a2, b2, c2, d2, e2', f2, g2, h2'⟩)
      have hup := (hu3d.trans (hu4.mono (G := fun x => x = u) fun _ _ h => h.elim) fun _ _ h => h).trans hup8 fun _ _ h => h
      have hsl := (hdrd.upd hu4 (fun _ h => h.elim)).upd hup8 fun _ h => h
      unfold set8 vW at hb hup hsl
      dsimp only at hb hup hsl
      rw [← hd64] at hsl
      generalize ((((((((w8.setCell ⟨u, 0, none⟩ (.int .u32 a2.toNat)).setCell ⟨u, 1, none⟩ (.int .u32 b2.toNat)).setCell ⟨u, 2, none⟩ (.int .u32 c2.toNat)).setCell ⟨u, 3, none⟩ (.int .u32 d2.toNat)).setCell ⟨u, 4, none⟩ (.int .u32 e2'.toNat)).setCell ⟨u, 5, none⟩ (.int .u32 f2.toNat)).setCell ⟨u, 6, none⟩ (.int .u32 g2.toNat)).setCell ⟨u, 7, none⟩ (.int .u32 h2'.toNat)) = w9 at *
      have hall : Bx (∃ t v, k - 1 + t = T ∧ [Value.slice (some ⟨g0, if vc7 = 64 then o else o + 64, none⟩) (B.length - 64) (vc7 - 64)] = [v] ∧ SlC w9 (fun x => x = u) v (E.drop (64 * t)) ∧ Blk w9 u (fo E s t).row 100 ∧ Upd (fun x => x = u) w6 w9) ⟨⟩ :=
        ⟨t + 1, _, by omega, rfl, hsl, by rw [hfo]; exact hb, hup⟩
      exact ⟨k - 1, by omega, hall⟩
    | succ q =>
      have e4 : 8 * ((q + 1 : Nat) : Int) - 8 = ((8 * q : Nat) : Int) := by omega
      have e7 := beL_take (n := N) (k := 8) (j := 7 - q) (by omega)
      rw [show 8 - 1 - (7 - q) = q by omega, show 7 - q + 1 = 8 - q by omega] at e7
      rw [e4, show 8 - (q + 1) = 7 - q by omega] at *
      have e6 := shr_byte (n := N) (k := q) (by omega) (by omega)
      have h5l : (P ++ (beL 8 N).take (7 - q)).length < 1000000000 := by rw [List.length_append, List.length_take, hlen]; omega
      generalize N / 256 ^ q % 256 = x at *
      obtain ⟨Q, hQ⟩ : ∃ Q, Q = 8 * q := ⟨_, rfl⟩
      rw [← hQ] at e6 ⊢
      have e5 : IntKind.u64.wrap (Q : Int) = (Q : Int) := by rw [IntKind.wrap_u64]; omega
      have hQ0 : (Q : Int) ≤ 56 := by omega
      generalize (P ++ (beL 8 N).take (7 - q)).length = n5 at h5 ⊢
      simp (config := { maxSteps := 3000000 }) (disch := omega) only [push_cast, Nat.reduceBEq, Nat.reduceEqDiff, Nat.reduceAdd, Nat.reduceMul, Nat.reduceSub, Nat.reduceLT, Int.reduceToNat, Int.reduceLT, Int.reduceLE, Int.reduceEq, Int.reduceAdd, Int.reduceSub, Int.reduceNeg, Int.reduceMul, e5, e6]
      refine h5.push h5l ?_
      intro v6 w6 h6 _
      simp (config := { maxSteps := 3000000 }) (disch := omega) only [push_cast, Nat.reduceBEq, Nat.reduceEqDiff, Nat.reduceAdd, Nat.reduceMul, Nat.reduceSub, Nat.reduceLT, Int.reduceToNat, Int.reduceLT, Int.reduceLE, Int.reduceEq, Int.reduceAdd, Int.reduceSub, Int.reduceNeg, Int.reduceMul]
      exact ⟨q, by omega, by omega, v6, by congr 3; omega, by rw [e7, ← List.append_assoc]; exact h6⟩
  have e : ¬ (L : Int).tmod 64 = 56 := by
    rw [tmod64, hL]
    have := zeros_not (n := rest.length) (t := t) (by omega)
    omega
  simp (config := { maxSteps := 3000000 }) (disch := omega) only [push_cast, Nat.reduceBEq, Nat.reduceEqDiff, Nat.reduceAdd, Nat.reduceMul, Nat.reduceSub, Nat.reduceLT, Int.reduceToNat, Int.reduceLT, Int.reduceLE, Int.reduceEq, Int.reduceAdd, Int.reduceSub, Int.reduceNeg, Int.reduceMul, e]
  refine h4.push (by rw [hlen]; omega) ?_
  intro v6 w6 h6 _
  simp (config := { maxSteps := 3000000 }) (disch := omega) only [push_cast, Nat.reduceBEq, Nat.reduceEqDiff, Nat.reduceAdd, Nat.reduceMul, Nat.reduceSub, Nat.reduceLT, Int.reduceToNat, Int.reduceLT, Int.reduceLE, Int.reduceEq, Int.reduceAdd, Int.reduceSub, Int.reduceNeg, Int.reduceMul]
  refine ⟨k - 1, by omega, t + 1, v6, by omega, rfl, ?_⟩
  rw [List.replicate_succ', ← List.append_assoc]
  exact h6
set_option maxHeartbeats 2000000 in
theorem sum_ok {w : World} (hK : KT w) {y : Value} {b : List Int} {F : Nat → Prop} (hy : SlC w F y b) (hl : b.length ≤ 900000000) :
    Ok (den Tryd.prog 50 #[y] w) fun u w' => u = .string (strOfNums (sumP b)) ∧ Upd (fun _ => False) w w' := by
  obtain ⟨ya, yc, rfl, _⟩ := id hy.2
  refine den_ok (args := [.slice ya b.length yc]) rs50 Tryd.func50 rfl mixed in50 ok50 rfl ?_
  simp (config := { maxSteps := 3000000 }) (disch := omega) only [push_cast, Nat.reduceBEq, Nat.reduceEqDiff, Nat.reduceAdd, Nat.reduceMul, Nat.reduceSub, Nat.reduceLT, Int.reduceToNat, Int.reduceLT, Int.reduceLE, Int.reduceEq, Int.reduceAdd, Int.reduceSub, Int.reduceNeg, Int.reduceMul]
  refine Ok.use shaNew_ok ?_
  rintro v w1 ⟨p, rfl, hp, hS, hu1⟩
  have hK0 := hK.1
  simp (config := { maxSteps := 3000000 }) (disch := omega) only [push_cast, Nat.reduceBEq, Nat.reduceEqDiff, Nat.reduceAdd, Nat.reduceMul, Nat.reduceSub, Nat.reduceLT, Int.reduceToNat, Int.reduceLT, Int.reduceLE, Int.reduceEq, Int.reduceAdd, Int.reduceSub, Int.reduceNeg, Int.reduceMul]
  have hy1 : SlC w1 (fun x => x = p) (.slice ya b.length yc) b := (hy.mono (G := fun x => x = p) fun b hb e => by omega).go hu1 fun b hb h => h.elim (fun h => h.elim) fun h => h
  refine Ok.use (shaWrite_ok (hK.upd hu1 fun h => h) hS (by omega) hy1 hl) ?_
  rintro v w2 ⟨rv, hS2, hrv, hnew, hu2⟩
  simp (config := { maxSteps := 3000000 }) (disch := omega) only [push_cast, Nat.reduceBEq, Nat.reduceEqDiff, Nat.reduceAdd, Nat.reduceMul, Nat.reduceSub, Nat.reduceLT, Int.reduceToNat, Int.reduceLT, Int.reduceLE, Int.reduceEq, Int.reduceAdd, Int.reduceSub, Int.reduceNeg, Int.reduceMul]
  have hK2 := (hK.upd hu1 fun h => h).upd hu2 fun e => by omega
  have hs := sum_split (b := b)
  have hrest : (b.drop (64 * (b.length / 64))).length < 64 := by rw [List.length_drop]; omega
  refine Ok.use (shaSum_ok hK2 hS2 (hrv.slb (F := fun _ => False) fun _ _ h => h) hrest hl) ?_
  rintro v w3 ⟨rfl, hu3⟩
  simp (config := { maxSteps := 3000000 }) (disch := omega) only [push_cast, Nat.reduceBEq, Nat.reduceEqDiff, Nat.reduceAdd, Nat.reduceMul, Nat.reduceSub, Nat.reduceLT, Int.reduceToNat, Int.reduceLT, Int.reduceLE, Int.reduceEq, Int.reduceAdd, Int.reduceSub, Int.reduceNeg, Int.reduceMul]
  rw [hs]
  exact ⟨rfl, (hu1.trans hu2 fun b hb e => by omega).trans hu3 fun _ _ h => h⟩
end Go.Proofs.YtkceoefmhppddaaDoor.Fd
