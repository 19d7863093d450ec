/-
  The law JournalRecords, as a reading.
-/
import Derived.Test.YtlnladcfgieggaaJnV
namespace Go.Proofs.Ytlnladcfgieggaa.Fd
set_option linter.unusedSimpArgs false
set_option linter.unusedVariables false
open Go
set_option maxRecDepth 100000

theorem u8_nat {x : Int} (h : (Lit.int .u8 x).wf = true) : ∃ y : Nat, x = y ∧ y < 256 := by
  simp only [Lit.wf, Bool.and_eq_true, decide_eq_true_eq] at h
  have h2 : IntKind.u8.max = 255 := by decide
  have h3 : IntKind.u8.min = 0 := by decide
  exact ⟨x.toNat, by omega, by omega⟩
theorem shape_dims {x y : Nat} : Dims (2 + x % 6) 0 (2 + x % 6) (16 + y % 40) := by
  refine ⟨by omega, by omega, by omega, by omega, by omega, ?_⟩
  have : (2 + x % 6) * (16 + y % 40) ≤ 7 * 55 := Nat.mul_le_mul (by omega) (by omega)
  omega
theorem area_mul {n s : Nat} (hn : 2 ≤ n) : ((n : Int) - 1) * (s : Int) = (((n - 1) * s : Nat) : Int) := by
  rw [show (n : Int) - 1 = ((n - 1 : Nat) : Int) from by omega]; simp
theorem SlO.form {w : World} {v : Value} {l : List OpJ} (h : SlO w v l) : ∃ a c, v = .slice a l.length c := by
  obtain ⟨a, c, hv, _⟩ := h
  exact ⟨a, c, hv⟩
/-- An operation of the list, in a later world. -/
theorem SlO.at_ {w w' : World} {a : Option Addr} {n c : Nat} {l : List OpJ} (h : SlO w (.slice a n c) l) (hu : Upd (fun _ => False) w w') {F : Nat → Prop} (hF : ∀ b, F b → w.heap.size ≤ b) {i : Nat} {x : OpJ} (hx : l[i]? = some x) :
    ∃ b o ua un uc, a = some ⟨b, o, none⟩ ∧ w'.cell? ⟨b, o + i * 2, none⟩ = some (.bool x.reset) ∧ w'.cell? ⟨b, o + i * 2 + 1, none⟩ = some (.slice ua un uc) ∧ SlR w' F (.slice ua un uc) x.recs ∧ RngL x.recs := by
  obtain ⟨a', c', hv, hl⟩ := h.upd hu hF
  injection hv with e1 _ _
  subst e1
  obtain ⟨b, o, h1, h3⟩ := hl (by intro e; rw [e] at hx; simp at hx)
  obtain ⟨ua, un, uc, q0, q1, q2, q3⟩ := h3 i x hx
  exact ⟨b, o, ua, un, uc, h1, q0, q1, q2, q3⟩
theorem after_len {ls : List (List Int)} {x : OpJ} {k m : Nat} (h1 : (stream ls).length ≤ k) (h2 : (stream x.recs).length ≤ m) : (stream (ls ++ x.recs)).length ≤ k + m := by
  rw [stream_append, List.length_append]; omega
/-- Not awake: the law's first lines. -/
theorem new_run {w0 w : World} {n s : Nat} (h1 : 1 ≤ n) (h2 : n ≤ 65536) (h3 : 16 ≤ s) (h4 : s ≤ 4096) (hu : Upd (fun _ => False) w0 w) : Ok (den Try.prog 14 #[.int .i64 (n : Int), .int .i64 (s : Int)] w) fun v w' => ∃ p D, v = .tuple #[.pointer (some ⟨p, 0, none⟩), .int .i64 0] ∧ IsDisk w' D p (DS.new n s) ∧ Upd (fun _ => False) w w' ∧ ∀ b, D b → w0.heap.size ≤ b := by
  refine Ok.mono (new_ok h1 h2 h3 h4) ?_
  rintro v w' ⟨p, rfl, h1, h2⟩
  have := hu.size
  exact ⟨p, _, rfl, h1, h2, fun b hb => hb.elim False.elim fun h => by omega⟩
structure Small (n s A : Nat) : Prop where
  n1 : 2 ≤ n
  n2 : n ≤ 7
  s1 : 16 ≤ s
  s2 : s ≤ 55
  dims : Dims n 0 n s
  area : (n - 1) * s = A
  mul : ((n : Int) - 1) * (s : Int) = (A : Int)
  a1 : A ≤ 330
/-- The shape of the statements, with names for its numbers. -/
theorem shape_small {w : World} {x y : Nat} (hx : x < 256) (hy : y < 256) : Ok (den Try.prog 13 #[.int .u8 (x : Int), .int .u8 (y : Int)] w) fun u w' => ∃ n s A, u = .tuple #[.int .i64 ((n : Nat) : Int), .int .i64 ((s : Nat) : Int)] ∧ Small n s A ∧ Upd (fun _ => False) w w' := by
  refine Ok.mono (shape_ok hx hy) ?_
  rintro v w' ⟨rfl, hu⟩
  refine ⟨2 + x % 6, 16 + y % 40, (2 + x % 6 - 1) * (16 + y % 40), rfl, ⟨by omega, by omega, by omega, by omega, shape_dims, rfl, area_mul (by omega), ?_⟩, hu⟩
  have : (2 + x % 6 - 1) * (16 + y % 40) ≤ 6 * 55 := Nat.mul_le_mul (by omega) (by omega)
  omega
set_option maxHeartbeats 4000000 in
theorem journalRecords_ok {w : World} {x y : Nat} (hx : x < 256) (hy : y < 256) {v : Value} {ops : List OpJ} (hv : SlO w v ops) :
    Ok (den Try.prog 3 #[.int .u8 (x : Int), .int .u8 (y : Int), v] w) fun u w' => u = .bool true ∧ Upd (fun _ => False) w w' := by
  have t := fun {a b c : World} (x : Upd (fun _ => False) a b) (y : Upd (fun _ => False) b c) => x.trans y (F := fun _ => False) (fun _ _ h => h)
  obtain ⟨va, vc, rfl⟩ := hv.form
  refine den_ok (args := [.int .u8 (x : Int), .int .u8 (y : Int), .slice va ops.length vc]) rs3 Try.func3 rfl mixed in3 ok3 rfl ?_
  simp (config := { maxSteps := 3000000 }) (disch := omega) only [push_cast, Nat.reduceBEq, Nat.reduceEqDiff, Nat.reduceAdd, Nat.reduceMul, Nat.reduceSub, Nat.reduceLT, Int.reduceToNat, Int.reduceLT, Int.reduceLE, Int.reduceEq, Int.reduceAdd, Int.reduceSub, Int.reduceNeg, Int.reduceMul]
  refine Ok.use (Few_ok hv Upd.refl) ?_
  rintro v w1 ⟨⟨q, rfl, hq⟩, hu1⟩
  cases q
  · simp (config := { maxSteps := 3000000 }) (disch := omega) only [push_cast, Nat.reduceBEq, Nat.reduceEqDiff, Nat.reduceAdd, Nat.reduceMul, Nat.reduceSub, Nat.reduceLT, Int.reduceToNat, Int.reduceLT, Int.reduceLE, Int.reduceEq, Int.reduceAdd, Int.reduceSub, Int.reduceNeg, Int.reduceMul]
    refine Ok.use awake_ok ?_
    rintro v w2 ⟨rfl, hu2⟩
    simp (config := { maxSteps := 3000000 }) (disch := omega) only [push_cast, Nat.reduceBEq, Nat.reduceEqDiff, Nat.reduceAdd, Nat.reduceMul, Nat.reduceSub, Nat.reduceLT, Int.reduceToNat, Int.reduceLT, Int.reduceLE, Int.reduceEq, Int.reduceAdd, Int.reduceSub, Int.reduceNeg, Int.reduceMul]
    exact t hu1 hu2
  have hfew := hq.1 rfl
  have h30 := hfew.1
  simp (config := { maxSteps := 3000000 }) (disch := omega) only [push_cast, Nat.reduceBEq, Nat.reduceEqDiff, Nat.reduceAdd, Nat.reduceMul, Nat.reduceSub, Nat.reduceLT, Int.reduceToNat, Int.reduceLT, Int.reduceLE, Int.reduceEq, Int.reduceAdd, Int.reduceSub, Int.reduceNeg, Int.reduceMul]
  refine Ok.use (shape_small hx hy) ?_
  rintro v w2 ⟨n, s, A, rfl, hS, hu2⟩
  have hdims := hS.dims
  have hA := hS.area
  have em := hS.mul
  obtain ⟨n1, n2, s1, s2, _, _, _, a1⟩ := hS
  simp (config := { maxSteps := 3000000 }) (disch := omega) only [push_cast, Nat.reduceBEq, Nat.reduceEqDiff, Nat.reduceAdd, Nat.reduceMul, Nat.reduceSub, Nat.reduceLT, Int.reduceToNat, Int.reduceLT, Int.reduceLE, Int.reduceEq, Int.reduceAdd, Int.reduceSub, Int.reduceNeg, Int.reduceMul]
  refine Ok.use (new_run (by omega) (by omega) s1 (by omega) (t hu1 hu2)) ?_
  rintro v w3 ⟨p, D, rfl, hd3, hu3, hD⟩
  simp (config := { maxSteps := 3000000 }) (disch := omega) only [push_cast, Nat.reduceBEq, Nat.reduceEqDiff, Nat.reduceAdd, Nat.reduceMul, Nat.reduceSub, Nat.reduceLT, Int.reduceToNat, Int.reduceLT, Int.reduceLE, Int.reduceEq, Int.reduceAdd, Int.reduceSub, Int.reduceNeg, Int.reduceMul]
  refine Ok.use (open_run (f := 0) (c := n) hd3 (GoodD.new hdims) hdims (t (t hu1 hu2) hu3) hD) ?_
  rintro v w4 ⟨jb, rfl, hr4, hu4, hjb⟩
  simp (config := { maxSteps := 3000000 }) (disch := omega) only [push_cast, Nat.reduceBEq, Nat.reduceEqDiff, Nat.reduceAdd, Nat.reduceMul, Nat.reduceSub, Nat.reduceLT, Int.reduceToNat, Int.reduceLT, Int.reduceLE, Int.reduceEq, Int.reduceAdd, Int.reduceSub, Int.reduceNeg, Int.reduceMul]
  have hu5 : Upd (fun _ => False) w4 (w4.alloc (.cells #[] 46 (0, 0))) := Upd.alloc
  have hr5 := hr4.quiet hu5
  refine loop_inv (I := fun k st w' => Bx (∃ (i : Nat) (ls : List (List Int)) (lv : Value) (D : Nat → Prop) (d : DS), k + i = ops.length ∧ st = [lv, .int .i64 (i : Int)] ∧ Run w w' D (fun b => b = jb) p jb n 0 n s d ls ∧ d.cnt = none ∧ SlR w' (FF D fun b => b = jb) lv ls) ⟨⟩) ?_ ops.length
    ⟨0, [], _, D, _, by omega, rfl, hr5, DS.new_cnt, .nil⟩
  clear hr5 hr4 hu5 hD hd3
  rintro k st w6 ⟨i, ls, lv, D, d, hk, rfl, hr, hcnt, hls⟩
  by_cases hk0 : k = 0
  · simp (config := { maxSteps := 3000000 }) (disch := omega) only [push_cast, Nat.reduceBEq, Nat.reduceEqDiff, Nat.reduceAdd, Nat.reduceMul, Nat.reduceSub, Nat.reduceLT, Int.reduceToNat, Int.reduceLT, Int.reduceLE, Int.reduceEq, Int.reduceAdd, Int.reduceSub, Int.reduceNeg, Int.reduceMul]
    refine Ok.use awake_ok ?_
    rintro v w7 ⟨rfl, hu7⟩
    simp (config := { maxSteps := 3000000 }) (disch := omega) only [push_cast, Nat.reduceBEq, Nat.reduceEqDiff, Nat.reduceAdd, Nat.reduceMul, Nat.reduceSub, Nat.reduceLT, Int.reduceToNat, Int.reduceLT, Int.reduceLE, Int.reduceEq, Int.reduceAdd, Int.reduceSub, Int.reduceNeg, Int.reduceMul]
    exact t hr.upd hu7
  have hi : i < ops.length := by omega
  have hx := List.getElem?_eq_getElem hi
  have hfx := hfew.len (List.getElem_mem hi)
  generalize ops[i] = o at hx hfx
  obtain ⟨b, oo, ua, un, uc, rfl, q0, q1, q2, q3⟩ := hv.at_ hr.upd (fun b hb => hr.new b hb) hx
  obtain ⟨la, lc, rfl, _⟩ := id hls
  simp (config := { maxSteps := 3000000 }) (disch := omega) only [push_cast, Nat.reduceBEq, Nat.reduceEqDiff, Nat.reduceAdd, Nat.reduceMul, Nat.reduceSub, Nat.reduceLT, Int.reduceToNat, Int.reduceLT, Int.reduceLE, Int.reduceEq, Int.reduceAdd, Int.reduceSub, Int.reduceNeg, Int.reduceMul, q0, q1, em]
  refine Ok.use (After_ok hls hr.lt q2 (area := A) (by omega) (Nat.le_trans (after_len (k := 50000) (m := 6200) (by have := hr.good.fit; omega) hfx) (by omega))) ?_
  rintro v w7 ⟨⟨u0, rfl, hls7⟩, hu7⟩
  have hr7 := hr.quiet hu7
  obtain ⟨b', oo', ua', un', uc', e1, q0', q1', q2', _⟩ := hv.at_ hr7.upd (fun b hb => hr.new b hb) hx
  injection e1 with e1
  injection e1 with e1 e2
  subst e1
  subst e2
  simp (config := { maxSteps := 3000000 }) (disch := omega) only [push_cast, Nat.reduceBEq, Nat.reduceEqDiff, Nat.reduceAdd, Nat.reduceMul, Nat.reduceSub, Nat.reduceLT, Int.reduceToNat, Int.reduceLT, Int.reduceLE, Int.reduceEq, Int.reduceAdd, Int.reduceSub, Int.reduceNeg, Int.reduceMul, q0', q1']
  refine Ok.use (hr7.do hdims hcnt q2' q3 (by omega)) ?_
  rintro v w8 ⟨rfl, D8, d8, hr8, hc8, ht8, _⟩
  rw [hA] at hr8 ⊢
  have hls8 := ht8.slr (J := fun b => b = jb) rfl hls7
  generalize afterP ls o A = r at *
  obtain ⟨next, code⟩ := r
  dsimp only at hr8 hls8 ⊢
  simp (config := { maxSteps := 3000000 }) (disch := omega) only [push_cast, Nat.reduceBEq, Nat.reduceEqDiff, Nat.reduceAdd, Nat.reduceMul, Nat.reduceSub, Nat.reduceLT, Int.reduceToNat, Int.reduceLT, Int.reduceLE, Int.reduceEq, Int.reduceAdd, Int.reduceSub, Int.reduceNeg, Int.reduceMul]
  refine Ok.use (hr8.records hdims) ?_
  rintro v w9 ⟨hrec, hu9⟩
  have hr9 := hr8.quiet hu9
  have hls9 := hls8.go (F' := FF D8 fun b => b = jb) hu9 fun b _ h => h.elim False.elim id
  have hfit := hr8.good.fit
  have hlen := stream_len_le (ls := next)
  simp (config := { maxSteps := 3000000 }) (disch := omega) only [push_cast, Nat.reduceBEq, Nat.reduceEqDiff, Nat.reduceAdd, Nat.reduceMul, Nat.reduceSub, Nat.reduceLT, Int.reduceToNat, Int.reduceLT, Int.reduceLE, Int.reduceEq, Int.reduceAdd, Int.reduceSub, Int.reduceNeg, Int.reduceMul]
  refine Ok.use (Same_ok hrec hls9 hr8.good.rl hr8.good.rl (by omega)) ?_
  rintro v w10 ⟨rfl, hu10⟩
  rw [decide_eq_true rfl]
  have hr10 := hr9.quiet hu10
  have hls10 := hls9.go (F' := FF D8 fun b => b = jb) hu10 fun b _ h => h.elim False.elim id
  simp (config := { maxSteps := 3000000 }) (disch := omega) only [push_cast, Nat.reduceBEq, Nat.reduceEqDiff, Nat.reduceAdd, Nat.reduceMul, Nat.reduceSub, Nat.reduceLT, Int.reduceToNat, Int.reduceLT, Int.reduceLE, Int.reduceEq, Int.reduceAdd, Int.reduceSub, Int.reduceNeg, Int.reduceMul, em]
  refine Ok.use (hr10.left hdims) ?_
  rintro v w11 ⟨rfl, hu11⟩
  rw [hA] at hfit ⊢
  have hr11 := hr10.quiet hu11
  have hls11 := hls10.go (F' := FF D8 fun b => b = jb) hu11 fun b _ h => h.elim False.elim id
  simp (config := { maxSteps := 3000000 }) (disch := omega) only [push_cast, Nat.reduceBEq, Nat.reduceEqDiff, Nat.reduceAdd, Nat.reduceMul, Nat.reduceSub, Nat.reduceLT, Int.reduceToNat, Int.reduceLT, Int.reduceLE, Int.reduceEq, Int.reduceAdd, Int.reduceSub, Int.reduceNeg, Int.reduceMul, em]
  refine Ok.use (rLeftS_ok hls11 (area := A) hfit (by omega)) ?_
  rintro v w12 ⟨rfl, hu12⟩
  have hr12 := hr11.quiet hu12
  have hls12 := hls11.go (F' := FF D8 fun b => b = jb) hu12 fun b _ h => h.elim False.elim id
  simp (config := { maxSteps := 3000000 }) (disch := omega) only [push_cast, Nat.reduceBEq, Nat.reduceEqDiff, Nat.reduceAdd, Nat.reduceMul, Nat.reduceSub, Nat.reduceLT, Int.reduceToNat, Int.reduceLT, Int.reduceLE, Int.reduceEq, Int.reduceAdd, Int.reduceSub, Int.reduceNeg, Int.reduceMul, em]
  refine Ok.use hr12.down ?_
  rintro v w13 ⟨rfl, rfl⟩
  simp (config := { maxSteps := 3000000 }) (disch := omega) only [push_cast, Nat.reduceBEq, Nat.reduceEqDiff, Nat.reduceAdd, Nat.reduceMul, Nat.reduceSub, Nat.reduceLT, Int.reduceToNat, Int.reduceLT, Int.reduceLE, Int.reduceEq, Int.reduceAdd, Int.reduceSub, Int.reduceNeg, Int.reduceMul, em]
  exact ⟨k - 1, by omega, i + 1, next, u0, D8, d8, by omega, by simp, hr12, hc8, hls12⟩
theorem journalRecords_law {w : World} (x : Int) (hx : (Lit.int .u8 x).wf = true) (y : Int) (hy : (Lit.int .u8 y).wf = true) {v : Value} (h : ∃ l, SlO w v l) :
    Ok (den Try.prog 3 #[.int .u8 x, .int .u8 y, v] w) fun u w' => u = .bool true ∧ Upd (fun _ => False) w w' := by
  obtain ⟨l, h⟩ := h
  obtain ⟨a, rfl, ha⟩ := u8_nat hx
  obtain ⟨b, rfl, hb⟩ := u8_nat hy
  exact journalRecords_ok ha hb h
end Go.Proofs.Ytlnladcfgieggaa.Fd
