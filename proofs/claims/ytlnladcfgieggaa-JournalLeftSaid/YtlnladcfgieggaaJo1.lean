/-
  The law JournalLeft, as a reading.
-/
import Derived.Test.YtlnladcfgieggaaJnX
namespace Go.Proofs.Ytlnladcfgieggaa.Fd
set_option linter.unusedSimpArgs false
set_option linter.unusedVariables false
open Go
set_option maxRecDepth 100000

theorem leftI_spec (room : Nat) : (room = 0 ∧ leftI room = -1) ∨ ∃ n : Nat, leftI room = (n : Int) ∧ n + (encU n).length ≤ room ∧ room < (n + 1) + (encU (n + 1)).length := by
  have h := leftN_spec (room := room) (k := room)
  unfold leftI
  cases hl : leftN room room with
  | none =>
    rw [hl] at h
    left
    refine ⟨?_, rfl⟩
    refine Classical.byContradiction fun h0 => ?_
    have := h 0 (by omega)
    rw [encU_small (by omega)] at this
    simp at this
    omega
  | some n =>
    rw [hl] at h
    obtain ⟨h1, h2, h3⟩ := h
    refine .inr ⟨n, rfl, h2, ?_⟩
    by_cases h4 : n + 1 < room
    · exact h3 (n + 1) (by omega) h4
    · have := encU_pos (n + 1)
      omega
theorem stream_zeros {m : Nat} : (stream [List.replicate m (0 : Int)]).length = m + (encU m).length := by
  rw [stream_cons, stream_nil, encB, List.length_replicate]
  simp
  omega
theorem zeros_rngL {m : Nat} : RngL [List.replicate m (0 : Int)] := by
  intro l hl
  rw [List.mem_singleton] at hl
  rw [hl]
  exact Rng.zeros
/-- [][]byte{make([]byte, m)} -/
theorem lit_zeros {w : World} {F : Nat → Prop} (hF : ∀ b, F b → b < w.heap.size) {m : Nat} :
    SlR ((w.alloc (.cells (List.replicate m (Value.int .u8 0)).toArray 5 (0, 0))).alloc (.cells #[.slice (some ⟨w.heap.size, 0, none⟩) m m] 46 (0, 0))) F (.slice (some ⟨w.heap.size + 1, 0, none⟩) 1 1) [List.replicate m 0] ∧
    Upd (fun _ => False) w ((w.alloc (.cells (List.replicate m (Value.int .u8 0)).toArray 5 (0, 0))).alloc (.cells #[.slice (some ⟨w.heap.size, 0, none⟩) m m] 46 (0, 0))) := by
  have h28 : ((by8 (List.replicate m 0)).toArray : Array Value) = (List.replicate m (Value.int .u8 0)).toArray := by rw [by8_zeros]
  have p1 : SlB (w.alloc (.cells (by8 (List.replicate m 0)).toArray 5 (0, 0))) F (.slice (some ⟨w.heap.size, 0, none⟩) (List.replicate m (0 : Int)).length m) (List.replicate m 0) := slb_mark fun h => by have := hF _ h; omega
  have p2 := slr_one p1 (fun h => by have := hF _ h; rw [size_alloc] at this; omega)
  rw [size_alloc, h28, List.length_replicate] at p2
  exact ⟨p2, (Upd.alloc (F := fun _ => False)).alloc'⟩
set_option maxHeartbeats 4000000 in
theorem journalLeft_ok {w : World} {x y : Nat} (hx : x < 256) (hy : y < 256) {v : Value} {ops : List OpJ} (hv : SlO w v ops) :
    Ok (den Try.prog 4 #[.int .u8 (x : Int), .int .u8 (y : Int), v] w) fun u w' => u = .bool true ∧ Upd (fun _ => False) w w' := by
  have t := fun {a b c : World} (x : Upd (fun _ => False) a b) (y : Upd (fun _ => False) b c) => x.trans y (F := fun _ => False) (fun _ _ h => h)
  obtain ⟨va, vc, rfl⟩ := hv.form
  refine den_ok (args := [.int .u8 (x : Int), .int .u8 (y : Int), .slice va ops.length vc]) rs4 Try.func4 rfl mixed in4 ok4 rfl ?_
  simp (config := { maxSteps := 3000000 }) (disch := omega) only [push_cast, Nat.reduceBEq, Nat.reduceEqDiff, Nat.reduceAdd, Nat.reduceMul, Nat.reduceSub, Nat.reduceLT, Int.reduceToNat, Int.reduceLT, Int.reduceLE, Int.reduceEq, Int.reduceAdd, Int.reduceSub, Int.reduceNeg, Int.reduceMul]
  refine Ok.use (Few_ok hv Upd.refl) ?_
  rintro v w1 ⟨⟨q, rfl, hq⟩, hu1⟩
  cases q
  · simp (config := { maxSteps := 3000000 }) (disch := omega) only [push_cast, Nat.reduceBEq, Nat.reduceEqDiff, Nat.reduceAdd, Nat.reduceMul, Nat.reduceSub, Nat.reduceLT, Int.reduceToNat, Int.reduceLT, Int.reduceLE, Int.reduceEq, Int.reduceAdd, Int.reduceSub, Int.reduceNeg, Int.reduceMul]
    refine Ok.use awake_ok ?_
    rintro v w2 ⟨rfl, hu2⟩
    simp (config := { maxSteps := 3000000 }) (disch := omega) only [push_cast, Nat.reduceBEq, Nat.reduceEqDiff, Nat.reduceAdd, Nat.reduceMul, Nat.reduceSub, Nat.reduceLT, Int.reduceToNat, Int.reduceLT, Int.reduceLE, Int.reduceEq, Int.reduceAdd, Int.reduceSub, Int.reduceNeg, Int.reduceMul]
    exact t hu1 hu2
  have hfew := hq.1 rfl
  have h30 := hfew.1
  simp (config := { maxSteps := 3000000 }) (disch := omega) only [push_cast, Nat.reduceBEq, Nat.reduceEqDiff, Nat.reduceAdd, Nat.reduceMul, Nat.reduceSub, Nat.reduceLT, Int.reduceToNat, Int.reduceLT, Int.reduceLE, Int.reduceEq, Int.reduceAdd, Int.reduceSub, Int.reduceNeg, Int.reduceMul]
  refine Ok.use (shape_small hx hy) ?_
  rintro v w2 ⟨n, s, A, rfl, hS, hu2⟩
  have hdims := hS.dims
  have hA := hS.area
  have em := hS.mul
  have em2 : (n : Int) * (s : Int) = (A : Int) + (s : Int) := by rw [← em, Int.sub_mul]; omega
  obtain ⟨n1, n2, s1, s2, _, _, _, a1⟩ := hS
  simp (config := { maxSteps := 3000000 }) (disch := omega) only [push_cast, Nat.reduceBEq, Nat.reduceEqDiff, Nat.reduceAdd, Nat.reduceMul, Nat.reduceSub, Nat.reduceLT, Int.reduceToNat, Int.reduceLT, Int.reduceLE, Int.reduceEq, Int.reduceAdd, Int.reduceSub, Int.reduceNeg, Int.reduceMul]
  refine Ok.use (new_run (by omega) (by omega) s1 (by omega) (t hu1 hu2)) ?_
  rintro v w3 ⟨p, D, rfl, hd3, hu3, hD⟩
  simp (config := { maxSteps := 3000000 }) (disch := omega) only [push_cast, Nat.reduceBEq, Nat.reduceEqDiff, Nat.reduceAdd, Nat.reduceMul, Nat.reduceSub, Nat.reduceLT, Int.reduceToNat, Int.reduceLT, Int.reduceLE, Int.reduceEq, Int.reduceAdd, Int.reduceSub, Int.reduceNeg, Int.reduceMul]
  refine Ok.use (open_run (f := 0) (c := n) hd3 (GoodD.new hdims) hdims (t (t hu1 hu2) hu3) hD) ?_
  rintro v w4 ⟨jb, rfl, hr4, hu4, hjb⟩
  simp (config := { maxSteps := 3000000 }) (disch := omega) only [push_cast, Nat.reduceBEq, Nat.reduceEqDiff, Nat.reduceAdd, Nat.reduceMul, Nat.reduceSub, Nat.reduceLT, Int.reduceToNat, Int.reduceLT, Int.reduceLE, Int.reduceEq, Int.reduceAdd, Int.reduceSub, Int.reduceNeg, Int.reduceMul]
  refine loop_inv (I := fun k st w' => Bx (∃ (i : Nat) (ls : List (List Int)) (D : Nat → Prop) (d : DS), k + i = ops.length ∧ st = [.int .i64 (i : Int)] ∧ Run w w' D (fun b => b = jb) p jb n 0 n s d ls ∧ d.cnt = none) ⟨⟩) ?_ ops.length
    ⟨0, [], D, _, by omega, rfl, hr4, DS.new_cnt⟩
  clear hr4 hD hd3
  rintro k st w6 ⟨i, ls, D, d, hk, rfl, hr, hcnt⟩
  by_cases hk0 : k = 0
  rotate_left
  · have hi : i < ops.length := by omega
    have hx := List.getElem?_eq_getElem hi
    have hfx := hfew.len (List.getElem_mem hi)
    generalize ops[i] = o at hx hfx
    obtain ⟨b, oo, ua, un, uc, rfl, q0, q1, q2, q3⟩ := hv.at_ hr.upd (fun b hb => hr.new b hb) hx
    simp (config := { maxSteps := 3000000 }) (disch := omega) only [push_cast, Nat.reduceBEq, Nat.reduceEqDiff, Nat.reduceAdd, Nat.reduceMul, Nat.reduceSub, Nat.reduceLT, Int.reduceToNat, Int.reduceLT, Int.reduceLE, Int.reduceEq, Int.reduceAdd, Int.reduceSub, Int.reduceNeg, Int.reduceMul, q0, q1]
    refine Ok.use (hr.do hdims hcnt q2 q3 (by omega)) ?_
    rintro v w8 ⟨rfl, D8, d8, hr8, hc8, ht8, _⟩
    generalize afterP ls o ((n - 1) * s) = r at *
    obtain ⟨next, code⟩ := r
    dsimp only at hr8 ⊢
    simp (config := { maxSteps := 3000000 }) (disch := omega) only [push_cast, Nat.reduceBEq, Nat.reduceEqDiff, Nat.reduceAdd, Nat.reduceMul, Nat.reduceSub, Nat.reduceLT, Int.reduceToNat, Int.reduceLT, Int.reduceLE, Int.reduceEq, Int.reduceAdd, Int.reduceSub, Int.reduceNeg, Int.reduceMul]
    exact ⟨k - 1, by omega, i + 1, next, D8, d8, by omega, by simp, hr8, hc8⟩
  have hfit := hr.good.fit
  have hlen := stream_len_le (ls := ls)
  simp (config := { maxSteps := 3000000 }) (disch := omega) only [push_cast, Nat.reduceBEq, Nat.reduceEqDiff, Nat.reduceAdd, Nat.reduceMul, Nat.reduceSub, Nat.reduceLT, Int.reduceToNat, Int.reduceLT, Int.reduceLE, Int.reduceEq, Int.reduceAdd, Int.reduceSub, Int.reduceNeg, Int.reduceMul]
  refine Ok.use (hr.records hdims) ?_
  rintro v w7 ⟨hrec, hu7⟩
  have hr7 := hr.quiet hu7
  have hlt6 := hr.lt
  have hrec := hrec.go (F' := FF D fun b => b = jb) (Upd.refl (F := fun _ => False)) fun b hb h => h.elim False.elim fun h => hlt6 b h
  simp (config := { maxSteps := 3000000 }) (disch := omega) only [push_cast, Nat.reduceBEq, Nat.reduceEqDiff, Nat.reduceAdd, Nat.reduceMul, Nat.reduceSub, Nat.reduceLT, Int.reduceToNat, Int.reduceLT, Int.reduceLE, Int.reduceEq, Int.reduceAdd, Int.reduceSub, Int.reduceNeg, Int.reduceMul]
  refine Ok.use (hr7.left hdims) ?_
  rintro v w8 ⟨rfl, hu8⟩
  rw [hA] at hfit ⊢
  have hr8 := hr7.quiet hu8
  have hrec := hrec.go (F' := FF D fun b => b = jb) hu8 fun b _ h => h.elim False.elim id
  have hspec := leftI_spec (A - (stream ls).length)
  have hL : ∃ L : Int, leftI (A - (stream ls).length) = L ∧ -1 ≤ L ∧ L ≤ A ∧ ∃ m : Nat, L + 1 = (m : Int) ∧ A < (stream ls).length + (m + (encU m).length) ∧ (0 ≤ L → ∃ m' : Nat, L = (m' : Int) ∧ (stream ls).length + (m' + (encU m').length) ≤ A) := by
    rcases hspec with ⟨h1, h2⟩ | ⟨m, h1, h2, h3⟩
    · exact ⟨-1, h2, by omega, by omega, 0, rfl, by rw [encU_small (by omega)]; simp; omega, fun h => by omega⟩
    · exact ⟨m, h1, by omega, by omega, m + 1, by omega, by omega, fun _ => ⟨m, rfl, by omega⟩⟩
  obtain ⟨L, hLe, hL1, hL2, m, hm, hfull, hgood⟩ := hL
  rw [hLe]
  obtain ⟨ra, rc, rfl, _⟩ := id hrec
  simp (config := { maxSteps := 3000000 }) (disch := omega) only [push_cast, Nat.reduceBEq, Nat.reduceEqDiff, Nat.reduceAdd, Nat.reduceMul, Nat.reduceSub, Nat.reduceLT, Int.reduceToNat, Int.reduceLT, Int.reduceLE, Int.reduceEq, Int.reduceAdd, Int.reduceSub, Int.reduceNeg, Int.reduceMul, em2, hm]
  obtain ⟨z1, zu⟩ := lit_zeros (m := m) hr8.lt
  have hmA : m ≤ 331 := by omega
  generalize (w8.alloc (.cells (List.replicate m (Value.int .u8 0)).toArray 5 (0, 0))).alloc (.cells #[.slice (some ⟨w8.heap.size, 0, none⟩) m m] 46 (0, 0)) = w9 at *
  have hr9 := hr8.quiet zu
  have hrec := hrec.go (F' := FF D fun b => b = jb) zu fun b _ h => h.elim False.elim id
  have hl10 := encU_len10 (n := m) (by omega)
  refine Ok.use (hr9.append hdims hcnt z1 zeros_rngL (by rw [stream_zeros]; omega)) ?_
  rintro v w10 ⟨rfl, D10, d10, hr10, hc10, ht10, _⟩
  have ea : afterP ls ⟨false, [List.replicate m 0]⟩ ((n - 1) * s) = (ls, 7) := by
    unfold afterP
    rw [if_neg (by exact Bool.false_ne_true), if_pos (by rw [hA]; show A < (stream (ls ++ [List.replicate m 0])).length; rw [stream_append, List.length_append, stream_zeros]; exact hfull)]
  rw [ea] at hr10 ⊢
  dsimp only at hr10 ⊢
  have hrec := ht10.slr (J := fun b => b = jb) rfl hrec
  simp (config := { maxSteps := 3000000 }) (disch := omega) only [push_cast, Nat.reduceBEq, Nat.reduceEqDiff, Nat.reduceAdd, Nat.reduceMul, Nat.reduceSub, Nat.reduceLT, Int.reduceToNat, Int.reduceLT, Int.reduceLE, Int.reduceEq, Int.reduceAdd, Int.reduceSub, Int.reduceNeg, Int.reduceMul, em2, hm]
  refine Ok.use (hr10.records hdims) ?_
  rintro v w11 ⟨hrec2, hu11⟩
  have hr11 := hr10.quiet hu11
  have hrec := hrec.go (F' := fun _ => False) hu11 fun b _ h => h.elim False.elim False.elim
  simp (config := { maxSteps := 3000000 }) (disch := omega) only [push_cast, Nat.reduceBEq, Nat.reduceEqDiff, Nat.reduceAdd, Nat.reduceMul, Nat.reduceSub, Nat.reduceLT, Int.reduceToNat, Int.reduceLT, Int.reduceLE, Int.reduceEq, Int.reduceAdd, Int.reduceSub, Int.reduceNeg, Int.reduceMul, em2, hm]
  refine Ok.use (Same_ok hrec2 hrec hr11.good.rl hr11.good.rl (by omega)) ?_
  rintro v w12 ⟨rfl, hu12⟩
  rw [decide_eq_true rfl]
  have hr12 := hr11.quiet hu12
  simp (config := { maxSteps := 3000000 }) (disch := omega) only [push_cast, Nat.reduceBEq, Nat.reduceEqDiff, Nat.reduceAdd, Nat.reduceMul, Nat.reduceSub, Nat.reduceLT, Int.reduceToNat, Int.reduceLT, Int.reduceLE, Int.reduceEq, Int.reduceAdd, Int.reduceSub, Int.reduceNeg, Int.reduceMul, em2, hm]
  refine Ok.use (hr12.left hdims) ?_
  rintro v w13 ⟨rfl, hu13⟩
  rw [hA, hLe]
  have hr13 := hr12.quiet hu13
  by_cases hneg : L < 0
  · simp (config := { maxSteps := 3000000 }) (disch := omega) only [push_cast, Nat.reduceBEq, Nat.reduceEqDiff, Nat.reduceAdd, Nat.reduceMul, Nat.reduceSub, Nat.reduceLT, Int.reduceToNat, Int.reduceLT, Int.reduceLE, Int.reduceEq, Int.reduceAdd, Int.reduceSub, Int.reduceNeg, Int.reduceMul, em2, hm]
    refine Ok.use awake_ok ?_
    rintro v w14 ⟨rfl, hu14⟩
    simp (config := { maxSteps := 3000000 }) (disch := omega) only [push_cast, Nat.reduceBEq, Nat.reduceEqDiff, Nat.reduceAdd, Nat.reduceMul, Nat.reduceSub, Nat.reduceLT, Int.reduceToNat, Int.reduceLT, Int.reduceLE, Int.reduceEq, Int.reduceAdd, Int.reduceSub, Int.reduceNeg, Int.reduceMul]
    exact t hr13.upd hu14
  obtain ⟨m', hm', hfits⟩ := hgood (by omega)
  simp (config := { maxSteps := 3000000 }) (disch := omega) only [push_cast, Nat.reduceBEq, Nat.reduceEqDiff, Nat.reduceAdd, Nat.reduceMul, Nat.reduceSub, Nat.reduceLT, Int.reduceToNat, Int.reduceLT, Int.reduceLE, Int.reduceEq, Int.reduceAdd, Int.reduceSub, Int.reduceNeg, Int.reduceMul, em2, hm]
  refine Ok.use awake_ok ?_
  rintro v w14 ⟨rfl, hu14⟩
  have hr14 := hr13.quiet hu14
  rw [hm']
  simp (config := { maxSteps := 3000000 }) (disch := omega) only [push_cast, Nat.reduceBEq, Nat.reduceEqDiff, Nat.reduceAdd, Nat.reduceMul, Nat.reduceSub, Nat.reduceLT, Int.reduceToNat, Int.reduceLT, Int.reduceLE, Int.reduceEq, Int.reduceAdd, Int.reduceSub, Int.reduceNeg, Int.reduceMul]
  obtain ⟨z2, zu2⟩ := lit_zeros (m := m') hr14.lt
  generalize (w14.alloc (.cells (List.replicate m' (Value.int .u8 0)).toArray 5 (0, 0))).alloc (.cells #[.slice (some ⟨w14.heap.size, 0, none⟩) m' m'] 46 (0, 0)) = w15 at *
  have hr15 := hr14.quiet zu2
  have hl11 := encU_len10 (n := m') (by omega)
  refine Ok.use (hr15.append hdims hc10 z2 zeros_rngL (by rw [stream_zeros]; omega)) ?_
  rintro v w16 ⟨rfl, D16, d16, hr16, hc16, ht16, _⟩
  have ea2 : afterP ls ⟨false, [List.replicate m' 0]⟩ ((n - 1) * s) = (ls ++ [List.replicate m' 0], 0) := by
    unfold afterP
    rw [if_neg (by exact Bool.false_ne_true), if_neg (by rw [hA]; show ¬ A < (stream (ls ++ [List.replicate m' 0])).length; rw [stream_append, List.length_append, stream_zeros]; omega)]
  rw [ea2] at hr16 ⊢
  dsimp only at hr16 ⊢
  simp (config := { maxSteps := 3000000 }) (disch := omega) only [push_cast, Nat.reduceBEq, Nat.reduceEqDiff, Nat.reduceAdd, Nat.reduceMul, Nat.reduceSub, Nat.reduceLT, Int.reduceToNat, Int.reduceLT, Int.reduceLE, Int.reduceEq, Int.reduceAdd, Int.reduceSub, Int.reduceNeg, Int.reduceMul]
  refine Ok.use (hr16.records hdims) ?_
  rintro v w17 ⟨hrec3, hu17⟩
  have hr17 := hr16.quiet hu17
  obtain ⟨ra3, rc3, rfl, _⟩ := id hrec3
  have hll : (ls ++ [List.replicate m' (0 : Int)]).length = ls.length + 1 := by simp
  rw [hll]
  simp (config := { maxSteps := 3000000 }) (disch := omega) only [push_cast, Nat.reduceBEq, Nat.reduceEqDiff, Nat.reduceAdd, Nat.reduceMul, Nat.reduceSub, Nat.reduceLT, Int.reduceToNat, Int.reduceLT, Int.reduceLE, Int.reduceEq, Int.reduceAdd, Int.reduceSub, Int.reduceNeg, Int.reduceMul]
  first | exact hr17.upd | exact ⟨by simp, hr17.upd⟩ | exact hr17.upd.drew'
theorem journalLeft_law {w : World} (x : Int) (hx : (Lit.int .u8 x).wf = true) (y : Int) (hy : (Lit.int .u8 y).wf = true) {v : Value} (h : ∃ l, SlO w v l) :
    Ok (den Try.prog 4 #[.int .u8 x, .int .u8 y, v] w) fun u w' => u = .bool true ∧ Upd (fun _ => False) w w' := by
  obtain ⟨l, h⟩ := h
  obtain ⟨a, rfl, ha⟩ := u8_nat hx
  obtain ⟨b, rfl, hb⟩ := u8_nat hy
  exact journalLeft_ok ha hb h
end Go.Proofs.Ytlnladcfgieggaa.Fd
