/-
  proper.
-/
import Derived.Test.YtpgfokhpacdhjaaBc5
namespace Go.Proofs.Ytpgfokhpacdhjaa.Fd
set_option linter.unusedSimpArgs false
set_option linter.unusedVariables false
open Go
set_option maxRecDepth 100000

theorem PA.drw {base : Nat} {w : World} {p : Nat} {S : PS} {mb db : Nat} {lv : Value} {m ds : List (NP × Value)} (h : PA base w p S mb db lv m ds) : PA base w.drew p S mb db lv m ds := h.quiet Upd.drew
def insI (n : Nat) (x : Int) : Bool := decide (0 ≤ x ∧ x < n)
def propP (S : PS) (z : Pk) : Bool :=
  (decide (z.k = 1) || decide (z.k = 2)) && decide (z.t = S.self) && insI S.n z.f && !decide (z.f = S.self) && insI S.n z.o && decide (1 ≤ z.n) && decide (z.n ≤ 1000000000000000) && (decide (z.k = 1) || decide (z.l.length = 0)) && (!decide (z.o = S.self) || decide (z.n ≤ S.made))
set_option maxHeartbeats 1000000 in
theorem inside_ok {base : Nat} {w : World} {p : Nat} {S : PS} {mb db : Nat} {lv : Value} {m ds : List (NP × Value)} (h : PA base w p S mb db lv m ds) {c : Nat} (hc : Blk w c [.pointer (some ⟨p, 0, none⟩)] 43) (x : Int) :
    Ok (den Try.prog 49 #[.int .i64 x, .pointer (some ⟨c, 0, none⟩)] w) fun v w' => v = .bool (decide (0 ≤ x ∧ x < S.n)) ∧ w' = w := by
  refine den_ok (args := [.int .i64 x, .pointer (some ⟨c, 0, none⟩)]) rs49 Try.func49 rfl mixed in49 ok49 rfl ?_
  by_cases h1 : 0 ≤ x
  · by_cases h2 : x < S.n
    · simp (disch := omega) only [push_cast, Nat.reduceBEq, Nat.reduceEqDiff, Nat.reduceAdd, Nat.reduceMul, Nat.reduceSub, Nat.reduceLT, Int.reduceToNat, Int.reduceLT, Int.reduceLE, Int.reduceEq, Int.reduceAdd, Int.reduceSub, Int.reduceNeg, Int.reduceMul, h1, h2, hc.cell, h.obj.cell]
    · simp (disch := omega) only [push_cast, Nat.reduceBEq, Nat.reduceEqDiff, Nat.reduceAdd, Nat.reduceMul, Nat.reduceSub, Nat.reduceLT, Int.reduceToNat, Int.reduceLT, Int.reduceLE, Int.reduceEq, Int.reduceAdd, Int.reduceSub, Int.reduceNeg, Int.reduceMul, h1, h2, hc.cell, h.obj.cell]
  · simp (disch := omega) only [push_cast, Nat.reduceBEq, Nat.reduceEqDiff, Nat.reduceAdd, Nat.reduceMul, Nat.reduceSub, Nat.reduceLT, Int.reduceToNat, Int.reduceLT, Int.reduceLE, Int.reduceEq, Int.reduceAdd, Int.reduceSub, Int.reduceNeg, Int.reduceMul, h1]
set_option maxHeartbeats 20000000 in
theorem proper_ok {base : Nat} {w : World} {p : Nat} {S : PS} {mb db : Nat} {lv : Value} {m ds : List (NP × Value)} (h : PA base w p S mb db lv m ds) (z : Pk × Value) (hz : PB base w z.2 z.1.l) :
    Ok (den Try.prog 37 #[.pointer (some ⟨p, 0, none⟩), pkV z] w) fun v w' => v = .bool (propP S z.1) ∧ Upd (fun _ => False) w w' := by
  obtain ⟨za, zc, hz2⟩ := hz.form
  refine den_ok (args := [.pointer (some ⟨p, 0, none⟩), pkV z]) rs37 Try.func37 rfl mixed in37 ok37 rfl ?_
  unfold pkV pkC
  rw [hz2]
  rw [W_seq]
  generalize hKs : KS _ _ _ _ _ = Ks
  simp (disch := omega) only [push_cast, Nat.reduceBEq, Nat.reduceEqDiff, Nat.reduceAdd, Nat.reduceMul, Nat.reduceSub, Nat.reduceLT, Int.reduceToNat, Int.reduceLT, Int.reduceLE, Int.reduceEq, Int.reduceAdd, Int.reduceSub, Int.reduceNeg, Int.reduceMul]
  have c2 := (Blk.new (w := w) (cs := [.pointer (some ⟨p, 0, none⟩)]) (E := 43)).alloc (.cells [.int .i64 z.1.k, .int .i64 z.1.f, .int .i64 z.1.t, .int .i64 z.1.o, .int .i64 z.1.n, .slice za z.1.l.length zc].toArray 46 (0, 0))
  have d2 := Blk.new (w := w.alloc (.cells [.pointer (some ⟨p, 0, none⟩)].toArray 43 (0, 0))) (cs := [.int .i64 z.1.k, .int .i64 z.1.f, .int .i64 z.1.t, .int .i64 z.1.o, .int .i64 z.1.n, .slice za z.1.l.length zc]) (E := 46)
  have u2 : Upd (fun _ => False) w ((w.alloc (.cells [.pointer (some ⟨p, 0, none⟩)].toArray 43 (0, 0))).alloc (.cells [.int .i64 z.1.k, .int .i64 z.1.f, .int .i64 z.1.t, .int .i64 z.1.o, .int .i64 z.1.n, .slice za z.1.l.length zc].toArray 46 (0, 0))) := Upd.alloc.alloc'
  rw [size_alloc] at d2
  generalize (w.alloc (.cells [.pointer (some ⟨p, 0, none⟩)].toArray 43 (0, 0))).alloc (.cells [.int .i64 z.1.k, .int .i64 z.1.f, .int .i64 z.1.t, .int .i64 z.1.o, .int .i64 z.1.n, .slice za z.1.l.length zc].toArray 46 (0, 0)) = w2 at *
  have h2 := h.quiet u2
  obtain ⟨z1, z2⟩ := z
  obtain ⟨zk, zf, zt, zo, zn, zl⟩ := z1
  simp only at *
  subst hKs
  rw [KS_nor]
  simp only [List.append_eq, List.cons_append, List.nil_append]
  rw [W_seq]
  generalize hKs : KS _ _ _ _ _ = Ks
  simp (disch := omega) only [push_cast, Nat.reduceBEq, Nat.reduceEqDiff, Nat.reduceAdd, Nat.reduceMul, Nat.reduceSub, Nat.reduceLT, Int.reduceToNat, Int.reduceLT, Int.reduceLE, Int.reduceEq, Int.reduceAdd, Int.reduceSub, Int.reduceNeg, Int.reduceMul]
  subst hKs
  rw [KS_nor]
  by_cases hk : zk = 1 ∨ zk = 2
  rotate_left
  · have hk1 : ¬ zk = 1 := fun e => hk (.inl e)
    have hk2 : ¬ zk = 2 := fun e => hk (.inr e)
    rw [W_seq]
    generalize hKs : KS _ _ _ _ _ = Ks
    simp (config := { maxSteps := 3000000 }) (disch := omega) only [push_cast, Nat.reduceBEq, Nat.reduceEqDiff, Nat.reduceAdd, Nat.reduceMul, Nat.reduceSub, Nat.reduceLT, Int.reduceToNat, Int.reduceLT, Int.reduceLE, Int.reduceEq, Int.reduceAdd, Int.reduceSub, Int.reduceNeg, Int.reduceMul, d2.cell, hk1, hk2]
    subst hKs
    rw [KS_nor]
    simp (disch := omega) only [push_cast, Nat.reduceBEq, Nat.reduceEqDiff, Nat.reduceAdd, Nat.reduceMul, Nat.reduceSub, Nat.reduceLT, Int.reduceToNat, Int.reduceLT, Int.reduceLE, Int.reduceEq, Int.reduceAdd, Int.reduceSub, Int.reduceNeg, Int.reduceMul]
    refine ⟨by simp [propP, hk1, hk2], u2.drew'⟩
  rcases hk with rfl | rfl
  · by_cases ht : zt = S.self
    rotate_left
    · rw [W_seq]
      generalize hKs : KS _ _ _ _ _ = Ks
      simp (config := { maxSteps := 3000000 }) (disch := omega) only [push_cast, Nat.reduceBEq, Nat.reduceEqDiff, Nat.reduceAdd, Nat.reduceMul, Nat.reduceSub, Nat.reduceLT, Int.reduceToNat, Int.reduceLT, Int.reduceLE, Int.reduceEq, Int.reduceAdd, Int.reduceSub, Int.reduceNeg, Int.reduceMul, d2.cell, ht, c2.cell, h2.obj.cell]
      subst hKs
      rw [KS_nor]
      simp (disch := omega) only [push_cast, Nat.reduceBEq, Nat.reduceEqDiff, Nat.reduceAdd, Nat.reduceMul, Nat.reduceSub, Nat.reduceLT, Int.reduceToNat, Int.reduceLT, Int.reduceLE, Int.reduceEq, Int.reduceAdd, Int.reduceSub, Int.reduceNeg, Int.reduceMul]
      refine ⟨by simp [propP, ht], u2.drew'⟩
    rw [W_seq]
    generalize hKs : KS _ _ _ _ _ = Ks
    simp (config := { maxSteps := 3000000 }) (disch := omega) only [push_cast, Nat.reduceBEq, Nat.reduceEqDiff, Nat.reduceAdd, Nat.reduceMul, Nat.reduceSub, Nat.reduceLT, Int.reduceToNat, Int.reduceLT, Int.reduceLE, Int.reduceEq, Int.reduceAdd, Int.reduceSub, Int.reduceNeg, Int.reduceMul, d2.cell, ht, c2.cell, h2.obj.cell]
    refine Ok.use (inside_ok h2.drw c2.drew zf) ?_
    rintro v w3 ⟨rfl, rfl⟩
    by_cases hf : 0 ≤ zf ∧ zf < S.n
    rotate_left
    · rw [decide_eq_false hf]
      simp (config := { maxSteps := 3000000 }) (disch := omega) only [push_cast, Nat.reduceBEq, Nat.reduceEqDiff, Nat.reduceAdd, Nat.reduceMul, Nat.reduceSub, Nat.reduceLT, Int.reduceToNat, Int.reduceLT, Int.reduceLE, Int.reduceEq, Int.reduceAdd, Int.reduceSub, Int.reduceNeg, Int.reduceMul, d2.cell, ht, c2.cell, h2.obj.cell]
      subst hKs
      rw [KS_nor]
      simp (disch := omega) only [push_cast, Nat.reduceBEq, Nat.reduceEqDiff, Nat.reduceAdd, Nat.reduceMul, Nat.reduceSub, Nat.reduceLT, Int.reduceToNat, Int.reduceLT, Int.reduceLE, Int.reduceEq, Int.reduceAdd, Int.reduceSub, Int.reduceNeg, Int.reduceMul]
      refine ⟨by simp [propP, insI, hf], u2.drew'⟩
    rw [decide_eq_true hf]
    by_cases hfs : zf = S.self
    · simp (config := { maxSteps := 3000000 }) (disch := omega) only [push_cast, Nat.reduceBEq, Nat.reduceEqDiff, Nat.reduceAdd, Nat.reduceMul, Nat.reduceSub, Nat.reduceLT, Int.reduceToNat, Int.reduceLT, Int.reduceLE, Int.reduceEq, Int.reduceAdd, Int.reduceSub, Int.reduceNeg, Int.reduceMul, d2.cell, ht, c2.cell, h2.obj.cell, hfs]
      subst hKs
      rw [KS_nor]
      simp (disch := omega) only [push_cast, Nat.reduceBEq, Nat.reduceEqDiff, Nat.reduceAdd, Nat.reduceMul, Nat.reduceSub, Nat.reduceLT, Int.reduceToNat, Int.reduceLT, Int.reduceLE, Int.reduceEq, Int.reduceAdd, Int.reduceSub, Int.reduceNeg, Int.reduceMul]
      refine ⟨by simp [propP, insI, hfs], u2.drew'⟩
    simp (config := { maxSteps := 3000000 }) (disch := omega) only [push_cast, Nat.reduceBEq, Nat.reduceEqDiff, Nat.reduceAdd, Nat.reduceMul, Nat.reduceSub, Nat.reduceLT, Int.reduceToNat, Int.reduceLT, Int.reduceLE, Int.reduceEq, Int.reduceAdd, Int.reduceSub, Int.reduceNeg, Int.reduceMul, d2.cell, ht, c2.cell, h2.obj.cell, hfs]
    refine Ok.use (inside_ok h2.drw c2.drew zo) ?_
    rintro v w4 ⟨rfl, rfl⟩
    by_cases ho : 0 ≤ zo ∧ zo < S.n
    rotate_left
    · rw [decide_eq_false ho]
      simp (config := { maxSteps := 3000000 }) (disch := omega) only [push_cast, Nat.reduceBEq, Nat.reduceEqDiff, Nat.reduceAdd, Nat.reduceMul, Nat.reduceSub, Nat.reduceLT, Int.reduceToNat, Int.reduceLT, Int.reduceLE, Int.reduceEq, Int.reduceAdd, Int.reduceSub, Int.reduceNeg, Int.reduceMul, d2.cell, ht, c2.cell, h2.obj.cell, hfs]
      subst hKs
      rw [KS_nor]
      simp (disch := omega) only [push_cast, Nat.reduceBEq, Nat.reduceEqDiff, Nat.reduceAdd, Nat.reduceMul, Nat.reduceSub, Nat.reduceLT, Int.reduceToNat, Int.reduceLT, Int.reduceLE, Int.reduceEq, Int.reduceAdd, Int.reduceSub, Int.reduceNeg, Int.reduceMul]
      refine ⟨by simp [propP, insI, ho], u2.drew'⟩
    rw [decide_eq_true ho]
    by_cases hn1 : 1 ≤ zn
    rotate_left
    · simp (config := { maxSteps := 3000000 }) (disch := omega) only [push_cast, Nat.reduceBEq, Nat.reduceEqDiff, Nat.reduceAdd, Nat.reduceMul, Nat.reduceSub, Nat.reduceLT, Int.reduceToNat, Int.reduceLT, Int.reduceLE, Int.reduceEq, Int.reduceAdd, Int.reduceSub, Int.reduceNeg, Int.reduceMul, d2.cell, ht, c2.cell, h2.obj.cell, hfs, hn1]
      subst hKs
      rw [KS_nor]
      simp (disch := omega) only [push_cast, Nat.reduceBEq, Nat.reduceEqDiff, Nat.reduceAdd, Nat.reduceMul, Nat.reduceSub, Nat.reduceLT, Int.reduceToNat, Int.reduceLT, Int.reduceLE, Int.reduceEq, Int.reduceAdd, Int.reduceSub, Int.reduceNeg, Int.reduceMul]
      refine ⟨by simp [propP, insI, hn1], u2.drew'⟩
    by_cases hn2 : zn ≤ 1000000000000000
    rotate_left
    · simp (config := { maxSteps := 3000000 }) (disch := omega) only [push_cast, Nat.reduceBEq, Nat.reduceEqDiff, Nat.reduceAdd, Nat.reduceMul, Nat.reduceSub, Nat.reduceLT, Int.reduceToNat, Int.reduceLT, Int.reduceLE, Int.reduceEq, Int.reduceAdd, Int.reduceSub, Int.reduceNeg, Int.reduceMul, d2.cell, ht, c2.cell, h2.obj.cell, hfs, hn1, hn2]
      subst hKs
      rw [KS_nor]
      simp (disch := omega) only [push_cast, Nat.reduceBEq, Nat.reduceEqDiff, Nat.reduceAdd, Nat.reduceMul, Nat.reduceSub, Nat.reduceLT, Int.reduceToNat, Int.reduceLT, Int.reduceLE, Int.reduceEq, Int.reduceAdd, Int.reduceSub, Int.reduceNeg, Int.reduceMul]
      refine ⟨by simp [propP, insI, hn2], u2.drew'⟩
    by_cases hos : zo = S.self
    · by_cases hmd : zn ≤ S.made
      · simp (config := { maxSteps := 3000000 }) (disch := omega) only [push_cast, Nat.reduceBEq, Nat.reduceEqDiff, Nat.reduceAdd, Nat.reduceMul, Nat.reduceSub, Nat.reduceLT, Int.reduceToNat, Int.reduceLT, Int.reduceLE, Int.reduceEq, Int.reduceAdd, Int.reduceSub, Int.reduceNeg, Int.reduceMul, d2.cell, ht, c2.cell, h2.obj.cell, hfs, hn1, hn2, hos, hmd]
        subst hKs
        rw [KS_nor]
        simp (disch := omega) only [push_cast, Nat.reduceBEq, Nat.reduceEqDiff, Nat.reduceAdd, Nat.reduceMul, Nat.reduceSub, Nat.reduceLT, Int.reduceToNat, Int.reduceLT, Int.reduceLE, Int.reduceEq, Int.reduceAdd, Int.reduceSub, Int.reduceNeg, Int.reduceMul]
        refine ⟨by have hf' := hf; have ho' := ho; rw [hos] at ho'; simp only [propP, insI, decide_eq_true hf', decide_eq_true ho', ht, hfs, hn1, hn2, hos, hmd]; simp, u2.drew'⟩
      · simp (config := { maxSteps := 3000000 }) (disch := omega) only [push_cast, Nat.reduceBEq, Nat.reduceEqDiff, Nat.reduceAdd, Nat.reduceMul, Nat.reduceSub, Nat.reduceLT, Int.reduceToNat, Int.reduceLT, Int.reduceLE, Int.reduceEq, Int.reduceAdd, Int.reduceSub, Int.reduceNeg, Int.reduceMul, d2.cell, ht, c2.cell, h2.obj.cell, hfs, hn1, hn2, hos, hmd]
        subst hKs
        rw [KS_nor]
        simp (disch := omega) only [push_cast, Nat.reduceBEq, Nat.reduceEqDiff, Nat.reduceAdd, Nat.reduceMul, Nat.reduceSub, Nat.reduceLT, Int.reduceToNat, Int.reduceLT, Int.reduceLE, Int.reduceEq, Int.reduceAdd, Int.reduceSub, Int.reduceNeg, Int.reduceMul]
        refine ⟨by simp [propP, insI, hos, hmd], u2.drew'⟩
    · simp (config := { maxSteps := 3000000 }) (disch := omega) only [push_cast, Nat.reduceBEq, Nat.reduceEqDiff, Nat.reduceAdd, Nat.reduceMul, Nat.reduceSub, Nat.reduceLT, Int.reduceToNat, Int.reduceLT, Int.reduceLE, Int.reduceEq, Int.reduceAdd, Int.reduceSub, Int.reduceNeg, Int.reduceMul, d2.cell, ht, c2.cell, h2.obj.cell, hfs, hn1, hn2, hos]
      subst hKs
      rw [KS_nor]
      simp (disch := omega) only [push_cast, Nat.reduceBEq, Nat.reduceEqDiff, Nat.reduceAdd, Nat.reduceMul, Nat.reduceSub, Nat.reduceLT, Int.reduceToNat, Int.reduceLT, Int.reduceLE, Int.reduceEq, Int.reduceAdd, Int.reduceSub, Int.reduceNeg, Int.reduceMul]
      refine ⟨by simp only [propP, insI, decide_eq_true hf, decide_eq_true ho, ht, hfs, hn1, hn2, hos]; simp, u2.drew'⟩
  · by_cases ht : zt = S.self
    rotate_left
    · rw [W_seq]
      generalize hKs : KS _ _ _ _ _ = Ks
      simp (config := { maxSteps := 3000000 }) (disch := omega) only [push_cast, Nat.reduceBEq, Nat.reduceEqDiff, Nat.reduceAdd, Nat.reduceMul, Nat.reduceSub, Nat.reduceLT, Int.reduceToNat, Int.reduceLT, Int.reduceLE, Int.reduceEq, Int.reduceAdd, Int.reduceSub, Int.reduceNeg, Int.reduceMul, d2.cell, ht, c2.cell, h2.obj.cell]
      subst hKs
      rw [KS_nor]
      simp (disch := omega) only [push_cast, Nat.reduceBEq, Nat.reduceEqDiff, Nat.reduceAdd, Nat.reduceMul, Nat.reduceSub, Nat.reduceLT, Int.reduceToNat, Int.reduceLT, Int.reduceLE, Int.reduceEq, Int.reduceAdd, Int.reduceSub, Int.reduceNeg, Int.reduceMul]
      refine ⟨by simp [propP, ht], u2.drew'⟩
    rw [W_seq]
    generalize hKs : KS _ _ _ _ _ = Ks
    simp (config := { maxSteps := 3000000 }) (disch := omega) only [push_cast, Nat.reduceBEq, Nat.reduceEqDiff, Nat.reduceAdd, Nat.reduceMul, Nat.reduceSub, Nat.reduceLT, Int.reduceToNat, Int.reduceLT, Int.reduceLE, Int.reduceEq, Int.reduceAdd, Int.reduceSub, Int.reduceNeg, Int.reduceMul, d2.cell, ht, c2.cell, h2.obj.cell]
    refine Ok.use (inside_ok h2.drw c2.drew zf) ?_
    rintro v w3 ⟨rfl, rfl⟩
    by_cases hf : 0 ≤ zf ∧ zf < S.n
    rotate_left
    · rw [decide_eq_false hf]
      simp (config := { maxSteps := 3000000 }) (disch := omega) only [push_cast, Nat.reduceBEq, Nat.reduceEqDiff, Nat.reduceAdd, Nat.reduceMul, Nat.reduceSub, Nat.reduceLT, Int.reduceToNat, Int.reduceLT, Int.reduceLE, Int.reduceEq, Int.reduceAdd, Int.reduceSub, Int.reduceNeg, Int.reduceMul, d2.cell, ht, c2.cell, h2.obj.cell]
      subst hKs
      rw [KS_nor]
      simp (disch := omega) only [push_cast, Nat.reduceBEq, Nat.reduceEqDiff, Nat.reduceAdd, Nat.reduceMul, Nat.reduceSub, Nat.reduceLT, Int.reduceToNat, Int.reduceLT, Int.reduceLE, Int.reduceEq, Int.reduceAdd, Int.reduceSub, Int.reduceNeg, Int.reduceMul]
      refine ⟨by simp [propP, insI, hf], u2.drew'⟩
    rw [decide_eq_true hf]
    by_cases hfs : zf = S.self
    · simp (config := { maxSteps := 3000000 }) (disch := omega) only [push_cast, Nat.reduceBEq, Nat.reduceEqDiff, Nat.reduceAdd, Nat.reduceMul, Nat.reduceSub, Nat.reduceLT, Int.reduceToNat, Int.reduceLT, Int.reduceLE, Int.reduceEq, Int.reduceAdd, Int.reduceSub, Int.reduceNeg, Int.reduceMul, d2.cell, ht, c2.cell, h2.obj.cell, hfs]
      subst hKs
      rw [KS_nor]
      simp (disch := omega) only [push_cast, Nat.reduceBEq, Nat.reduceEqDiff, Nat.reduceAdd, Nat.reduceMul, Nat.reduceSub, Nat.reduceLT, Int.reduceToNat, Int.reduceLT, Int.reduceLE, Int.reduceEq, Int.reduceAdd, Int.reduceSub, Int.reduceNeg, Int.reduceMul]
      refine ⟨by simp [propP, insI, hfs], u2.drew'⟩
    simp (config := { maxSteps := 3000000 }) (disch := omega) only [push_cast, Nat.reduceBEq, Nat.reduceEqDiff, Nat.reduceAdd, Nat.reduceMul, Nat.reduceSub, Nat.reduceLT, Int.reduceToNat, Int.reduceLT, Int.reduceLE, Int.reduceEq, Int.reduceAdd, Int.reduceSub, Int.reduceNeg, Int.reduceMul, d2.cell, ht, c2.cell, h2.obj.cell, hfs]
    refine Ok.use (inside_ok h2.drw c2.drew zo) ?_
    rintro v w4 ⟨rfl, rfl⟩
    by_cases ho : 0 ≤ zo ∧ zo < S.n
    rotate_left
    · rw [decide_eq_false ho]
      simp (config := { maxSteps := 3000000 }) (disch := omega) only [push_cast, Nat.reduceBEq, Nat.reduceEqDiff, Nat.reduceAdd, Nat.reduceMul, Nat.reduceSub, Nat.reduceLT, Int.reduceToNat, Int.reduceLT, Int.reduceLE, Int.reduceEq, Int.reduceAdd, Int.reduceSub, Int.reduceNeg, Int.reduceMul, d2.cell, ht, c2.cell, h2.obj.cell, hfs]
      subst hKs
      rw [KS_nor]
      simp (disch := omega) only [push_cast, Nat.reduceBEq, Nat.reduceEqDiff, Nat.reduceAdd, Nat.reduceMul, Nat.reduceSub, Nat.reduceLT, Int.reduceToNat, Int.reduceLT, Int.reduceLE, Int.reduceEq, Int.reduceAdd, Int.reduceSub, Int.reduceNeg, Int.reduceMul]
      refine ⟨by simp [propP, insI, ho], u2.drew'⟩
    rw [decide_eq_true ho]
    by_cases hn1 : 1 ≤ zn
    rotate_left
    · simp (config := { maxSteps := 3000000 }) (disch := omega) only [push_cast, Nat.reduceBEq, Nat.reduceEqDiff, Nat.reduceAdd, Nat.reduceMul, Nat.reduceSub, Nat.reduceLT, Int.reduceToNat, Int.reduceLT, Int.reduceLE, Int.reduceEq, Int.reduceAdd, Int.reduceSub, Int.reduceNeg, Int.reduceMul, d2.cell, ht, c2.cell, h2.obj.cell, hfs, hn1]
      subst hKs
      rw [KS_nor]
      simp (disch := omega) only [push_cast, Nat.reduceBEq, Nat.reduceEqDiff, Nat.reduceAdd, Nat.reduceMul, Nat.reduceSub, Nat.reduceLT, Int.reduceToNat, Int.reduceLT, Int.reduceLE, Int.reduceEq, Int.reduceAdd, Int.reduceSub, Int.reduceNeg, Int.reduceMul]
      refine ⟨by simp [propP, insI, hn1], u2.drew'⟩
    by_cases hn2 : zn ≤ 1000000000000000
    rotate_left
    · simp (config := { maxSteps := 3000000 }) (disch := omega) only [push_cast, Nat.reduceBEq, Nat.reduceEqDiff, Nat.reduceAdd, Nat.reduceMul, Nat.reduceSub, Nat.reduceLT, Int.reduceToNat, Int.reduceLT, Int.reduceLE, Int.reduceEq, Int.reduceAdd, Int.reduceSub, Int.reduceNeg, Int.reduceMul, d2.cell, ht, c2.cell, h2.obj.cell, hfs, hn1, hn2]
      subst hKs
      rw [KS_nor]
      simp (disch := omega) only [push_cast, Nat.reduceBEq, Nat.reduceEqDiff, Nat.reduceAdd, Nat.reduceMul, Nat.reduceSub, Nat.reduceLT, Int.reduceToNat, Int.reduceLT, Int.reduceLE, Int.reduceEq, Int.reduceAdd, Int.reduceSub, Int.reduceNeg, Int.reduceMul]
      refine ⟨by simp [propP, insI, hn2], u2.drew'⟩
    by_cases hl0 : zl.length = 0
    rotate_left
    · have hl0' : ¬ (zl.length : Int) = 0 := by omega
      simp (config := { maxSteps := 3000000 }) (disch := omega) only [push_cast, Nat.reduceBEq, Nat.reduceEqDiff, Nat.reduceAdd, Nat.reduceMul, Nat.reduceSub, Nat.reduceLT, Int.reduceToNat, Int.reduceLT, Int.reduceLE, Int.reduceEq, Int.reduceAdd, Int.reduceSub, Int.reduceNeg, Int.reduceMul, d2.cell, ht, c2.cell, h2.obj.cell, hfs, hn1, hn2, hl0']
      subst hKs
      rw [KS_nor]
      simp (disch := omega) only [push_cast, Nat.reduceBEq, Nat.reduceEqDiff, Nat.reduceAdd, Nat.reduceMul, Nat.reduceSub, Nat.reduceLT, Int.reduceToNat, Int.reduceLT, Int.reduceLE, Int.reduceEq, Int.reduceAdd, Int.reduceSub, Int.reduceNeg, Int.reduceMul]
      refine ⟨by simp [propP, insI, hl0, show ¬ zl = [] from fun e => hl0 (by rw [e]; rfl)], u2.drew'⟩
    by_cases hos : zo = S.self
    · by_cases hmd : zn ≤ S.made
      · simp (config := { maxSteps := 3000000 }) (disch := omega) only [push_cast, Nat.reduceBEq, Nat.reduceEqDiff, Nat.reduceAdd, Nat.reduceMul, Nat.reduceSub, Nat.reduceLT, Int.reduceToNat, Int.reduceLT, Int.reduceLE, Int.reduceEq, Int.reduceAdd, Int.reduceSub, Int.reduceNeg, Int.reduceMul, d2.cell, ht, c2.cell, h2.obj.cell, hfs, hn1, hn2, hl0, hos, hmd]
        subst hKs
        rw [KS_nor]
        simp (disch := omega) only [push_cast, Nat.reduceBEq, Nat.reduceEqDiff, Nat.reduceAdd, Nat.reduceMul, Nat.reduceSub, Nat.reduceLT, Int.reduceToNat, Int.reduceLT, Int.reduceLE, Int.reduceEq, Int.reduceAdd, Int.reduceSub, Int.reduceNeg, Int.reduceMul]
        refine ⟨by have hf' := hf; have ho' := ho; rw [hos] at ho'; simp only [propP, insI, decide_eq_true hf', decide_eq_true ho', ht, hfs, hn1, hn2, hos, hmd, hl0]; simp, u2.drew'⟩
      · simp (config := { maxSteps := 3000000 }) (disch := omega) only [push_cast, Nat.reduceBEq, Nat.reduceEqDiff, Nat.reduceAdd, Nat.reduceMul, Nat.reduceSub, Nat.reduceLT, Int.reduceToNat, Int.reduceLT, Int.reduceLE, Int.reduceEq, Int.reduceAdd, Int.reduceSub, Int.reduceNeg, Int.reduceMul, d2.cell, ht, c2.cell, h2.obj.cell, hfs, hn1, hn2, hl0, hos, hmd]
        subst hKs
        rw [KS_nor]
        simp (disch := omega) only [push_cast, Nat.reduceBEq, Nat.reduceEqDiff, Nat.reduceAdd, Nat.reduceMul, Nat.reduceSub, Nat.reduceLT, Int.reduceToNat, Int.reduceLT, Int.reduceLE, Int.reduceEq, Int.reduceAdd, Int.reduceSub, Int.reduceNeg, Int.reduceMul]
        refine ⟨by simp [propP, insI, hos, hmd], u2.drew'⟩
    · simp (config := { maxSteps := 3000000 }) (disch := omega) only [push_cast, Nat.reduceBEq, Nat.reduceEqDiff, Nat.reduceAdd, Nat.reduceMul, Nat.reduceSub, Nat.reduceLT, Int.reduceToNat, Int.reduceLT, Int.reduceLE, Int.reduceEq, Int.reduceAdd, Int.reduceSub, Int.reduceNeg, Int.reduceMul, d2.cell, ht, c2.cell, h2.obj.cell, hfs, hn1, hn2, hl0, hos]
      subst hKs
      rw [KS_nor]
      simp (disch := omega) only [push_cast, Nat.reduceBEq, Nat.reduceEqDiff, Nat.reduceAdd, Nat.reduceMul, Nat.reduceSub, Nat.reduceLT, Int.reduceToNat, Int.reduceLT, Int.reduceLE, Int.reduceEq, Int.reduceAdd, Int.reduceSub, Int.reduceNeg, Int.reduceMul]
      refine ⟨by simp only [propP, insI, decide_eq_true hf, decide_eq_true ho, ht, hfs, hn1, hn2, hos, hl0]; simp, u2.drew'⟩
end Go.Proofs.Ytpgfokhpacdhjaa.Fd
