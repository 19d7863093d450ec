/-
  Waiting, Stable; the reference's New. The reference: proper.
-/
import Derived.Test.YtpgfokhpacdhjaaBe3
namespace Go.Proofs.Ytpgfokhpacdhjaa.Fd
set_option linter.unusedSimpArgs false
set_option linter.unusedVariables false
open Go Go.ChangeMaps
set_option maxRecDepth 100000

theorem bld_rproc (n i : Int) (w : World) : bldS Try.prog 64 #[(0, .int .i64 n), (1, .int .i64 i)] w = some (.agg #[.int .i64 n, .int .i64 i, .int .i64 0, .slice none 0 0, .int .i64 0, .int .i64 0, .int .i64 0, .int .i64 0, .int .i64 0, .int .i64 0, .int .i64 0, .int .i64 0, .int .i64 0, .int .i64 0, .int .i64 0, .int .i64 0, .slice none 0 0], w) := by kernel_rfl
set_option maxHeartbeats 1000000 in
theorem rNew_ok {w : World} {base : Nat} (hb : base ≤ w.heap.size) (n i : Int) : Ok (den Try.prog 15 #[.int .i64 n, .int .i64 i] w) fun v w' => Upd (fun _ => False) w w' ∧
    if 1 ≤ n ∧ n ≤ 12 ∧ 0 ≤ i ∧ i < n then ∃ q, v = .pointer (some ⟨q, 0, none⟩) ∧ RA base w' q ⟨n.toNat, i.toNat, 0, [], fun _ => 0, []⟩ (.slice none 0 0) (.slice none 0 0) [] [] ∧ w.heap.size ≤ q
    else v = .pointer none := by
  refine den_ok (args := [.int .i64 n, .int .i64 i]) rs15 Try.func15 rfl mixed in15 ok15 rfl ?_
  by_cases h1 : n < 1
  · simp (disch := omega) only [push_cast, Nat.reduceBEq, Nat.reduceEqDiff, Nat.reduceAdd, Nat.reduceMul, Nat.reduceSub, Nat.reduceLT, Int.reduceToNat, Int.reduceLT, Int.reduceLE, Int.reduceEq, Int.reduceAdd, Int.reduceSub, Int.reduceNeg, Int.reduceMul, h1]
    exact ⟨Upd.refl, by rw [if_neg (by omega)]; trivial⟩
  by_cases h2 : 12 < n
  · simp (disch := omega) only [push_cast, Nat.reduceBEq, Nat.reduceEqDiff, Nat.reduceAdd, Nat.reduceMul, Nat.reduceSub, Nat.reduceLT, Int.reduceToNat, Int.reduceLT, Int.reduceLE, Int.reduceEq, Int.reduceAdd, Int.reduceSub, Int.reduceNeg, Int.reduceMul, h1, h2]
    exact ⟨Upd.refl, by rw [if_neg (by omega)]; trivial⟩
  by_cases h3 : i < 0
  · simp (disch := omega) only [push_cast, Nat.reduceBEq, Nat.reduceEqDiff, Nat.reduceAdd, Nat.reduceMul, Nat.reduceSub, Nat.reduceLT, Int.reduceToNat, Int.reduceLT, Int.reduceLE, Int.reduceEq, Int.reduceAdd, Int.reduceSub, Int.reduceNeg, Int.reduceMul, h1, h2, h3]
    exact ⟨Upd.refl, by rw [if_neg (by omega)]; trivial⟩
  by_cases h4 : n ≤ i
  · simp (disch := omega) only [push_cast, Nat.reduceBEq, Nat.reduceEqDiff, Nat.reduceAdd, Nat.reduceMul, Nat.reduceSub, Nat.reduceLT, Int.reduceToNat, Int.reduceLT, Int.reduceLE, Int.reduceEq, Int.reduceAdd, Int.reduceSub, Int.reduceNeg, Int.reduceMul, h1, h2, h3, h4]
    exact ⟨Upd.refl, by rw [if_neg (by omega)]; trivial⟩
  obtain ⟨m, rfl⟩ : ∃ m : Nat, n = (m : Int) := ⟨n.toNat, by omega⟩
  obtain ⟨k, rfl⟩ : ∃ k : Nat, i = (k : Int) := ⟨i.toNat, by omega⟩
  simp (disch := omega) only [push_cast, Nat.reduceBEq, Nat.reduceEqDiff, Nat.reduceAdd, Nat.reduceMul, Nat.reduceSub, Nat.reduceLT, Int.reduceToNat, Int.reduceLT, Int.reduceLE, Int.reduceEq, Int.reduceAdd, Int.reduceSub, Int.reduceNeg, Int.reduceMul, h1, h2, h3, h4, bld_rproc]
  rw [if_pos ⟨by omega, by omega, by omega, by omega⟩]
  refine ⟨Upd.alloc, w.heap.size, rfl, ⟨Blk.new (w := w) (cs := obC ⟨m, k, 0, [], fun _ => 0, []⟩ (.slice none 0 0) (.slice none 0 0)), hb, World.ownsRow_nil _ _ _ _, rfl, fun z hz => (by cases hz), World.ownsRow_nil _ _ _ _, ⟨rfl, fun j d hj => (by simp at hj)⟩, by show m ≤ 12; omega⟩, Nat.le_refl _⟩
theorem len_map {w : World} {r : Nat} {m : List (NP × Value)} (hm : MapP w r m) : lenS Try.prog 77 (.map (some r)) w = some (.int .i64 m.length, w) := by
  unfold MapP at hm
  have hu := Try.underlying77
  simp [lenS, lift, Builtin.len_, underlying, hu, goInt, MapKept.run_getObj_map hm, entP_length]
set_option maxHeartbeats 1000000 in
theorem Waiting_ok {base : Nat} {w : World} {p : Nat} {S : PS} {mb db : Nat} {lv : Value} {m ds : List (NP × Value)} (h : PA base w p S mb db lv m ds) (hb : S.list.length + S.notes.length < 1000000) :
    Ok (den Try.prog 24 #[.pointer (some ⟨p, 0, none⟩)] w) fun v w' => v = .int .i64 ((S.notes.length : Int) - S.list.length) ∧ Upd (fun _ => False) w w' := by
  refine den_ok (args := [.pointer (some ⟨p, 0, none⟩)]) rs24 Try.func24 rfl mixed in24 ok24 rfl ?_
  obtain ⟨la, lc, rfl⟩ := own_slice h.own
  have hl := len_map h.map
  have hl2 := len_map h.map.drew'
  simp (disch := omega) only [push_cast, Nat.reduceBEq, Nat.reduceEqDiff, Nat.reduceAdd, Nat.reduceMul, Nat.reduceSub, Nat.reduceLT, Int.reduceToNat, Int.reduceLT, Int.reduceLE, Int.reduceEq, Int.reduceAdd, Int.reduceSub, Int.reduceNeg, Int.reduceMul, h.obj.cell, hl, hl2]
  rw [h.nts.1, h.lst.1]
  refine ⟨?_, Upd.refl.drew'⟩
  congr 1
  exact wrap_ok (by omega) (by omega)
set_option maxHeartbeats 1000000 in
theorem Stable_ok {base : Nat} {w : World} {p : Nat} {S : PS} {mb db : Nat} {lv : Value} {m ds : List (NP × Value)} (h : PA base w p S mb db lv m ds) (k : NP) :
    Ok (den Try.prog 25 #[.pointer (some ⟨p, 0, none⟩), .int .i64 k.1, .int .i64 k.2] w) fun v w' => v = .bool (match findS k S.notes with | some x => decide (ones x.2 = S.n) | none => false) ∧ Upd (fun _ => False) w w' := by
  refine den_ok (args := [.pointer (some ⟨p, 0, none⟩), .int .i64 k.1, .int .i64 k.2]) rs25 Try.func25 rfl mixed in25 ok25 rfl ?_
  have hn12 := h.n12
  have hlk := lkp_p (k := k) (ok := true) h.map
  unfold keyV at hlk
  simp only [if_true] at hlk
  have u4 : Upd (fun _ => False) w (w.alloc (.cells #[.slice none 0 0, .int .u16 0] 82 (0, 0))) := Upd.alloc
  rcases h.nts.find k with ⟨hf, hpi⟩ | ⟨l, D, pv, j, hf, hpi, hpv⟩
  · rw [hpi] at hlk
    unfold noteZ at hlk
    rw [hf]
    simp (disch := omega) only [push_cast, Nat.reduceBEq, Nat.reduceEqDiff, Nat.reduceAdd, Nat.reduceMul, Nat.reduceSub, Nat.reduceLT, Int.reduceToNat, Int.reduceLT, Int.reduceLE, Int.reduceEq, Int.reduceAdd, Int.reduceSub, Int.reduceNeg, Int.reduceMul, h.obj.cell, bld_name, hlk]
    exact ((Upd.alloc.setNew (Nat.le_refl _)).setNew (Nat.le_refl _)).drew'
  · rw [hpi] at hlk
    obtain ⟨pa, pc, rfl⟩ := hpv.form
    rw [hf]
    simp (disch := omega) only [push_cast, Nat.reduceBEq, Nat.reduceEqDiff, Nat.reduceAdd, Nat.reduceMul, Nat.reduceSub, Nat.reduceLT, Int.reduceToNat, Int.reduceLT, Int.reduceLE, Int.reduceEq, Int.reduceAdd, Int.reduceSub, Int.reduceNeg, Int.reduceMul, h.obj.cell, bld_name, hlk]
    have h6 : PA base (((((w.alloc (.cells #[.slice none 0 0, .int .u16 0] 82 (0, 0))).setCell ⟨w.heap.size, 0, none⟩ (.slice pa l.length pc)).setCell ⟨w.heap.size, 1, none⟩ (.int .u16 D.toNat)).drew).drew) p S mb db lv m ds := h.quiet (((Upd.alloc.setNew (Nat.le_refl _)).setNew (Nat.le_refl _)).drew').drew'
    refine Ok.use (ones_ok D) ?_
    rintro v w' ⟨rfl, rfl⟩
    have h7 : PA base (w.alloc (.cells #[.slice none 0 0, .int .u16 0] 82 (0, 0))) p S mb db lv m ds := h.quiet Upd.alloc
    have hne : p ≠ w.heap.size := Nat.ne_of_lt h.obj.lt
    simp (disch := omega) only [push_cast, Nat.reduceBEq, Nat.reduceEqDiff, Nat.reduceAdd, Nat.reduceMul, Nat.reduceSub, Nat.reduceLT, Int.reduceToNat, Int.reduceLT, Int.reduceLE, Int.reduceEq, Int.reduceAdd, Int.reduceSub, Int.reduceNeg, Int.reduceMul, h6.obj.cell, h7.obj.cell, hne]
    refine ⟨?_, (((Upd.alloc.setNew (Nat.le_refl _)).setNew (Nat.le_refl _)).drew').drew'⟩
    congr 1
    simp only [decide_eq_decide]
    omega

theorem propP_no {S : PS} {z : Pk} (h : ¬ ((z.k = 1 ∨ z.k = 2) ∧ z.t = S.self ∧ (0 ≤ z.f ∧ z.f < S.n) ∧ z.f ≠ S.self ∧ (0 ≤ z.o ∧ z.o < S.n) ∧ (1 ≤ z.n ∧ z.n ≤ 1000000000000000) ∧ (z.k = 1 ∨ z.l.length = 0) ∧ (z.o = S.self → z.n ≤ S.made))) : propP S z = false := by
  cases hp : propP S z with
  | false => rfl
  | true => exact absurd (propP_of hp) h
theorem propP_yes {S : PS} {z : Pk} (h1 : z.k = 1 ∨ z.k = 2) (h2 : z.t = S.self) (h3 : 0 ≤ z.f ∧ z.f < S.n) (h4 : z.f ≠ S.self) (h5 : 0 ≤ z.o ∧ z.o < S.n) (h6 : 1 ≤ z.n ∧ z.n ≤ 1000000000000000) (h7 : z.k = 1 ∨ z.l.length = 0) (h8 : z.o = S.self → z.n ≤ S.made) : propP S z = true := by
  simp only [propP, insI, Bool.and_eq_true, Bool.or_eq_true, decide_eq_true_eq, Bool.not_eq_true', decide_eq_false_iff_not]
  exact ⟨⟨⟨⟨⟨⟨⟨⟨h1, h2⟩, h3⟩, h4⟩, h5⟩, h6.1⟩, h6.2⟩, h7⟩, (Classical.em (z.o = (S.self : Int))).elim (fun e => .inr (h8 e)) .inl⟩
set_option maxHeartbeats 4000000 in
theorem rproper_ok {w : World} {q : Nat} {S : PS} {cs : List Value} {base : Nat} (hq : Blk w q (.int .i64 S.n :: .int .i64 S.self :: .int .i64 S.made :: cs) 64) (z : Pk × Value) (hz : PB base w z.2 z.1.l) :
    Ok (den Try.prog 39 #[.pointer (some ⟨q, 0, none⟩), pkV z] w) fun v w' => v = .bool (propP S z.1) ∧ Upd (fun _ => False) w w' := by
  obtain ⟨za, zc, hz2⟩ := hz.form
  refine den_ok (args := [.pointer (some ⟨q, 0, none⟩), pkV z]) rs39 Try.func39 rfl mixed in39 ok39 rfl ?_
  unfold pkV pkC
  rw [hz2]
  clear hz2 hz
  rw [W_seq]
  generalize hKs : KS _ _ _ _ _ = Ks
  simp (disch := omega) only [push_cast, Nat.reduceBEq, Nat.reduceEqDiff, Nat.reduceAdd, Nat.reduceMul, Nat.reduceSub, Nat.reduceLT, Int.reduceToNat, Int.reduceLT, Int.reduceLE, Int.reduceEq, Int.reduceAdd, Int.reduceSub, Int.reduceNeg, Int.reduceMul]
  have d2 := Blk.new (w := w) (cs := [.int .i64 z.1.k, .int .i64 z.1.f, .int .i64 z.1.t, .int .i64 z.1.o, .int .i64 z.1.n, .slice za z.1.l.length zc]) (E := 46)
  have u2 : Upd (fun _ => False) w (w.alloc (.cells [.int .i64 z.1.k, .int .i64 z.1.f, .int .i64 z.1.t, .int .i64 z.1.o, .int .i64 z.1.n, .slice za z.1.l.length zc].toArray 46 (0, 0))) := Upd.alloc
  generalize w.alloc (.cells [.int .i64 z.1.k, .int .i64 z.1.f, .int .i64 z.1.t, .int .i64 z.1.o, .int .i64 z.1.n, .slice za z.1.l.length zc].toArray 46 (0, 0)) = w2 at *
  have q2 := hq.upd u2 (fun h => h)
  obtain ⟨z1, z2⟩ := z
  obtain ⟨zk, zf, zt, zo, zn, zl⟩ := z1
  simp only at *
  clear hq
  subst hKs
  rw [KS_nor]
  by_cases hk : zk = 1 ∨ zk = 2
  rotate_left
  · have hk1 : ¬ zk = 1 := fun e => hk (.inl e)
    have hk2 : ¬ zk = 2 := fun e => hk (.inr e)
    rw [W_seq]
    generalize hKs : KS _ _ _ _ _ = Ks
    simp (config := { maxSteps := 3000000 }) (disch := omega) only [push_cast, Nat.reduceBEq, Nat.reduceEqDiff, Nat.reduceAdd, Nat.reduceMul, Nat.reduceSub, Nat.reduceLT, Int.reduceToNat, Int.reduceLT, Int.reduceLE, Int.reduceEq, Int.reduceAdd, Int.reduceSub, Int.reduceNeg, Int.reduceMul, d2.cell, q2.cell, hk1, hk2]
    subst hKs
    simp (disch := omega) only [push_cast, Nat.reduceBEq, Nat.reduceEqDiff, Nat.reduceAdd, Nat.reduceMul, Nat.reduceSub, Nat.reduceLT, Int.reduceToNat, Int.reduceLT, Int.reduceLE, Int.reduceEq, Int.reduceAdd, Int.reduceSub, Int.reduceNeg, Int.reduceMul]
    exact ⟨by rw [propP_no (by simp only; omega)], u2.drew'⟩
  have hlz : ((zl.length : Nat) : Int) = 0 ↔ zl.length = 0 := by omega
  rcases hk with rfl | rfl
  · skip
    by_cases ht : zt = S.self
    rotate_left
    · skip
      rw [W_seq]
      generalize hKs : KS _ _ _ _ _ = Ks
      simp (config := { maxSteps := 3000000 }) (disch := omega) only [push_cast, Nat.reduceBEq, Nat.reduceEqDiff, Nat.reduceAdd, Nat.reduceMul, Nat.reduceSub, Nat.reduceLT, Int.reduceToNat, Int.reduceLT, Int.reduceLE, Int.reduceEq, Int.reduceAdd, Int.reduceSub, Int.reduceNeg, Int.reduceMul, d2.cell, q2.cell, ht]
      subst hKs
      simp (disch := omega) only [push_cast, Nat.reduceBEq, Nat.reduceEqDiff, Nat.reduceAdd, Nat.reduceMul, Nat.reduceSub, Nat.reduceLT, Int.reduceToNat, Int.reduceLT, Int.reduceLE, Int.reduceEq, Int.reduceAdd, Int.reduceSub, Int.reduceNeg, Int.reduceMul]
      exact ⟨by rw [propP_no (by simp only; omega)], u2.drew'⟩
    by_cases hf0 : zf < 0
    · skip
      rw [W_seq]
      generalize hKs : KS _ _ _ _ _ = Ks
      simp (config := { maxSteps := 3000000 }) (disch := omega) only [push_cast, Nat.reduceBEq, Nat.reduceEqDiff, Nat.reduceAdd, Nat.reduceMul, Nat.reduceSub, Nat.reduceLT, Int.reduceToNat, Int.reduceLT, Int.reduceLE, Int.reduceEq, Int.reduceAdd, Int.reduceSub, Int.reduceNeg, Int.reduceMul, d2.cell, q2.cell, ht, hf0]
      subst hKs
      simp (disch := omega) only [push_cast, Nat.reduceBEq, Nat.reduceEqDiff, Nat.reduceAdd, Nat.reduceMul, Nat.reduceSub, Nat.reduceLT, Int.reduceToNat, Int.reduceLT, Int.reduceLE, Int.reduceEq, Int.reduceAdd, Int.reduceSub, Int.reduceNeg, Int.reduceMul]
      exact ⟨by rw [propP_no (by simp only; omega)], u2.drew'⟩
    by_cases hfn : (S.n : Int) ≤ zf
    · skip
      rw [W_seq]
      generalize hKs : KS _ _ _ _ _ = Ks
      simp (config := { maxSteps := 3000000 }) (disch := omega) only [push_cast, Nat.reduceBEq, Nat.reduceEqDiff, Nat.reduceAdd, Nat.reduceMul, Nat.reduceSub, Nat.reduceLT, Int.reduceToNat, Int.reduceLT, Int.reduceLE, Int.reduceEq, Int.reduceAdd, Int.reduceSub, Int.reduceNeg, Int.reduceMul, d2.cell, q2.cell, ht, hf0, hfn]
      subst hKs
      simp (disch := omega) only [push_cast, Nat.reduceBEq, Nat.reduceEqDiff, Nat.reduceAdd, Nat.reduceMul, Nat.reduceSub, Nat.reduceLT, Int.reduceToNat, Int.reduceLT, Int.reduceLE, Int.reduceEq, Int.reduceAdd, Int.reduceSub, Int.reduceNeg, Int.reduceMul]
      exact ⟨by rw [propP_no (by simp only; omega)], u2.drew'⟩
    by_cases hfs : zf = S.self
    · skip
      rw [W_seq]
      generalize hKs : KS _ _ _ _ _ = Ks
      simp (config := { maxSteps := 3000000 }) (disch := omega) only [push_cast, Nat.reduceBEq, Nat.reduceEqDiff, Nat.reduceAdd, Nat.reduceMul, Nat.reduceSub, Nat.reduceLT, Int.reduceToNat, Int.reduceLT, Int.reduceLE, Int.reduceEq, Int.reduceAdd, Int.reduceSub, Int.reduceNeg, Int.reduceMul, d2.cell, q2.cell, ht, hf0, hfn, hfs]
      subst hKs
      simp (disch := omega) only [push_cast, Nat.reduceBEq, Nat.reduceEqDiff, Nat.reduceAdd, Nat.reduceMul, Nat.reduceSub, Nat.reduceLT, Int.reduceToNat, Int.reduceLT, Int.reduceLE, Int.reduceEq, Int.reduceAdd, Int.reduceSub, Int.reduceNeg, Int.reduceMul]
      exact ⟨by rw [propP_no (by simp only; omega)], u2.drew'⟩
    by_cases ho0 : zo < 0
    · skip
      rw [W_seq]
      generalize hKs : KS _ _ _ _ _ = Ks
      simp (config := { maxSteps := 3000000 }) (disch := omega) only [push_cast, Nat.reduceBEq, Nat.reduceEqDiff, Nat.reduceAdd, Nat.reduceMul, Nat.reduceSub, Nat.reduceLT, Int.reduceToNat, Int.reduceLT, Int.reduceLE, Int.reduceEq, Int.reduceAdd, Int.reduceSub, Int.reduceNeg, Int.reduceMul, d2.cell, q2.cell, ht, hf0, hfn, hfs, ho0]
      subst hKs
      simp (disch := omega) only [push_cast, Nat.reduceBEq, Nat.reduceEqDiff, Nat.reduceAdd, Nat.reduceMul, Nat.reduceSub, Nat.reduceLT, Int.reduceToNat, Int.reduceLT, Int.reduceLE, Int.reduceEq, Int.reduceAdd, Int.reduceSub, Int.reduceNeg, Int.reduceMul]
      exact ⟨by rw [propP_no (by simp only; omega)], u2.drew'⟩
    by_cases hon : (S.n : Int) ≤ zo
    · skip
      rw [W_seq]
      generalize hKs : KS _ _ _ _ _ = Ks
      simp (config := { maxSteps := 3000000 }) (disch := omega) only [push_cast, Nat.reduceBEq, Nat.reduceEqDiff, Nat.reduceAdd, Nat.reduceMul, Nat.reduceSub, Nat.reduceLT, Int.reduceToNat, Int.reduceLT, Int.reduceLE, Int.reduceEq, Int.reduceAdd, Int.reduceSub, Int.reduceNeg, Int.reduceMul, d2.cell, q2.cell, ht, hf0, hfn, hfs, ho0, hon]
      subst hKs
      simp (disch := omega) only [push_cast, Nat.reduceBEq, Nat.reduceEqDiff, Nat.reduceAdd, Nat.reduceMul, Nat.reduceSub, Nat.reduceLT, Int.reduceToNat, Int.reduceLT, Int.reduceLE, Int.reduceEq, Int.reduceAdd, Int.reduceSub, Int.reduceNeg, Int.reduceMul]
      exact ⟨by rw [propP_no (by simp only; omega)], u2.drew'⟩
    rw [W_seq]
    generalize hKs : KS _ _ _ _ _ = Ks
    simp (config := { maxSteps := 3000000 }) (disch := omega) only [push_cast, Nat.reduceBEq, Nat.reduceEqDiff, Nat.reduceAdd, Nat.reduceMul, Nat.reduceSub, Nat.reduceLT, Int.reduceToNat, Int.reduceLT, Int.reduceLE, Int.reduceEq, Int.reduceAdd, Int.reduceSub, Int.reduceNeg, Int.reduceMul, d2.cell, q2.cell, ht, hf0, hfn, hfs, ho0, hon]
    subst hKs
    rw [KS_nor]
    by_cases hn1 : zn < 1
    · skip
      rw [W_seq]
      generalize hKs : KS _ _ _ _ _ = Ks
      simp (config := { maxSteps := 3000000 }) (disch := omega) only [push_cast, Nat.reduceBEq, Nat.reduceEqDiff, Nat.reduceAdd, Nat.reduceMul, Nat.reduceSub, Nat.reduceLT, Int.reduceToNat, Int.reduceLT, Int.reduceLE, Int.reduceEq, Int.reduceAdd, Int.reduceSub, Int.reduceNeg, Int.reduceMul, d2.cell, q2.cell, hn1]
      subst hKs
      simp (disch := omega) only [push_cast, Nat.reduceBEq, Nat.reduceEqDiff, Nat.reduceAdd, Nat.reduceMul, Nat.reduceSub, Nat.reduceLT, Int.reduceToNat, Int.reduceLT, Int.reduceLE, Int.reduceEq, Int.reduceAdd, Int.reduceSub, Int.reduceNeg, Int.reduceMul]
      exact ⟨by rw [propP_no (by simp only; omega)], u2.drew'⟩
    by_cases hn2 : 1000000000000000 < zn
    · skip
      rw [W_seq]
      generalize hKs : KS _ _ _ _ _ = Ks
      simp (config := { maxSteps := 3000000 }) (disch := omega) only [push_cast, Nat.reduceBEq, Nat.reduceEqDiff, Nat.reduceAdd, Nat.reduceMul, Nat.reduceSub, Nat.reduceLT, Int.reduceToNat, Int.reduceLT, Int.reduceLE, Int.reduceEq, Int.reduceAdd, Int.reduceSub, Int.reduceNeg, Int.reduceMul, d2.cell, q2.cell, hn1, hn2]
      subst hKs
      simp (disch := omega) only [push_cast, Nat.reduceBEq, Nat.reduceEqDiff, Nat.reduceAdd, Nat.reduceMul, Nat.reduceSub, Nat.reduceLT, Int.reduceToNat, Int.reduceLT, Int.reduceLE, Int.reduceEq, Int.reduceAdd, Int.reduceSub, Int.reduceNeg, Int.reduceMul]
      exact ⟨by rw [propP_no (by simp only; omega)], u2.drew'⟩
    rw [W_seq]
    generalize hKs : KS _ _ _ _ _ = Ks
    simp (config := { maxSteps := 3000000 }) (disch := omega) only [push_cast, Nat.reduceBEq, Nat.reduceEqDiff, Nat.reduceAdd, Nat.reduceMul, Nat.reduceSub, Nat.reduceLT, Int.reduceToNat, Int.reduceLT, Int.reduceLE, Int.reduceEq, Int.reduceAdd, Int.reduceSub, Int.reduceNeg, Int.reduceMul, d2.cell, q2.cell, hn1, hn2]
    subst hKs
    rw [KS_nor]
    by_cases hos : zo = S.self
    rotate_left
    · simp (config := { maxSteps := 3000000 }) (disch := omega) only [push_cast, Nat.reduceBEq, Nat.reduceEqDiff, Nat.reduceAdd, Nat.reduceMul, Nat.reduceSub, Nat.reduceLT, Int.reduceToNat, Int.reduceLT, Int.reduceLE, Int.reduceEq, Int.reduceAdd, Int.reduceSub, Int.reduceNeg, Int.reduceMul, d2.cell, q2.cell, hos]
      exact ⟨by rw [propP_yes (.inl rfl) (by simp only; omega) (by simp only; omega) (by simp only; omega) (by simp only; omega) (by simp only; omega) (.inl rfl) (fun e => absurd e hos)], u2.drew'.drew'⟩
    by_cases hmd : zn ≤ S.made
    · simp (config := { maxSteps := 3000000 }) (disch := omega) only [push_cast, Nat.reduceBEq, Nat.reduceEqDiff, Nat.reduceAdd, Nat.reduceMul, Nat.reduceSub, Nat.reduceLT, Int.reduceToNat, Int.reduceLT, Int.reduceLE, Int.reduceEq, Int.reduceAdd, Int.reduceSub, Int.reduceNeg, Int.reduceMul, d2.cell, q2.cell, hos, hmd]
      exact ⟨by rw [propP_yes (.inl rfl) (by simp only; omega) (by simp only; omega) (by simp only; omega) (by simp only; omega) (by simp only; omega) (.inl rfl) (fun _ => hmd)], u2.drew'.drew'⟩
    · simp (config := { maxSteps := 3000000 }) (disch := omega) only [push_cast, Nat.reduceBEq, Nat.reduceEqDiff, Nat.reduceAdd, Nat.reduceMul, Nat.reduceSub, Nat.reduceLT, Int.reduceToNat, Int.reduceLT, Int.reduceLE, Int.reduceEq, Int.reduceAdd, Int.reduceSub, Int.reduceNeg, Int.reduceMul, d2.cell, q2.cell, hos, hmd]
      exact ⟨by rw [propP_no (fun h => hmd (h.2.2.2.2.2.2.2 rfl))], u2.drew'.drew'⟩
  · skip
    by_cases ht : zt = S.self
    rotate_left
    · skip
      rw [W_seq]
      generalize hKs : KS _ _ _ _ _ = Ks
      simp (config := { maxSteps := 3000000 }) (disch := omega) only [push_cast, Nat.reduceBEq, Nat.reduceEqDiff, Nat.reduceAdd, Nat.reduceMul, Nat.reduceSub, Nat.reduceLT, Int.reduceToNat, Int.reduceLT, Int.reduceLE, Int.reduceEq, Int.reduceAdd, Int.reduceSub, Int.reduceNeg, Int.reduceMul, d2.cell, q2.cell, ht]
      subst hKs
      simp (disch := omega) only [push_cast, Nat.reduceBEq, Nat.reduceEqDiff, Nat.reduceAdd, Nat.reduceMul, Nat.reduceSub, Nat.reduceLT, Int.reduceToNat, Int.reduceLT, Int.reduceLE, Int.reduceEq, Int.reduceAdd, Int.reduceSub, Int.reduceNeg, Int.reduceMul]
      exact ⟨by rw [propP_no (by simp only; omega)], u2.drew'⟩
    by_cases hf0 : zf < 0
    · skip
      rw [W_seq]
      generalize hKs : KS _ _ _ _ _ = Ks
      simp (config := { maxSteps := 3000000 }) (disch := omega) only [push_cast, Nat.reduceBEq, Nat.reduceEqDiff, Nat.reduceAdd, Nat.reduceMul, Nat.reduceSub, Nat.reduceLT, Int.reduceToNat, Int.reduceLT, Int.reduceLE, Int.reduceEq, Int.reduceAdd, Int.reduceSub, Int.reduceNeg, Int.reduceMul, d2.cell, q2.cell, ht, hf0]
      subst hKs
      simp (disch := omega) only [push_cast, Nat.reduceBEq, Nat.reduceEqDiff, Nat.reduceAdd, Nat.reduceMul, Nat.reduceSub, Nat.reduceLT, Int.reduceToNat, Int.reduceLT, Int.reduceLE, Int.reduceEq, Int.reduceAdd, Int.reduceSub, Int.reduceNeg, Int.reduceMul]
      exact ⟨by rw [propP_no (by simp only; omega)], u2.drew'⟩
    by_cases hfn : (S.n : Int) ≤ zf
    · skip
      rw [W_seq]
      generalize hKs : KS _ _ _ _ _ = Ks
      simp (config := { maxSteps := 3000000 }) (disch := omega) only [push_cast, Nat.reduceBEq, Nat.reduceEqDiff, Nat.reduceAdd, Nat.reduceMul, Nat.reduceSub, Nat.reduceLT, Int.reduceToNat, Int.reduceLT, Int.reduceLE, Int.reduceEq, Int.reduceAdd, Int.reduceSub, Int.reduceNeg, Int.reduceMul, d2.cell, q2.cell, ht, hf0, hfn]
      subst hKs
      simp (disch := omega) only [push_cast, Nat.reduceBEq, Nat.reduceEqDiff, Nat.reduceAdd, Nat.reduceMul, Nat.reduceSub, Nat.reduceLT, Int.reduceToNat, Int.reduceLT, Int.reduceLE, Int.reduceEq, Int.reduceAdd, Int.reduceSub, Int.reduceNeg, Int.reduceMul]
      exact ⟨by rw [propP_no (by simp only; omega)], u2.drew'⟩
    by_cases hfs : zf = S.self
    · skip
      rw [W_seq]
      generalize hKs : KS _ _ _ _ _ = Ks
      simp (config := { maxSteps := 3000000 }) (disch := omega) only [push_cast, Nat.reduceBEq, Nat.reduceEqDiff, Nat.reduceAdd, Nat.reduceMul, Nat.reduceSub, Nat.reduceLT, Int.reduceToNat, Int.reduceLT, Int.reduceLE, Int.reduceEq, Int.reduceAdd, Int.reduceSub, Int.reduceNeg, Int.reduceMul, d2.cell, q2.cell, ht, hf0, hfn, hfs]
      subst hKs
      simp (disch := omega) only [push_cast, Nat.reduceBEq, Nat.reduceEqDiff, Nat.reduceAdd, Nat.reduceMul, Nat.reduceSub, Nat.reduceLT, Int.reduceToNat, Int.reduceLT, Int.reduceLE, Int.reduceEq, Int.reduceAdd, Int.reduceSub, Int.reduceNeg, Int.reduceMul]
      exact ⟨by rw [propP_no (by simp only; omega)], u2.drew'⟩
    by_cases ho0 : zo < 0
    · skip
      rw [W_seq]
      generalize hKs : KS _ _ _ _ _ = Ks
      simp (config := { maxSteps := 3000000 }) (disch := omega) only [push_cast, Nat.reduceBEq, Nat.reduceEqDiff, Nat.reduceAdd, Nat.reduceMul, Nat.reduceSub, Nat.reduceLT, Int.reduceToNat, Int.reduceLT, Int.reduceLE, Int.reduceEq, Int.reduceAdd, Int.reduceSub, Int.reduceNeg, Int.reduceMul, d2.cell, q2.cell, ht, hf0, hfn, hfs, ho0]
      subst hKs
      simp (disch := omega) only [push_cast, Nat.reduceBEq, Nat.reduceEqDiff, Nat.reduceAdd, Nat.reduceMul, Nat.reduceSub, Nat.reduceLT, Int.reduceToNat, Int.reduceLT, Int.reduceLE, Int.reduceEq, Int.reduceAdd, Int.reduceSub, Int.reduceNeg, Int.reduceMul]
      exact ⟨by rw [propP_no (by simp only; omega)], u2.drew'⟩
    by_cases hon : (S.n : Int) ≤ zo
    · skip
      rw [W_seq]
      generalize hKs : KS _ _ _ _ _ = Ks
      simp (config := { maxSteps := 3000000 }) (disch := omega) only [push_cast, Nat.reduceBEq, Nat.reduceEqDiff, Nat.reduceAdd, Nat.reduceMul, Nat.reduceSub, Nat.reduceLT, Int.reduceToNat, Int.reduceLT, Int.reduceLE, Int.reduceEq, Int.reduceAdd, Int.reduceSub, Int.reduceNeg, Int.reduceMul, d2.cell, q2.cell, ht, hf0, hfn, hfs, ho0, hon]
      subst hKs
      simp (disch := omega) only [push_cast, Nat.reduceBEq, Nat.reduceEqDiff, Nat.reduceAdd, Nat.reduceMul, Nat.reduceSub, Nat.reduceLT, Int.reduceToNat, Int.reduceLT, Int.reduceLE, Int.reduceEq, Int.reduceAdd, Int.reduceSub, Int.reduceNeg, Int.reduceMul]
      exact ⟨by rw [propP_no (by simp only; omega)], u2.drew'⟩
    rw [W_seq]
    generalize hKs : KS _ _ _ _ _ = Ks
    simp (config := { maxSteps := 3000000 }) (disch := omega) only [push_cast, Nat.reduceBEq, Nat.reduceEqDiff, Nat.reduceAdd, Nat.reduceMul, Nat.reduceSub, Nat.reduceLT, Int.reduceToNat, Int.reduceLT, Int.reduceLE, Int.reduceEq, Int.reduceAdd, Int.reduceSub, Int.reduceNeg, Int.reduceMul, d2.cell, q2.cell, ht, hf0, hfn, hfs, ho0, hon]
    subst hKs
    rw [KS_nor]
    by_cases hn1 : zn < 1
    · skip
      rw [W_seq]
      generalize hKs : KS _ _ _ _ _ = Ks
      simp (config := { maxSteps := 3000000 }) (disch := omega) only [push_cast, Nat.reduceBEq, Nat.reduceEqDiff, Nat.reduceAdd, Nat.reduceMul, Nat.reduceSub, Nat.reduceLT, Int.reduceToNat, Int.reduceLT, Int.reduceLE, Int.reduceEq, Int.reduceAdd, Int.reduceSub, Int.reduceNeg, Int.reduceMul, d2.cell, q2.cell, hn1]
      subst hKs
      simp (disch := omega) only [push_cast, Nat.reduceBEq, Nat.reduceEqDiff, Nat.reduceAdd, Nat.reduceMul, Nat.reduceSub, Nat.reduceLT, Int.reduceToNat, Int.reduceLT, Int.reduceLE, Int.reduceEq, Int.reduceAdd, Int.reduceSub, Int.reduceNeg, Int.reduceMul]
      exact ⟨by rw [propP_no (by simp only; omega)], u2.drew'⟩
    by_cases hn2 : 1000000000000000 < zn
    · skip
      rw [W_seq]
      generalize hKs : KS _ _ _ _ _ = Ks
      simp (config := { maxSteps := 3000000 }) (disch := omega) only [push_cast, Nat.reduceBEq, Nat.reduceEqDiff, Nat.reduceAdd, Nat.reduceMul, Nat.reduceSub, Nat.reduceLT, Int.reduceToNat, Int.reduceLT, Int.reduceLE, Int.reduceEq, Int.reduceAdd, Int.reduceSub, Int.reduceNeg, Int.reduceMul, d2.cell, q2.cell, hn1, hn2]
      subst hKs
      simp (disch := omega) only [push_cast, Nat.reduceBEq, Nat.reduceEqDiff, Nat.reduceAdd, Nat.reduceMul, Nat.reduceSub, Nat.reduceLT, Int.reduceToNat, Int.reduceLT, Int.reduceLE, Int.reduceEq, Int.reduceAdd, Int.reduceSub, Int.reduceNeg, Int.reduceMul]
      exact ⟨by rw [propP_no (by simp only; omega)], u2.drew'⟩
    by_cases hl0 : ((zl.length : Nat) : Int) = 0
    rotate_left
    · skip
      rw [W_seq]
      generalize hKs : KS _ _ _ _ _ = Ks
      simp (config := { maxSteps := 3000000 }) (disch := omega) only [push_cast, Nat.reduceBEq, Nat.reduceEqDiff, Nat.reduceAdd, Nat.reduceMul, Nat.reduceSub, Nat.reduceLT, Int.reduceToNat, Int.reduceLT, Int.reduceLE, Int.reduceEq, Int.reduceAdd, Int.reduceSub, Int.reduceNeg, Int.reduceMul, d2.cell, q2.cell, hn1, hn2, hl0]
      subst hKs
      simp (disch := omega) only [push_cast, Nat.reduceBEq, Nat.reduceEqDiff, Nat.reduceAdd, Nat.reduceMul, Nat.reduceSub, Nat.reduceLT, Int.reduceToNat, Int.reduceLT, Int.reduceLE, Int.reduceEq, Int.reduceAdd, Int.reduceSub, Int.reduceNeg, Int.reduceMul]
      exact ⟨by rw [propP_no (by simp only; omega)], u2.drew'⟩
    rw [W_seq]
    generalize hKs : KS _ _ _ _ _ = Ks
    simp (config := { maxSteps := 3000000 }) (disch := omega) only [push_cast, Nat.reduceBEq, Nat.reduceEqDiff, Nat.reduceAdd, Nat.reduceMul, Nat.reduceSub, Nat.reduceLT, Int.reduceToNat, Int.reduceLT, Int.reduceLE, Int.reduceEq, Int.reduceAdd, Int.reduceSub, Int.reduceNeg, Int.reduceMul, d2.cell, q2.cell, hn1, hn2, hl0]
    subst hKs
    rw [KS_nor]
    by_cases hos : zo = S.self
    rotate_left
    · simp (config := { maxSteps := 3000000 }) (disch := omega) only [push_cast, Nat.reduceBEq, Nat.reduceEqDiff, Nat.reduceAdd, Nat.reduceMul, Nat.reduceSub, Nat.reduceLT, Int.reduceToNat, Int.reduceLT, Int.reduceLE, Int.reduceEq, Int.reduceAdd, Int.reduceSub, Int.reduceNeg, Int.reduceMul, d2.cell, q2.cell, hos]
      exact ⟨by rw [propP_yes (.inr rfl) (by simp only; omega) (by simp only; omega) (by simp only; omega) (by simp only; omega) (by simp only; omega) (.inr (by simp only; omega)) (fun e => absurd e hos)], u2.drew'.drew'⟩
    by_cases hmd : zn ≤ S.made
    · simp (config := { maxSteps := 3000000 }) (disch := omega) only [push_cast, Nat.reduceBEq, Nat.reduceEqDiff, Nat.reduceAdd, Nat.reduceMul, Nat.reduceSub, Nat.reduceLT, Int.reduceToNat, Int.reduceLT, Int.reduceLE, Int.reduceEq, Int.reduceAdd, Int.reduceSub, Int.reduceNeg, Int.reduceMul, d2.cell, q2.cell, hos, hmd]
      exact ⟨by rw [propP_yes (.inr rfl) (by simp only; omega) (by simp only; omega) (by simp only; omega) (by simp only; omega) (by simp only; omega) (.inr (by simp only; omega)) (fun _ => hmd)], u2.drew'.drew'⟩
    · simp (config := { maxSteps := 3000000 }) (disch := omega) only [push_cast, Nat.reduceBEq, Nat.reduceEqDiff, Nat.reduceAdd, Nat.reduceMul, Nat.reduceSub, Nat.reduceLT, Int.reduceToNat, Int.reduceLT, Int.reduceLE, Int.reduceEq, Int.reduceAdd, Int.reduceSub, Int.reduceNeg, Int.reduceMul, d2.cell, q2.cell, hos, hmd]
      exact ⟨by rw [propP_no (fun h => hmd (h.2.2.2.2.2.2.2 rfl))], u2.drew'.drew'⟩
end Go.Proofs.Ytpgfokhpacdhjaa.Fd
