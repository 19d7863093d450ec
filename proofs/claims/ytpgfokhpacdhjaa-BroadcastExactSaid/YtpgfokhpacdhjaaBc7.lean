/-
  Receive.
-/
import Derived.Test.YtpgfokhpacdhjaaBc6
namespace Go.Proofs.Ytpgfokhpacdhjaa.Fd
set_option linter.unusedSimpArgs false
set_option linter.unusedVariables false
open Go Go.ChangeMaps
set_option maxRecDepth 100000

def tw (x : Int) : BitVec 16 := BitVec.twoPow 16 x.toNat
def rcO (S : PS) (z : Pk) (k : Nat) : List Pk := (List.range k).filterMap fun to => if to = S.self then none else if (to : Int) = z.f ∨ (to : Int) = z.o then some ⟨2, S.self, to, z.o, z.n, []⟩ else some ⟨1, S.self, to, z.o, z.n, z.l⟩
def rcS (S : PS) (z : Pk) : Option (PS × List Pk) :=
  if propP S z then
    match findS (z.o, z.n) S.notes with
    | none => if z.k = 2 then none else some ({ S with notes := putS (z.o, z.n) (z.l, BitVec.twoPow 16 S.self ||| tw z.f ||| tw z.o) S.notes }, rcO S z S.n)
    | some (l, D) => if z.k = 2 then some ({ S with notes := putS (z.o, z.n) (l, D ||| tw z.f) S.notes }, [])
      else if l = z.l then some ({ S with notes := putS (z.o, z.n) (l, D ||| (tw z.f ||| tw z.o)) S.notes }, [⟨2, S.self, z.f, z.o, z.n, []⟩])
      else none
  else none
def RcR (S : PS) (z : Pk) (S' : PS) (ps : List Pk) : Prop := match rcS S z with
  | none => S' = S ∧ ps = []
  | some (S1, o) => Run S1 S' ∧ ps = o
theorem propP_of {S : PS} {z : Pk} (h : propP S z = true) : (z.k = 1 ∨ z.k = 2) ∧ z.t = S.self ∧ (0 ≤ z.f ∧ z.f < S.n) ∧ z.f ≠ S.self ∧ (0 ≤ z.o ∧ z.o < S.n) ∧ (1 ≤ z.n ∧ z.n ≤ 1000000000000000) ∧ (z.k = 1 ∨ z.l.length = 0) ∧ (z.o = S.self → z.n ≤ S.made) := by
  simp only [propP, insI, Bool.and_eq_true, Bool.or_eq_true, decide_eq_true_eq, Bool.not_eq_true', decide_eq_false_iff_not] at h
  obtain ⟨⟨⟨⟨⟨⟨⟨⟨h1, h2⟩, h3⟩, h4⟩, h5⟩, h6⟩, h7⟩, h8⟩, h9⟩ := h
  exact ⟨h1, h2, h3, h4, h5, ⟨h6, h7⟩, h8, fun e => h9.resolve_left fun h => h e⟩
theorem PA.old {base : Nat} {w : World} {p : Nat} {S : PS} {mb db : Nat} {lv : Value} {m ds : List (NP × Value)} (h : PA base w p S mb db lv m ds) {b : Nat} (hb : Ft p mb db lv b) : b < w.heap.size := by
  rcases hb with rfl | rfl | rfl | hb
  · exact h.obj.lt
  · exact h.map.lt
  · exact h.del.lt
  · exact (own_ge h.own hb).2
/-- A write into a block that is newer than w3, and not of bytes. -/
theorem kp_new {base : Nat} {w w' : World} {g : Nat} {cs : List Value} {E : TypeId} (u : Upd (fun b => b = g) w w') (hb : Blk w g cs E) (hE : E ≠ 5) (hg : base ≤ g) : Kp base w w' :=
  Kp.of_upd u fun b hb' hs => by
    subst hb'
    rcases hs.2 with h | ⟨cs', fz, h⟩
    · omega
    · unfold Blk at hb
      rw [hb] at h
      simp only [Option.some.injEq, Obj.cells.injEq] at h
      exact hE h.2.1
theorem PA.fresh {base : Nat} {w w' : World} {p : Nat} {S : PS} {mb db : Nat} {lv : Value} {m ds : List (NP × Value)} (h : PA base w p S mb db lv m ds) {g : Nat} {cs : List Value} {E : TypeId} (u : Upd (fun b => b = g) w w') (hb : Blk w g cs E) (hE : E ≠ 5) (hg : base ≤ g) (ho : ∀ b, Ft p mb db lv b → b < g) : PA base w' p S mb db lv m ds :=
  h.frame u (fun b hb hf => by have := ho b hf; omega) (kp_new u hb hE hg)
theorem rcO_succ {S : PS} {z : Pk} {i : Nat} : rcO S z (i + 1) = rcO S z i ++ (if i = S.self then [] else if (i : Int) = z.f ∨ (i : Int) = z.o then [⟨2, S.self, i, z.o, z.n, []⟩] else [⟨1, S.self, i, z.o, z.n, z.l⟩]) := by
  unfold rcO
  rw [List.range_succ, List.filterMap_append]
  congr 1
  by_cases h : i = S.self
  · simp [h]
  · by_cases h2 : (i : Int) = z.f ∨ (i : Int) = z.o
    · simp [h, if_pos h2]
    · simp [h, if_neg h2]
theorem rcO_length {S : PS} {z : Pk} {i : Nat} : (rcO S z i).length ≤ i := by
  have := List.length_filterMap_le (fun to : Nat => if to = S.self then none else if (to : Int) = z.f ∨ (to : Int) = z.o then some (⟨2, S.self, to, z.o, z.n, []⟩ : Pk) else some ⟨1, S.self, to, z.o, z.n, z.l⟩) (List.range i)
  rw [List.length_range] at this
  exact this
set_option maxHeartbeats 4000000 in
theorem Receive_ok {base : Nat} {w : World} {p : Nat} {S : PS} {mb db : Nat} {lv : Value} {m ds : List (NP × Value)} (h : PA base w p S mb db lv m ds) (hd : ∀ o, 0 ≤ S.done o ∧ S.done o ≤ S.list.length) (hb : S.list.length + S.notes.length < 999999)
    (z : Pk × Value) (hz : PB base w z.2 z.1.l) (hl : z.1.l.length ≤ 140737488355328) (hnl : ∀ k x, findS k S.notes = some x → x.1.length ≤ 140737488355328) :
    Ok (den Try.prog 18 #[.pointer (some ⟨p, 0, none⟩), pkV z] w) fun out w' => ∃ S' lv' m' ds' ps, RcR S z.1 S' ps ∧ PA base w' p S' mb db lv' m' ds' ∧ Upd (Ft p mb db lv) w w' ∧ (∀ g, lv'.ownBlock = some g → lv.ownBlock = some g ∨ w.heap.size ≤ g) ∧
      OwnK base w.heap.size w' out ps := by
  refine den_ok (args := [.pointer (some ⟨p, 0, none⟩), pkV z]) rs18 Try.func18 rfl mixed in18 ok18 rfl ?_
  obtain ⟨za, zc, hz2⟩ := hz.form
  obtain ⟨⟨zk, zf, zt, zo, zn, zl⟩, z2⟩ := z
  simp only at hz2 hz hl
  subst hz2
  rw [W_seq]
  generalize hKs : KS _ _ _ _ _ = Ks
  simp (disch := omega) only [push_cast, Nat.reduceBEq, Nat.reduceEqDiff, Nat.reduceAdd, Nat.reduceMul, Nat.reduceSub, Nat.reduceLT, Int.reduceToNat, Int.reduceLT, Int.reduceLE, Int.reduceEq, Int.reduceAdd, Int.reduceSub, Int.reduceNeg, Int.reduceMul, pkV, pkC]
  have d1 := Blk.new (w := w) (cs := [.int .i64 zk, .int .i64 zf, .int .i64 zt, .int .i64 zo, .int .i64 zn, .slice za zl.length zc]) (E := 46)
  have u1 : Upd (fun _ => False) w (w.alloc (.cells [.int .i64 zk, .int .i64 zf, .int .i64 zt, .int .i64 zo, .int .i64 zn, .slice za zl.length zc].toArray 46 (0, 0))) := Upd.alloc
  generalize w.alloc (.cells [.int .i64 zk, .int .i64 zf, .int .i64 zt, .int .i64 zo, .int .i64 zn, .slice za zl.length zc].toArray 46 (0, 0)) = w1 at *
  have h1 := h.quiet u1
  have hz1 := hz.keep (Kp.quiet u1)
  subst hKs
  rw [KS_nor]
  rw [W_seq]
  generalize hKs : KS _ _ _ _ _ = Ks
  simp (disch := omega) only [push_cast, Nat.reduceBEq, Nat.reduceEqDiff, Nat.reduceAdd, Nat.reduceMul, Nat.reduceSub, Nat.reduceLT, Int.reduceToNat, Int.reduceLT, Int.reduceLE, Int.reduceEq, Int.reduceAdd, Int.reduceSub, Int.reduceNeg, Int.reduceMul, d1.cell]
  have hpr := proper_ok h1 (⟨zk, zf, zt, zo, zn, zl⟩, .slice za zl.length zc) hz1
  unfold pkV pkC at hpr
  simp only at hpr
  refine Ok.use hpr ?_
  rintro v w2 ⟨rfl, hu2⟩
  have h2 := h1.quiet hu2
  have hz2 := hz1.keep (Kp.quiet hu2)
  have d2 := d1.upd hu2 (fun h => h)
  have u12 := u1.trans hu2 (fun _ _ h => h)
  cases hP : propP S ⟨zk, zf, zt, zo, zn, zl⟩
  · simp (disch := omega) only [push_cast, Nat.reduceBEq, Nat.reduceEqDiff, Nat.reduceAdd, Nat.reduceMul, Nat.reduceSub, Nat.reduceLT, Int.reduceToNat, Int.reduceLT, Int.reduceLE, Int.reduceEq, Int.reduceAdd, Int.reduceSub, Int.reduceNeg, Int.reduceMul]
    subst hKs
    simp (disch := omega) only [push_cast, Nat.reduceBEq, Nat.reduceEqDiff, Nat.reduceAdd, Nat.reduceMul, Nat.reduceSub, Nat.reduceLT, Int.reduceToNat, Int.reduceLT, Int.reduceLE, Int.reduceEq, Int.reduceAdd, Int.reduceSub, Int.reduceNeg, Int.reduceMul]
    refine ⟨S, lv, m, ds, [], ?_, h2, u12.mono (fun _ _ h => h.elim), fun g hg => .inl hg, OwnK.nil⟩
    unfold RcR rcS
    rw [hP]
    simp
  obtain ⟨pk, pt, pf, pfs, po, pn, pl, pm⟩ := propP_of hP
  simp only at pk pt pf pfs po pn pl pm
  obtain ⟨f, rfl⟩ : ∃ f : Nat, zf = (f : Int) := ⟨zf.toNat, by omega⟩
  obtain ⟨o, rfl⟩ : ∃ o : Nat, zo = (o : Int) := ⟨zo.toNat, by omega⟩
  simp (disch := omega) only [push_cast, Nat.reduceBEq, Nat.reduceEqDiff, Nat.reduceAdd, Nat.reduceMul, Nat.reduceSub, Nat.reduceLT, Int.reduceToNat, Int.reduceLT, Int.reduceLE, Int.reduceEq, Int.reduceAdd, Int.reduceSub, Int.reduceNeg, Int.reduceMul]
  subst hKs
  rw [KS_nor]
  rw [W_seq]
  generalize hKs : KS _ _ _ _ _ = Ks
  simp (disch := omega) only [push_cast, Nat.reduceBEq, Nat.reduceEqDiff, Nat.reduceAdd, Nat.reduceMul, Nat.reduceSub, Nat.reduceLT, Int.reduceToNat, Int.reduceLT, Int.reduceLE, Int.reduceEq, Int.reduceAdd, Int.reduceSub, Int.reduceNeg, Int.reduceMul, d2.cell, bld_name]
  have c3 := ((Blk.new (w := w2) (cs := [.int .i64 0, .int .i64 0]) (E := 76)).set 0 (.int .i64 o)).set 1 (.int .i64 zn)
  have u3 : Upd (fun _ => False) w2 (((w2.alloc (.cells [.int .i64 0, .int .i64 0].toArray 76 (0, 0))).setCell ⟨w2.heap.size, 0, none⟩ (.int .i64 o)).setCell ⟨w2.heap.size, 1, none⟩ (.int .i64 zn)) := (Upd.alloc.setNew (Nat.le_refl _)).setNew (Nat.le_refl _)
  simp only [List.set_cons_succ, List.set_cons_zero] at c3
  generalize ((w2.alloc (.cells [.int .i64 0, .int .i64 0].toArray 76 (0, 0))).setCell ⟨w2.heap.size, 0, none⟩ (.int .i64 o)).setCell ⟨w2.heap.size, 1, none⟩ (.int .i64 zn) = w3 at *
  have h3 := h2.quiet u3
  have hz3 := hz2.keep (Kp.quiet u3)
  have d3 := d2.upd u3 (fun h => h)
  have hs23 : w2.heap.size < w3.heap.size := c3.lt
  have hs02 : w.heap.size < w2.heap.size := d2.lt
  subst hKs
  rw [KS_nor]
  have u4 : Upd (fun _ => False) w3 (w3.alloc (.cells #[.slice none 0 0, .int .u16 0] 82 (0, 0))) := Upd.alloc
  have h4 := h3.quiet u4
  have c4 := c3.upd u4 (fun h => h)
  have hlk3 := lkp_p (k := ((o : Int), zn)) (ok := true) h3.map.drew'
  have hlk4 := lkp_p (k := ((o : Int), zn)) (ok := true) h4.map.drew'
  unfold keyV at hlk3 hlk4
  simp only [if_true] at hlk3 hlk4
  rcases h3.nts.find ((o : Int), zn) with ⟨hf, hpi⟩ | ⟨l, D, pv, j, hf, hpi, hpv⟩
  · rw [hpi] at hlk3 hlk4
    unfold noteZ at hlk3 hlk4
    rw [W_seq]
    generalize hKs : KS _ _ _ _ _ = Ks
    simp (disch := omega) only [push_cast, Nat.reduceBEq, Nat.reduceEqDiff, Nat.reduceAdd, Nat.reduceMul, Nat.reduceSub, Nat.reduceLT, Int.reduceToNat, Int.reduceLT, Int.reduceLE, Int.reduceEq, Int.reduceAdd, Int.reduceSub, Int.reduceNeg, Int.reduceMul, h3.obj.cell, c3.cell, hlk3, h4.obj.cell, c4.cell, hlk4]
    have u5 : Upd (fun _ => False) w3 (((w3.alloc (.cells [.slice none 0 0, .int .u16 0].toArray 82 (0, 0))).setCell ⟨w3.heap.size, 0, none⟩ (.slice none 0 0)).setCell ⟨w3.heap.size, 1, none⟩ (.int .u16 0)).drew := ((Upd.alloc.setNew (Nat.le_refl _)).setNew (Nat.le_refl _)).drew'
    clear hlk3 hlk4 h4 c4 u4
    generalize (((w3.alloc (.cells [.slice none 0 0, .int .u16 0].toArray 82 (0, 0))).setCell ⟨w3.heap.size, 0, none⟩ (.slice none 0 0)).setCell ⟨w3.heap.size, 1, none⟩ (.int .u16 0)).drew = w5 at *
    have h5 := h3.quiet u5
    have hz5 := hz3.keep (Kp.quiet u5)
    have d5 := d3.upd u5 (fun h => h)
    have c5 := c3.upd u5 (fun h => h)
    have u15 := (u12.trans u3 (fun _ _ h => h)).trans u5 (fun _ _ h => h)
    subst hKs
    rw [KS_nor]
    by_cases hk2 : zk = 2
    · subst hk2
      simp (disch := omega) only [push_cast, Nat.reduceBEq, Nat.reduceEqDiff, Nat.reduceAdd, Nat.reduceMul, Nat.reduceSub, Nat.reduceLT, Int.reduceToNat, Int.reduceLT, Int.reduceLE, Int.reduceEq, Int.reduceAdd, Int.reduceSub, Int.reduceNeg, Int.reduceMul, d5.cell]
      refine ⟨S, lv, m, ds, [], ?_, h5, u15.mono (fun _ _ h => h.elim), fun g hg => .inl hg, OwnK.nil⟩
      unfold RcR rcS
      rw [hP]
      simp [hf]
    obtain rfl : zk = 1 := pk.resolve_right hk2
    rw [W_seq]
    generalize hKs : KS _ _ _ _ _ = Ks
    simp (disch := omega) only [push_cast, Nat.reduceBEq, Nat.reduceEqDiff, Nat.reduceAdd, Nat.reduceMul, Nat.reduceSub, Nat.reduceLT, Int.reduceToNat, Int.reduceLT, Int.reduceLE, Int.reduceEq, Int.reduceAdd, Int.reduceSub, Int.reduceNeg, Int.reduceMul, d5.cell]
    subst hKs
    rw [KS_nor]
    simp (disch := omega) only [push_cast, Nat.reduceBEq, Nat.reduceEqDiff, Nat.reduceAdd, Nat.reduceMul, Nat.reduceSub, Nat.reduceLT, Int.reduceToNat, Int.reduceLT, Int.reduceLE, Int.reduceEq, Int.reduceAdd, Int.reduceSub, Int.reduceNeg, Int.reduceMul, d5.cell, h5.obj.cell, c5.cell]
    refine Ok.use (clone_ok (hz5.keep (Kp.quiet Upd.drew)) hl) ?_
    rintro v w6 ⟨hv6, hu6'⟩
    have hu6 : Upd (fun _ => False) w5 w6 := Upd.drew.trans hu6' (fun _ _ h => h)
    obtain ⟨va, vc, rfl⟩ := hv6.form
    have h6 := h5.quiet hu6
    have d6 := d5.upd hu6 (fun h => h)
    have c6 := c5.upd hu6 (fun h => h)
    have hz6 := hz5.keep (Kp.quiet hu6)
    have u16 := u15.trans hu6 (fun _ _ h => h)
    have hmu := mup_p (k := ((o : Int), zn)) (v := .agg #[.slice va zl.length vc, .int .u16 ((BitVec.twoPow 16 S.self ||| BitVec.twoPow 16 f ||| BitVec.twoPow 16 o).toNat : Int)]) h6.map
    unfold keyV at hmu
    have h7 := h6.putNote ((o : Int), zn) (BitVec.twoPow 16 S.self ||| BitVec.twoPow 16 f ||| BitVec.twoPow 16 o) hv6
    have v7 : Upd (fun b => b = mb) w6 (setBlock w6 mb (.map (entP 0 (putP ((o : Int), zn) (.agg #[.slice va zl.length vc, .int .u16 ((BitVec.twoPow 16 S.self ||| BitVec.twoPow 16 f ||| BitVec.twoPow 16 o).toNat : Int)]) m)).toArray (putP ((o : Int), zn) (.agg #[.slice va zl.length vc, .int .u16 ((BitVec.twoPow 16 S.self ||| BitVec.twoPow 16 f ||| BitVec.twoPow 16 o).toNat : Int)]) m).length)) := Upd.setBlock rfl
    have hmbl := h.map.lt
    have u7 : Upd (Ft p mb db lv) w _ := (u16.mono (fun _ _ h => h.elim)).trans v7 (fun b _ h => .inr (.inl h))
    have d7 := d6.upd v7 (by omega)
    have c7 := c6.upd v7 (by omega)
    simp (disch := omega) only [push_cast, Nat.reduceBEq, Nat.reduceEqDiff, Nat.reduceAdd, Nat.reduceMul, Nat.reduceSub, Nat.reduceLT, Int.reduceToNat, Int.reduceLT, Int.reduceLE, Int.reduceEq, Int.reduceAdd, Int.reduceSub, Int.reduceNeg, Int.reduceMul, d5.cell, h5.obj.cell, c5.cell, d6.cell, h6.obj.cell, c6.cell, bld_note, hmu, h7.obj.cell]
    clear hmu
    generalize putP ((o : Int), zn) (.agg #[.slice va zl.length vc, .int .u16 ((BitVec.twoPow 16 S.self ||| BitVec.twoPow 16 f ||| BitVec.twoPow 16 o).toNat : Int)]) m = m7 at *
    generalize setBlock w6 mb _ = w7 at *
    have hfo : findS ((o : Int), zn) (putS ((o : Int), zn) (zl, BitVec.twoPow 16 S.self ||| BitVec.twoPow 16 f ||| BitVec.twoPow 16 o) S.notes) = some (zl, BitVec.twoPow 16 S.self ||| BitVec.twoPow 16 f ||| BitVec.twoPow 16 o) := by
      rw [putS_find, if_pos rfl]
    have hub : base ≤ w.heap.size := by have := h.b1; have := h.obj.lt; omega
    have hn12 := h.n12
    have hsn := h.sn
    have sw7 := u7.size
    refine loop_inv (I := fun k st w' => Bx (∃ (i : Nat) (ov : Value), k + i = S.n ∧ st = [ov, .int .i64 (i : Int)] ∧ Upd (fun _ => False) w7 w' ∧ OwnK base w.heap.size w' ov (rcO S ⟨1, f, zt, o, zn, zl⟩ i) ∧ ∀ g, ov.ownBlock = some g → w7.heap.size ≤ g) ⟨⟩) ?_ S.n ⟨0, _, rfl, rfl, Upd.refl, OwnK.nil, fun g hg => by cases hg⟩
    rintro k st w9 ⟨i, ov, hk, rfl, hu9, ho, hg⟩
    have h9 := h7.quiet hu9
    have c9 := c7.upd hu9 (fun h => h)
    have d9 := d7.upd hu9 (fun h => h)
    by_cases hk0 : k = 0
    · obtain rfl : i = S.n := by omega
      obtain ⟨oa, oc, rfl⟩ := ho.form
      simp (disch := omega) only [push_cast, Nat.reduceBEq, Nat.reduceEqDiff, Nat.reduceAdd, Nat.reduceMul, Nat.reduceSub, Nat.reduceLT, Int.reduceToNat, Int.reduceLT, Int.reduceLE, Int.reduceEq, Int.reduceAdd, Int.reduceSub, Int.reduceNeg, Int.reduceMul]
      refine Ok.use (deliver_ok h9 hd (by have := putS_length (k := ((o : Int), zn)) (x := (zl, BitVec.twoPow 16 S.self ||| BitVec.twoPow 16 f ||| BitVec.twoPow 16 o)) (notes := S.notes); show S.list.length + (putS _ _ _).length < _; omega)) ?_
      rintro v w10 ⟨S', lv', ds', hrun, h10, hu10, hf10⟩
      simp (disch := omega) only [push_cast, Nat.reduceBEq, Nat.reduceEqDiff, Nat.reduceAdd, Nat.reduceMul, Nat.reduceSub, Nat.reduceLT, Int.reduceToNat, Int.reduceLT, Int.reduceLE, Int.reduceEq, Int.reduceAdd, Int.reduceSub, Int.reduceNeg, Int.reduceMul]
      have hu710 : Upd (Ft p mb db lv) w7 w10 := (hu9.mono (fun _ _ h => h.elim)).trans hu10 (fun _ _ h => h)
      refine ⟨S', lv', m7, ds', _, ?_, h10, u7.trans hu710 (fun _ _ h => h), fun g hg' => (hf10 g hg').imp id (fun h => by have := hu9.size; omega), ho.upd hu10 (fun g hg' hF => ?_) (h9.kp hu10)⟩
      · unfold RcR rcS
        rw [hP]
        simp [hf, tw]
        exact hrun
      · have := hg g hg'
        have := h7.old hF
        omega
    have hi : i < S.n := by omega
    by_cases hs : i = S.self
    · simp (disch := omega) only [push_cast, Nat.reduceBEq, Nat.reduceEqDiff, Nat.reduceAdd, Nat.reduceMul, Nat.reduceSub, Nat.reduceLT, Int.reduceToNat, Int.reduceLT, Int.reduceLE, Int.reduceEq, Int.reduceAdd, Int.reduceSub, Int.reduceNeg, Int.reduceMul, h9.obj.cell, hs]
      refine ⟨k - 1, by omega, i + 1, _, by omega, by simp [hs], hu9, ?_, hg⟩
      rw [rcO_succ, if_pos hs, List.append_nil]
      exact ho
    have hs' : ¬ (i : Int) = (S.self : Int) := by omega
    by_cases hif : (i : Int) = (f : Int)
    · simp (disch := omega) only [push_cast, Nat.reduceBEq, Nat.reduceEqDiff, Nat.reduceAdd, Nat.reduceMul, Nat.reduceSub, Nat.reduceLT, Int.reduceToNat, Int.reduceLT, Int.reduceLE, Int.reduceEq, Int.reduceAdd, Int.reduceSub, Int.reduceNeg, Int.reduceMul, h9.obj.cell, hs', d9.cell, hif, c9.cell]
      refine Ok.use (packet_ok h9 2 (f : Int) ((o : Int), zn) hfo hl) ?_
      rintro v w10 ⟨pv, rfl, hpv10, hu10⟩
      rw [if_neg (by decide)] at hpv10 ⊢
      obtain ⟨qa, qc, rfl⟩ := hpv10.form
      have ho10 := ho.quiet hu10
      unfold pkV pkC
      simp (disch := omega) only [push_cast, Nat.reduceBEq, Nat.reduceEqDiff, Nat.reduceAdd, Nat.reduceMul, Nat.reduceSub, Nat.reduceLT, Int.reduceToNat, Int.reduceLT, Int.reduceLE, Int.reduceEq, Int.reduceAdd, Int.reduceSub, Int.reduceNeg, Int.reduceMul, bsl_pk]
      have hu11 : Upd (fun _ => False) w10 (w10.alloc (.cells (pkC (⟨2, S.self, f, o, zn, []⟩, .slice qa 0 qc)).toArray 46 (0, 0))) := Upd.alloc
      have hb11 := Blk.new (w := w10) (cs := pkC (⟨2, S.self, f, o, zn, []⟩, .slice qa 0 qc)) (E := 46)
      have s910 := hu10.size
      have s79 := hu9.size
      have s11 := hu11.size
      refine app_pk (z := (⟨2, S.self, f, o, zn, []⟩, .slice qa 0 qc)) (ho10.quiet hu11) (hpv10.keep (Kp.quiet hu11)) hub (by omega) (by have := @rcO_length S ⟨1, f, zt, o, zn, zl⟩ i; omega) hb11 ?_
      intro v' w12 h12 hu12 hf12
      simp (disch := omega) only [push_cast, Nat.reduceBEq, Nat.reduceEqDiff, Nat.reduceAdd, Nat.reduceMul, Nat.reduceSub, Nat.reduceLT, Int.reduceToNat, Int.reduceLT, Int.reduceLE, Int.reduceEq, Int.reduceAdd, Int.reduceSub, Int.reduceNeg, Int.reduceMul]
      refine ⟨k - 1, by omega, i + 1, v', by omega, by simp [hif], ?_, ?_, ?_⟩
      · exact ((hu9.trans hu10 (fun _ _ h => h)).trans hu11 (fun _ _ h => h)).trans hu12 (fun b h1 h2 => by have := hg b h2; omega)
      · rw [rcO_succ, if_neg hs, if_pos (.inl hif), hif]
        exact h12
      · intro g hg'
        rcases hf12 g hg' with h | h
        · exact hg g h
        · omega
    by_cases hio : (i : Int) = (o : Int)
    · simp (disch := omega) only [push_cast, Nat.reduceBEq, Nat.reduceEqDiff, Nat.reduceAdd, Nat.reduceMul, Nat.reduceSub, Nat.reduceLT, Int.reduceToNat, Int.reduceLT, Int.reduceLE, Int.reduceEq, Int.reduceAdd, Int.reduceSub, Int.reduceNeg, Int.reduceMul, h9.obj.cell, hs', d9.cell, hif, hio, c9.cell]
      refine Ok.use (packet_ok h9 2 (o : Int) ((o : Int), zn) hfo hl) ?_
      rintro v w10 ⟨pv, rfl, hpv10, hu10⟩
      rw [if_neg (by decide)] at hpv10 ⊢
      obtain ⟨qa, qc, rfl⟩ := hpv10.form
      have ho10 := ho.quiet hu10
      unfold pkV pkC
      simp (disch := omega) only [push_cast, Nat.reduceBEq, Nat.reduceEqDiff, Nat.reduceAdd, Nat.reduceMul, Nat.reduceSub, Nat.reduceLT, Int.reduceToNat, Int.reduceLT, Int.reduceLE, Int.reduceEq, Int.reduceAdd, Int.reduceSub, Int.reduceNeg, Int.reduceMul, bsl_pk]
      have hu11 : Upd (fun _ => False) w10 (w10.alloc (.cells (pkC (⟨2, S.self, o, o, zn, []⟩, .slice qa 0 qc)).toArray 46 (0, 0))) := Upd.alloc
      have hb11 := Blk.new (w := w10) (cs := pkC (⟨2, S.self, o, o, zn, []⟩, .slice qa 0 qc)) (E := 46)
      have s910 := hu10.size
      have s79 := hu9.size
      have s11 := hu11.size
      refine app_pk (z := (⟨2, S.self, o, o, zn, []⟩, .slice qa 0 qc)) (ho10.quiet hu11) (hpv10.keep (Kp.quiet hu11)) hub (by omega) (by have := @rcO_length S ⟨1, f, zt, o, zn, zl⟩ i; omega) hb11 ?_
      intro v' w12 h12 hu12 hf12
      simp (disch := omega) only [push_cast, Nat.reduceBEq, Nat.reduceEqDiff, Nat.reduceAdd, Nat.reduceMul, Nat.reduceSub, Nat.reduceLT, Int.reduceToNat, Int.reduceLT, Int.reduceLE, Int.reduceEq, Int.reduceAdd, Int.reduceSub, Int.reduceNeg, Int.reduceMul]
      refine ⟨k - 1, by omega, i + 1, v', by omega, by simp [hio], ?_, ?_, ?_⟩
      · exact ((hu9.trans hu10 (fun _ _ h => h)).trans hu11 (fun _ _ h => h)).trans hu12 (fun b h1 h2 => by have := hg b h2; omega)
      · rw [rcO_succ, if_neg hs, if_pos (.inr hio), hio]
        exact h12
      · intro g hg'
        rcases hf12 g hg' with h | h
        · exact hg g h
        · omega
    · simp (disch := omega) only [push_cast, Nat.reduceBEq, Nat.reduceEqDiff, Nat.reduceAdd, Nat.reduceMul, Nat.reduceSub, Nat.reduceLT, Int.reduceToNat, Int.reduceLT, Int.reduceLE, Int.reduceEq, Int.reduceAdd, Int.reduceSub, Int.reduceNeg, Int.reduceMul, h9.obj.cell, hs', d9.cell, hif, hio, c9.cell]
      refine Ok.use (packet_ok h9 1 (i : Int) ((o : Int), zn) hfo hl) ?_
      rintro v w10 ⟨pv, rfl, hpv10, hu10⟩
      rw [if_pos rfl] at hpv10 ⊢
      obtain ⟨qa, qc, rfl⟩ := hpv10.form
      have ho10 := ho.quiet hu10
      unfold pkV pkC
      simp (disch := omega) only [push_cast, Nat.reduceBEq, Nat.reduceEqDiff, Nat.reduceAdd, Nat.reduceMul, Nat.reduceSub, Nat.reduceLT, Int.reduceToNat, Int.reduceLT, Int.reduceLE, Int.reduceEq, Int.reduceAdd, Int.reduceSub, Int.reduceNeg, Int.reduceMul, bsl_pk]
      have hu11 : Upd (fun _ => False) w10 (w10.alloc (.cells (pkC (⟨1, S.self, i, o, zn, zl⟩, .slice qa zl.length qc)).toArray 46 (0, 0))) := Upd.alloc
      have hb11 := Blk.new (w := w10) (cs := pkC (⟨1, S.self, i, o, zn, zl⟩, .slice qa zl.length qc)) (E := 46)
      have s910 := hu10.size
      have s79 := hu9.size
      have s11 := hu11.size
      refine app_pk (z := (⟨1, S.self, i, o, zn, zl⟩, .slice qa zl.length qc)) (ho10.quiet hu11) (hpv10.keep (Kp.quiet hu11)) hub (by omega) (by have := @rcO_length S ⟨1, f, zt, o, zn, zl⟩ i; omega) hb11 ?_
      intro v' w12 h12 hu12 hf12
      simp (disch := omega) only [push_cast, Nat.reduceBEq, Nat.reduceEqDiff, Nat.reduceAdd, Nat.reduceMul, Nat.reduceSub, Nat.reduceLT, Int.reduceToNat, Int.reduceLT, Int.reduceLE, Int.reduceEq, Int.reduceAdd, Int.reduceSub, Int.reduceNeg, Int.reduceMul]
      refine ⟨k - 1, by omega, i + 1, v', by omega, by simp, ?_, ?_, ?_⟩
      · exact ((hu9.trans hu10 (fun _ _ h => h)).trans hu11 (fun _ _ h => h)).trans hu12 (fun b h1 h2 => by have := hg b h2; omega)
      · rw [rcO_succ, if_neg hs, if_neg (by simp [hif, hio])]
        exact h12
      · intro g hg'
        rcases hf12 g hg' with h | h
        · exact hg g h
        · omega
  · rw [hpi] at hlk3 hlk4
    obtain ⟨pa, pc, rfl⟩ := hpv.form
    rw [W_seq]
    generalize hKs : KS _ _ _ _ _ = Ks
    simp (disch := omega) only [push_cast, Nat.reduceBEq, Nat.reduceEqDiff, Nat.reduceAdd, Nat.reduceMul, Nat.reduceSub, Nat.reduceLT, Int.reduceToNat, Int.reduceLT, Int.reduceLE, Int.reduceEq, Int.reduceAdd, Int.reduceSub, Int.reduceNeg, Int.reduceMul, h3.obj.cell, c3.cell, hlk3, h4.obj.cell, c4.cell, hlk4]
    have e5 := (((Blk.new (w := w3) (cs := [.slice none 0 0, .int .u16 0]) (E := 82)).set 0 (.slice pa l.length pc)).set 1 (.int .u16 (D.toNat : Int))).drew
    have u5 : Upd (fun _ => False) w3 (((w3.alloc (.cells [.slice none 0 0, .int .u16 0].toArray 82 (0, 0))).setCell ⟨w3.heap.size, 0, none⟩ (.slice pa l.length pc)).setCell ⟨w3.heap.size, 1, none⟩ (.int .u16 (D.toNat : Int))).drew := ((Upd.alloc.setNew (Nat.le_refl _)).setNew (Nat.le_refl _)).drew'
    simp only [List.set_cons_succ, List.set_cons_zero] at e5
    clear hlk3 hlk4 h4 c4 u4
    generalize (((w3.alloc (.cells [.slice none 0 0, .int .u16 0].toArray 82 (0, 0))).setCell ⟨w3.heap.size, 0, none⟩ (.slice pa l.length pc)).setCell ⟨w3.heap.size, 1, none⟩ (.int .u16 (D.toNat : Int))).drew = w5 at *
    have h5 := h3.quiet u5
    have hz5 := hz3.keep (Kp.quiet u5)
    have hpv5 := hpv.keep (Kp.quiet u5)
    have d5 := d3.upd u5 (fun h => h)
    have c5 := c3.upd u5 (fun h => h)
    have u15 := (u12.trans u3 (fun _ _ h => h)).trans u5 (fun _ _ h => h)
    subst hKs
    rw [KS_nor]
    by_cases hk2 : zk = 2
    · subst hk2
      rw [W_seq]
      generalize hKs : KS _ _ _ _ _ = Ks
      simp (disch := omega) only [push_cast, Nat.reduceBEq, Nat.reduceEqDiff, Nat.reduceAdd, Nat.reduceMul, Nat.reduceSub, Nat.reduceLT, Int.reduceToNat, Int.reduceLT, Int.reduceLE, Int.reduceEq, Int.reduceAdd, Int.reduceSub, Int.reduceNeg, Int.reduceMul, d5.cell, e5.cell]
      subst hKs
      rw [KS_nor]
      rw [W_seq]
      generalize hKs : KS _ _ _ _ _ = Ks
      simp (disch := omega) only [push_cast, Nat.reduceBEq, Nat.reduceEqDiff, Nat.reduceAdd, Nat.reduceMul, Nat.reduceSub, Nat.reduceLT, Int.reduceToNat, Int.reduceLT, Int.reduceLE, Int.reduceEq, Int.reduceAdd, Int.reduceSub, Int.reduceNeg, Int.reduceMul]
      subst hKs
      rw [KS_nor]
      have v6 : Upd (fun b => b = w3.heap.size) w5 (w5.setCell ⟨w3.heap.size, 1, none⟩ (.int .u16 ((D ||| BitVec.twoPow 16 f).toNat : Int))).drew.drew := ((Upd.set (F := fun b => b = w3.heap.size) rfl).trans Upd.drew (fun _ _ h => h)).trans Upd.drew (fun _ _ h => h)
      have hbg : base ≤ w3.heap.size := by have := h3.obj.lt; have := h3.b1; omega
      have h6 := h5.fresh v6 e5 (by decide) hbg (fun b => h3.old)
      have e6 := (e5.set 1 (.int .u16 ((D ||| BitVec.twoPow 16 f).toNat : Int))).drew.drew
      simp only [List.set_cons_succ, List.set_cons_zero] at e6
      have hpv6 : PB base _ _ _ := hpv5.keep (kp_new v6 e5 (by decide) hbg)
      have hmu := mup_p (k := ((o : Int), zn)) (v := .agg #[.slice pa l.length pc, .int .u16 ((D ||| BitVec.twoPow 16 f).toNat : Int)]) h6.map
      unfold keyV at hmu
      rw [W_seq]
      generalize hKs : KS _ _ _ _ _ = Ks
      simp (disch := omega) only [push_cast, Nat.reduceBEq, Nat.reduceEqDiff, Nat.reduceAdd, Nat.reduceMul, Nat.reduceSub, Nat.reduceLT, Int.reduceToNat, Int.reduceLT, Int.reduceLE, Int.reduceEq, Int.reduceAdd, Int.reduceSub, Int.reduceNeg, Int.reduceMul, d5.cell, e5.cell, e5.free, h5.obj.cell, c5.cell, hmu]
      clear hmu
      have h7 := h6.putNote ((o : Int), zn) (D ||| BitVec.twoPow 16 f) hpv6
      have v7 : Upd (fun b => b = mb) (w5.setCell ⟨w3.heap.size, 1, none⟩ (.int .u16 ((D ||| BitVec.twoPow 16 f).toNat : Int))).drew.drew (setBlock (w5.setCell ⟨w3.heap.size, 1, none⟩ (.int .u16 ((D ||| BitVec.twoPow 16 f).toNat : Int))).drew.drew mb (.map (entP 0 (putP ((o : Int), zn) (.agg #[.slice pa l.length pc, .int .u16 ((D ||| BitVec.twoPow 16 f).toNat : Int)]) m)).toArray (putP ((o : Int), zn) (.agg #[.slice pa l.length pc, .int .u16 ((D ||| BitVec.twoPow 16 f).toNat : Int)]) m).length)) := Upd.setBlock rfl
      have u7 : Upd (Ft p mb db lv) w _ := ((u15.mono (fun _ _ h => h.elim)).trans v6 (fun b h1 h2 => by omega)).trans v7 (fun b _ h => .inr (.inl h))
      generalize setBlock (w5.setCell ⟨w3.heap.size, 1, none⟩ (.int .u16 ((D ||| BitVec.twoPow 16 f).toNat : Int))).drew.drew mb _ = w7 at *
      subst hKs
      rw [KS_nor]
      simp (disch := omega) only [push_cast, Nat.reduceBEq, Nat.reduceEqDiff, Nat.reduceAdd, Nat.reduceMul, Nat.reduceSub, Nat.reduceLT, Int.reduceToNat, Int.reduceLT, Int.reduceLE, Int.reduceEq, Int.reduceAdd, Int.reduceSub, Int.reduceNeg, Int.reduceMul]
      refine Ok.use (deliver_ok h7 hd (by have := putS_length (k := ((o : Int), zn)) (x := (l, D ||| BitVec.twoPow 16 f)) (notes := S.notes); show S.list.length + (putS _ _ _).length < _; omega)) ?_
      rintro v w8 ⟨S', lv', ds', hrun, h8, hu8, hf8⟩
      simp (disch := omega) only [push_cast, Nat.reduceBEq, Nat.reduceEqDiff, Nat.reduceAdd, Nat.reduceMul, Nat.reduceSub, Nat.reduceLT, Int.reduceToNat, Int.reduceLT, Int.reduceLE, Int.reduceEq, Int.reduceAdd, Int.reduceSub, Int.reduceNeg, Int.reduceMul]
      refine ⟨S', lv', _, ds', [], ?_, h8, u7.trans hu8 (fun _ _ h => h), fun g hg => (hf8 g hg).imp id (fun h => by have := u7.size; omega), OwnK.nil⟩
      unfold RcR rcS
      rw [hP]
      simp [hf, tw]
      exact hrun
    obtain rfl : zk = 1 := pk.resolve_right hk2
    rw [W_seq]
    generalize hKs : KS _ _ _ _ _ = Ks
    simp (disch := omega) only [push_cast, Nat.reduceBEq, Nat.reduceEqDiff, Nat.reduceAdd, Nat.reduceMul, Nat.reduceSub, Nat.reduceLT, Int.reduceToNat, Int.reduceLT, Int.reduceLE, Int.reduceEq, Int.reduceAdd, Int.reduceSub, Int.reduceNeg, Int.reduceMul, d5.cell, e5.cell]
    refine Ok.use (equal_ok hpv5 hz5) ?_
    rintro v w6 ⟨rfl, hu6⟩
    have h6 := h5.quiet hu6
    have hpv6 := hpv5.keep (Kp.quiet hu6)
    have d6 := d5.upd hu6 (fun h => h)
    have c6 := c5.upd hu6 (fun h => h)
    have e6 := e5.upd hu6 (fun h => h)
    have u16 := u15.trans hu6 (fun _ _ h => h)
    have hs3 : w3.heap.size ≤ w6.heap.size := by have := u5.size; have := hu6.size; omega
    by_cases heq : l = zl
    rotate_left
    · rw [decide_eq_false heq]
      simp (disch := omega) only [push_cast, Nat.reduceBEq, Nat.reduceEqDiff, Nat.reduceAdd, Nat.reduceMul, Nat.reduceSub, Nat.reduceLT, Int.reduceToNat, Int.reduceLT, Int.reduceLE, Int.reduceEq, Int.reduceAdd, Int.reduceSub, Int.reduceNeg, Int.reduceMul]
      subst hKs
      simp (disch := omega) only [push_cast, Nat.reduceBEq, Nat.reduceEqDiff, Nat.reduceAdd, Nat.reduceMul, Nat.reduceSub, Nat.reduceLT, Int.reduceToNat, Int.reduceLT, Int.reduceLE, Int.reduceEq, Int.reduceAdd, Int.reduceSub, Int.reduceNeg, Int.reduceMul]
      refine ⟨S, lv, m, ds, [], ?_, h6, u16.mono (fun _ _ h => h.elim), fun g hg => .inl hg, OwnK.nil⟩
      unfold RcR rcS
      rw [hP]
      simp [hf, heq]
    rw [decide_eq_true heq]
    simp (disch := omega) only [push_cast, Nat.reduceBEq, Nat.reduceEqDiff, Nat.reduceAdd, Nat.reduceMul, Nat.reduceSub, Nat.reduceLT, Int.reduceToNat, Int.reduceLT, Int.reduceLE, Int.reduceEq, Int.reduceAdd, Int.reduceSub, Int.reduceNeg, Int.reduceMul]
    subst hKs
    rw [KS_nor]
    rw [W_seq]
    generalize hKs : KS _ _ _ _ _ = Ks
    simp (disch := omega) only [push_cast, Nat.reduceBEq, Nat.reduceEqDiff, Nat.reduceAdd, Nat.reduceMul, Nat.reduceSub, Nat.reduceLT, Int.reduceToNat, Int.reduceLT, Int.reduceLE, Int.reduceEq, Int.reduceAdd, Int.reduceSub, Int.reduceNeg, Int.reduceMul]
    subst hKs
    rw [KS_nor]
    have hbg : base ≤ w3.heap.size := by have := h3.obj.lt; have := h3.b1; omega
    have v7 : Upd (fun b => b = w3.heap.size) w6 (w6.setCell ⟨w3.heap.size, 1, none⟩ (.int .u16 ((D ||| (BitVec.twoPow 16 f ||| BitVec.twoPow 16 o)).toNat : Int))).drew.drew := ((Upd.set (F := fun b => b = w3.heap.size) rfl).trans Upd.drew (fun _ _ h => h)).trans Upd.drew (fun _ _ h => h)
    have h7 := h6.fresh v7 e6 (by decide) hbg (fun b => h3.old)
    have e7 := (e6.set 1 (.int .u16 ((D ||| (BitVec.twoPow 16 f ||| BitVec.twoPow 16 o)).toNat : Int))).drew.drew
    simp only [List.set_cons_succ, List.set_cons_zero] at e7
    have hpv7 : PB base _ _ _ := hpv6.keep (kp_new v7 e6 (by decide) hbg)
    have hmu := mup_p (k := ((o : Int), zn)) (v := .agg #[.slice pa l.length pc, .int .u16 ((D ||| (BitVec.twoPow 16 f ||| BitVec.twoPow 16 o)).toNat : Int)]) h7.map
    unfold keyV at hmu
    have h8 := h7.putNote ((o : Int), zn) (D ||| (BitVec.twoPow 16 f ||| BitVec.twoPow 16 o)) hpv7
    have v8 : Upd (fun b => b = mb) (w6.setCell ⟨w3.heap.size, 1, none⟩ (.int .u16 ((D ||| (BitVec.twoPow 16 f ||| BitVec.twoPow 16 o)).toNat : Int))).drew.drew (setBlock (w6.setCell ⟨w3.heap.size, 1, none⟩ (.int .u16 ((D ||| (BitVec.twoPow 16 f ||| BitVec.twoPow 16 o)).toNat : Int))).drew.drew mb (.map (entP 0 (putP ((o : Int), zn) (.agg #[.slice pa l.length pc, .int .u16 ((D ||| (BitVec.twoPow 16 f ||| BitVec.twoPow 16 o)).toNat : Int)]) m)).toArray (putP ((o : Int), zn) (.agg #[.slice pa l.length pc, .int .u16 ((D ||| (BitVec.twoPow 16 f ||| BitVec.twoPow 16 o)).toNat : Int)]) m).length)) := Upd.setBlock rfl
    have u8 : Upd (Ft p mb db lv) w _ := ((u16.mono (fun _ _ h => h.elim)).trans v7 (fun b h1 h2 => by omega)).trans v8 (fun b _ h => .inr (.inl h))
    have hmbl := h.map.lt
    have d8 := (d6.upd v7 (by omega)).upd v8 (by omega)
    have c8 := (c6.upd v7 (by omega)).upd v8 (by omega)
    simp (disch := omega) only [push_cast, Nat.reduceBEq, Nat.reduceEqDiff, Nat.reduceAdd, Nat.reduceMul, Nat.reduceSub, Nat.reduceLT, Int.reduceToNat, Int.reduceLT, Int.reduceLE, Int.reduceEq, Int.reduceAdd, Int.reduceSub, Int.reduceNeg, Int.reduceMul, d6.cell, e6.cell, e6.free, h6.obj.cell, c6.cell, hmu, d8.cell, c8.cell, h8.obj.cell]
    clear hmu
    generalize setBlock (w6.setCell ⟨w3.heap.size, 1, none⟩ (.int .u16 ((D ||| (BitVec.twoPow 16 f ||| BitVec.twoPow 16 o)).toNat : Int))).drew.drew mb _ = w8 at *
    refine Ok.use (packet_ok h8 2 (f : Int) ((o : Int), zn) (l := l) (D := D ||| (BitVec.twoPow 16 f ||| BitVec.twoPow 16 o)) (by show findS _ (putS _ _ _) = _; rw [putS_find, if_pos rfl]) (hnl _ _ hf)) ?_
    rintro v w9 ⟨pv, rfl, hpv9, hu9⟩
    rw [if_neg (by decide)] at hpv9 ⊢
    obtain ⟨qa, qc, rfl⟩ := hpv9.form
    have h9 := h8.quiet hu9
    unfold pkV pkC
    simp (disch := omega) only [push_cast, Nat.reduceBEq, Nat.reduceEqDiff, Nat.reduceAdd, Nat.reduceMul, Nat.reduceSub, Nat.reduceLT, Int.reduceToNat, Int.reduceLT, Int.reduceLE, Int.reduceEq, Int.reduceAdd, Int.reduceSub, Int.reduceNeg, Int.reduceMul, bsl_pk]
    have hu10 : Upd (fun _ => False) w9 (w9.alloc (.cells (pkC (⟨2, S.self, f, o, zn, []⟩, .slice qa 0 qc)).toArray 46 (0, 0))) := Upd.alloc
    have hb10 := Blk.new (w := w9) (cs := pkC (⟨2, S.self, f, o, zn, []⟩, .slice qa 0 qc)) (E := 46)
    have hub : base ≤ w.heap.size := by have := h.b1; have := h.obj.lt; omega
    have hsz : w.heap.size ≤ w9.heap.size := by have := u8.size; have := hu9.size; omega
    have hsz2 := hu10.size
    refine app_pk (base := base) (B := w.heap.size) (ps := []) (z := (⟨2, S.self, f, o, zn, []⟩, .slice qa 0 qc)) OwnK.nil (hpv9.keep (Kp.quiet hu10)) hub (by omega) (by simp) hb10 ?_
    intro v' w11 ho11 hu11 hf11
    obtain ⟨ya, yc, rfl⟩ := ho11.form
    have h11 := (h9.quiet hu10).quiet (hu11.mono fun b _ h => by cases h)
    have u11 : Upd (Ft p mb db lv) w w11 := ((u8.trans hu9 (fun _ _ h => h.elim)).trans hu10 (fun _ _ h => h.elim)).trans hu11 (fun b _ h => by cases h)
    simp (disch := omega) only [push_cast, Nat.reduceBEq, Nat.reduceEqDiff, Nat.reduceAdd, Nat.reduceMul, Nat.reduceSub, Nat.reduceLT, Int.reduceToNat, Int.reduceLT, Int.reduceLE, Int.reduceEq, Int.reduceAdd, Int.reduceSub, Int.reduceNeg, Int.reduceMul]
    refine Ok.use (deliver_ok h11 hd (by have := putS_length (k := ((o : Int), zn)) (x := (l, D ||| (BitVec.twoPow 16 f ||| BitVec.twoPow 16 o))) (notes := S.notes); show S.list.length + (putS _ _ _).length < _; omega)) ?_
    rintro v w12 ⟨S', lv', ds', hrun, h12, hu12, hf12⟩
    simp (disch := omega) only [push_cast, Nat.reduceBEq, Nat.reduceEqDiff, Nat.reduceAdd, Nat.reduceMul, Nat.reduceSub, Nat.reduceLT, Int.reduceToNat, Int.reduceLT, Int.reduceLE, Int.reduceEq, Int.reduceAdd, Int.reduceSub, Int.reduceNeg, Int.reduceMul]
    refine ⟨S', lv', _, ds', [⟨2, S.self, f, o, zn, []⟩], ?_, h12, u11.trans hu12 (fun _ _ h => h), fun g hg => (hf12 g hg).imp id (fun h => by have := u11.size; omega), ho11.upd hu12 (fun g hg hF => ?_) (h11.kp hu12)⟩
    · unfold RcR rcS
      rw [hP]
      simp [hf, tw, heq]
      subst heq
      exact hrun
    · have := hf11 g hg
      have h0 : w.heap.size ≤ g := (ho11.ge hg).1
      have := h.old hF
      omega
end Go.Proofs.Ytpgfokhpacdhjaa.Fd
