/-
  The program's search for an augmenting path (match$1).
-/
import Derived.Test.YtfjccccfkpgmgaaOrK
namespace Go.Proofs.Ytfjccccfkpgmgaa.Fd
set_option linter.unusedSimpArgs false
set_option linter.unusedVariables false
open Go
set_option maxRecDepth 100000

def optI (o : Option Nat) : Int :=
  match o with
  | some x => x
  | none => -1
def mtL (P : Mt) : List Value := atL 64 fun x => optI (P x)
theorem mtL_get {P : Mt} {j : Nat} (h : j < 64) : (mtL P)[j]? = some (.int .i64 (optI (P j))) := atL_get h
theorem mtL_set {P : Mt} {j x : Nat} : (mtL P).set j (.int .i64 (x : Int)) = mtL (put1 P j x) := by
  unfold mtL
  rw [atL_set]
  congr 1
  funext i
  unfold put1
  by_cases h : i = j
  · rw [if_pos h, if_pos h]; rfl
  · rw [if_neg h, if_neg h]
def sb (s : BitVec 64) : Nat → Bool := fun b => s.getLsbD b
theorem sb_mark {s : BitVec 64} {j : Nat} (hj : j < 64) : sb (s ||| BitVec.twoPow 64 j) = mark (sb s) j := by
  funext b
  unfold sb mark
  rw [BitVec.getLsbD_or, BitVec.getLsbD_twoPow]
  by_cases h : b = j
  · subst h; simp [hj]
  · have h2 : ¬ j = b := fun e => h e.symm
    simp [h, h2]
def cntU (f : Nat → Bool) : Nat := ((List.range 64).filter fun b => !f b).length
theorem cntU_lt {f g : Nat → Bool} (h : ∀ b, f b = true → g b = true) {j : Nat} (hj : j < 64) (h1 : f j = false) (h2 : g j = true) : cntU g < cntU f := by
  unfold cntU
  have e : (List.range 64).filter (fun b => !g b) = ((List.range 64).filter fun b => !f b).filter fun b => !g b := by
    rw [List.filter_filter]
    apply List.filter_congr
    intro b _
    cases hf : f b
    · simp
    · rw [h b hf]; rfl
  rw [e]
  refine Nat.lt_of_le_of_ne (List.length_filter_le _ _) fun he => ?_
  have := List.length_filter_eq_length_iff.1 he j (List.mem_filter.2 ⟨List.mem_range.2 hj, by rw [h1]; rfl⟩)
  rw [h2] at this
  cases this
theorem cntU_le {f g : Nat → Bool} (h : ∀ b, f b = true → g b = true) : cntU g ≤ cntU f := by
  unfold cntU
  have e : (List.range 64).filter (fun b => !g b) = ((List.range 64).filter fun b => !f b).filter fun b => !g b := by
    rw [List.filter_filter]
    apply List.filter_congr
    intro b _
    cases hf : f b
    · simp
    · rw [h b hf]; rfl
  rw [e]
  exact List.length_filter_le _ _

/-- Where the search's data lie. -/
structure FrM where
  bt : Nat
  b : Nat
  bs : Nat
  bsn : Nat
  bp : Nat
  bf : Nat
  bn : Nat
def FrM.fv (q : FrM) : Value := .func (.func 56) #[] #[.pointer (some ⟨q.bt, 0, none⟩), .pointer (some ⟨q.bs, 0, none⟩), .pointer (some ⟨q.bsn, 0, none⟩), .pointer (some ⟨q.bp, 0, none⟩), .pointer (some ⟨q.bf, 0, none⟩), .pointer (some ⟨q.bn, 0, none⟩)]
def FrM.wr (q : FrM) (x : Nat) : Prop := x = q.bsn ∨ x = q.bp ∨ x = q.bn
structure FrM.good (q : FrM) : Prop where
  t : ¬ q.wr q.bt
  b : ¬ q.wr q.b
  s : ¬ q.wr q.bs
  f : ¬ q.wr q.bf
  sp : q.bsn ≠ q.bp
  sn : q.bsn ≠ q.bn
  pn : q.bp ≠ q.bn
structure TS (w : World) (q : FrM) (r : Nat → BitVec 64) (set s : BitVec 64) (P Q : Mt) : Prop where
  ht : Blk w q.bt [.pointer (some ⟨q.b, 0, none⟩)] 73
  hb : Blk w q.b (tabL r) 53
  hs : Blk w q.bs [U set] 51
  hn : Blk w q.bsn [U s] 51
  hp : Blk w q.bp (mtL P) 60
  hf : Blk w q.bf [q.fv] 59
  hq : Blk w q.bn (mtL Q) 60
theorem TS.drew {w : World} {q : FrM} {r : Nat → BitVec 64} {set s : BitVec 64} {P Q : Mt} (h : TS w q r set s P Q) : TS w.drew q r set s P Q := ⟨h.ht, h.hb, h.hs, h.hn, h.hp, h.hf, h.hq⟩
theorem TS.mark {w : World} {q : FrM} {r : Nat → BitVec 64} {set s s' : BitVec 64} {P Q : Mt} (g : q.good) (h : TS w q r set s P Q) : TS (w.setCell ⟨q.bsn, 0, none⟩ (U s')) q r set s' P Q :=
  ⟨h.ht.other _ (fun e => g.t (.inl e.symm)), h.hb.other _ (fun e => g.b (.inl e.symm)), h.hs.other _ (fun e => g.s (.inl e.symm)), h.hn.set 0 _, h.hp.other _ g.sp, h.hf.other _ (fun e => g.f (.inl e.symm)), h.hq.other _ g.sn⟩
theorem TS.pair {w : World} {q : FrM} {r : Nat → BitVec 64} {set s : BitVec 64} {P Q : Mt} {a j : Nat} (g : q.good) (h : TS w q r set s P Q) :
    TS ((w.setCell ⟨q.bn, a, none⟩ (.int .i64 (j : Int))).setCell ⟨q.bp, j, none⟩ (.int .i64 (a : Int))) q r set s (put1 P j a) (put1 Q a j) := by
  have e1 := (h.hp.other (a := ⟨q.bn, a, none⟩) (.int .i64 (j : Int)) (fun e => g.pn e.symm)).set j (.int .i64 (a : Int))
  have e2 := (h.hq.set a (.int .i64 (j : Int))).other (a := ⟨q.bp, j, none⟩) (.int .i64 (a : Int)) g.pn
  rw [mtL_set] at e1 e2
  exact ⟨(h.ht.other _ (fun e => g.t (.inr (.inr e.symm)))).other _ (fun e => g.t (.inr (.inl e.symm))), (h.hb.other _ (fun e => g.b (.inr (.inr e.symm)))).other _ (fun e => g.b (.inr (.inl e.symm))),
    (h.hs.other _ (fun e => g.s (.inr (.inr e.symm)))).other _ (fun e => g.s (.inr (.inl e.symm))), (h.hn.other _ (fun e => g.sn e.symm)).other _ (fun e => g.sp e.symm), e1,
    (h.hf.other _ (fun e => g.f (.inr (.inr e.symm)))).other _ (fun e => g.f (.inr (.inl e.symm))), e2⟩
def edg (r : Nat → BitVec 64) (set : BitVec 64) : Rel := fun a b => (r a &&& set).getLsbD b

set_option maxHeartbeats 2000000 in
theorem try_ok {q : FrM} (g : q.good) {r : Nat → BitVec 64} {set : BitVec 64} : ∀ (k : Nat) (s : BitVec 64) (P Q : Mt) (a : Nat) (w : World), cntU (sb s) ≤ k → a < 64 → TS w q r set s P Q → TryPre (edg r set) (sb s) P Q a → (∀ b x, P b = some x → x < 64) →
    Ok (den Try.prog 56 #[.int .i64 a, .pointer (some ⟨q.bt, 0, none⟩), .pointer (some ⟨q.bs, 0, none⟩), .pointer (some ⟨q.bsn, 0, none⟩), .pointer (some ⟨q.bp, 0, none⟩), .pointer (some ⟨q.bf, 0, none⟩), .pointer (some ⟨q.bn, 0, none⟩)] w) fun v w' =>
      Upd q.wr w w' ∧ ((v = .bool false ∧ ∃ s', TS w' q r set s' P Q ∧ TryNo (edg r set) (sb s) P a (sb s')) ∨
        (v = .bool true ∧ ∃ s' P' Q', TS w' q r set s' P' Q' ∧ TryYes (edg r set) (sb s) P Q a (sb s') P' Q' ∧ ∀ b x, P' b = some x → x < 64)) := by
  intro k
  induction k using Nat.strongRecOn with
  | _ k ih =>
  intro s P Q a w hk ha hT hp h64
  have hE64 : ∀ x b, edg r set x b = true → b < 64 := fun x b h => by
    apply Classical.byContradiction
    intro e
    unfold edg at h
    rw [BitVec.getLsbD_of_ge _ _ (by omega)] at h
    cases h
  refine den_ok (args := [.int .i64 a, .pointer (some ⟨q.bt, 0, none⟩), .pointer (some ⟨q.bs, 0, none⟩), .pointer (some ⟨q.bsn, 0, none⟩), .pointer (some ⟨q.bp, 0, none⟩), .pointer (some ⟨q.bf, 0, none⟩), .pointer (some ⟨q.bn, 0, none⟩)]) rs56 Try.func56 rfl mixed in56 ok56 rfl ?_
  simp (disch := omega) only [push_cast, Nat.reduceBEq, Nat.reduceEqDiff, Nat.reduceAdd, Nat.reduceMul, Nat.reduceSub, Nat.reduceLT, Int.reduceToNat, Int.reduceLT, Int.reduceLE, Int.reduceEq, Int.reduceAdd, Int.reduceSub, Int.reduceNeg, Int.reduceMul]
  refine loop_inv (I := fun m st w' => Bx (∃ j s', m + j = 64 ∧ st = [.int .i64 (j : Int)] ∧ Upd q.wr w w' ∧ TS w' q r set s' P Q ∧ TryMid (edg r set) (sb s) P a j (sb s')) ⟨⟩) ?_ 64
    ⟨0, s, rfl, rfl, Upd.refl, hT, ⟨fun _ h => h, fun b hb => by omega, fun b h1 h2 => by rw [h1] at h2; cases h2⟩⟩
  clear hT
  rintro m st w1 ⟨j, s1, hmj, rfl, hu, hT, hmid⟩
  by_cases hm0 : m = 0
  · obtain rfl : j = 64 := by omega
    simp (disch := omega) only [push_cast, Nat.reduceBEq, Nat.reduceEqDiff, Nat.reduceAdd, Nat.reduceMul, Nat.reduceSub, Nat.reduceLT, Int.reduceToNat, Int.reduceLT, Int.reduceLE, Int.reduceEq, Int.reduceAdd, Int.reduceSub, Int.reduceNeg, Int.reduceMul]
    exact ⟨hu, .inl ⟨s1, hT, hmid.done hE64⟩⟩
  have hj : j < 64 := by omega
  cases hbit : (r a &&& set).getLsbD j
  · simp (disch := omega) only [push_cast, Nat.reduceBEq, Nat.reduceEqDiff, Nat.reduceAdd, Nat.reduceMul, Nat.reduceSub, Nat.reduceLT, Int.reduceToNat, Int.reduceLT, Int.reduceLE, Int.reduceEq, Int.reduceAdd, Int.reduceSub, Int.reduceNeg, Int.reduceMul, hT.ht.cell, hT.hb.cell, tabL_get, hT.hs.cell, hT.hn.cell, hbit]
    exact ⟨m - 1, by omega, j + 1, s1, by omega, by simp, hu.drew', hT.drew, hmid.skip fun h => by unfold edg at h; rw [hbit] at h; cases h⟩
  cases hsn : s1.getLsbD j
  rotate_left
  · simp (disch := omega) only [push_cast, Nat.reduceBEq, Nat.reduceEqDiff, Nat.reduceAdd, Nat.reduceMul, Nat.reduceSub, Nat.reduceLT, Int.reduceToNat, Int.reduceLT, Int.reduceLE, Int.reduceEq, Int.reduceAdd, Int.reduceSub, Int.reduceNeg, Int.reduceMul, hT.ht.cell, hT.hb.cell, tabL_get, hT.hs.cell, hT.hn.cell, hbit, hsn]
    exact ⟨m - 1, by omega, j + 1, s1, by omega, by simp, hu.drew', hT.drew, hmid.skip fun _ => hsn⟩
  have hEj : edg r set a j = true := hbit
  have e1 := g.sp
  have e2 := g.sn
  have e3 := g.pn
  have oI := fun x => show optI (some x) = (x : Int) from rfl
  have oN : optI none = -1 := rfl
  cases hPj : P j with
  | none =>
    simp (disch := omega) only [push_cast, Nat.reduceBEq, Nat.reduceEqDiff, Nat.reduceAdd, Nat.reduceMul, Nat.reduceSub, Nat.reduceLT, Int.reduceToNat, Int.reduceLT, Int.reduceLE, Int.reduceEq, Int.reduceAdd, Int.reduceSub, Int.reduceNeg, Int.reduceMul, hT.ht.cell, hT.hb.cell, tabL_get, hT.hs.cell, hT.hn.cell, hT.hn.free, hT.hp.free, hT.hq.free, hbit, hsn, hT.hp.cell, hT.hq.cell, mtL_get, hPj, oN, e1, e2, e3, e1.symm, e2.symm, e3.symm]
    have hT2 := (hT.mark g (s' := s1 ||| BitVec.twoPow 64 j)).pair g (a := a) (j := j)
    refine ⟨((((hu.setIn (.inl rfl)).setIn (.inr (.inr rfl))).setIn (.inr (.inl rfl))).drew').drew'.drew', .inr ⟨_, _, _, hT2.drew.drew.drew, ?_, fun b x hx => ?_⟩⟩
    · rw [sb_mark hj]
      exact hmid.free hp hEj hsn hPj
    · unfold put1 at hx
      by_cases e : b = j
      · rw [if_pos e] at hx; cases hx; exact ha
      · rw [if_neg e] at hx; exact h64 b x hx
  | some x =>
    have hfs : ¬ q.bf = q.bsn := fun e => g.f (.inl e)
    simp (disch := omega) only [push_cast, Nat.reduceBEq, Nat.reduceEqDiff, Nat.reduceAdd, Nat.reduceMul, Nat.reduceSub, Nat.reduceLT, Int.reduceToNat, Int.reduceLT, Int.reduceLE, Int.reduceEq, Int.reduceAdd, Int.reduceSub, Int.reduceNeg, Int.reduceMul, hT.ht.cell, hT.hb.cell, tabL_get, hT.hs.cell, hT.hn.cell, hT.hn.free, hT.hf.cell, FrM.fv, hbit, hsn, hT.hp.cell, mtL_get, hPj, oI, e1, e1.symm, hfs]
    have hT2 := hT.mark g (s' := s1 ||| BitVec.twoPow 64 j)
    have hs2 := sb_mark (s := s1) hj
    have hlt := cntU_lt (f := sb s1) (g := mark (sb s1) j) (fun b h => mark_up h) hj hsn mark_self
    have hle := cntU_le hmid.up
    refine Ok.use (ih (k - 1) (by omega) (s1 ||| BitVec.twoPow 64 j) P Q x _ (by rw [hs2]; omega) (h64 j x hPj) hT2.drew.drew.drew (by rw [hs2]; exact hmid.pre hp hsn hPj) h64) ?_
    have u3 := (((hu.setIn (w1 := w1) (a := ⟨q.bsn, 0, none⟩) (v := .int .u64 ((s1 ||| BitVec.twoPow 64 j).toNat : Nat)) (.inl rfl)).drew').drew').drew'
    rw [hs2]
    generalize (w1.setCell ⟨q.bsn, 0, none⟩ (.int .u64 ((s1 ||| BitVec.twoPow 64 j).toNat : Nat))).drew.drew.drew = w2 at *
    rintro v w3 ⟨u4, h⟩
    have u5 := u3.trans u4 fun _ _ h => h
    rcases h with ⟨rfl, s3, hT3, hno⟩ | ⟨rfl, s3, P3, Q3, hT3, hyes, h643⟩
    · simp (disch := omega) only [push_cast, Nat.reduceBEq, Nat.reduceEqDiff, Nat.reduceAdd, Nat.reduceMul, Nat.reduceSub, Nat.reduceLT, Int.reduceToNat, Int.reduceLT, Int.reduceLE, Int.reduceEq, Int.reduceAdd, Int.reduceSub, Int.reduceNeg, Int.reduceMul]
      exact ⟨m - 1, by omega, j + 1, s3, by omega, by simp, u5, hT3, hmid.failed hPj hno⟩
    · simp (disch := omega) only [push_cast, Nat.reduceBEq, Nat.reduceEqDiff, Nat.reduceAdd, Nat.reduceMul, Nat.reduceSub, Nat.reduceLT, Int.reduceToNat, Int.reduceLT, Int.reduceLE, Int.reduceEq, Int.reduceAdd, Int.reduceSub, Int.reduceNeg, Int.reduceMul, hT3.hp.free, hT3.hq.free, hT3.hp.cell, hT3.hq.cell, mtL_get, e3, e3.symm]
      refine ⟨(u5.setIn (.inr (.inr rfl))).setIn (.inr (.inl rfl)), .inr ⟨_, _, _, hT3.pair g (a := a) (j := j), hmid.moved hp hEj hsn hPj hyes, fun b y hy => ?_⟩⟩
      unfold put1 at hy
      by_cases e : b = j
      · rw [if_pos e] at hy; cases hy; exact ha
      · rw [if_neg e] at hy; exact h643 b y hy
end Go.Proofs.Ytfjccccfkpgmgaa.Fd
