/-
  The reference: Receive.
-/
import Derived.Test.YtpgfokhpacdhjaaBeA
namespace Go.Proofs.Ytpgfokhpacdhjaa.Fd
set_option linter.unusedSimpArgs false
set_option linter.unusedVariables false
open Go Go.ChangeMaps
set_option maxRecDepth 100000

theorem RA.kp3 {base : Nat} {w w' : World} {q : Nat} {R : PS} {nv ov : Value} {zs : List (Rn × Value)} {ds : List (NP × Value)} (h : RA base w q R nv ov zs ds) {F : Nat → Prop} (u : Upd F w w') (hF : ∀ b, F b → FtR3 q nv ov b) : Kp base w w' := kp_kind u fun b hb => by
  rcases hF b hb with rfl | hb | hb
  · exact ⟨h.bq, _, ⟨_, h.obj⟩, by decide⟩
  · exact ⟨(own_ge h.nts hb).1, _, own_ty h.nts hb, by decide⟩
  · exact ⟨(own_ge h.own hb).1, _, own_ty h.own hb, by decide⟩
theorem RA.old3 {base : Nat} {w : World} {q : Nat} {R : PS} {nv ov : Value} {zs : List (Rn × Value)} {ds : List (NP × Value)} (h : RA base w q R nv ov zs ds) {b : Nat} (hb : FtR3 q nv ov b) : b < w.heap.size := by
  rcases hb with rfl | hb | hb
  · exact h.obj.lt
  · exact (own_ge h.nts hb).2
  · exact (own_ge h.own hb).2
theorem bsl_pk0 (w : World) : bslS Try.prog 35 0 #[] w = some (.slice (some ⟨w.heap.size, 0, none⟩) 0 0, w.alloc (.cells #[] 46 (0, 0))) := by kernel_rfl
theorem OwnK.empty {base B : Nat} {w : World} (hB : B ≤ w.heap.size) : OwnK base B (w.alloc (.cells #[] 46 (0, 0))) (.slice (some ⟨w.heap.size, 0, none⟩) 0 0) [] := ⟨[], rfl, ⟨rfl, .inr ⟨_, 0, #[], rfl, hB, Blk.new (cs := []), Nat.le_refl _, Nat.zero_le _, rfl, rfl⟩⟩, fun z hz => by cases hz⟩
theorem bits_put {R : PS} (hbt : Bits R) {k : NP} {x : List Int × BitVec 16} (hx : ∀ j, x.2.getLsbD j = true → j < R.n) : Bits { R with notes := putS k x R.notes } := by
  intro b y hy j hj
  simp only [putS_find] at hy
  split at hy
  · injection hy with hy
    rw [← hy] at hj
    exact hx j hj
  · exact hbt b y hy j hj
theorem bits_ins {R : PS} (hbt : Bits R) {k : NP} {x : List Int × BitVec 16} (hk : findS k R.notes = none) (hx : ∀ j, x.2.getLsbD j = true → j < R.n) : Bits { R with notes := insN k x R.notes } := by
  intro b y hy j hj
  simp only [insN_find hk] at hy
  split at hy
  · injection hy with hy
    rw [← hy] at hj
    exact hx j hj
  · exact hbt b y hy j hj
theorem len_put {k : NP} {x y : List Int × BitVec 16} {l : Nt} (h : findS k l = some y) : (putS k x l).length = l.length := by
  have := congrArg List.length (find_put_keys (x := x) h)
  simpa using this
theorem put_put {k : NP} {x y : List Int × BitVec 16} : ∀ {l : Nt}, putS k x (putS k y l) = putS k x l
  | [] => by simp [putS]
  | (k', z) :: r => by
    by_cases e : k = k'
    · have e1 : ∀ x, putS k x ((k', z) :: r) = (k', x) :: r := fun x => by rw [putS, if_pos e]
      rw [e1, e1, putS, if_pos e]
    · have e1 : ∀ x, putS k x ((k', z) :: r) = (k', z) :: putS k x r := fun x => by rw [putS, if_neg e]
      rw [e1, e1, putS, if_neg e, put_put]
set_option maxHeartbeats 8000000 in
theorem rReceive_ok {base : Nat} {w : World} {q : Nat} {R : PS} {nv ov : Value} {zs : List (Rn × Value)} {ds : List (NP × Value)} (h : RA base w q R nv ov zs ds) (hd : ∀ o, 0 ≤ R.done o ∧ R.done o ≤ R.list.length) (hb : R.list.length + R.notes.length < 999999) (hbt : Bits R)
    (hnl : ∀ k x, findS k R.notes = some x → x.1.length ≤ 140737488355328) (hsn : R.self < R.n) (hall : ∀ n : Int, 1 ≤ n → n ≤ R.made → findS ((R.self : Int), n) R.notes ≠ none) (z : Pk × Value) (hz : PB base w z.2 z.1.l) (hl : z.1.l.length ≤ 140737488355328) :
    Ok (den Try.prog 19 #[.pointer (some ⟨q, 0, none⟩), pkV z] w) fun out w' => ∃ R' nv' ov' zs' ds' ps, RrR R z.1 R' ps ∧ RA base w' q R' nv' ov' zs' ds' ∧ Upd (FtR3 q nv ov) w w' ∧ (∀ g, nv'.ownBlock = some g → nv.ownBlock = some g ∨ w.heap.size ≤ g) ∧ (∀ g, ov'.ownBlock = some g → ov.ownBlock = some g ∨ w.heap.size ≤ g) ∧
      OwnK base w.heap.size w' out ps := by
  have hbw : base ≤ w.heap.size := by have := h.bq; have := h.obj.lt; omega
  have hn12 : R.n ≤ 12 := h.n12
  have hzl0 : zs.length = R.notes.length := by rw [h.nz, List.length_map]
  refine den_okS (args := [.pointer (some ⟨q, 0, none⟩), pkV z]) rs19 Try.func19 rfl mixed in19 ok19 ae19 rfl ?_
  obtain ⟨za, zc, hz2⟩ := hz.form
  obtain ⟨⟨zk, zf, zt, zo, zn, zl⟩, z2⟩ := z
  simp only at hz2 hz hl
  subst hz2
  rw [W_seq]
  generalize hKs : KS _ _ _ _ _ = Ks
  simp (disch := omega) only [push_cast, Nat.reduceBEq, Nat.reduceEqDiff, Nat.reduceAdd, Nat.reduceMul, Nat.reduceSub, Nat.reduceLT, Int.reduceToNat, Int.reduceLT, Int.reduceLE, Int.reduceEq, Int.reduceAdd, Int.reduceSub, Int.reduceNeg, Int.reduceMul, pkV, pkC]
  have d1 := Blk.new (w := w) (cs := [.int .i64 zk, .int .i64 zf, .int .i64 zt, .int .i64 zo, .int .i64 zn, .slice za zl.length zc]) (E := 46)
  have u1 : Upd (fun _ => False) w (w.alloc (.cells [.int .i64 zk, .int .i64 zf, .int .i64 zt, .int .i64 zo, .int .i64 zn, .slice za zl.length zc].toArray 46 (0, 0))) := Upd.alloc
  generalize w.alloc (.cells [.int .i64 zk, .int .i64 zf, .int .i64 zt, .int .i64 zo, .int .i64 zn, .slice za zl.length zc].toArray 46 (0, 0)) = w1 at *
  have hz1 := hz.keep (Kp.quiet u1)
  have h1 := h.quiet u1
  subst hKs
  rw [KS_nor]
  rw [W_seq]
  generalize hKs : KS _ _ _ _ _ = Ks
  simp (disch := omega) only [push_cast, Nat.reduceBEq, Nat.reduceEqDiff, Nat.reduceAdd, Nat.reduceMul, Nat.reduceSub, Nat.reduceLT, Int.reduceToNat, Int.reduceLT, Int.reduceLE, Int.reduceEq, Int.reduceAdd, Int.reduceSub, Int.reduceNeg, Int.reduceMul, bsl_pk0]
  have s1 : w.heap.size < w1.heap.size := d1.lt
  have u2 : Upd (fun _ => False) w1 (w1.alloc (.cells #[] 46 (0, 0))) := Upd.alloc
  have ho2 : OwnK base w.heap.size (w1.alloc (.cells #[] 46 (0, 0))) (.slice (some ⟨w1.heap.size, 0, none⟩) 0 0) [] := OwnK.empty (by omega)
  have hoL : ∀ g, (Value.slice (some ⟨w1.heap.size, 0, none⟩) 0 0).ownBlock = some g → g = w1.heap.size := fun g hg => by simpa [Value.ownBlock] using hg.symm
  have s2 : (w1.alloc (.cells #[] 46 (0, 0))).heap.size = w1.heap.size + 1 := size_alloc
  have d2 := d1.upd u2 (fun h => h)
  have hz2 := hz1.keep (Kp.quiet u2)
  have h2 := h1.quiet u2
  generalize hoV : Value.slice (some ⟨w1.heap.size, 0, none⟩) 0 0 = outV at *
  generalize w1.alloc (.cells #[] 46 (0, 0)) = w2 at *
  have u02 := u1.trans u2 (fun _ _ h => h)
  subst hKs
  rw [KS_nor]
  rw [W_seq]
  generalize hKs : KS _ _ _ _ _ = Ks
  simp (disch := omega) only [push_cast, Nat.reduceBEq, Nat.reduceEqDiff, Nat.reduceAdd, Nat.reduceMul, Nat.reduceSub, Nat.reduceLT, Int.reduceToNat, Int.reduceLT, Int.reduceLE, Int.reduceEq, Int.reduceAdd, Int.reduceSub, Int.reduceNeg, Int.reduceMul, d2.cell]
  have hpr := rproper_ok (S := R) h2.obj (⟨zk, zf, zt, zo, zn, zl⟩, .slice za zl.length zc) hz2
  unfold pkV pkC at hpr
  simp only at hpr
  refine Ok.use hpr ?_
  rintro v w3 ⟨rfl, hu3⟩
  have h3 := h2.quiet hu3
  have hz3 := hz2.keep (Kp.quiet hu3)
  have d3 := d2.upd hu3 (fun h => h)
  have ho3 := ho2.quiet hu3
  have u03 := u02.trans hu3 (fun _ _ h => h)
  have s23 := hu3.size
  clear hpr h1 h2 hz1 hz2 d1 d2 ho2 hu3 u02 u1 u2
  cases hP : propP R ⟨zk, zf, zt, zo, zn, zl⟩
  · simp (disch := omega) only [push_cast, Nat.reduceBEq, Nat.reduceEqDiff, Nat.reduceAdd, Nat.reduceMul, Nat.reduceSub, Nat.reduceLT, Int.reduceToNat, Int.reduceLT, Int.reduceLE, Int.reduceEq, Int.reduceAdd, Int.reduceSub, Int.reduceNeg, Int.reduceMul]
    subst hKs
    subst hoV
    simp (disch := omega) only [push_cast, Nat.reduceBEq, Nat.reduceEqDiff, Nat.reduceAdd, Nat.reduceMul, Nat.reduceSub, Nat.reduceLT, Int.reduceToNat, Int.reduceLT, Int.reduceLE, Int.reduceEq, Int.reduceAdd, Int.reduceSub, Int.reduceNeg, Int.reduceMul]
    refine ⟨R, nv, ov, zs, ds, [], ?_, h3, u03.mono (fun _ _ h => h.elim), fun g hg => .inl hg, fun g hg => .inl hg, ho3⟩
    unfold RrR rrS
    rw [hP]
    simp
  obtain ⟨pk, pt, pf, pfs, po, pn, pl, pm⟩ := propP_of hP
  simp only at pk pt pf pfs po pn pl pm
  obtain ⟨f, rfl⟩ : ∃ f : Nat, zf = (f : Int) := ⟨zf.toNat, by omega⟩
  obtain ⟨o, rfl⟩ : ∃ o : Nat, zo = (o : Int) := ⟨zo.toNat, by omega⟩
  have hf12 : f < 12 := by omega
  have ho12 : o < 12 := by omega
  have twf : tw (f : Int) = BitVec.twoPow 16 f := rfl
  have two : tw (o : Int) = BitVec.twoPow 16 o := rfl
  simp (disch := omega) only [push_cast, Nat.reduceBEq, Nat.reduceEqDiff, Nat.reduceAdd, Nat.reduceMul, Nat.reduceSub, Nat.reduceLT, Int.reduceToNat, Int.reduceLT, Int.reduceLE, Int.reduceEq, Int.reduceAdd, Int.reduceSub, Int.reduceNeg, Int.reduceMul]
  subst hKs
  rw [KS_nor]
  rw [W_seq]
  generalize hKs : KS _ _ _ _ _ = Ks
  simp (disch := omega) only [push_cast, Nat.reduceBEq, Nat.reduceEqDiff, Nat.reduceAdd, Nat.reduceMul, Nat.reduceSub, Nat.reduceLT, Int.reduceToNat, Int.reduceLT, Int.reduceLE, Int.reduceEq, Int.reduceAdd, Int.reduceSub, Int.reduceNeg, Int.reduceMul, d3.cell]
  have hpl := place_ok h3 ((o : Int), zn) (by omega)
  simp only at hpl
  refine Ok.use hpl ?_
  rintro v w4 ⟨rfl, rfl⟩
  clear hpl
  simp (disch := omega) only [push_cast, Nat.reduceBEq, Nat.reduceEqDiff, Nat.reduceAdd, Nat.reduceMul, Nat.reduceSub, Nat.reduceLT, Int.reduceToNat, Int.reduceLT, Int.reduceLE, Int.reduceEq, Int.reduceAdd, Int.reduceSub, Int.reduceNeg, Int.reduceMul]
  subst hKs
  rw [KS_nor]
  have hfi := @idxN_find ((o : Int), zn) R.notes
  cases hi : idxN ((o : Int), zn) R.notes with
  | none =>
    rw [hi] at hfi
    have hfi : findS ((o : Int), zn) R.notes = none := hfi
    unfold idxI
    by_cases hk2 : zk = 2
    · subst hk2
      simp (config := { maxSteps := 3000000 }) (disch := omega) only [push_cast, Nat.reduceBEq, Nat.reduceEqDiff, Nat.reduceAdd, Nat.reduceMul, Nat.reduceSub, Nat.reduceLT, Int.reduceToNat, Int.reduceLT, Int.reduceLE, Int.reduceEq, Int.reduceAdd, Int.reduceSub, Int.reduceNeg, Int.reduceMul, d3.cell]
      subst hoV
      refine ⟨R, nv, ov, zs, ds, [], ?_, h3, u03.mono (fun _ _ h => h.elim), fun g hg => .inl hg, fun g hg => .inl hg, ho3⟩
      unfold RrR rrS
      rw [hP]
      simp [hfi]
    obtain rfl : zk = 1 := pk.resolve_right hk2
    rw [W_seq]
    generalize hKs : KS _ _ _ _ _ = Ks
    simp (config := { maxSteps := 3000000 }) (disch := omega) only [push_cast, Nat.reduceBEq, Nat.reduceEqDiff, Nat.reduceAdd, Nat.reduceMul, Nat.reduceSub, Nat.reduceLT, Int.reduceToNat, Int.reduceLT, Int.reduceLE, Int.reduceEq, Int.reduceAdd, Int.reduceSub, Int.reduceNeg, Int.reduceMul, d3.cell]
    subst hKs
    rw [KS_nor]
    rw [W_seq]
    generalize hKs : KS _ _ _ _ _ = Ks
    simp (config := { maxSteps := 3000000 }) (disch := omega) only [push_cast, Nat.reduceBEq, Nat.reduceEqDiff, Nat.reduceAdd, Nat.reduceMul, Nat.reduceSub, Nat.reduceLT, Int.reduceToNat, Int.reduceLT, Int.reduceLE, Int.reduceEq, Int.reduceAdd, Int.reduceSub, Int.reduceNeg, Int.reduceMul]
    subst hKs
    rw [KS_nor]
    have hon : (o : Int) ≠ (R.self : Int) := fun e => by
      have := hall zn pn.1 (pm e)
      rw [← e] at this
      exact this hfi
    rw [W_seq]
    generalize hKs : KS _ _ _ _ _ = Ks
    rw [W_alts, WT_node, WT_node]
    have s04 := u03.size
    refine (fun (hend : ∀ X va vc wE, w4.heap.size ≤ X → Blk wE X (rnC (⟨((o : Int), zn), zl, 0#16⟩, .slice va zl.length vc)) 87 → PB base wE (.slice va zl.length vc) zl → Upd (fun _ => False) w4 wE →
        Ks (Exit.normal, ((((((((env0 [.pointer (some ⟨q, 0, none⟩), .agg #[.int .i64 1, .int .i64 (f : Int), .int .i64 zt, .int .i64 (o : Int), .int .i64 zn, .slice za zl.length zc]]).set 3 (.pointer (some ⟨w.heap.size, 0, none⟩))).set 5 outV).set 13 (.bool false)).set 6 (.int .i64 (-1))).set 23 (.bool false)).set 40 (.bool false)).set 7 (.pointer (some ⟨X, 0, none⟩))), wE)) => ?_) ?_
    refine ⟨fun _ => ⟨fun _ => ?_, fun _ => ?_⟩, fun _ => ?_⟩
    · rw [WT_leaf]
      have uA : Upd (fun _ => False) w4 (w4.alloc (.cells #[] 5 (0, 0))) := Upd.alloc
      have dA := d3.upd uA (fun h => h)
      have hba := Blk.new (w := w4) (cs := []) (E := 5)
      simp (config := { maxSteps := 3000000 }) (disch := omega) only [push_cast, Nat.reduceBEq, Nat.reduceEqDiff, Nat.reduceAdd, Nat.reduceMul, Nat.reduceSub, Nat.reduceLT, Int.reduceToNat, Int.reduceLT, Int.reduceLE, Int.reduceEq, Int.reduceAdd, Int.reduceSub, Int.reduceNeg, Int.reduceMul, d3.cell, dA.cell, bsl_bytes0]
      refine app_by (w := (w4.alloc (.cells #[] 5 (0, 0))).drew) (Bow.empty hba.drew) ((hz3.keep (Kp.quiet uA.drew')).slb) (by rw [List.length_nil]; omega) ?_
      intro vx w5 hx5 hu5 _
      rw [List.nil_append] at hx5
      have u5 : Upd (fun _ => False) w4 w5 := uA.drew'.trans hu5 (fun b h1 h2 => by simp [Value.ownBlock] at h2; omega)
      have hv5 := PB.bow (base := base) hz3.1 hx5
      obtain ⟨va, vc, rfl⟩ := hv5.form
      have d5 := d3.upd u5 (fun h => h)
      have b6 := Blk.new (w := w5) (cs := [.int .i64 0, .int .i64 0, .slice none 0 0, .bool false, .bool false, .bool false, .bool false, .bool false, .bool false, .bool false, .bool false, .bool false, .bool false, .bool false, .bool false]) (E := 87)
      have u6 : Upd (fun _ => False) w5 (w5.alloc (.cells #[.int .i64 0, .int .i64 0, .slice none 0 0, .bool false, .bool false, .bool false, .bool false, .bool false, .bool false, .bool false, .bool false, .bool false, .bool false, .bool false, .bool false] 87 (0, 0))) := Upd.alloc
      have u16 := u5.trans u6 (fun _ _ h => h)
      have d6 := d3.upd u16 (fun h => h)
      have s5 := u5.size
      simp (config := { maxSteps := 3000000 }) (disch := omega) only [push_cast, Nat.reduceBEq, Nat.reduceEqDiff, Nat.reduceAdd, Nat.reduceMul, Nat.reduceSub, Nat.reduceLT, Int.reduceToNat, Int.reduceLT, Int.reduceLE, Int.reduceEq, Int.reduceAdd, Int.reduceSub, Int.reduceNeg, Int.reduceMul, d3.cell, dA.cell, bsl_bytes0, d5.cell, bld_rn, zer_nt, d6.cell, st_rn (x := (⟨((o : Int), zn), [], 0#16⟩, .slice va zl.length vc)) b6 rfl rfl]
      have bE := (b6).setRow (cs' := rnC (⟨((o : Int), zn), zl, 0#16⟩, .slice va zl.length vc))
      have uE : Upd (fun b => b = w5.heap.size) (w5.alloc (.cells #[.int .i64 0, .int .i64 0, .slice none 0 0, .bool false, .bool false, .bool false, .bool false, .bool false, .bool false, .bool false, .bool false, .bool false, .bool false, .bool false, .bool false] 87 (0, 0))) ((w5.alloc (.cells #[.int .i64 0, .int .i64 0, .slice none 0 0, .bool false, .bool false, .bool false, .bool false, .bool false, .bool false, .bool false, .bool false, .bool false, .bool false, .bool false, .bool false] 87 (0, 0))).setRow w5.heap.size (rnC (⟨((o : Int), zn), zl, 0#16⟩, .slice va zl.length vc)).toArray) := Upd.setRow rfl
      exact hend _ va vc _ (by omega) bE ((hv5.keep (Kp.quiet u6)).keep (kp_new uE (b6) (by decide) (by omega))) ((u16).trans uE (fun b h1 h2 => by omega))
    · rw [WT_leaf]
      have uA : Upd (fun _ => False) w4 (w4.alloc (.cells #[] 5 (0, 0))) := Upd.alloc
      have dA := d3.upd uA (fun h => h)
      have hba := Blk.new (w := w4) (cs := []) (E := 5)
      have sA : (w4.alloc (.cells #[] 5 (0, 0))).heap.size = w4.heap.size + 1 := size_alloc
      generalize hwA : w4.alloc (.cells #[] 5 (0, 0)) = wA at *
      have b6 := Blk.new (w := wA) (cs := [.int .i64 0, .int .i64 0, .slice none 0 0, .bool false, .bool false, .bool false, .bool false, .bool false, .bool false, .bool false, .bool false, .bool false, .bool false, .bool false, .bool false]) (E := 87)
      have u6 : Upd (fun _ => False) wA (wA.alloc (.cells #[.int .i64 0, .int .i64 0, .slice none 0 0, .bool false, .bool false, .bool false, .bool false, .bool false, .bool false, .bool false, .bool false, .bool false, .bool false, .bool false, .bool false] 87 (0, 0))) := Upd.alloc
      have u16 := uA.trans u6 (fun _ _ h => h)
      have d6 := d3.upd u16 (fun h => h)
      simp (config := { maxSteps := 3000000 }) (disch := omega) only [push_cast, Nat.reduceBEq, Nat.reduceEqDiff, Nat.reduceAdd, Nat.reduceMul, Nat.reduceSub, Nat.reduceLT, Int.reduceToNat, Int.reduceLT, Int.reduceLE, Int.reduceEq, Int.reduceAdd, Int.reduceSub, Int.reduceNeg, Int.reduceMul, d3.cell, dA.cell, bsl_bytes0, zer_nt, d6.cell, hwA]
      refine app_by (w := (wA.alloc (.cells #[.int .i64 0, .int .i64 0, .slice none 0 0, .bool false, .bool false, .bool false, .bool false, .bool false, .bool false, .bool false, .bool false, .bool false, .bool false, .bool false, .bool false] 87 (0, 0))).drew) (Bow.empty ((hba.upd u6 (fun h => h)).drew)) ((hz3.keep (Kp.quiet u16.drew')).slb) (by rw [List.length_nil]; omega) ?_
      intro vx w5 hx5 hu5 _
      rw [List.nil_append] at hx5
      have u5 : Upd (fun _ => False) w4 w5 := u16.drew'.trans hu5 (fun b h1 h2 => by simp [Value.ownBlock] at h2; omega)
      have hv5 := PB.bow (base := base) hz3.1 hx5
      obtain ⟨va, vc, rfl⟩ := hv5.form
      have d5 := d3.upd u5 (fun h => h)
      have b7 : Blk w5 wA.heap.size [.int .i64 0, .int .i64 0, .slice none 0 0, .bool false, .bool false, .bool false, .bool false, .bool false, .bool false, .bool false, .bool false, .bool false, .bool false, .bool false, .bool false] 87 := b6.drew.upd hu5 (fun e => by simp [Value.ownBlock] at e; omega)
      have s5 := u5.size
      simp (config := { maxSteps := 3000000 }) (disch := omega) only [push_cast, Nat.reduceBEq, Nat.reduceEqDiff, Nat.reduceAdd, Nat.reduceMul, Nat.reduceSub, Nat.reduceLT, Int.reduceToNat, Int.reduceLT, Int.reduceLE, Int.reduceEq, Int.reduceAdd, Int.reduceSub, Int.reduceNeg, Int.reduceMul, d3.cell, dA.cell, bsl_bytes0, d5.cell, bld_rn, zer_nt, d6.cell, hwA, st_rn (x := (⟨((o : Int), zn), [], 0#16⟩, .slice va zl.length vc)) b7 rfl rfl]
      have bE := (b7).setRow (cs' := rnC (⟨((o : Int), zn), zl, 0#16⟩, .slice va zl.length vc))
      have uE : Upd (fun b => b = wA.heap.size) w5 (w5.setRow wA.heap.size (rnC (⟨((o : Int), zn), zl, 0#16⟩, .slice va zl.length vc)).toArray) := Upd.setRow rfl
      exact hend _ va vc _ (by omega) bE ((hv5).keep (kp_new uE (b7) (by decide) (by omega))) ((u5).trans uE (fun b h1 h2 => by omega))
    · rw [WT_leaf]
      have b6 := Blk.new (w := w4) (cs := [.int .i64 0, .int .i64 0, .slice none 0 0, .bool false, .bool false, .bool false, .bool false, .bool false, .bool false, .bool false, .bool false, .bool false, .bool false, .bool false, .bool false]) (E := 87)
      have uN : Upd (fun _ => False) w4 (w4.alloc (.cells #[.int .i64 0, .int .i64 0, .slice none 0 0, .bool false, .bool false, .bool false, .bool false, .bool false, .bool false, .bool false, .bool false, .bool false, .bool false, .bool false, .bool false] 87 (0, 0))) := Upd.alloc
      have sN : (w4.alloc (.cells #[.int .i64 0, .int .i64 0, .slice none 0 0, .bool false, .bool false, .bool false, .bool false, .bool false, .bool false, .bool false, .bool false, .bool false, .bool false, .bool false, .bool false] 87 (0, 0))).heap.size = w4.heap.size + 1 := size_alloc
      have dA := d3.upd uN (fun h => h)
      generalize hwA : w4.alloc (.cells #[.int .i64 0, .int .i64 0, .slice none 0 0, .bool false, .bool false, .bool false, .bool false, .bool false, .bool false, .bool false, .bool false, .bool false, .bool false, .bool false, .bool false] 87 (0, 0)) = wA at *
      have hba := Blk.new (w := wA) (cs := []) (E := 5)
      have u6 : Upd (fun _ => False) wA (wA.alloc (.cells #[] 5 (0, 0))) := Upd.alloc
      have u16 := uN.trans u6 (fun _ _ h => h)
      have d6 := d3.upd u16 (fun h => h)
      simp (config := { maxSteps := 3000000 }) (disch := omega) only [push_cast, Nat.reduceBEq, Nat.reduceEqDiff, Nat.reduceAdd, Nat.reduceMul, Nat.reduceSub, Nat.reduceLT, Int.reduceToNat, Int.reduceLT, Int.reduceLE, Int.reduceEq, Int.reduceAdd, Int.reduceSub, Int.reduceNeg, Int.reduceMul, d3.cell, dA.cell, bsl_bytes0, zer_nt, d6.cell, hwA]
      refine app_by (w := (wA.alloc (.cells #[] 5 (0, 0))).drew) (Bow.empty hba.drew) ((hz3.keep (Kp.quiet u16.drew')).slb) (by rw [List.length_nil]; omega) ?_
      intro vx w5 hx5 hu5 _
      rw [List.nil_append] at hx5
      have u5 : Upd (fun _ => False) w4 w5 := u16.drew'.trans hu5 (fun b h1 h2 => by simp [Value.ownBlock] at h2; omega)
      have hv5 := PB.bow (base := base) hz3.1 hx5
      obtain ⟨va, vc, rfl⟩ := hv5.form
      have d5 := d3.upd u5 (fun h => h)
      have b7 : Blk w5 w4.heap.size [.int .i64 0, .int .i64 0, .slice none 0 0, .bool false, .bool false, .bool false, .bool false, .bool false, .bool false, .bool false, .bool false, .bool false, .bool false, .bool false, .bool false] 87 := ((b6.upd u6 (fun h => h)).drew).upd hu5 (fun e => by simp [Value.ownBlock] at e; omega)
      have s5 := u5.size
      simp (config := { maxSteps := 3000000 }) (disch := omega) only [push_cast, Nat.reduceBEq, Nat.reduceEqDiff, Nat.reduceAdd, Nat.reduceMul, Nat.reduceSub, Nat.reduceLT, Int.reduceToNat, Int.reduceLT, Int.reduceLE, Int.reduceEq, Int.reduceAdd, Int.reduceSub, Int.reduceNeg, Int.reduceMul, d3.cell, dA.cell, bsl_bytes0, d5.cell, bld_rn, zer_nt, d6.cell, hwA, st_rn (x := (⟨((o : Int), zn), [], 0#16⟩, .slice va zl.length vc)) b7 rfl rfl]
      have bE := (b7).setRow (cs' := rnC (⟨((o : Int), zn), zl, 0#16⟩, .slice va zl.length vc))
      have uE : Upd (fun b => b = w4.heap.size) w5 (w5.setRow w4.heap.size (rnC (⟨((o : Int), zn), zl, 0#16⟩, .slice va zl.length vc)).toArray) := Upd.setRow rfl
      exact hend _ va vc _ (by omega) bE ((hv5).keep (kp_new uE (b7) (by decide) (by omega))) ((u5).trans uE (fun b h1 h2 => by omega))
    intro X va vc wE0 hX hbX0 hpv0 uE0
    subst hKs
    rw [KS_nor]
    have hE0 := h3.quiet uE0
    have dE0 := d3.upd uE0 (fun h => h)
    have hoE0 := ho3.quiet uE0
    have hsn12 : R.self < 12 := by omega
    have hqX : q ≠ X := by have := h3.obj.lt; omega
    have hwX : w.heap.size ≠ X := by have := d3.lt; omega
    have hql := h3.obj.lt
    have cS := hE0.obj.cell 1
    simp only [List.cons_append, List.nil_append, List.getElem?_cons_succ, List.getElem?_cons_zero] at cS
    have cX := hbX0.cell (3 + R.self)
    rw [rnC_bit hsn12] at cX
    rw [W_seq]
    generalize hKs : KS _ _ _ _ _ = Ks
    simp (disch := omega) only [push_cast, Nat.reduceBEq, Nat.reduceEqDiff, Nat.reduceAdd, Nat.reduceMul, Nat.reduceSub, Nat.reduceLT, Int.reduceToNat, Int.reduceLT, Int.reduceLE, Int.reduceEq, Int.reduceAdd, Int.reduceSub, Int.reduceNeg, Int.reduceMul, cS, hbX0.free, cX]
    have hbX1 := hbX0.set (3 + R.self) (.bool true)
    rw [rnC_set hsn12] at hbX1
    have uY : Upd (fun b => b = X) wE0 (wE0.setCell ⟨X, 3 + R.self, none⟩ (.bool true)) := Upd.set rfl
    have kpY : Kp base wE0 (wE0.setCell ⟨X, 3 + R.self, none⟩ (.bool true)) := kp_new uY hbX0 (by decide) (by omega)
    have hE1 := hE0.frame uY hqX (fun g hg e => by have := (own_ge h3.nts hg).2; omega) (fun g hg e => by have := (own_ge h3.own hg).2; omega) kpY
    have hpv1 := hpv0.keep kpY
    have dE1 := dE0.upd uY hwX
    have hoE1 := hoE0.upd uY (fun g hg e => by have := hoL g hg; omega) kpY
    have uE1 : Upd (fun _ => False) w4 (wE0.setCell ⟨X, 3 + R.self, none⟩ (.bool true)) := uE0.trans uY (fun b h1 h2 => by omega)
    clear hbX0 hpv0 uE0 hE0 dE0 hoE0 cX uY kpY cS
    generalize wE0.setCell ⟨X, 3 + R.self, none⟩ (.bool true) = wE1 at *
    subst hKs
    rw [KS_nor]
    have cX := hbX1.cell (3 + f)
    rw [rnC_bit hf12] at cX
    rw [W_seq]
    generalize hKs : KS _ _ _ _ _ = Ks
    simp (disch := omega) only [push_cast, Nat.reduceBEq, Nat.reduceEqDiff, Nat.reduceAdd, Nat.reduceMul, Nat.reduceSub, Nat.reduceLT, Int.reduceToNat, Int.reduceLT, Int.reduceLE, Int.reduceEq, Int.reduceAdd, Int.reduceSub, Int.reduceNeg, Int.reduceMul, dE1.cell, hbX1.free, cX]
    have hbX2 := hbX1.set (3 + f) (.bool true)
    rw [rnC_set hf12] at hbX2
    have uY : Upd (fun b => b = X) wE1 (wE1.setCell ⟨X, 3 + f, none⟩ (.bool true)) := Upd.set rfl
    have kpY : Kp base wE1 (wE1.setCell ⟨X, 3 + f, none⟩ (.bool true)) := kp_new uY hbX1 (by decide) (by omega)
    have hE2 := hE1.frame uY hqX (fun g hg e => by have := (own_ge h3.nts hg).2; omega) (fun g hg e => by have := (own_ge h3.own hg).2; omega) kpY
    have hpv2 := hpv1.keep kpY
    have dE2 := dE1.upd uY hwX
    have hoE2 := hoE1.upd uY (fun g hg e => by have := hoL g hg; omega) kpY
    have uE2 : Upd (fun _ => False) w4 (wE1.setCell ⟨X, 3 + f, none⟩ (.bool true)) := uE1.trans uY (fun b h1 h2 => by omega)
    clear hbX1 hpv1 uE1 hE1 dE1 hoE1 cX uY kpY
    generalize wE1.setCell ⟨X, 3 + f, none⟩ (.bool true) = wE2 at *
    subst hKs
    rw [KS_nor]
    have cX := hbX2.cell (3 + o)
    rw [rnC_bit ho12] at cX
    rw [W_seq]
    generalize hKs : KS _ _ _ _ _ = Ks
    simp (disch := omega) only [push_cast, Nat.reduceBEq, Nat.reduceEqDiff, Nat.reduceAdd, Nat.reduceMul, Nat.reduceSub, Nat.reduceLT, Int.reduceToNat, Int.reduceLT, Int.reduceLE, Int.reduceEq, Int.reduceAdd, Int.reduceSub, Int.reduceNeg, Int.reduceMul, dE2.cell, hbX2.free, cX]
    have hbX3 := hbX2.set (3 + o) (.bool true)
    rw [rnC_set ho12] at hbX3
    have uY : Upd (fun b => b = X) wE2 (wE2.setCell ⟨X, 3 + o, none⟩ (.bool true)) := Upd.set rfl
    have kpY : Kp base wE2 (wE2.setCell ⟨X, 3 + o, none⟩ (.bool true)) := kp_new uY hbX2 (by decide) (by omega)
    have hE3 := hE2.frame uY hqX (fun g hg e => by have := (own_ge h3.nts hg).2; omega) (fun g hg e => by have := (own_ge h3.own hg).2; omega) kpY
    have hpv3 := hpv2.keep kpY
    have dE3 := dE2.upd uY hwX
    have hoE3 := hoE2.upd uY (fun g hg e => by have := hoL g hg; omega) kpY
    have uE3 : Upd (fun _ => False) w4 (wE2.setCell ⟨X, 3 + o, none⟩ (.bool true)) := uE2.trans uY (fun b h1 h2 => by omega)
    clear hbX2 hpv2 uE2 hE2 dE2 hoE2 cX uY kpY
    generalize wE2.setCell ⟨X, 3 + o, none⟩ (.bool true) = wE3 at *
    subst hKs
    rw [KS_nor]
    simp only [BitVec.zero_or] at hbX3
    rw [W_seq]
    generalize hKs : KS _ _ _ _ _ = Ks
    simp (disch := omega) only [push_cast, Nat.reduceBEq, Nat.reduceEqDiff, Nat.reduceAdd, Nat.reduceMul, Nat.reduceSub, Nat.reduceLT, Int.reduceToNat, Int.reduceLT, Int.reduceLE, Int.reduceEq, Int.reduceAdd, Int.reduceSub, Int.reduceNeg, Int.reduceMul, ld_blk (P := Try.prog) (t := 87) hbX3 (by kernel_rfl) (by kernel_rfl)]
    refine Ok.use (rput_ok hE3 (⟨((o : Int), zn), zl, BitVec.twoPow 16 R.self ||| BitVec.twoPow 16 f ||| BitVec.twoPow 16 o⟩, .slice va zl.length vc) hpv3 (by omega)) ?_
    rintro v wG ⟨nv', hG, uFG, hfG⟩
    rw [insZ_map] at hG
    simp only at hG
    rw [← h.nz] at hG
    have hbG := hbX3.upd uFG (fun e => hqX e.symm)
    have kpG := hE3.kp3 uFG fun b hb => .inl hb
    have hpG := hpv3.keep kpG
    have hwq : w.heap.size ≠ q := by have := h.obj.lt; omega
    have dG := dE3.upd uFG hwq
    have hoG := hoE3.upd uFG (fun g hg e => by have := hoL g hg; have := h.obj.lt; omega) kpG
    have u4G : Upd (fun b => b = q) w4 wG := (uE3.mono (fun _ _ h => h.elim)).trans uFG (fun _ _ h => h)
    have s34 := uE3.size
    simp (disch := omega) only [push_cast, Nat.reduceBEq, Nat.reduceEqDiff, Nat.reduceAdd, Nat.reduceMul, Nat.reduceSub, Nat.reduceLT, Int.reduceToNat, Int.reduceLT, Int.reduceLE, Int.reduceEq, Int.reduceAdd, Int.reduceSub, Int.reduceNeg, Int.reduceMul]
    subst hKs
    rw [KS_nor]
    have sG := u4G.size
    simp (disch := omega) only [push_cast, Nat.reduceBEq, Nat.reduceEqDiff, Nat.reduceAdd, Nat.reduceMul, Nat.reduceSub, Nat.reduceLT, Int.reduceToNat, Int.reduceLT, Int.reduceLE, Int.reduceEq, Int.reduceAdd, Int.reduceSub, Int.reduceNeg, Int.reduceMul]
    have hXG := hbG.lt
    have hw1G := d3.lt
    refine loop_inv (I := fun k st w' => Bx (∃ (i : Nat) (pv : Value), k + i = R.n ∧ st = [pv, .int .i64 (i : Int)] ∧ Upd (fun b => b = w1.heap.size) wG w' ∧ OwnK base w.heap.size w' pv (rcO R ⟨1, f, zt, o, zn, zl⟩ i) ∧ ∀ g, pv.ownBlock = some g → g = w1.heap.size ∨ wG.heap.size ≤ g) ⟨⟩) ?_ R.n ⟨0, _, rfl, rfl, Upd.refl, hoG, fun g hg => .inl (hoL g hg)⟩
    rintro k st w5 ⟨i, pv, hk, rfl, hu5, ho, hg⟩
    have hoK : outV.ownBlock = some w1.heap.size := by subst hoV; rfl
    have kp5 : Kp base wG w5 := Kp.of_upd hu5 fun b hb => by subst hb; exact hoG.still hbw hoK
    have h5 := hG.frame hu5 (by have := h.obj.lt; omega) (fun g hg => by have := hfG g hg; omega) (fun g hg => by have := (own_ge h.own hg).2; omega) kp5
    have c5 := hbG.upd hu5 (by omega)
    have d5 := dG.upd hu5 (by omega)
    have hp5 := hpG.keep kp5
    have s5 := hu5.size
    have c0 := h5.obj.cell 0
    have c1 := h5.obj.cell 1
    simp only [List.cons_append, List.nil_append, List.getElem?_cons_succ, List.getElem?_cons_zero] at c0 c1
    have hld := ld_blk (P := Try.prog) (t := 87) c5 (by kernel_rfl) (by kernel_rfl)
    by_cases hk0 : k = 0
    · obtain rfl : i = R.n := by omega
      obtain ⟨oa, oc, rfl⟩ := ho.form
      simp (disch := omega) only [push_cast, Nat.reduceBEq, Nat.reduceEqDiff, Nat.reduceAdd, Nat.reduceMul, Nat.reduceSub, Nat.reduceLT, Int.reduceToNat, Int.reduceLT, Int.reduceLE, Int.reduceEq, Int.reduceAdd, Int.reduceSub, Int.reduceNeg, Int.reduceMul, c0]
      refine Ok.use (rdeliver_ok h5 hd (by show R.list.length + (insN _ _ R.notes).length < _; rw [insN_length]; omega) ?_ ?_) ?_
      · refine bits_ins hbt hfi fun j hj => ?_
        simp only [BitVec.getLsbD_or, Bool.or_eq_true] at hj
        rcases hj with (hj | hj) | hj
        · rw [tw_bit hj]; exact hsn
        · rw [tw_bit hj]; omega
        · rw [tw_bit hj]; omega
      · intro k x hx
        simp only [insN_find hfi] at hx
        split at hx
        · injection hx with hx
          rw [← hx]; exact hl
        · exact hnl k x hx
      rintro v w6 ⟨R', ov', ds', hrun, h6, hu6, hf6⟩
      simp (disch := omega) only [push_cast, Nat.reduceBEq, Nat.reduceEqDiff, Nat.reduceAdd, Nat.reduceMul, Nat.reduceSub, Nat.reduceLT, Int.reduceToNat, Int.reduceLT, Int.reduceLE, Int.reduceEq, Int.reduceAdd, Int.reduceSub, Int.reduceNeg, Int.reduceMul]
      refine ⟨R', nv', ov', _, ds', _, ?_, h6, ?_, fun g hg' => ?_, fun g hg' => (hf6 g hg').imp id (fun h => by omega), ho.upd hu6 (fun g hg' hF' => ?_) (h5.kp3 hu6 fun b hb => hb.elim .inl fun h => .inr (.inr h))⟩
      · unfold RrR rrS
        rw [hP]
        simp only [if_true, hfi, tw, Int.toNat_natCast]
        rw [if_neg (by decide)]
        exact ⟨hrun, rfl⟩
      · refine (((u03.mono (fun _ _ h => h.elim)).trans u4G (fun _ _ h => .inl h)).trans hu5 (fun b hb h => by omega)).trans hu6 (fun b _ h => ?_)
        exact h.elim .inl fun h => .inr (.inr h)
      · have := hfG g hg'
        exact .inr (by omega)
      · have hol := h.old3 (b := g) (hF'.elim .inl fun h => .inr (.inr h))
        rcases hg g hg' with h' | h'
        · omega
        · omega
    have hi : i < R.n := by omega
    by_cases hif : (i : Int) = (f : Int)
    · have hs : ¬ i = R.self := by omega
      simp (config := { maxSteps := 3000000 }) (disch := omega) only [push_cast, Nat.reduceBEq, Nat.reduceEqDiff, Nat.reduceAdd, Nat.reduceMul, Nat.reduceSub, Nat.reduceLT, Int.reduceToNat, Int.reduceLT, Int.reduceLE, Int.reduceEq, Int.reduceAdd, Int.reduceSub, Int.reduceNeg, Int.reduceMul, c0, c1, d5.cell, hif, hld]
      refine Ok.use (rpacket_ok h5.obj 2 (f : Int) (⟨((o : Int), zn), zl, BitVec.twoPow 16 R.self ||| BitVec.twoPow 16 f ||| BitVec.twoPow 16 o⟩, .slice va zl.length vc) hp5 hl (by omega)) ?_
      rintro v w6 ⟨pv6, rfl, hpv6, hu6⟩
      rw [if_neg (by decide)] at hpv6 ⊢
      obtain ⟨qa, qc, rfl⟩ := hpv6.form
      have ho6 := ho.quiet hu6
      unfold pkV pkC
      simp (disch := omega) only [push_cast, Nat.reduceBEq, Nat.reduceEqDiff, Nat.reduceAdd, Nat.reduceMul, Nat.reduceSub, Nat.reduceLT, Int.reduceToNat, Int.reduceLT, Int.reduceLE, Int.reduceEq, Int.reduceAdd, Int.reduceSub, Int.reduceNeg, Int.reduceMul, bsl_pk]
      have hu7 : Upd (fun _ => False) w6 (w6.alloc (.cells (pkC ((⟨2, R.self, f, o, zn, []⟩ : Pk), .slice qa 0 qc)).toArray 46 (0, 0))) := Upd.alloc
      have hb7 := Blk.new (w := w6) (cs := pkC ((⟨2, R.self, f, o, zn, []⟩ : Pk), .slice qa 0 qc)) (E := 46)
      have s67 := hu6.size
      have s77 := hu7.size
      refine app_pk (z := ((⟨2, R.self, f, o, zn, []⟩ : Pk), .slice qa 0 qc)) (ho6.quiet hu7) (hpv6.keep (Kp.quiet hu7)) hbw (by omega) (by have := @rcO_length R ⟨1, f, zt, o, zn, zl⟩ i; omega) hb7 ?_
      intro v' w8 h8 hu8 hf8
      simp (disch := omega) only [push_cast, Nat.reduceBEq, Nat.reduceEqDiff, Nat.reduceAdd, Nat.reduceMul, Nat.reduceSub, Nat.reduceLT, Int.reduceToNat, Int.reduceLT, Int.reduceLE, Int.reduceEq, Int.reduceAdd, Int.reduceSub, Int.reduceNeg, Int.reduceMul]
      refine ⟨k - 1, by omega, i + 1, v', by omega, by simp [hif], ?_, ?_, ?_⟩
      · exact ((hu5.trans hu6 (fun _ _ h => h.elim)).trans hu7 (fun _ _ h => h.elim)).trans hu8 (fun b h1 h2 => (hg b h2).resolve_right (by omega))
      · rw [rcO_succ, if_neg hs, if_pos (.inl hif), hif]
        exact h8
      · intro g hg'
        rcases hf8 g hg' with h | h
        · exact hg g h
        · exact .inr (by omega)
    by_cases hio : (i : Int) = (o : Int)
    · have hs : ¬ i = R.self := by omega
      simp (config := { maxSteps := 3000000 }) (disch := omega) only [push_cast, Nat.reduceBEq, Nat.reduceEqDiff, Nat.reduceAdd, Nat.reduceMul, Nat.reduceSub, Nat.reduceLT, Int.reduceToNat, Int.reduceLT, Int.reduceLE, Int.reduceEq, Int.reduceAdd, Int.reduceSub, Int.reduceNeg, Int.reduceMul, c0, c1, d5.cell, hif, hio, hld]
      refine Ok.use (rpacket_ok h5.obj 2 (o : Int) (⟨((o : Int), zn), zl, BitVec.twoPow 16 R.self ||| BitVec.twoPow 16 f ||| BitVec.twoPow 16 o⟩, .slice va zl.length vc) hp5 hl (by omega)) ?_
      rintro v w6 ⟨pv6, rfl, hpv6, hu6⟩
      rw [if_neg (by decide)] at hpv6 ⊢
      obtain ⟨qa, qc, rfl⟩ := hpv6.form
      have ho6 := ho.quiet hu6
      unfold pkV pkC
      simp (disch := omega) only [push_cast, Nat.reduceBEq, Nat.reduceEqDiff, Nat.reduceAdd, Nat.reduceMul, Nat.reduceSub, Nat.reduceLT, Int.reduceToNat, Int.reduceLT, Int.reduceLE, Int.reduceEq, Int.reduceAdd, Int.reduceSub, Int.reduceNeg, Int.reduceMul, bsl_pk]
      have hu7 : Upd (fun _ => False) w6 (w6.alloc (.cells (pkC ((⟨2, R.self, o, o, zn, []⟩ : Pk), .slice qa 0 qc)).toArray 46 (0, 0))) := Upd.alloc
      have hb7 := Blk.new (w := w6) (cs := pkC ((⟨2, R.self, o, o, zn, []⟩ : Pk), .slice qa 0 qc)) (E := 46)
      have s67 := hu6.size
      have s77 := hu7.size
      refine app_pk (z := ((⟨2, R.self, o, o, zn, []⟩ : Pk), .slice qa 0 qc)) (ho6.quiet hu7) (hpv6.keep (Kp.quiet hu7)) hbw (by omega) (by have := @rcO_length R ⟨1, f, zt, o, zn, zl⟩ i; omega) hb7 ?_
      intro v' w8 h8 hu8 hf8
      simp (disch := omega) only [push_cast, Nat.reduceBEq, Nat.reduceEqDiff, Nat.reduceAdd, Nat.reduceMul, Nat.reduceSub, Nat.reduceLT, Int.reduceToNat, Int.reduceLT, Int.reduceLE, Int.reduceEq, Int.reduceAdd, Int.reduceSub, Int.reduceNeg, Int.reduceMul]
      refine ⟨k - 1, by omega, i + 1, v', by omega, by simp [hio], ?_, ?_, ?_⟩
      · exact ((hu5.trans hu6 (fun _ _ h => h.elim)).trans hu7 (fun _ _ h => h.elim)).trans hu8 (fun b h1 h2 => (hg b h2).resolve_right (by omega))
      · rw [rcO_succ, if_neg hs, if_pos (.inr hio), hio]
        exact h8
      · intro g hg'
        rcases hf8 g hg' with h | h
        · exact hg g h
        · exact .inr (by omega)
    by_cases hs : i = R.self
    · have hsf : ¬ (R.self : Int) = (f : Int) := by omega
      have hso : ¬ (R.self : Int) = (o : Int) := by omega
      simp (config := { maxSteps := 3000000 }) (disch := omega) only [push_cast, Nat.reduceBEq, Nat.reduceEqDiff, Nat.reduceAdd, Nat.reduceMul, Nat.reduceSub, Nat.reduceLT, Int.reduceToNat, Int.reduceLT, Int.reduceLE, Int.reduceEq, Int.reduceAdd, Int.reduceSub, Int.reduceNeg, Int.reduceMul, c0, c1, d5.cell, hs, hsf, hso]
      refine ⟨k - 1, by omega, i + 1, _, by omega, by simp [hs], hu5, ?_, hg⟩
      rw [rcO_succ, if_pos hs, List.append_nil]
      exact ho
    · have hs' : ¬ (i : Int) = (R.self : Int) := by omega
      simp (config := { maxSteps := 3000000 }) (disch := omega) only [push_cast, Nat.reduceBEq, Nat.reduceEqDiff, Nat.reduceAdd, Nat.reduceMul, Nat.reduceSub, Nat.reduceLT, Int.reduceToNat, Int.reduceLT, Int.reduceLE, Int.reduceEq, Int.reduceAdd, Int.reduceSub, Int.reduceNeg, Int.reduceMul, c0, c1, d5.cell, hif, hio, hs', hld]
      refine Ok.use (rpacket_ok h5.obj 1 (i : Int) (⟨((o : Int), zn), zl, BitVec.twoPow 16 R.self ||| BitVec.twoPow 16 f ||| BitVec.twoPow 16 o⟩, .slice va zl.length vc) hp5 hl (by omega)) ?_
      rintro v w6 ⟨pv6, rfl, hpv6, hu6⟩
      rw [if_pos rfl] at hpv6 ⊢
      obtain ⟨qa, qc, rfl⟩ := hpv6.form
      have ho6 := ho.quiet hu6
      unfold pkV pkC
      simp (disch := omega) only [push_cast, Nat.reduceBEq, Nat.reduceEqDiff, Nat.reduceAdd, Nat.reduceMul, Nat.reduceSub, Nat.reduceLT, Int.reduceToNat, Int.reduceLT, Int.reduceLE, Int.reduceEq, Int.reduceAdd, Int.reduceSub, Int.reduceNeg, Int.reduceMul, bsl_pk]
      have hu7 : Upd (fun _ => False) w6 (w6.alloc (.cells (pkC ((⟨1, R.self, i, o, zn, zl⟩ : Pk), .slice qa zl.length qc)).toArray 46 (0, 0))) := Upd.alloc
      have hb7 := Blk.new (w := w6) (cs := pkC ((⟨1, R.self, i, o, zn, zl⟩ : Pk), .slice qa zl.length qc)) (E := 46)
      have s67 := hu6.size
      have s77 := hu7.size
      refine app_pk (z := ((⟨1, R.self, i, o, zn, zl⟩ : Pk), .slice qa zl.length qc)) (ho6.quiet hu7) (hpv6.keep (Kp.quiet hu7)) hbw (by omega) (by have := @rcO_length R ⟨1, f, zt, o, zn, zl⟩ i; omega) hb7 ?_
      intro v' w8 h8 hu8 hf8
      simp (disch := omega) only [push_cast, Nat.reduceBEq, Nat.reduceEqDiff, Nat.reduceAdd, Nat.reduceMul, Nat.reduceSub, Nat.reduceLT, Int.reduceToNat, Int.reduceLT, Int.reduceLE, Int.reduceEq, Int.reduceAdd, Int.reduceSub, Int.reduceNeg, Int.reduceMul]
      refine ⟨k - 1, by omega, i + 1, v', by omega, by simp, ?_, ?_, ?_⟩
      · exact ((hu5.trans hu6 (fun _ _ h => h.elim)).trans hu7 (fun _ _ h => h.elim)).trans hu8 (fun b h1 h2 => (hg b h2).resolve_right (by omega))
      · rw [rcO_succ, if_neg hs, if_neg (fun h => h.elim hif hio)]
        exact h8
      · intro g hg'
        rcases hf8 g hg' with h | h
        · exact hg g h
        · exact .inr (by omega)
  | some i =>
    rw [hi] at hfi
    obtain ⟨x, hx⟩ := idxN_some hi
    have hfx : findS ((o : Int), zn) R.notes = some x := by rw [hfi]; simp [hx]
    rw [h.nz, List.getElem?_map] at hx
    cases hzi : zs[i]? with
    | none => rw [hzi] at hx; cases hx
    | some zz =>
    obtain ⟨⟨nk, nl, nD⟩, nvv⟩ := zz
    rw [hzi] at hx
    injection hx with hx
    simp only [Prod.mk.injEq] at hx
    obtain ⟨rfl, rfl⟩ := hx
    have hil : i < zs.length := (List.getElem?_eq_some_iff.1 hzi).1
    have hpb := h3.pb _ (List.mem_of_getElem? hzi)
    simp only at hpb
    obtain ⟨na, nc, rfl⟩ := hpb.form
    obtain ⟨g, cap, hv, hgo, hcell⟩ := h3.note hzi
    subst hv
    have cN : w4.cell? ⟨q, 3, none⟩ = some (.slice (some ⟨g, 0, none⟩) zs.length cap) := h3.obj.cell 3
    have cf := hcell (3 + f) (by omega)
    rw [rnC_bit hf12] at cf
    simp only [← Nat.add_assoc] at cf
    have hfr : w4.frozen? ⟨g, i * 15 + 3 + f, none⟩ = false := h3.nts.frozenAt _
    unfold idxI
    have hio : (0 : Int) ≤ (i : Int) := by omega
    have hb2 : ∀ {D' : BitVec 16}, (∀ j, D'.getLsbD j = true → j < R.n) → R.list.length + (putS ((o : Int), zn) (nl, D') R.notes).length < 1000000 ∧ Bits { R with notes := putS ((o : Int), zn) (nl, D') R.notes } ∧ (∀ k x, findS k (putS ((o : Int), zn) (nl, D') R.notes) = some x → x.1.length ≤ 140737488355328) := fun hD => by
      refine ⟨by rw [len_put hfx]; omega, bits_put hbt hD, fun k x hx => ?_⟩
      rw [putS_find] at hx
      split at hx
      · injection hx with hx
        rw [← hx]
        exact hnl ((o : Int), zn) (nl, nD) hfx
      · exact hnl k x hx
    have hDf : ∀ j, (nD ||| BitVec.twoPow 16 f).getLsbD j = true → j < R.n := fun j hj => by
      simp only [BitVec.getLsbD_or, Bool.or_eq_true] at hj
      rcases hj with hj | hj
      · exact hbt _ _ hfx j hj
      · rw [tw_bit hj]; omega
    rcases pk with rfl | rfl
    · have hse := str_eq hpb.1 hz3.1
      have t1 := cnv_str hpb.slb
      have t2 := cnv_str (hpb.keep (Kp.quiet Upd.drew)).slb
      have t3 := cnv_str hz3.slb
      have t4 := cnv_str (hz3.keep (Kp.quiet Upd.drew)).slb
      have cP := hcell 2 (by omega)
      simp only [rnC, List.cons_append, List.nil_append, List.getElem?_cons_succ, List.getElem?_cons_zero] at cP
      by_cases hnz : nl = zl
      rotate_left
      · rw [decide_eq_false hnz] at hse
        simp (config := { maxSteps := 3000000 }) (disch := omega) only [push_cast, Nat.reduceBEq, Nat.reduceEqDiff, Nat.reduceAdd, Nat.reduceMul, Nat.reduceSub, Nat.reduceLT, Int.reduceToNat, Int.reduceLT, Int.reduceLE, Int.reduceEq, Int.reduceAdd, Int.reduceSub, Int.reduceNeg, Int.reduceMul, d3.cell, cN, cP, t1, t2, t3, t4, hse, Bool.not_false]
        subst hoV
        refine ⟨R, _, ov, zs, ds, [], ?_, h3.quiet Upd.drew, u03.drew'.mono (fun _ _ h => h.elim), fun g hg => .inl hg, fun g hg => .inl hg, ho3.quiet Upd.drew⟩
        unfold RrR rrS
        rw [hP]
        simp [hfx, hnz]
      subst hnz
      rw [decide_eq_true rfl] at hse
      rw [W_seq]
      generalize hKs : KS _ _ _ _ _ = Ks
      simp (config := { maxSteps := 3000000 }) (disch := omega) only [push_cast, Nat.reduceBEq, Nat.reduceEqDiff, Nat.reduceAdd, Nat.reduceMul, Nat.reduceSub, Nat.reduceLT, Int.reduceToNat, Int.reduceLT, Int.reduceLE, Int.reduceEq, Int.reduceAdd, Int.reduceSub, Int.reduceNeg, Int.reduceMul, d3.cell]
      subst hKs
      rw [KS_nor]
      obtain ⟨h5, u5⟩ := h3.setBit hi hzi hf12
      have hi5 := idx_set (x := (nl, nD ||| BitVec.twoPow 16 f)) hi
      have hz5 : (zs.set i (⟨((o : Int), zn), nl, nD ||| BitVec.twoPow 16 f⟩, .slice na nl.length nc))[i]? = some (⟨((o : Int), zn), nl, nD ||| BitVec.twoPow 16 f⟩, .slice na nl.length nc) := List.getElem?_set_self hil
      have hl5 : (zs.set i (⟨((o : Int), zn), nl, nD ||| BitVec.twoPow 16 f⟩, .slice na nl.length nc)).length = zs.length := List.length_set
      have cN5 : (w4.setCell ⟨g, i * 15 + 3 + f, none⟩ (.bool true)).cell? ⟨q, 3, none⟩ = some (.slice (some ⟨g, 0, none⟩) zs.length cap) := h5.obj.cell 3
      have hwg : w.heap.size ≠ g := by have := (own_ge h.nts (g := g) rfl).2; omega
      have d5 := d3.upd u5 hwg
      obtain ⟨g', cap', hv', _, hcell5⟩ := h5.note hz5
      injection hv' with e1 _ e3
      simp only [Option.some.injEq, Addr.mk.injEq, and_true] at e1
      subst e1
      have co5 := hcell5 (3 + o) (by omega)
      rw [rnC_bit ho12] at co5
      simp only [← Nat.add_assoc] at co5
      have hfr5 : (w4.setCell ⟨g, i * 15 + 3 + f, none⟩ (.bool true)).frozen? ⟨g, i * 15 + 3 + o, none⟩ = false := by
        have := h5.nts
        rw [hl5] at this
        exact this.frozenAt _
      rw [← hl5] at h5
      obtain ⟨h6, u6⟩ := h5.setBit hi5 hz5 ho12
      have hz6 : ((zs.set i (⟨((o : Int), zn), nl, nD ||| BitVec.twoPow 16 f⟩, .slice na nl.length nc)).set i (⟨((o : Int), zn), nl, nD ||| BitVec.twoPow 16 f ||| BitVec.twoPow 16 o⟩, .slice na nl.length nc))[i]? = some (⟨((o : Int), zn), nl, nD ||| BitVec.twoPow 16 f ||| BitVec.twoPow 16 o⟩, .slice na nl.length nc) := List.getElem?_set_self (by rw [hl5]; exact hil)
      rw [put_put] at h6
      have cN6 : ((w4.setCell ⟨g, i * 15 + 3 + f, none⟩ (.bool true)).setCell ⟨g, i * 15 + 3 + o, none⟩ (.bool true)).cell? ⟨q, 3, none⟩ = some (.slice (some ⟨g, 0, none⟩) zs.length cap) := by rw [← hl5]; exact h6.obj.cell 3
      have d6 := d5.upd u6 hwg
      obtain ⟨g', cap', hv', _, hcell6⟩ := h6.note hz6
      injection hv' with e1 _ e3
      simp only [Option.some.injEq, Addr.mk.injEq, and_true] at e1
      subst e1
      have l0 := ld_note (w := ((w4.setCell ⟨g, i * 15 + 3 + f, none⟩ (.bool true)).setCell ⟨g, i * 15 + 3 + o, none⟩ (.bool true))) hcell6
      have l1 := ld_note (w := ((w4.setCell ⟨g, i * 15 + 3 + f, none⟩ (.bool true)).setCell ⟨g, i * 15 + 3 + o, none⟩ (.bool true)).drew) hcell6
      have l2 := ld_note (w := ((w4.setCell ⟨g, i * 15 + 3 + f, none⟩ (.bool true)).setCell ⟨g, i * 15 + 3 + o, none⟩ (.bool true)).drew.drew) hcell6
      have l3 := ld_note (w := ((w4.setCell ⟨g, i * 15 + 3 + f, none⟩ (.bool true)).setCell ⟨g, i * 15 + 3 + o, none⟩ (.bool true)).drew.drew.drew) hcell6
      have l4 := ld_note (w := ((w4.setCell ⟨g, i * 15 + 3 + f, none⟩ (.bool true)).setCell ⟨g, i * 15 + 3 + o, none⟩ (.bool true)).drew.drew.drew.drew) hcell6
      simp (config := { maxSteps := 3000000 }) (disch := omega) only [push_cast, Nat.reduceBEq, Nat.reduceEqDiff, Nat.reduceAdd, Nat.reduceMul, Nat.reduceSub, Nat.reduceLT, Int.reduceToNat, Int.reduceLT, Int.reduceLE, Int.reduceEq, Int.reduceAdd, Int.reduceSub, Int.reduceNeg, Int.reduceMul, d3.cell, cN, cP, t1, t2, t3, t4, hse, Bool.not_true, cf, hfr, cN5, d5.cell, co5, hfr5, cN6, d6.cell, l0, l1, l2, l3, l4]
      have hq4 : Upd (fun _ => False) ((w4.setCell ⟨g, i * 15 + 3 + f, none⟩ (.bool true)).setCell ⟨g, i * 15 + 3 + o, none⟩ (.bool true)) ((w4.setCell ⟨g, i * 15 + 3 + f, none⟩ (.bool true)).setCell ⟨g, i * 15 + 3 + o, none⟩ (.bool true)).drew.drew.drew.drew := Upd.refl.drew'.drew'.drew'.drew'
      have h7 := h6.quiet hq4
      have u47 : Upd (fun b => b = g) w4 ((w4.setCell ⟨g, i * 15 + 3 + f, none⟩ (.bool true)).setCell ⟨g, i * 15 + 3 + o, none⟩ (.bool true)).drew.drew.drew.drew := (u5.trans u6 (fun _ _ h => h)).trans hq4 (fun _ _ h => h.elim)
      have kp47 := h3.kp3 u47 fun b hb => .inr (.inl (by rw [hb]; exact hgo))
      have hglt := (own_ge h.nts (g := g) rfl).2
      have ho7 := ho3.upd u47 (fun g' hg' e => by have := hoL g' hg'; omega) kp47
      have hp7 := hpb.keep kp47
      clear l0 l1 l2 l3 l4 cN6 d6 hcell6 cN5 d5 co5 hfr5 hcell5 h5 h6 u5 u6 hq4 cN cf hfr t1 t2 t3 t4 cP hcell kp47
      generalize ((w4.setCell ⟨g, i * 15 + 3 + f, none⟩ (.bool true)).setCell ⟨g, i * 15 + 3 + o, none⟩ (.bool true)).drew.drew.drew.drew = w7 at *
      have s47 := u47.size
      have s04 := u03.size
      refine Ok.use (rpacket_ok h7.obj 2 (f : Int) (⟨((o : Int), zn), nl, nD ||| BitVec.twoPow 16 f ||| BitVec.twoPow 16 o⟩, .slice na nl.length nc) hp7 (by exact hnl _ _ hfx) (by omega)) ?_
      rintro v w8 ⟨pv8, rfl, hpv8, hu8⟩
      rw [if_neg (by decide)] at hpv8 ⊢
      obtain ⟨qa, qc, rfl⟩ := hpv8.form
      have h8 := h7.quiet hu8
      have ho8 := ho7.quiet hu8
      unfold pkV pkC
      simp (disch := omega) only [push_cast, Nat.reduceBEq, Nat.reduceEqDiff, Nat.reduceAdd, Nat.reduceMul, Nat.reduceSub, Nat.reduceLT, Int.reduceToNat, Int.reduceLT, Int.reduceLE, Int.reduceEq, Int.reduceAdd, Int.reduceSub, Int.reduceNeg, Int.reduceMul, bsl_pk]
      have hu9 : Upd (fun _ => False) w8 (w8.alloc (.cells (pkC (⟨2, R.self, f, o, zn, []⟩, .slice qa 0 qc)).toArray 46 (0, 0))) := Upd.alloc
      have hb9 := Blk.new (w := w8) (cs := pkC (⟨2, R.self, f, o, zn, []⟩, .slice qa 0 qc)) (E := 46)
      have s78 := hu8.size
      have s89 := hu9.size
      refine app_pk (z := (⟨2, R.self, f, o, zn, []⟩, .slice qa 0 qc)) (ho8.quiet hu9) (hpv8.keep (Kp.quiet hu9)) hbw (by omega) (by simp) hb9 ?_
      intro v' w10 ho10 hu10 hf10
      rw [List.nil_append] at ho10
      have h9 := h8.quiet hu9
      have lq := h.obj.lt
      have hx10 : ∀ b, FtR3 q (.slice (some ⟨g, 0, none⟩) zs.length cap) ov b → ¬ outV.ownBlock = some b := fun b hb e => by
        have := hoL b e
        have := h.old3 hb
        omega
      have kp10 : Kp base (w8.alloc (.cells (pkC (⟨2, R.self, f, o, zn, []⟩, .slice qa 0 qc)).toArray 46 (0, 0))) w10 := Kp.of_upd hu10 fun b hb => (ho8.quiet hu9).still hbw hb
      have h10 := h9.frame hu10 (hx10 _ (.inl rfl)) (fun g hg => hx10 _ (.inr (.inl hg))) (fun g hg => hx10 _ (.inr (.inr hg))) kp10
      have s10 := hu10.size
      have hDo : ∀ j, (nD ||| BitVec.twoPow 16 f ||| BitVec.twoPow 16 o).getLsbD j = true → j < R.n := fun j hj => by
        rw [BitVec.getLsbD_or, Bool.or_eq_true] at hj
        rcases hj with hj | hj
        · exact hDf j hj
        · rw [tw_bit hj]; omega
      obtain ⟨x1, x2, x3⟩ := hb2 hDo
      simp (disch := omega) only [push_cast, Nat.reduceBEq, Nat.reduceEqDiff, Nat.reduceAdd, Nat.reduceMul, Nat.reduceSub, Nat.reduceLT, Int.reduceToNat, Int.reduceLT, Int.reduceLE, Int.reduceEq, Int.reduceAdd, Int.reduceSub, Int.reduceNeg, Int.reduceMul]
      refine Ok.use (rdeliver_ok h10 hd x1 x2 x3) ?_
      rintro v w11 ⟨R', ov', ds', hrun, h11, hu11, hf11⟩
      have ho11 := ho10.upd hu11 (fun g' hg' e => by
        have hol := h.old3 (b := g') (e.elim .inl fun h => .inr (.inr h))
        rcases hf10 g' hg' with h' | h'
        · have := hoL g' h'; omega
        · omega) (h10.kp3 hu11 fun b hb => hb.elim .inl fun h => .inr (.inr h))
      obtain ⟨oa, oc, rfl⟩ := ho11.form
      simp (disch := omega) only [push_cast, Nat.reduceBEq, Nat.reduceEqDiff, Nat.reduceAdd, Nat.reduceMul, Nat.reduceSub, Nat.reduceLT, Int.reduceToNat, Int.reduceLT, Int.reduceLE, Int.reduceEq, Int.reduceAdd, Int.reduceSub, Int.reduceNeg, Int.reduceMul]
      rw [hl5] at h11
      refine ⟨R', _, ov', _, ds', _, ?_, h11, ?_, fun g hg => .inl hg, fun g' hg' => (hf11 g' hg').imp id (fun h => by omega), ho11⟩
      · unfold RrR rrS
        rw [hP]
        simp only [if_true, hfx, tw, Int.toNat_natCast]
        rw [if_neg (by decide)]
        rw [← BitVec.or_assoc]
        exact ⟨hrun, rfl⟩
      · refine (((((u03.mono (fun _ _ h => h.elim)).trans u47 (fun b _ h => .inr (.inl (by rw [h]; rfl)))).trans hu8 (fun _ _ h => h.elim)).trans hu9 (fun _ _ h => h.elim)).trans hu10 (fun b hb h => ?_)).trans hu11 (fun b _ h => h.elim .inl fun h => .inr (.inr h))
        have := hoL b h
        omega
    · rw [W_seq]
      generalize hKs : KS _ _ _ _ _ = Ks
      simp (disch := omega) only [push_cast, Nat.reduceBEq, Nat.reduceEqDiff, Nat.reduceAdd, Nat.reduceMul, Nat.reduceSub, Nat.reduceLT, Int.reduceToNat, Int.reduceLT, Int.reduceLE, Int.reduceEq, Int.reduceAdd, Int.reduceSub, Int.reduceNeg, Int.reduceMul, d3.cell, cN, cf, hfr]
      obtain ⟨h5, u5⟩ := h3.setBit hi hzi hf12
      have ho5 : OwnK base w.heap.size (w4.setCell ⟨g, i * 15 + 3 + f, none⟩ (.bool true)) outV [] := ho3.upd u5 (fun g' hg' e => by
        have := hoL g' hg'
        have := (own_ge h.nts (g := g) rfl).2
        omega) (h3.kp3 u5 fun b hb => .inr (.inl (by rw [hb]; exact hgo)))
      have h6 := h5.quiet Upd.drew
      obtain ⟨x1, x2, x3⟩ := hb2 hDf
      refine Ok.use (rdeliver_ok h6 hd x1 x2 x3) ?_
      rintro v w7 ⟨R', ov', ds', hrun, h7, hu7, hf7⟩
      simp (disch := omega) only [push_cast, Nat.reduceBEq, Nat.reduceEqDiff, Nat.reduceAdd, Nat.reduceMul, Nat.reduceSub, Nat.reduceLT, Int.reduceToNat, Int.reduceLT, Int.reduceLE, Int.reduceEq, Int.reduceAdd, Int.reduceSub, Int.reduceNeg, Int.reduceMul]
      subst hKs
      have s4 := u03.size
      have s5 := u5.size
      have hsd : (w4.setCell ⟨g, i * 15 + 3 + f, none⟩ (.bool true)).drew.heap.size = (w4.setCell ⟨g, i * 15 + 3 + f, none⟩ (.bool true)).heap.size := rfl
      have ho7 : OwnK base w.heap.size w7 outV [] := (ho5.quiet Upd.drew).upd hu7 (fun g' hg' e => by
        have := hoL g' hg'
        have l1 := h.obj.lt
        rcases e with e | e
        · omega
        · have := (own_ge h.own e).2; omega) (h6.kp3 hu7 fun b hb => hb.elim .inl fun h => .inr (.inr h))
      subst hoV
      simp (disch := omega) only [push_cast, Nat.reduceBEq, Nat.reduceEqDiff, Nat.reduceAdd, Nat.reduceMul, Nat.reduceSub, Nat.reduceLT, Int.reduceToNat, Int.reduceLT, Int.reduceLE, Int.reduceEq, Int.reduceAdd, Int.reduceSub, Int.reduceNeg, Int.reduceMul]
      refine ⟨R', _, ov', _, ds', [], ?_, h7, ?_, fun g hg => .inl hg, fun g' hg' => (hf7 g' hg').imp id (fun h => by omega), ho7⟩
      · unfold RrR rrS
        rw [hP]
        simp [hfx, tw]
        exact hrun
      · refine ((u03.mono (fun _ _ h => h.elim)).trans u5 (fun b _ h => .inr (.inl (by rw [h]; rfl)))).drew'.trans hu7 (fun b _ h => ?_)
        exact h.elim .inl fun h => .inr (.inr h)
end Go.Proofs.Ytpgfokhpacdhjaa.Fd
