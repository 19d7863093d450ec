/-
  The reference: deliver.
-/
import Derived.Test.YtpgfokhpacdhjaaBe2
namespace Go.Proofs.Ytpgfokhpacdhjaa.Fd
set_option linter.unusedSimpArgs false
set_option linter.unusedVariables false
open Go Go.ChangeMaps
set_option maxRecDepth 100000

def obC (R : PS) (nv ov : Value) : List Value := [.int .i64 R.n, .int .i64 R.self, .int .i64 R.made, nv] ++ dnV R.done ++ [ov]
theorem dnV_length {f : Nat → Int} : (dnV f).length = 12 := by simp [dnV]
theorem obC_done {R : PS} {nv ov : Value} {o : Nat} (h : o < 12) : (obC R nv ov)[4 + o]? = some (.int .i64 (R.done o)) := by
  unfold obC
  rw [List.getElem?_append_left (by simp [dnV]; omega), List.getElem?_append_right (by simp)]
  rw [show 4 + o - [Value.int .i64 R.n, .int .i64 R.self, .int .i64 R.made, nv].length = o from by simp]
  exact dnV_get h
theorem obC_out {R : PS} {nv ov : Value} : (obC R nv ov)[16]? = some ov := by
  unfold obC
  rw [List.getElem?_append_right (by simp [dnV])]
  simp [dnV]
theorem dnV_set {f : Nat → Int} {o : Nat} {x : Int} : (dnV f).set o (.int .i64 x) = dnV (fun i => if i = o then x else f i) := atL_set
theorem obC_setD {R : PS} {nv ov : Value} {o : Nat} (h : o < 12) {x : Int} : (obC R nv ov).set (4 + o) (.int .i64 x) = obC { R with done := fun i => if i = o then x else R.done i } nv ov := by
  unfold obC
  rw [List.set_append_left _ _ (by simp [dnV]; omega), List.set_append_right _ _ (by simp)]
  rw [show 4 + o - [Value.int .i64 R.n, .int .i64 R.self, .int .i64 R.made, nv].length = o from by simp, dnV_set]
theorem obC_setO {R : PS} {nv ov ov' : Value} : (obC R nv ov).set 16 ov' = obC R nv ov' := by
  unfold obC
  rw [List.set_append_right _ _ (by simp [dnV])]
  simp [dnV]
theorem ones_cnt {D : BitVec 16} {n : Nat} (hn : n ≤ 16) (h : ∀ j, D.getLsbD j = true → j < n) : ones D = cntD D n := by
  rw [ones_sum]
  refine sumN_zero hn fun i h1 h2 => ?_
  cases hd : D.getLsbD i with
  | true => have := h i hd; omega
  | false => rfl
def Bits (R : PS) : Prop := ∀ k x, findS k R.notes = some x → ∀ j, x.2.getLsbD j = true → j < R.n
def FtR (q : Nat) (ov : Value) (b : Nat) : Prop := b = q ∨ ov.ownBlock = some b
theorem RA.frame {base : Nat} {w w' : World} {q : Nat} {R : PS} {nv ov : Value} {zs : List (Rn × Value)} {ds : List (NP × Value)} (h : RA base w q R nv ov zs ds) {F : Nat → Prop} (u : Upd F w w') (hq : ¬ F q) (hn : ∀ g, nv.ownBlock = some g → ¬ F g) (ho : ∀ g, ov.ownBlock = some g → ¬ F g) (k : Kp base w w') : RA base w' q R nv ov zs ds :=
  ⟨h.obj.upd u hq, h.bq, own_updB h.nts u hn, h.nz, fun z hz => (h.pb z hz).keep k, own_updB h.own u ho, h.lst.keep k, h.n12⟩
set_option maxHeartbeats 8000000 in
theorem rdeliver_ok {base : Nat} {w : World} {q : Nat} {R : PS} {nv ov : Value} {zs : List (Rn × Value)} {ds : List (NP × Value)} (h : RA base w q R nv ov zs ds) (hd : ∀ o, 0 ≤ R.done o ∧ R.done o ≤ R.list.length) (hb : R.list.length + R.notes.length < 1000000) (hbt : Bits R)
    (hnl : ∀ k x, findS k R.notes = some x → x.1.length ≤ 140737488355328) :
    Ok (den Try.prog 36 #[.pointer (some ⟨q, 0, none⟩)] w) fun _ w' => ∃ R' ov' ds', Run R R' ∧ RA base w' q R' nv ov' zs ds' ∧ Upd (FtR q ov) w w' ∧ (∀ g, ov'.ownBlock = some g → ov.ownBlock = some g ∨ w.heap.size ≤ g) := by
  refine den_ok (args := [.pointer (some ⟨q, 0, none⟩)]) rs36 Try.func36 rfl mixed in36 ok36 rfl ?_
  have hzn : zs.length = R.notes.length := by rw [h.nz, List.length_map]
  simp (disch := omega) only [push_cast, Nat.reduceBEq, Nat.reduceEqDiff, Nat.reduceAdd, Nat.reduceMul, Nat.reduceSub, Nat.reduceLT, Int.reduceToNat, Int.reduceLT, Int.reduceLE, Int.reduceEq, Int.reduceAdd, Int.reduceSub, Int.reduceNeg, Int.reduceMul]
  refine loop_inv (I := fun k st w' => Bx (∃ (o : Nat) (R' : PS) (ov' : Value) (ds' : List (NP × Value)), st = [.int .i64 (o : Int)] ∧ o ≤ R'.n ∧ RA base w' q R' nv ov' zs ds' ∧ Upd (FtR q ov) w w' ∧ (∀ g, ov'.ownBlock = some g → ov.ownBlock = some g ∨ w.heap.size ≤ g) ∧
    R'.n = R.n ∧ R'.notes = R.notes ∧ (∀ R2, Run R' R2 → Run R R2) ∧ (∀ i, i < o → elig R' i = none) ∧ (∀ o, 0 ≤ R'.done o ∧ R'.done o ≤ R'.list.length) ∧ R'.list.length + remS R' < 1000000 ∧ remS R' * 20 + (R'.n - o) ≤ k) ⟨⟩) ?_ (remS R * 20 + R.n) ⟨0, R, ov, ds, rfl, Nat.zero_le _, h, Upd.refl, fun g hg => .inl hg, rfl, rfl, fun R2 h => h, fun i hi => by omega, hd, ?_, by omega⟩
  rotate_left
  · have : remS R ≤ R.notes.length := List.length_filter_le _ _
    omega
  clear h hd
  rintro k st w1 ⟨o, R1, ov1, ds1, rfl, hon, h, hu, hfr, hn, hno, hrun, hel, hd, hb1, hk⟩
  have hn12 := h.n12
  have hob : Blk w1 q (obC R1 nv ov1) 64 := h.obj
  have b0 : w1.cell? ⟨q, 0, none⟩ = some (.int .i64 R1.n) := hob.cell 0
  have b3 : w1.cell? ⟨q, 3, none⟩ = some nv := hob.cell 3
  by_cases ho : o = R1.n
  · subst ho
    simp (disch := omega) only [push_cast, Nat.reduceBEq, Nat.reduceEqDiff, Nat.reduceAdd, Nat.reduceMul, Nat.reduceSub, Nat.reduceLT, Int.reduceToNat, Int.reduceLT, Int.reduceLE, Int.reduceEq, Int.reduceAdd, Int.reduceSub, Int.reduceNeg, Int.reduceMul, b0]
    exact ⟨R1, ov1, ds1, hrun _ (.done hel), h, hu, hfr⟩
  have ho : o < R1.n := by omega
  have bD : w1.cell? ⟨q, 4 + o, none⟩ = some (.int .i64 (R1.done o)) := by rw [hob.cell]; exact obC_done (by omega)
  have hdo := hd o
  have hpl := place_ok h ((o : Int), R1.done o + 1) (by rw [hzn]; omega)
  simp only at hpl
  simp (disch := omega) only [push_cast, Nat.reduceBEq, Nat.reduceEqDiff, Nat.reduceAdd, Nat.reduceMul, Nat.reduceSub, Nat.reduceLT, Int.reduceToNat, Int.reduceLT, Int.reduceLE, Int.reduceEq, Int.reduceAdd, Int.reduceSub, Int.reduceNeg, Int.reduceMul, b0, bD]
  refine Ok.use hpl ?_
  rintro v w2 ⟨rfl, rfl⟩
  have hfi := @idxN_find ((o : Int), R1.done o + 1) R1.notes
  have hnz : R1.notes = zs.map fun z => (z.1.k, (z.1.l, z.1.D)) := h.nz
  cases hi : idxN ((o : Int), R1.done o + 1) R1.notes with
  | none =>
    rw [hi] at hfi
    have hE : elig R1 o = none := by unfold elig; rw [hfi]; rfl
    unfold idxI
    simp (disch := omega) only [push_cast, Nat.reduceBEq, Nat.reduceEqDiff, Nat.reduceAdd, Nat.reduceMul, Nat.reduceSub, Nat.reduceLT, Int.reduceToNat, Int.reduceLT, Int.reduceLE, Int.reduceEq, Int.reduceAdd, Int.reduceSub, Int.reduceNeg, Int.reduceMul]
    refine ⟨k - 1, by omega, o + 1, R1, ov1, ds1, by simp, by omega, h.quiet Upd.drew, hu.drew', hfr, hn, hno, hrun, fun j hj => ?_, hd, hb1, by omega⟩
    by_cases e : j = o
    · rw [e]; exact hE
    · exact hel j (by omega)
  | some i =>
    obtain ⟨x, hx⟩ := idxN_some hi
    rw [hnz, List.getElem?_map] at hx
    cases hz : zs[i]? with
    | none => rw [hz] at hx; cases hx
    | some z =>
      obtain ⟨⟨zk, zl, zD⟩, zv⟩ := z
      rw [hz] at hx
      injection hx with hx
      simp only [Prod.mk.injEq] at hx
      obtain ⟨rfl, rfl⟩ := hx
      have hil : i < zs.length := (List.getElem?_eq_some_iff.1 hz).1
      have hpb := h.pb _ (List.mem_of_getElem? hz)
      obtain ⟨pa, pc, hpv⟩ := hpb.form
      simp only at hpv hpb
      subst hpv
      obtain ⟨g, cap, hv, hgo, hcell⟩ := h.note hz
      have hglt := (own_ge h.nts hgo).2
      subst hv
      have hld := ld_note (w := w2.drew) hcell
      have hf : findS ((o : Int), R1.done o + 1) R1.notes = some (zl, zD) := by
        rw [hi] at hfi
        rw [hfi, hnz]
        simp only [Option.bind_some, List.getElem?_map, hz, Option.map_some]
      have hbits : ∀ j, zD.getLsbD j = true → j < R1.n := fun j hj => by rw [hn]; rw [hno] at hf; exact hbt _ _ hf j hj
      have hoc := ones_cnt (D := zD) (n := R1.n) (by omega) hbits
      have hE : elig R1 o = if R1.n < 2 * cntD zD R1.n then some (zl, zD) else none := by unfold elig; rw [hf, ← hoc]
      have hzl : zl.length ≤ 140737488355328 := by rw [hno] at hf; exact hnl _ _ hf
      have hcle : cntD zD R1.n ≤ R1.n * 1 := sumN_le fun j hj => by split <;> omega
      unfold idxI
      have hio : (0 : Int) ≤ (i : Int) := by omega
      simp (disch := omega) only [push_cast, Nat.reduceBEq, Nat.reduceEqDiff, Nat.reduceAdd, Nat.reduceMul, Nat.reduceSub, Nat.reduceLT, Int.reduceToNat, Int.reduceLT, Int.reduceLE, Int.reduceEq, Int.reduceAdd, Int.reduceSub, Int.reduceNeg, Int.reduceMul, b3, b0, hld]
      refine Ok.use (count_ok (n := R1.n) hob.drew hn12 ((o : Int), R1.done o + 1) pa zl.length pc zl zD) ?_
      rintro v w3 ⟨rfl, hu3'⟩
      have hu3 : Upd (fun _ => False) w2 w3 := Upd.drew.trans hu3' (fun _ _ h => h)
      have h3 := h.quiet hu3
      have hob3 : Blk w3 q (obC R1 (.slice (some ⟨g, 0, none⟩) zs.length cap) ov1) 64 := h3.obj
      have c0 : w3.cell? ⟨q, 0, none⟩ = some (.int .i64 R1.n) := hob3.cell 0
      have c3 : w3.cell? ⟨q, 3, none⟩ = some (.slice (some ⟨g, 0, none⟩) zs.length cap) := hob3.cell 3
      by_cases hmaj : R1.n < 2 * cntD zD R1.n
      rotate_left
      · have hmaj' : ¬ (R1.n : Int) < 2 * ((cntD zD R1.n : Nat) : Int) := by omega
        simp (disch := omega) only [push_cast, Nat.reduceBEq, Nat.reduceEqDiff, Nat.reduceAdd, Nat.reduceMul, Nat.reduceSub, Nat.reduceLT, Int.reduceToNat, Int.reduceLT, Int.reduceLE, Int.reduceEq, Int.reduceAdd, Int.reduceSub, Int.reduceNeg, Int.reduceMul, b3, b0, hld, c0, c3, hmaj']
        have hE0 : elig R1 o = none := by rw [hE, if_neg hmaj]
        refine ⟨k - 1, by omega, o + 1, R1, ov1, ds1, by simp, by omega, h3, hu.trans hu3 (fun _ _ h => h.elim), hfr, hn, hno, hrun, fun j hj => ?_, hd, hb1, by omega⟩
        by_cases e : j = o
        · rw [e]; exact hE0
        · exact hel j (by omega)
      have hmaj' : (R1.n : Int) < 2 * ((cntD zD R1.n : Nat) : Int) := by omega
      have hE1 : elig R1 o = some (zl, zD) := by rw [hE, if_pos hmaj]
      generalize hKs : KS _ _ _ _ _ = Ks
      simp (disch := omega) only [push_cast, Nat.reduceBEq, Nat.reduceEqDiff, Nat.reduceAdd, Nat.reduceMul, Nat.reduceSub, Nat.reduceLT, Int.reduceToNat, Int.reduceLT, Int.reduceLE, Int.reduceEq, Int.reduceAdd, Int.reduceSub, Int.reduceNeg, Int.reduceMul, b3, b0, hld, c0, c3, hmaj']
      subst hKs
      rw [KS_nor]
      have cD : w3.cell? ⟨q, 4 + o, none⟩ = some (.int .i64 (R1.done o)) := by rw [hob3.cell]; exact obC_done (by omega)
      have fD := hob3.free (4 + o)
      generalize hc6 : Code.seq (Code.region 6 _ _) _ = c6
      simp (disch := omega) only [push_cast, Nat.reduceBEq, Nat.reduceEqDiff, Nat.reduceAdd, Nat.reduceMul, Nat.reduceSub, Nat.reduceLT, Int.reduceToNat, Int.reduceLT, Int.reduceLE, Int.reduceEq, Int.reduceAdd, Int.reduceSub, Int.reduceNeg, Int.reduceMul, cD, fD]
      subst hc6
      have hkn : Knd w3 g 87 := own_ty h3.nts hgo
      have hgq : g ≠ q := fun e => hkn.ne ⟨_, by rw [e]; exact hob3⟩ (by decide)
      have hoq : ∀ g', ov1.ownBlock = some g' → g' ≠ q := fun g' hg' e => by
        obtain ⟨cs, hb⟩ := own_ty h3.own hg'
        rw [e] at hb
        exact absurd (hb.ty hob3) (by decide)
      have u34 : Upd (fun b => b = q) w3 (w3.setCell ⟨q, 4 + o, none⟩ (.int .i64 (R1.done o + 1))).drew := (Upd.set (F := fun b => b = q) rfl).drew'
      have hob4 : Blk (w3.setCell ⟨q, 4 + o, none⟩ (.int .i64 (R1.done o + 1))).drew q (obC { R1 with done := fun i => if i = o then R1.done o + 1 else R1.done i } (.slice (some ⟨g, 0, none⟩) zs.length cap) ov1) 64 := by
        have := (hob3.set (4 + o) (.int .i64 (R1.done o + 1))).drew
        rwa [obC_setD (by omega)] at this
      have kp34 := kp_new u34 hob3 (by decide) h3.bq
      have h4 : RA base (w3.setCell ⟨q, 4 + o, none⟩ (.int .i64 (R1.done o + 1))).drew q { R1 with done := fun i => if i = o then R1.done o + 1 else R1.done i } (.slice (some ⟨g, 0, none⟩) zs.length cap) ov1 zs ds1 :=
        ⟨hob4, h3.bq, own_updB h3.nts u34 (fun g' hg' e => by rw [hgo] at hg'; injection hg' with hg'; exact hgq (hg'.trans e)), h3.nz, fun z hz => (h3.pb z hz).keep kp34, own_updB h3.own u34 hoq, h3.lst.keep kp34, h3.n12⟩
      generalize (w3.setCell ⟨q, 4 + o, none⟩ (.int .i64 (R1.done o + 1))).drew = w4 at *
      have hn4 : w4.cell? ⟨g, i * 15 + 2, none⟩ = some (.slice pa zl.length pc) := by
        obtain ⟨g', cap', hv', _, hcell'⟩ := h4.note hz
        injection hv' with e1 _ _
        simp only [Option.some.injEq, Addr.mk.injEq, and_true] at e1
        subst e1
        rw [hcell' 2 (by omega)]
        rfl
      have hpb4 : PB base w4 (.slice pa zl.length pc) zl := h4.pb _ (List.mem_of_getElem? hz)
      have hg4 : g < w4.heap.size := by have := u34.size; have := hu3.size; omega
      have fct : ∀ {w' : World}, Upd (fun _ => False) w4 w' → Blk w' q (obC { R1 with done := fun i => if i = o then R1.done o + 1 else R1.done i } (.slice (some ⟨g, 0, none⟩) zs.length cap) ov1) 64 ∧ w'.cell? ⟨q, 3, none⟩ = some (.slice (some ⟨g, 0, none⟩) zs.length cap) ∧ w'.cell? ⟨q, 4 + o, none⟩ = some (.int .i64 (R1.done o + 1)) ∧ w'.cell? ⟨q, 16, none⟩ = some ov1 ∧ w'.cell? ⟨g, i * 15 + 2, none⟩ = some (.slice pa zl.length pc) := fun u => by
        have hb := hob4.upd u (fun h => h)
        refine ⟨hb, hb.cell 3, ?_, ?_, ?_⟩
        · rw [hb.cell, obC_done (by omega)]
          simp
        · rw [hb.cell]; exact obC_out
        · rw [World.cell?_of_block (a := ⟨g, i * 15 + 2, none⟩) (u.block g hg4 (fun h => h))]; exact hn4
      obtain ⟨oa, oc, rfl⟩ := own_slice h4.own
      obtain ⟨_, x3, xD, xO, xN⟩ := fct (Upd.refl)
      have hba := Blk.new (w := w4) (cs := []) (E := 5)
      have uA : Upd (fun _ => False) w4 (w4.alloc (.cells #[] 5 (0, 0))) := Upd.alloc
      obtain ⟨_, a3, aD, aO, aN⟩ := fct uA
      have hql := hob4.lt
      rw [W_seq]
      generalize hKs : KS _ _ _ _ _ = Ks
      simp (disch := omega) only [push_cast, Nat.reduceBEq, Nat.reduceEqDiff, Nat.reduceAdd, Nat.reduceMul, Nat.reduceSub, Nat.reduceLT, Int.reduceToNat, Int.reduceLT, Int.reduceLE, Int.reduceEq, Int.reduceAdd, Int.reduceSub, Int.reduceNeg, Int.reduceMul, x3, xD, xO, xN, a3, aD, aO, aN, bsl_bytes0]
      have uA' : Upd (fun _ => False) w4 (w4.alloc (.cells #[] 5 (0, 0))).drew := uA.drew'
      refine app_by (w := (w4.alloc (.cells #[] 5 (0, 0))).drew) (Bow.empty hba.drew) ((hpb4.keep (Kp.quiet uA')).slb) (by rw [List.length_nil]; omega) ?_
      intro vx w5 hx5 hu5 _
      rw [List.nil_append] at hx5
      have u5 : Upd (fun _ => False) w4 w5 := uA'.trans hu5 (fun b h1 h2 => by simp [Value.ownBlock] at h2; omega)
      have hv5 := PB.bow (base := base) hpb4.1 hx5
      obtain ⟨va, vc, rfl⟩ := hv5.form
      obtain ⟨_, y3, yD, yO, yN⟩ := fct u5
      have n6 := Blk.new (w := w5) (cs := [.int .i64 o, .int .i64 (R1.done o + 1), .slice va zl.length vc]) (E := 69)
      have u6 : Upd (fun _ => False) w5 (w5.alloc (.cells [.int .i64 o, .int .i64 (R1.done o + 1), .slice va zl.length vc].toArray 69 (0, 0))) := Upd.alloc
      have u46 := u5.trans u6 (fun _ _ h => h)
      obtain ⟨hob6, z3, zD', zO, zN⟩ := fct u46
      have hdl : ds1.length < 1000000 := by rw [h4.lst.1]; simp only; omega
      have s45 := u5.size
      have s46 := u46.size
      simp (disch := omega) only [push_cast, Nat.reduceBEq, Nat.reduceEqDiff, Nat.reduceAdd, Nat.reduceMul, Nat.reduceSub, Nat.reduceLT, Int.reduceToNat, Int.reduceLT, Int.reduceLE, Int.reduceEq, Int.reduceAdd, Int.reduceSub, Int.reduceNeg, Int.reduceMul, x3, xD, xO, xN, a3, aD, aO, aN, bsl_bytes0, y3, yD, yO, yN, z3, zD', zO, zN, bld_dl, bsl_dl]
      refine app_rec (s := 3) (by_ := 40) t59_e t69_s t69_b t69_z rfl (by omega) (own_updB h4.own u46 (fun _ _ h => h)) rfl (by have := h4.bq; omega) n6 ?_ hdl (by omega) ?_
      · intro u hu
        simp at hu
        rcases hu with rfl | rfl | rfl <;> rfl
      intro lv2 w8 ho8 hu8 hf8
      obtain ⟨a2, c2, rfl⟩ := own_slice ho8
      have hob8 := hob6.upd hu8 (fun e => hoq _ e rfl)
      have v16 : w8.cell? ⟨q, 16, none⟩ = some (.slice oa ds1.length oc) := by rw [hob8.cell]; exact obC_out
      have f16 := hob8.free 16
      simp (disch := omega) only [push_cast, Nat.reduceBEq, Nat.reduceEqDiff, Nat.reduceAdd, Nat.reduceMul, Nat.reduceSub, Nat.reduceLT, Int.reduceToNat, Int.reduceLT, Int.reduceLE, Int.reduceEq, Int.reduceAdd, Int.reduceSub, Int.reduceNeg, Int.reduceMul, x3, xD, xO, xN, a3, aD, aO, aN, bsl_bytes0, y3, yD, yO, yN, z3, zD', zO, zN, bld_dl, bsl_dl, v16, f16]
      have u89 : Upd (fun b => b = q) w8 (w8.setCell ⟨q, 16, none⟩ (.slice a2 (ds1.length + 1) c2)) := Upd.set rfl
      have hob9 := hob8.set 16 (.slice a2 (ds1.length + 1) c2)
      rw [obC_setO] at hob9
      have s89 : (w8.setCell ⟨q, 16, none⟩ (.slice a2 (ds1.length + 1) c2)).heap.size = w8.heap.size := size_set
      generalize (w8.setCell ⟨q, 16, none⟩ (.slice a2 (ds1.length + 1) c2)) = w9 at *
      have v49 : Upd (FtR q (.slice oa ds1.length oc)) w4 w9 := ((u46.mono (fun _ _ h => h.elim)).trans hu8 (fun b _ h => .inr h)).trans u89 (fun b _ h => .inl h)
      have hkF : ∀ b, FtR q (.slice oa ds1.length oc) b → Knd w4 b 64 ∨ Knd w4 b 69 := by
        rintro b (rfl | hb)
        · exact .inl ⟨_, hob4⟩
        · exact .inr (own_ty h4.own hb)
      have kp49 : Kp base w4 w9 := kp_kind v49 fun b hb => by
        refine ⟨?_, ?_⟩
        · rcases hb with rfl | hb
          · exact h4.bq
          · exact (own_ge h4.own hb).1
        · rcases hkF b hb with h | h
          · exact ⟨_, h, by decide⟩
          · exact ⟨_, h, by decide⟩
      have kp59 : Kp base w5 w9 := by
        have u56' : Upd (FtR q (.slice oa ds1.length oc)) w5 w9 := ((u6.mono (fun _ _ h => h.elim)).trans hu8 (fun b _ h => .inr h)).trans u89 (fun b _ h => .inl h)
        refine kp_kind u56' fun b hb => ?_
        have hbl : b < w4.heap.size := by
          rcases hb with rfl | hb
          · exact hob4.lt
          · exact (own_ge h4.own hb).2
        have hkk : ∀ E, Knd w4 b E → Knd w5 b E := fun E ⟨cs, hc⟩ => ⟨cs, hc.upd u5 (fun h => h)⟩
        refine ⟨?_, ?_⟩
        · rcases hb with rfl | hb
          · exact h4.bq
          · exact (own_ge h4.own hb).1
        · rcases hkF b hb with h | h
          · exact ⟨_, hkk _ h, by decide⟩
          · exact ⟨_, hkk _ h, by decide⟩
      have hnown : ∀ g', (Value.slice a2 (ds1.length + 1) c2).ownBlock = some g' → g' ≠ q := fun g' hg' e => by
        rcases hf8 g' hg' with h | h
        · exact hoq g' h e
        · have := hob4.lt; have := u46.size; omega
      have h9 : RA base w9 q (delS R1 o zl) (.slice (some ⟨g, 0, none⟩) zs.length cap) (.slice a2 (ds1.length + 1) c2) zs (ds1 ++ [(((o : Int), R1.done o + 1), .slice va zl.length vc)]) := by
        refine ⟨hob9, h4.bq, own_updB h4.nts v49 (fun g' hg' hF => ?_), h4.nz, fun z hz => (h4.pb z hz).keep kp49, ?_, ⟨by simp [delS, h4.lst.1], ?_⟩, h4.n12⟩
        · rw [hgo] at hg'
          injection hg' with hg'
          subst hg'
          have hk4 : Knd w4 g 87 := own_ty h4.nts hgo
          rcases hkF g hF with h | h
          · exact hk4.ne h (by decide)
          · exact hk4.ne h (by decide)
        · rw [List.length_append, List.flatMap_append]
          exact own_updB ho8 u89 hnown
        · intro j d hj
          rw [List.getElem?_append] at hj
          split at hj
          · rename_i hjl
            obtain ⟨l', e1, e2⟩ := h4.lst.2 j d hj
            refine ⟨l', ?_, e2.keep kp49⟩
            show (R1.list ++ _)[j]? = _
            rw [List.getElem?_append_left (by have := h4.lst.1; simp only at this; omega)]
            exact e1
          · rename_i hjl
            have hj0 : j - ds1.length = 0 := by
              rw [List.getElem?_eq_some_iff] at hj
              obtain ⟨hj, _⟩ := hj
              simp at hj
              omega
            rw [hj0] at hj
            simp only [List.getElem?_cons_zero, Option.some.injEq] at hj
            subst hj
            refine ⟨zl, ?_, hv5.keep kp59⟩
            show (R1.list ++ _)[j]? = _
            have hle : ds1.length = R1.list.length := h4.lst.1
            rw [List.getElem?_append_right (by omega), ← hle, hj0]
            rfl
      have hrem := remS_del hE1
      subst hKs
      rw [KS_nor]
      simp (disch := omega) only [push_cast, Nat.reduceBEq, Nat.reduceEqDiff, Nat.reduceAdd, Nat.reduceMul, Nat.reduceSub, Nat.reduceLT, Int.reduceToNat, Int.reduceLT, Int.reduceLE, Int.reduceEq, Int.reduceAdd, Int.reduceSub, Int.reduceNeg, Int.reduceMul]
      refine ⟨k - 1, by omega, 0, delS R1 o zl, _, _, by simp, Nat.zero_le _, h9, ?_, ?_, hn, hno, fun R2 h => hrun R2 (.step ho hE1 hel h), fun j hj => by omega, fun j => ?_, ?_, ?_⟩
      · refine ((hu.trans hu3 (fun _ _ h => h.elim)).trans u34 (fun b _ h => .inl h)).trans v49 (fun b hb h => ?_)
        rcases h with h | h
        · exact .inl h
        · rcases hfr b h with h | h
          · exact .inr h
          · omega
      · intro g' hg'
        have := hu.size
        have := hu3.size
        have := u34.size
        rcases hf8 g' hg' with h | h
        · exact hfr g' h
        · exact .inr (by omega)
      · have := hd j
        simp only [delS]
        split <;> simp <;> omega
      · simp only [delS, List.length_append, List.length_singleton] at hrem ⊢
        omega
      · simp only [delS] at hrem ⊢
        omega
end Go.Proofs.Ytpgfokhpacdhjaa.Fd
