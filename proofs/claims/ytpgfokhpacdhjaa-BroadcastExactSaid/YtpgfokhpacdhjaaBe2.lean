/-
  The reference: packet, Stable.
-/
import Derived.Test.YtpgfokhpacdhjaaBe1
namespace Go.Proofs.Ytpgfokhpacdhjaa.Fd
set_option linter.unusedSimpArgs false
set_option linter.unusedVariables false
open Go Go.ChangeMaps
set_option maxRecDepth 100000

theorem rnC_len {x : Rn × Value} : (rnC x).length = 15 := by simp [rnC, knV]
theorem ld_note {w : World} {g i : Nat} {z : Rn × Value} (h : ∀ r, r < 15 → w.cell? ⟨g, i * 15 + r, none⟩ = (rnC z)[r]?) : ldS Try.prog 87 (.pointer (some ⟨g, i * 15, none⟩)) w = some (rnV z, w) := by
  refine ld_agg (P := Try.prog) (by kernel_rfl) (by rw [rnC_len]; kernel_rfl) fun j hj => ?_
  rw [rnC_len] at hj
  rw [← h j hj]
  congr 1
  unfold Addr.add
  by_cases hj0 : j = 0
  · subst hj0; rfl
  · simp [hj0]
set_option maxHeartbeats 2000000 in
theorem rpacket_ok {base : Nat} {w : World} {q self : Nat} {n : Int} {cs : List Value} (hq : Blk w q (.int .i64 n :: .int .i64 self :: cs) 64) (kind to : Int) (x : Rn × Value) (hx : PB base w x.2 x.1.l) (hl : x.1.l.length ≤ 140737488355328) (hbw : base ≤ w.heap.size) :
    Ok (den Try.prog 35 #[.pointer (some ⟨q, 0, none⟩), .int .i64 kind, .int .i64 to, rnV x] w) fun v w' => ∃ pv, v = pkV (⟨kind, self, to, x.1.k.1, x.1.k.2, if kind = 1 then x.1.l else []⟩, pv) ∧ PB base w' pv (if kind = 1 then x.1.l else []) ∧ Upd (fun _ => False) w w' := by
  refine den_okC1 (args := [.pointer (some ⟨q, 0, none⟩), .int .i64 kind, .int .i64 to, rnV x]) 8 46 Try.func35 rfl mixed in35 ok35 rfl ?_
  obtain ⟨⟨k, l, D⟩, xv⟩ := x
  simp only at hx hl
  obtain ⟨xa, xc, rfl⟩ := hx.form
  have b0 := Blk.new (w := w) (cs := rnC (⟨k, l, D⟩, .slice xa l.length xc)) (E := 87)
  have u0 : Upd (fun _ => False) w (w.alloc (.cells (rnC (⟨k, l, D⟩, .slice xa l.length xc)).toArray 87 (0, 0))) := Upd.alloc
  rw [W_seq]
  generalize hKs : KS _ _ _ _ _ = Ks
  simp (disch := omega) only [push_cast, Nat.reduceBEq, Nat.reduceEqDiff, Nat.reduceAdd, Nat.reduceMul, Nat.reduceSub, Nat.reduceLT, Int.reduceToNat, Int.reduceLT, Int.reduceLE, Int.reduceEq, Int.reduceAdd, Int.reduceSub, Int.reduceNeg, Int.reduceMul, rnV]
  have b1 := Blk.new (w := w.alloc (.cells (rnC (⟨k, l, D⟩, .slice xa l.length xc)).toArray 87 (0, 0))) (cs := [.int .i64 0, .int .i64 0, .int .i64 0, .int .i64 0, .int .i64 0, .slice none 0 0]) (E := 46)
  have b0 := b0.alloc (.cells [.int .i64 0, .int .i64 0, .int .i64 0, .int .i64 0, .int .i64 0, .slice none 0 0].toArray 46 (0, 0))
  have u1 := u0.alloc' (o := .cells [.int .i64 0, .int .i64 0, .int .i64 0, .int .i64 0, .int .i64 0, .slice none 0 0].toArray 46 (0, 0))
  rw [size_alloc] at b1
  generalize (w.alloc (.cells (rnC (⟨k, l, D⟩, .slice xa l.length xc)).toArray 87 (0, 0))).alloc (.cells [.int .i64 0, .int .i64 0, .int .i64 0, .int .i64 0, .int .i64 0, .slice none 0 0].toArray 46 (0, 0)) = w2 at *
  have hq2 := hq.upd u1 (fun h => h)
  have hx2 := hx.keep (Kp.quiet u1)
  unfold rnC at b0
  simp only [List.cons_append, List.nil_append] at b0
  have u3 : Upd (fun _ => False) w2 (w2.alloc (.cells #[.int .i64 0, .int .i64 0, .int .i64 0, .int .i64 0, .int .i64 0, .slice none 0 0] 46 (0, 0))) := Upd.alloc
  have hq3 := hq2.upd u3 (fun h => h)
  have c0 := b0.upd u3 (fun h => h)
  have c9 : Blk (w2.alloc (.cells #[.int .i64 0, .int .i64 0, .int .i64 0, .int .i64 0, .int .i64 0, .slice none 0 0] 46 (0, 0))) w2.heap.size [.int .i64 0, .int .i64 0, .int .i64 0, .int .i64 0, .int .i64 0, .slice none 0 0] 46 := Blk.new
  subst hKs
  rw [KS_nor]
  rw [W_seq]
  generalize hKs : KS _ _ _ _ _ = Ks
  simp (disch := omega) only [push_cast, Nat.reduceBEq, Nat.reduceEqDiff, Nat.reduceAdd, Nat.reduceMul, Nat.reduceSub, Nat.reduceLT, Int.reduceToNat, Int.reduceLT, Int.reduceLE, Int.reduceEq, Int.reduceAdd, Int.reduceSub, Int.reduceNeg, Int.reduceMul, hq2.cell, b0.cell, bld_pk5, hq3.cell, c0.cell, st_pk c9.drew rfl]
  have d9 := c9.drew.setRow (cs' := [.int .i64 kind, .int .i64 self, .int .i64 to, .int .i64 k.1, .int .i64 k.2, .slice none 0 0])
  have u4 : Upd (fun _ => False) w2 ((w2.alloc (.cells #[.int .i64 0, .int .i64 0, .int .i64 0, .int .i64 0, .int .i64 0, .slice none 0 0] 46 (0, 0))).drew.setRow w2.heap.size [.int .i64 kind, .int .i64 self, .int .i64 to, .int .i64 k.1, .int .i64 k.2, .slice none 0 0].toArray) :=
    (u3.trans Upd.drew (fun _ _ h => h)).trans (Upd.setRow (F := fun b => b = w2.heap.size) rfl) (fun b h1 h2 => by omega)
  clear hq3 c0 c9 u3
  generalize (w2.alloc (.cells #[.int .i64 0, .int .i64 0, .int .i64 0, .int .i64 0, .int .i64 0, .slice none 0 0] 46 (0, 0))).drew.setRow w2.heap.size [.int .i64 kind, .int .i64 self, .int .i64 to, .int .i64 k.1, .int .i64 k.2, .slice none 0 0].toArray = w4 at *
  have e0 := b0.upd u4 (fun h => h)
  have e1 := b1.upd u4 (fun h => h)
  have hx4 := hx2.keep (Kp.quiet u4)
  have hu4 := u1.trans u4 (fun _ _ h => h)
  have hs1 : w.heap.size + 1 < w2.heap.size := b1.lt
  subst hKs
  rw [KS_nor]
  by_cases hk : kind = 1
  · rw [if_pos hk]
    subst hk
    have hba := Blk.new (w := w4) (cs := []) (E := 5)
    have uA : Upd (fun _ => False) w4 (w4.alloc (.cells #[] 5 (0, 0))) := Upd.alloc
    have eA := e0.upd uA (fun h => h)
    rw [W_seq]
    generalize hKs : KS _ _ _ _ _ = Ks
    simp (disch := omega) only [push_cast, Nat.reduceBEq, Nat.reduceEqDiff, Nat.reduceAdd, Nat.reduceMul, Nat.reduceSub, Nat.reduceLT, Int.reduceToNat, Int.reduceLT, Int.reduceLE, Int.reduceEq, Int.reduceAdd, Int.reduceSub, Int.reduceNeg, Int.reduceMul, bsl_bytes0, eA.cell]
    refine app_by (w := w4.alloc (.cells #[] 5 (0, 0))) (Bow.empty hba) ((hx4.keep (Kp.quiet uA)).slb) (by rw [List.length_nil]; omega) ?_
    intro vx w5 hx5 hu5 _
    rw [List.nil_append] at hx5
    have u5 : Upd (fun _ => False) w4 w5 := uA.trans hu5 (fun b h1 h2 => by simp [Value.ownBlock] at h2; omega)
    have hv5 := PB.bow (base := base) hx.1 hx5
    obtain ⟨va, vc, rfl⟩ := hv5.form
    have d5 := d9.upd u5 (fun h => h)
    have e5 := e1.upd u5 (fun h => h)
    simp (disch := omega) only [push_cast, Nat.reduceBEq, Nat.reduceEqDiff, Nat.reduceAdd, Nat.reduceMul, Nat.reduceSub, Nat.reduceLT, Int.reduceToNat, Int.reduceLT, Int.reduceLE, Int.reduceEq, Int.reduceAdd, Int.reduceSub, Int.reduceNeg, Int.reduceMul, d5.cell, d5.free]
    have ux : Upd (fun b => b = w2.heap.size) w5 (w5.setCell ⟨w2.heap.size, 5, none⟩ (.slice va l.length vc)) := Upd.set rfl
    have d6 := d5.set 5 (.slice va l.length vc)
    have e6 := e5.upd ux (by omega)
    have s02 := u1.size
    have hv6 := hv5.keep (kp_new ux d5 (by decide) (by omega))
    have hu6 : Upd (fun _ => False) w (w5.setCell ⟨w2.heap.size, 5, none⟩ (.slice va l.length vc)) := (hu4.trans u5 (fun _ _ h => h)).trans ux (fun b h1 h2 => by omega)
    generalize w5.setCell ⟨w2.heap.size, 5, none⟩ (.slice va l.length vc) = w6 at *
    simp only [List.set_cons_succ, List.set_cons_zero] at d6
    have f1 := e6.setRow (cs' := [.int .i64 1, .int .i64 self, .int .i64 to, .int .i64 k.1, .int .i64 k.2, .slice va l.length vc])
    subst hKs
    rw [KS_nor]
    simp (disch := omega) only [push_cast, Nat.reduceBEq, Nat.reduceEqDiff, Nat.reduceAdd, Nat.reduceMul, Nat.reduceSub, Nat.reduceLT, Int.reduceToNat, Int.reduceLT, Int.reduceLE, Int.reduceEq, Int.reduceAdd, Int.reduceSub, Int.reduceNeg, Int.reduceMul, ld_blk (P := Try.prog) (t := 46) d6 (by kernel_rfl) (by kernel_rfl), st_pk e6 rfl, f1.cell]
    have uy : Upd (fun b => b = w.heap.size + 1) w6 (w6.setRow (w.heap.size + 1) [.int .i64 1, .int .i64 self, .int .i64 to, .int .i64 k.1, .int .i64 k.2, .slice va l.length vc].toArray) := Upd.setRow rfl
    exact ⟨.slice va l.length vc, rfl, hv6.keep (kp_new uy e6 (by decide) (by omega)), hu6.trans uy (fun b h1 h2 => by omega)⟩
  · rw [if_neg hk]
    have f1 := e1.setRow (cs' := [.int .i64 kind, .int .i64 self, .int .i64 to, .int .i64 k.1, .int .i64 k.2, .slice none 0 0])
    rw [W_seq]
    generalize hKs : KS _ _ _ _ _ = Ks
    simp (disch := omega) only [push_cast, Nat.reduceBEq, Nat.reduceEqDiff, Nat.reduceAdd, Nat.reduceMul, Nat.reduceSub, Nat.reduceLT, Int.reduceToNat, Int.reduceLT, Int.reduceLE, Int.reduceEq, Int.reduceAdd, Int.reduceSub, Int.reduceNeg, Int.reduceMul, hk]
    subst hKs
    rw [KS_nor]
    simp (disch := omega) only [push_cast, Nat.reduceBEq, Nat.reduceEqDiff, Nat.reduceAdd, Nat.reduceMul, Nat.reduceSub, Nat.reduceLT, Int.reduceToNat, Int.reduceLT, Int.reduceLE, Int.reduceEq, Int.reduceAdd, Int.reduceSub, Int.reduceNeg, Int.reduceMul, ld_blk (P := Try.prog) (t := 46) d9 (by kernel_rfl) (by kernel_rfl), st_pk e1 rfl, f1.cell]
    exact ⟨.slice none 0 0, rfl, PB.nil, hu4.trans (Upd.setRow (F := fun b => b = w.heap.size + 1) rfl) (fun b h1 h2 => by omega)⟩
theorem RA.quiet {base : Nat} {w w' : World} {q : Nat} {R : PS} {nv ov : Value} {zs : List (Rn × Value)} {ds : List (NP × Value)} (h : RA base w q R nv ov zs ds) (u : Upd (fun _ => False) w w') : RA base w' q R nv ov zs ds :=
  ⟨h.obj.upd u (fun h => h), h.bq, own_updB h.nts u (fun _ _ h => h), h.nz, fun z hz => (h.pb z hz).keep (Kp.quiet u), own_updB h.own u (fun _ _ h => h), h.lst.keep (Kp.quiet u), h.n12⟩
theorem idxN_some {k : NP} : ∀ {l : List (NP × (List Int × BitVec 16))} {i : Nat}, idxN k l = some i → ∃ x, l[i]? = some (k, x)
  | [], i, h => by cases h
  | (k', y) :: r, i, h => by
    unfold idxN at h
    by_cases e : k = k'
    · rw [if_pos e] at h
      cases h
      exact ⟨y, by rw [e]; rfl⟩
    · rw [if_neg e] at h
      cases hi : idxN k r with
      | none => rw [hi] at h; cases h
      | some j =>
        rw [hi] at h
        cases h
        obtain ⟨x, hx⟩ := idxN_some hi
        exact ⟨x, by simpa using hx⟩
def stB (R : PS) (k : NP) : Bool := match findS k R.notes with
  | some x => decide (cntD x.2 R.n = R.n)
  | none => false
set_option maxHeartbeats 2000000 in
theorem rStable_ok {base : Nat} {w : World} {q : Nat} {R : PS} {nv ov : Value} {zs : List (Rn × Value)} {ds : List (NP × Value)} (h : RA base w q R nv ov zs ds) (k : NP) (hl : zs.length < 1000000) :
    Ok (den Try.prog 26 #[.pointer (some ⟨q, 0, none⟩), .int .i64 k.1, .int .i64 k.2] w) fun v w' => v = .bool (stB R k) ∧ Upd (fun _ => False) w w' := by
  obtain ⟨na, nc, rfl⟩ := own_slice h.nts
  refine den_ok (args := [.pointer (some ⟨q, 0, none⟩), .int .i64 k.1, .int .i64 k.2]) rs26 Try.func26 rfl mixed in26 ok26 rfl ?_
  have hn12 := h.n12
  simp (disch := omega) only [push_cast, Nat.reduceBEq, Nat.reduceEqDiff, Nat.reduceAdd, Nat.reduceMul, Nat.reduceSub, Nat.reduceLT, Int.reduceToNat, Int.reduceLT, Int.reduceLE, Int.reduceEq, Int.reduceAdd, Int.reduceSub, Int.reduceNeg, Int.reduceMul]
  refine Ok.use (place_ok h k hl) ?_
  rintro v w1 ⟨rfl, rfl⟩
  have hob := h.obj
  have hob3 := hob.cell 3
  have hob0 := hob.cell 0
  simp only [List.cons_append, List.nil_append, List.getElem?_cons_succ, List.getElem?_cons_zero] at hob3 hob0
  have hst : stB R k = match (idxN k R.notes).bind fun i => (R.notes[i]?).map (·.2) with
      | some x => decide (cntD x.2 R.n = R.n)
      | none => false := by unfold stB; rw [idxN_find]
  cases hi : idxN k R.notes with
  | none =>
    rw [hi] at hst
    unfold idxI
    simp (disch := omega) only [push_cast, Nat.reduceBEq, Nat.reduceEqDiff, Nat.reduceAdd, Nat.reduceMul, Nat.reduceSub, Nat.reduceLT, Int.reduceToNat, Int.reduceLT, Int.reduceLE, Int.reduceEq, Int.reduceAdd, Int.reduceSub, Int.reduceNeg, Int.reduceMul]
    exact ⟨by rw [hst]; rfl, Upd.drew⟩
  | some i =>
    obtain ⟨x, hx⟩ := idxN_some hi
    rw [h.nz, List.getElem?_map] at hx
    cases hz : zs[i]? with
    | none => rw [hz] at hx; cases hx
    | some z =>
      obtain ⟨⟨zk, zl, zD⟩, zv⟩ := z
      rw [hz] at hx
      injection hx with hx
      simp only [Prod.mk.injEq] at hx
      obtain ⟨rfl, rfl⟩ := hx
      have hil : i < zs.length := (List.getElem?_eq_some_iff.1 hz).1
      obtain ⟨g, cap, hv, _, hcell⟩ := h.note hz
      injection hv with e1 _ e3
      subst e1
      subst e3
      have hld := ld_note (w := w1.drew) hcell
      obtain ⟨pa, pc, hpv⟩ := (h.pb _ (List.mem_of_getElem? hz)).form
      simp only at hpv
      subst hpv
      rw [hi, h.nz] at hst
      simp only [Option.bind_some, List.getElem?_map, hz, Option.map_some] at hst
      unfold idxI
      have hio : (0 : Int) ≤ (i : Int) := by omega
      simp (disch := omega) only [push_cast, Nat.reduceBEq, Nat.reduceEqDiff, Nat.reduceAdd, Nat.reduceMul, Nat.reduceSub, Nat.reduceLT, Int.reduceToNat, Int.reduceLT, Int.reduceLE, Int.reduceEq, Int.reduceAdd, Int.reduceSub, Int.reduceNeg, Int.reduceMul, hob3, hob0, hld]
      refine Ok.use (count_ok (n := R.n) h.obj.drew hn12 zk pa zl.length pc zl zD) ?_
      rintro v w2 ⟨rfl, hu2⟩
      have hob2 := (h.obj.drew.upd hu2 (fun h => h)).cell 0
      have hob2' := (h.obj.drew.upd hu2 (fun h => h)).cell 3
      simp only [List.cons_append, List.nil_append, List.getElem?_cons_succ, List.getElem?_cons_zero] at hob2 hob2'
      by_cases hcn : cntD zD R.n = R.n
      · have hcn' : ((cntD zD R.n : Nat) : Int) = (R.n : Int) := by omega
        simp (disch := omega) only [push_cast, Nat.reduceBEq, Nat.reduceEqDiff, Nat.reduceAdd, Nat.reduceMul, Nat.reduceSub, Nat.reduceLT, Int.reduceToNat, Int.reduceLT, Int.reduceLE, Int.reduceEq, Int.reduceAdd, Int.reduceSub, Int.reduceNeg, Int.reduceMul, hob3, hob0, hld, hob2, hob2', hcn']
        exact ⟨by rw [hst]; simp [hcn], Upd.drew.trans hu2 (fun _ _ h => h)⟩
      · have hcn' : ¬ ((cntD zD R.n : Nat) : Int) = (R.n : Int) := by omega
        simp (disch := omega) only [push_cast, Nat.reduceBEq, Nat.reduceEqDiff, Nat.reduceAdd, Nat.reduceMul, Nat.reduceSub, Nat.reduceLT, Int.reduceToNat, Int.reduceLT, Int.reduceLE, Int.reduceEq, Int.reduceAdd, Int.reduceSub, Int.reduceNeg, Int.reduceMul, hob3, hob0, hld, hob2, hob2', hcn']
        exact ⟨by rw [hst]; simp [hcn], Upd.drew.trans hu2 (fun _ _ h => h)⟩
end Go.Proofs.Ytpgfokhpacdhjaa.Fd
