/-
  The reference: SamePackets, SameDeliveries, Resend. The reference: a bit of a note is set. The steps of BroadcastExact, opened.
-/
import Derived.Test.YtpgfokhpacdhjaaBe4
import Derived.Test.YtpgfokhpacdhjaaBe7
import Derived.Test.YtpgfokhpacdhjaaBcA
import Derived.SizedLaws
import Derived.Deep.Slices
import Derived.Deep.Strs
namespace Go.Proofs.Ytpgfokhpacdhjaa.Fd
set_option linter.unusedSimpArgs false
set_option linter.unusedVariables false
open Go Go.ChangeMaps
set_option maxRecDepth 100000

set_option maxHeartbeats 4000000 in
theorem same_ok {base B B' : Nat} {w : World} {a b : Value} {ps : List Pk} (ha : OwnK base B w a ps) (hb : OwnK base B' w b ps) (hl : ps.length < 1000000) :
    Ok (den Try.prog 21 #[a, b] w) fun v w' => v = .bool true ∧ Upd (fun _ => False) w w' := by
  obtain ⟨a1, c1, rfl⟩ := ha.form
  obtain ⟨a2, c2, rfl⟩ := hb.form
  refine den_ok (args := [.slice a1 ps.length c1, .slice a2 ps.length c2]) rs21 Try.func21 rfl mixed in21 ok21 rfl ?_
  simp (disch := omega) only [push_cast, Nat.reduceBEq, Nat.reduceEqDiff, Nat.reduceAdd, Nat.reduceMul, Nat.reduceSub, Nat.reduceLT, Int.reduceToNat, Int.reduceLT, Int.reduceLE, Int.reduceEq, Int.reduceAdd, Int.reduceSub, Int.reduceNeg, Int.reduceMul]
  refine loop_inv (I := fun k st w' => Bx (∃ i : Nat, k + i = ps.length ∧ st = [.int .i64 (i : Int)] ∧ Upd (fun _ => False) w w') ⟨⟩) ?_ ps.length ⟨0, rfl, rfl, Upd.refl⟩
  rintro k st w2 ⟨i, hk, rfl, hu⟩
  have ha2 := ha.quiet hu
  have hb2 := hb.quiet hu
  by_cases hk0 : k = 0
  · obtain rfl : i = ps.length := by omega
    simp (disch := omega) only [push_cast, Nat.reduceBEq, Nat.reduceEqDiff, Nat.reduceAdd, Nat.reduceMul, Nat.reduceSub, Nat.reduceLT, Int.reduceToNat, Int.reduceLT, Int.reduceLE, Int.reduceEq, Int.reduceAdd, Int.reduceSub, Int.reduceNeg, Int.reduceMul]
    exact hu
  have hi : i < ps.length := by omega
  have hz := List.getElem?_eq_getElem hi
  generalize ps[i] = z at *
  obtain ⟨g, cap, pv, hv, _, hpv, hcell⟩ := ha2.get hz
  injection hv with e1 _ e3
  subst e1
  subst e3
  obtain ⟨g', cap', pv', hv', _, hpv', hcell'⟩ := hb2.get hz
  injection hv' with e1 _ e3
  subst e1
  subst e3
  obtain ⟨pa, pc, rfl⟩ := hpv.form
  obtain ⟨pa', pc', rfl⟩ := hpv'.form
  have q0 := hcell 0 (by omega)
  have q1 := hcell 1 (by omega)
  have q2 := hcell 2 (by omega)
  have q3 := hcell 3 (by omega)
  have q4 := hcell 4 (by omega)
  have q5 := hcell 5 (by omega)
  have r0 := hcell' 0 (by omega)
  have r1 := hcell' 1 (by omega)
  have r2 := hcell' 2 (by omega)
  have r3 := hcell' 3 (by omega)
  have r4 := hcell' 4 (by omega)
  have r5 := hcell' 5 (by omega)
  simp only [pkC, List.getElem?_cons_succ, List.getElem?_cons_zero, Nat.add_zero] at q0 q1 q2 q3 q4 q5 r0 r1 r2 r3 r4 r5
  have s1 := cnv_str hpv.slb
  have s2 := cnv_str hpv'.slb
  have s3 := cnv_str (hpv.keep (Kp.quiet Upd.drew)).slb
  have s4 := cnv_str (hpv'.keep (Kp.quiet Upd.drew)).slb
  simp only [List.append_eq, List.cons_append, List.nil_append]
  simp (config := { maxSteps := 3000000 }) (disch := omega) only [push_cast, Nat.reduceBEq, Nat.reduceEqDiff, Nat.reduceAdd, Nat.reduceMul, Nat.reduceSub, Nat.reduceLT, Int.reduceToNat, Int.reduceLT, Int.reduceLE, Int.reduceEq, Int.reduceAdd, Int.reduceSub, Int.reduceNeg, Int.reduceMul, q0, q1, q2, q3, q4, q5, r0, r1, r2, r3, r4, r5, s1, s2, s3, s4, beq_self_eq_true, Bool.not_true]
  exact ⟨k - 1, by omega, i + 1, by omega, by simp, hu.drew'⟩
theorem OwnD.get {base B : Nat} {w : World} {v : Value} {list : List (NP × List Int)} (h : OwnD base B w v list) {i : Nat} {d : NP × List Int} (hz : list[i]? = some d) :
    ∃ g cap pv, v = .slice (some ⟨g, 0, none⟩) list.length cap ∧ PB base w pv d.2 ∧ ∀ r, r < 3 → w.cell? ⟨g, i * 3 + r, none⟩ = (dlC (d.1, pv))[r]? := by
  obtain ⟨ds, h2, h3⟩ := h
  have hil : i < ds.length := by rw [h3.1]; exact (List.getElem?_eq_some_iff.1 hz).1
  have hj := List.getElem?_eq_getElem hil
  obtain ⟨l, e1, e2⟩ := h3.2 i _ hj
  obtain ⟨g, cap, h4, h5, h6⟩ := own_cell (s := 3) (f := dlC) (fun _ => rfl) (own_to0 h2) hj
  rw [hz] at e1
  injection e1 with e1
  subst e1
  exact ⟨g, cap, _, by rw [h3.1] at h4; exact h4, e2, fun r hr => h6 r hr⟩
theorem OwnD.form {base B : Nat} {w : World} {v : Value} {list : List (NP × List Int)} (h : OwnD base B w v list) : ∃ a c, v = .slice a list.length c := by
  obtain ⟨ds, h2, h3⟩ := h
  obtain ⟨a, c, e⟩ := own_slice h2
  exact ⟨a, c, by rw [← h3.1]; exact e⟩
theorem OwnD.quiet {base B : Nat} {w w' : World} {v : Value} {list : List (NP × List Int)} (h : OwnD base B w v list) (u : Upd (fun _ => False) w w') : OwnD base B w' v list := by
  obtain ⟨ds, h2, h3⟩ := h
  exact ⟨ds, own_updB h2 u (fun _ _ h => h), h3.keep (Kp.quiet u)⟩
set_option maxHeartbeats 4000000 in
theorem sameD_ok {base B B' : Nat} {w : World} {a b : Value} {ps : List (NP × List Int)} (ha : OwnD base B w a ps) (hb : OwnD base B' w b ps) (hl : ps.length < 1000000) :
    Ok (den Try.prog 22 #[a, b] w) fun v w' => v = .bool true ∧ Upd (fun _ => False) w w' := by
  obtain ⟨a1, c1, rfl⟩ := ha.form
  obtain ⟨a2, c2, rfl⟩ := hb.form
  refine den_ok (args := [.slice a1 ps.length c1, .slice a2 ps.length c2]) rs22 Try.func22 rfl mixed in22 ok22 rfl ?_
  simp (disch := omega) only [push_cast, Nat.reduceBEq, Nat.reduceEqDiff, Nat.reduceAdd, Nat.reduceMul, Nat.reduceSub, Nat.reduceLT, Int.reduceToNat, Int.reduceLT, Int.reduceLE, Int.reduceEq, Int.reduceAdd, Int.reduceSub, Int.reduceNeg, Int.reduceMul]
  refine loop_inv (I := fun k st w' => Bx (∃ i : Nat, k + i = ps.length ∧ st = [.int .i64 (i : Int)] ∧ Upd (fun _ => False) w w') ⟨⟩) ?_ ps.length ⟨0, rfl, rfl, Upd.refl⟩
  rintro k st w2 ⟨i, hk, rfl, hu⟩
  have ha2 := ha.quiet hu
  have hb2 := hb.quiet hu
  by_cases hk0 : k = 0
  · obtain rfl : i = ps.length := by omega
    simp (disch := omega) only [push_cast, Nat.reduceBEq, Nat.reduceEqDiff, Nat.reduceAdd, Nat.reduceMul, Nat.reduceSub, Nat.reduceLT, Int.reduceToNat, Int.reduceLT, Int.reduceLE, Int.reduceEq, Int.reduceAdd, Int.reduceSub, Int.reduceNeg, Int.reduceMul]
    exact hu
  have hi : i < ps.length := by omega
  have hz := List.getElem?_eq_getElem hi
  generalize ps[i] = z at *
  obtain ⟨g, cap, pv, hv, hpv, hcell⟩ := ha2.get hz
  injection hv with e1 _ e3
  subst e1
  subst e3
  obtain ⟨g', cap', pv', hv', hpv', hcell'⟩ := hb2.get hz
  injection hv' with e1 _ e3
  subst e1
  subst e3
  obtain ⟨pa, pc, rfl⟩ := hpv.form
  obtain ⟨pa', pc', rfl⟩ := hpv'.form
  have q0 := hcell 0 (by omega)
  have q1 := hcell 1 (by omega)
  have q2 := hcell 2 (by omega)
  have r0 := hcell' 0 (by omega)
  have r1 := hcell' 1 (by omega)
  have r2 := hcell' 2 (by omega)
  simp only [dlC, List.getElem?_cons_succ, List.getElem?_cons_zero, Nat.add_zero] at q0 q1 q2 r0 r1 r2
  have s1 := cnv_str hpv.slb
  have s2 := cnv_str hpv'.slb
  have s3 := cnv_str (hpv.keep (Kp.quiet Upd.drew)).slb
  have s4 := cnv_str (hpv'.keep (Kp.quiet Upd.drew)).slb
  simp (config := { maxSteps := 3000000 }) (disch := omega) only [push_cast, Nat.reduceBEq, Nat.reduceEqDiff, Nat.reduceAdd, Nat.reduceMul, Nat.reduceSub, Nat.reduceLT, Int.reduceToNat, Int.reduceLT, Int.reduceLE, Int.reduceEq, Int.reduceAdd, Int.reduceSub, Int.reduceNeg, Int.reduceMul, q0, q1, q2, r0, r1, r2, s1, s2, s3, s4, beq_self_eq_true, Bool.not_true]
  exact ⟨k - 1, by omega, i + 1, by omega, by simp, hu.drew'⟩
theorem rrB_succ {R : PS} {z : NP × (List Int × BitVec 16)} {i : Nat} : rrB R z (i + 1) = rrB R z i ++ (if z.2.2.getLsbD i then [] else [⟨1, R.self, i, z.1.1, z.1.2, z.2.1⟩]) := by
  unfold rrB
  rw [List.range_succ, List.filterMap_append]
  congr 1
  cases h : z.2.2.getLsbD i <;> simp [h]
theorem rrB_length {R : PS} {z : NP × (List Int × BitVec 16)} {i : Nat} : (rrB R z i).length ≤ i := by
  unfold rrB
  refine Nat.le_trans (List.length_filterMap_le _ _) ?_
  rw [List.length_range]; exact Nat.le_refl _
theorem rrO_length {R : PS} : ∀ {ss : Nt}, (rrO R ss).length ≤ ss.length * R.n
  | [] => by simp [rrO]
  | b :: r => by
    have h1 := rrO_length (R := R) (ss := r)
    have h2 := rrB_length (R := R) (z := b) (i := R.n)
    unfold rrO at h1 ⊢
    rw [List.flatMap_cons, List.length_append, List.length_cons, Nat.add_mul, Nat.one_mul]
    omega
theorem rrO_take {R : PS} {ss : Nt} {i : Nat} {b : NP × (List Int × BitVec 16)} (h : ss[i]? = some b) : rrO R (ss.take (i + 1)) = rrO R (ss.take i) ++ rrB R b R.n := by
  obtain ⟨hlt, rfl⟩ := List.getElem?_eq_some_iff.1 h
  rw [List.take_succ_eq_append_getElem hlt]
  unfold rrO
  rw [List.flatMap_append]
  simp
theorem RA.kq {base : Nat} {w : World} {q : Nat} {R : PS} {nv ov : Value} {zs : List (Rn × Value)} {ds : List (NP × Value)} (h : RA base w q R nv ov zs ds) : Knd w q 64 := ⟨_, h.obj⟩
set_option maxHeartbeats 4000000 in
theorem rResend_ok {base : Nat} {w : World} {q : Nat} {R : PS} {nv ov : Value} {zs : List (Rn × Value)} {ds : List (NP × Value)} (h : RA base w q R nv ov zs ds) (hN : R.notes.length ≤ 10000) (hnl : ∀ z, z ∈ R.notes → z.2.1.length ≤ 140737488355328) :
    Ok (den Try.prog 20 #[.pointer (some ⟨q, 0, none⟩)] w) fun u w' => OwnK base w.heap.size w' u (rrO R R.notes) ∧ Upd (fun _ => False) w w' := by
  refine den_ok (args := [.pointer (some ⟨q, 0, none⟩)]) rs20 Try.func20 rfl mixed in20 ok20 rfl ?_
  obtain ⟨na, nc, rfl⟩ := own_slice h.nts
  have hn12 := h.n12
  have hbw : base ≤ w.heap.size := by have := h.bq; have := h.obj.lt; omega
  have hnl' : R.notes.length = zs.length := by rw [h.nz, List.length_map]
  have bsl_pk0 : ∀ w : World, bslS Try.prog 35 0 #[] w = some (.slice (some ⟨w.heap.size, 0, none⟩) 0 0, w.alloc (.cells #[] 46 (0, 0))) := fun w => by kernel_rfl
  simp (disch := omega) only [push_cast, Nat.reduceBEq, Nat.reduceEqDiff, Nat.reduceAdd, Nat.reduceMul, Nat.reduceSub, Nat.reduceLT, Int.reduceToNat, Int.reduceLT, Int.reduceLE, Int.reduceEq, Int.reduceAdd, Int.reduceSub, Int.reduceNeg, Int.reduceMul, bsl_pk0]
  have u1 : Upd (fun _ => False) w (w.alloc (.cells #[] 46 (0, 0))) := Upd.alloc
  have ho1 : OwnK base w.heap.size (w.alloc (.cells #[] 46 (0, 0))) (.slice (some ⟨w.heap.size, 0, none⟩) 0 0) [] := ⟨[], rfl, ⟨rfl, .inr ⟨_, 0, #[], rfl, Nat.le_refl _, Blk.new (cs := []), Nat.le_refl _, Nat.zero_le _, rfl, rfl⟩⟩, fun z hz => by cases hz⟩
  refine loop_inv (I := fun k st w' => Bx (∃ (i : Nat) (pv : Value), k + i = zs.length ∧ st = [pv, .int .i64 (i : Int)] ∧ Upd (fun _ => False) w w' ∧ OwnK base w.heap.size w' pv (rrO R (R.notes.take i)) ∧ ∀ g, pv.ownBlock = some g → w.heap.size ≤ g) ⟨⟩) ?_ zs.length ⟨0, _, rfl, rfl, u1, ho1, fun g hg => by simp [Value.ownBlock] at hg; omega⟩
  clear u1 ho1
  rintro k st w2 ⟨i, pv, hk, rfl, hu2, ho, hg⟩
  have h2 := h.quiet hu2
  have c3 : w2.cell? ⟨q, 3, none⟩ = some (.slice na zs.length nc) := h2.obj.cell 3
  by_cases hk0 : k = 0
  · obtain rfl : i = zs.length := by omega
    rw [List.take_of_length_le (by omega)] at ho
    obtain ⟨oa, oc, rfl⟩ := ho.form
    simp (disch := omega) only [push_cast, Nat.reduceBEq, Nat.reduceEqDiff, Nat.reduceAdd, Nat.reduceMul, Nat.reduceSub, Nat.reduceLT, Int.reduceToNat, Int.reduceLT, Int.reduceLE, Int.reduceEq, Int.reduceAdd, Int.reduceSub, Int.reduceNeg, Int.reduceMul, c3]
    exact ⟨ho, hu2⟩
  have hi : i < zs.length := by omega
  have hzi := List.getElem?_eq_getElem hi
  have hri : R.notes[i]? = some (zs[i].1.k, (zs[i].1.l, zs[i].1.D)) := by rw [h.nz, List.getElem?_map, hzi]; rfl
  have hpl := hnl _ (List.mem_of_getElem? hri)
  have hpz := h.pb _ (List.getElem_mem hi)
  generalize zs[i] = z at *
  obtain ⟨⟨zk, zl, zD⟩, zv⟩ := z
  simp only at hri hpl hpz
  obtain ⟨za, zc, rfl⟩ := hpz.form
  simp (disch := omega) only [push_cast, Nat.reduceBEq, Nat.reduceEqDiff, Nat.reduceAdd, Nat.reduceMul, Nat.reduceSub, Nat.reduceLT, Int.reduceToNat, Int.reduceLT, Int.reduceLE, Int.reduceEq, Int.reduceAdd, Int.reduceSub, Int.reduceNeg, Int.reduceMul, c3]
  have hol := @rrO_length R (R.notes.take i)
  have htl : (R.notes.take i).length ≤ 10000 := by rw [List.length_take]; omega
  have hmul : (R.notes.take i).length * R.n ≤ 10000 * 12 := Nat.mul_le_mul htl hn12
  have s12 := hu2.size
  refine loop_inv (I := fun k st w' => Bx (∃ (j : Nat) (pv : Value), k + j = R.n ∧ st = [pv, .int .i64 (j : Int)] ∧ Upd (fun _ => False) w w' ∧ OwnK base w.heap.size w' pv (rrO R (R.notes.take i) ++ rrB R (zk, (zl, zD)) j) ∧ ∀ g, pv.ownBlock = some g → w.heap.size ≤ g) ⟨⟩) ?_ R.n ⟨0, _, rfl, rfl, hu2, by simpa [rrB] using ho, hg⟩
  clear hg ho c3
  rintro k2 st w4 ⟨j, pv, hk2, rfl, hu4, ho, hg⟩
  have h4 := h.quiet hu4
  have c0 : w4.cell? ⟨q, 0, none⟩ = some (.int .i64 R.n) := h4.obj.cell 0
  have c3 : w4.cell? ⟨q, 3, none⟩ = some (.slice na zs.length nc) := h4.obj.cell 3
  by_cases hk20 : k2 = 0
  · obtain rfl : j = R.n := by omega
    simp (disch := omega) only [push_cast, Nat.reduceBEq, Nat.reduceEqDiff, Nat.reduceAdd, Nat.reduceMul, Nat.reduceSub, Nat.reduceLT, Int.reduceToNat, Int.reduceLT, Int.reduceLE, Int.reduceEq, Int.reduceAdd, Int.reduceSub, Int.reduceNeg, Int.reduceMul, c0]
    refine ⟨k - 1, by omega, i + 1, pv, by omega, by simp, hu4, ?_, hg⟩
    rw [rrO_take hri]
    exact ho
  have hj : j < R.n := by omega
  obtain ⟨g, cap, hv, hgo, hcell⟩ := h4.note hzi
  injection hv with e1 _ e3
  subst e1
  subst e3
  have cb := hcell (3 + j) (by omega)
  rw [rnC_bit (by omega)] at cb
  simp only [← Nat.add_assoc] at cb
  have hld := ld_note (w := w4) hcell
  have hbl := @rrB_length R (zk, (zl, zD)) j
  cases hb : zD.getLsbD j
  · rw [hb] at cb
    simp (disch := omega) only [push_cast, Nat.reduceBEq, Nat.reduceEqDiff, Nat.reduceAdd, Nat.reduceMul, Nat.reduceSub, Nat.reduceLT, Int.reduceToNat, Int.reduceLT, Int.reduceLE, Int.reduceEq, Int.reduceAdd, Int.reduceSub, Int.reduceNeg, Int.reduceMul, c0, c3, cb, hld]
    have hpk := rpacket_ok h4.obj 1 (j : Int) (⟨zk, zl, zD⟩, .slice za zl.length zc) (hpz.keep (Kp.quiet hu4)) hpl (by have := hu4.size; omega)
    refine Ok.use hpk ?_
    rintro v w6 ⟨pv6, rfl, hpv6, hu6⟩
    rw [if_pos rfl] at hpv6 ⊢
    obtain ⟨qa, qc, rfl⟩ := hpv6.form
    have ho6 := ho.quiet hu6
    unfold pkV pkC
    simp (disch := omega) only [push_cast, Nat.reduceBEq, Nat.reduceEqDiff, Nat.reduceAdd, Nat.reduceMul, Nat.reduceSub, Nat.reduceLT, Int.reduceToNat, Int.reduceLT, Int.reduceLE, Int.reduceEq, Int.reduceAdd, Int.reduceSub, Int.reduceNeg, Int.reduceMul, bsl_pk]
    have hu7 : Upd (fun _ => False) w6 (w6.alloc (.cells (pkC (⟨1, R.self, j, zk.1, zk.2, zl⟩, .slice qa zl.length qc)).toArray 46 (0, 0))) := Upd.alloc
    have hb7 := Blk.new (w := w6) (cs := pkC (⟨1, R.self, j, zk.1, zk.2, zl⟩, .slice qa zl.length qc)) (E := 46)
    have s46 := hu6.size
    have s04 := hu4.size
    have s67 := hu7.size
    refine app_pk (z := (⟨1, R.self, j, zk.1, zk.2, zl⟩, .slice qa zl.length qc)) (ho6.quiet hu7) (hpv6.keep (Kp.quiet hu7)) hbw (by omega) (by rw [List.length_append]; omega) hb7 ?_
    intro v' w8 h8 hu8 hf8
    have hu47 := hu6.trans hu7 (fun _ _ h => h)
    simp (disch := omega) only [push_cast, Nat.reduceBEq, Nat.reduceEqDiff, Nat.reduceAdd, Nat.reduceMul, Nat.reduceSub, Nat.reduceLT, Int.reduceToNat, Int.reduceLT, Int.reduceLE, Int.reduceEq, Int.reduceAdd, Int.reduceSub, Int.reduceNeg, Int.reduceMul]
    refine ⟨k2 - 1, by omega, j + 1, v', by omega, by simp, (hu4.trans hu47 (fun _ _ h => h)).trans hu8 (fun b h1 h2 => by have := hg b h2; omega), ?_, ?_⟩
    · rw [rrB_succ, hb, if_neg (by decide), ← List.append_assoc]
      exact h8
    · intro g hg'
      rcases hf8 g hg' with h | h
      · exact hg g h
      · omega
  · rw [hb] at cb
    simp (disch := omega) only [push_cast, Nat.reduceBEq, Nat.reduceEqDiff, Nat.reduceAdd, Nat.reduceMul, Nat.reduceSub, Nat.reduceLT, Int.reduceToNat, Int.reduceLT, Int.reduceLE, Int.reduceEq, Int.reduceAdd, Int.reduceSub, Int.reduceNeg, Int.reduceMul, c0, c3, cb]
    refine ⟨k2 - 1, by omega, j + 1, pv, by omega, by simp, hu4, ?_, hg⟩
    rw [rrB_succ, hb, if_pos rfl, List.append_nil]
    exact ho

theorem flat_set {α : Type} {f : α → List Value} {s r : Nat} (hf : ∀ x, (f x).length = s) (hr : r < s) {u : Value} : ∀ {zs : List α} {i : Nat} {z z' : α}, zs[i]? = some z → (f z).set r u = f z' → (zs.flatMap f).set (i * s + r) u = (zs.set i z').flatMap f
  | [], i, z, z', h, _ => by simp at h
  | x :: l, 0, z, z', h, hu => by
    simp at h
    subst h
    rw [List.set_cons_zero, List.flatMap_cons, List.flatMap_cons, Nat.zero_mul, Nat.zero_add, List.set_append_left _ _ (by rw [hf]; exact hr), hu]
  | x :: l, i + 1, z, z', h, hu => by
    rw [List.set_cons_succ, List.flatMap_cons, List.flatMap_cons, List.set_append_right _ _ (by rw [hf, Nat.succ_mul]; omega), hf, show (i + 1) * s + r - s = i * s + r from by rw [Nat.succ_mul]; omega, flat_set hf hr (by simpa using h) hu]
theorem knV_set {D : BitVec 16} {j : Nat} (hj : j < 12) : (knV D).set j (.bool true) = knV (D ||| BitVec.twoPow 16 j) := by
  apply List.ext_getElem?
  intro i
  rw [List.getElem?_set]
  by_cases h : j = i
  · subst h
    rw [if_pos rfl, if_pos (by simp [knV]; exact hj), knV_get hj, BitVec.getLsbD_or, BitVec.getLsbD_twoPow]
    simp
    right; omega
  · rw [if_neg h]
    by_cases hi : i < 12
    · rw [knV_get hi, knV_get hi, BitVec.getLsbD_or, BitVec.getLsbD_twoPow]
      simp [h]
    · simp [knV, hi]
theorem rnC_set {x : Rn × Value} {j : Nat} (hj : j < 12) : (rnC x).set (3 + j) (.bool true) = rnC (⟨x.1.k, x.1.l, x.1.D ||| BitVec.twoPow 16 j⟩, x.2) := by
  unfold rnC
  rw [List.set_append_right _ _ (by simp), show 3 + j - [Value.int .i64 x.1.k.1, .int .i64 x.1.k.2, x.2].length = j from by simp, knV_set hj]
theorem idx_set {k : NP} {x : List Int × BitVec 16} {l : Nt} {i : Nat} (h : idxN k l = some i) : idxN k (putS k x l) = some i := by
  induction l generalizing i with
  | nil => cases h
  | cons a r ih =>
    obtain ⟨k', y⟩ := a
    unfold idxN at h
    unfold putS
    by_cases e : k = k'
    · rw [if_pos e] at h ⊢
      unfold idxN
      rw [if_pos e]
      exact h
    · rw [if_neg e] at h ⊢
      unfold idxN
      rw [if_neg e]
      cases hr : idxN k r with
      | none => rw [hr] at h; cases h
      | some j =>
        rw [ih hr]
        rw [hr] at h
        exact h
theorem RA.setBit {base : Nat} {w : World} {q : Nat} {R : PS} {ov : Value} {zs : List (Rn × Value)} {ds : List (NP × Value)} {g cap : Nat} (h : RA base w q R (.slice (some ⟨g, 0, none⟩) zs.length cap) ov zs ds) {k : NP} {i : Nat} (hi : idxN k R.notes = some i) {l : List Int} {D : BitVec 16} {pv : Value} (hz : zs[i]? = some (⟨k, l, D⟩, pv)) {j : Nat} (hj : j < 12) :
    RA base (w.setCell ⟨g, i * 15 + 3 + j, none⟩ (.bool true)) q { R with notes := putS k (l, D ||| BitVec.twoPow 16 j) R.notes } (.slice (some ⟨g, 0, none⟩) zs.length cap) ov (zs.set i (⟨k, l, D ||| BitVec.twoPow 16 j⟩, pv)) ds ∧
      Upd (fun b => b = g) w (w.setCell ⟨g, i * 15 + 3 + j, none⟩ (.bool true)) := by
  obtain ⟨h1, h2⟩ := h.nts.stored (i * 15 + 3 + j) (.bool true)
  have us := Upd.grown (F := fun b => b = g) h2 (fun k hk => by injection hk with hk; exact hk.symm)
  have hk : Knd w g 87 := own_ty h.nts rfl
  have hge := (own_ge h.nts rfl).1
  have kp : Kp base w (w.setCell ⟨g, i * 15 + 3 + j, none⟩ (.bool true)) := kp_kind us fun b hb => by subst hb; exact ⟨hge, _, hk, by decide⟩
  rw [Nat.add_assoc, flat_set (f := rnC) (s := 15) (fun _ => rnC_len) (by omega) hz (rnC_set hj)] at h1
  refine ⟨⟨h.obj.upd us (fun e => by subst e; exact hk.ne ⟨_, h.obj⟩ (by decide)), h.bq, ?_, ?_, fun z hz' => ?_, own_updB h.own us (fun b hb e => ?_), h.lst.keep kp, h.n12⟩, us⟩
  · rw [List.length_set]
    rw [Nat.add_assoc]
    exact h1
  · show putS _ _ _ = _
    rw [idx_put hi, h.nz, List.map_set]
  · rcases List.mem_or_eq_of_mem_set hz' with hz' | rfl
    · exact (h.pb z hz').keep kp
    · exact (h.pb _ (List.mem_of_getElem? hz)).keep kp
  · subst e
    exact hk.ne (own_ty h.own hb) (by decide)

theorem w_each {H : Type} {P : Program} : ∀ {ts : List TypeId} {ds : List (DataW H)} {j : Nat} {t : TypeId} {d : DataW H}, ts[j]? = some t → ds[j]? = some d → ∀ x, x ∈ DataW.weights P t d → x ∈ DataW.weightsEach P ts ds
  | [], _, _, _, _, h, _ => by simp at h
  | _ :: _, [], _, _, _, _, h => by simp at h
  | t0 :: ts, d0 :: ds, 0, t, d, h1, h2 => by
    simp at h1 h2
    subst h1
    subst h2
    intro x hx
    rw [DataW.weightsEach]
    exact List.mem_append_left _ hx
  | t0 :: ts, d0 :: ds, j + 1, t, d, h1, h2 => by
    intro x hx
    rw [DataW.weightsEach]
    exact List.mem_append_right _ (w_each (j := j) (by simpa using h1) (by simpa using h2) x hx)
theorem w_all {H : Type} {P : Program} {e : TypeId} {d : DataW H} : ∀ {ds : List (DataW H)}, d ∈ ds → ∀ x, x ∈ DataW.weights P e d → x ∈ DataW.weightsAll P e ds
  | [], h => by cases h
  | d0 :: ds, h => by
    intro x hx
    rw [DataW.weightsAll]
    rcases List.mem_cons.1 h with rfl | h
    · exact List.mem_append_left _ hx
    · exact List.mem_append_right _ (w_all h x hx)
structure St where
  k : Int
  l : List Int
  z : Pk
def SlSt (w : World) (v : Value) (xs : List St) : Prop := ∃ a c, v = .slice a xs.length c ∧ (xs ≠ [] → ∃ b o, a = some ⟨b, o, none⟩ ∧ b < w.heap.size ∧ ∀ (j : Nat) x, xs[j]? = some x →
  ∃ pv qv, PB w.heap.size w pv x.l ∧ PB w.heap.size w qv x.z.l ∧ ∀ i, i < 8 → w.cell? ⟨b, o + j * 8 + i, none⟩ = [.int .i64 x.k, pv, .int .i64 x.z.k, .int .i64 x.z.f, .int .i64 x.z.t, .int .i64 x.z.o, .int .i64 x.z.n, qv][i]?)
theorem trod_struct6 {H : Type} {P : Program} {w : World} {base : Nat} {spare : Nat → Bool} {held : Bool} {enc : TypeId × Value → H} {t : TypeId} {f0 f1 f2 f3 f4 f5 : Field} {fuel : Nat} {cs : List Value} {x : DataW H × List MemPlace} (ht : P.underlying t = some (.struct #[f0, f1, f2, f3, f4, f5])) (h : DataW.trod enc P w base spare held fuel t cs = some x) :
    ∃ y0 y1 y2 y3 y4 y5 n, x.1 = .agg [y0.1, y1.1, y2.1, y3.1, y4.1, y5.1] ∧ cs.length = P.cellsOf t ∧ DataW.trod enc P w base spare held n f0.type ((cs.drop f0.offset).take (P.cellsOf f0.type)) = some y0 ∧
      DataW.trod enc P w base spare held n f1.type ((cs.drop f1.offset).take (P.cellsOf f1.type)) = some y1 ∧ DataW.trod enc P w base spare held n f2.type ((cs.drop f2.offset).take (P.cellsOf f2.type)) = some y2 ∧
      DataW.trod enc P w base spare held n f3.type ((cs.drop f3.offset).take (P.cellsOf f3.type)) = some y3 ∧ DataW.trod enc P w base spare held n f4.type ((cs.drop f4.offset).take (P.cellsOf f4.type)) = some y4 ∧
      DataW.trod enc P w base spare held n f5.type ((cs.drop f5.offset).take (P.cellsOf f5.type)) = some y5 := by
  obtain ⟨xs, n, _, rfl, hl, hlen, hf⟩ := DataW.trod_struct ht h
  match xs, hlen with
  | [y0, y1, y2, y3, y4, y5], _ => exact ⟨y0, y1, y2, y3, y4, y5, n, by simp, hl, by simpa using hf 0 f0 rfl, by simpa using hf 1 f1 rfl, by simpa using hf 2 f2 rfl, by simpa using hf 3 f3 rfl, by simpa using hf 4 f4 rfl, by simpa using hf 5 f5 rfl⟩
theorem pb_open {H : Type} {enc : TypeId × Value → H} {w : World} {v : Value} {n : Nat} {x : DataW H × List MemPlace} (h : DataW.trod enc Try.prog w 0 (fun _ => true) true n 28 [v] = some x) :
    ∃ l, PB w.heap.size w v l ∧ ((∀ y, y ∈ DataW.weights Try.prog 28 x.1 → y ≤ reachBytes) → l.length ≤ 140737488351232) := by
  obtain ⟨l, ⟨a, c, hv, hl⟩, h2⟩ := bytes_at Try.underlying28 Try.underlying5 (by kernel_rfl) h
  refine ⟨l, ⟨fun y hy => ?_, a, c, hv, fun h0 => ?_⟩, ?_⟩
  · have := h2 y hy
    simp only [Lit.wf, Bool.and_eq_true, decide_eq_true_eq] at this
    obtain ⟨h3, h4⟩ := this
    have h3 : (0 : Int) ≤ y := h3
    have h4 : y ≤ 255 := h4
    omega
  · obtain ⟨b, o, e, hli, hF⟩ := hl h0
    have hlt := hli.lt (List.length_pos_iff.2 h0)
    exact ⟨b, o, e, ⟨hlt, .inl hlt⟩, hli⟩
  · intro hw
    rcases Go.Deep.open_slice Try.underlying28 h with ⟨h1, _⟩ | ⟨a', len, cap, m, n', D, Pl, h1, _, _, _, _, hx, _⟩
    · have h1 : v = _ := (List.cons.inj h1).1
      rw [h1] at hv
      injection hv with _ e _
      omega
    · have h1 : v = _ := (List.cons.inj h1).1
      rw [h1] at hv
      injection hv with _ e _
      have hx1 := (Prod.mk.inj hx).1
      rw [hx1] at hw
      have := hw (((List.range len).map D).length * Try.prog.bytesOf 5 + (((List.range (m - len)).map fun j => D (len + j)).length) * Try.prog.bytesOf 5) (by
        simp only [DataW.weights, Try.underlying28]
        rw [Nat.add_mul]
        exact List.mem_cons_self)
      have hb : Try.prog.bytesOf 5 = 1 := by kernel_rfl
      rw [hb, Nat.mul_one, List.length_map, List.length_range] at this
      have hr : reachBytes = 140737488351232 := rfl
      omega
theorem choose_list {α : Type} {n : Nat} {p : Nat → α → Prop} (h : ∀ i, i < n → ∃ x, p i x) : ∃ l : List α, l.length = n ∧ ∀ (i : Nat) x, l[i]? = some x → p i x := by
  induction n with
  | zero => exact ⟨[], rfl, by simp⟩
  | succ n ih =>
    obtain ⟨l, h1, h2⟩ := ih (fun i hi => h i (by omega))
    obtain ⟨x, hx⟩ := h n (by omega)
    refine ⟨l ++ [x], by simp [h1], fun i y hy => ?_⟩
    rcases Nat.lt_or_ge i n with hi | hi
    · rw [List.getElem?_append_left (by omega)] at hy
      exact h2 i y hy
    · have hil : i < (l ++ [x]).length := (List.getElem?_eq_some_iff.1 hy).1
      rw [List.length_append, List.length_singleton, h1] at hil
      have : i = n := by omega
      subst this
      rw [List.getElem?_append_right (by omega), h1, Nat.sub_self] at hy
      simp at hy
      subst hy
      exact hx
theorem open_steps {H : Type} {enc : TypeId × Value → H} {w : World} {v : Value} {r : Reach} {b0 : Nat} {d : DataW H} {ps : List MemPlace}
    (hval : Value.okWide Try.prog w r b0 47 v) (h : DataW.Trod enc Try.prog w 0 (fun _ => true) true 47 v d ps) (hbk : ∀ y, y ∈ DataW.weights Try.prog 47 d → y ≤ reachBytes) : ∃ l, SlSt w v l ∧ ∀ x, x ∈ l → x.l.length ≤ 140737488351232 ∧ x.z.l.length ≤ 140737488351232 := by
  obtain ⟨a', l', c', rfl⟩ := Go.WideShapes.okWide_slice Try.underlying47 hval
  obtain ⟨n, h⟩ := h
  have c1 : Try.prog.cellsOf 54 = 8 := by kernel_rfl
  rcases Go.Deep.open_slice Try.underlying47 h with ⟨h1, _⟩ | ⟨a, len, cap, m, n', D, Pl, h1, _, hl, _, hm, hd, hx⟩
  · have h1 : Value.slice a' l' c' = _ := (List.cons.inj (show [Value.slice a' l' c'] = _ from h1)).1
    exact ⟨[], ⟨none, 0, h1, fun h => absurd rfl h⟩, fun x hx => by cases hx⟩
  · have h1 : Value.slice a' l' c' = _ := (List.cons.inj (show [Value.slice a' l' c'] = _ from h1)).1
    simp only [if_true] at hm
    subst hm
    rw [c1] at hx
    have hd1 := (Prod.mk.inj hd).1
    rw [hd1] at hbk
    simp only [DataW.weights, Try.underlying47] at hbk
    have hDb : ∀ j, j < len → ∀ y, y ∈ DataW.weights Try.prog 54 (D j) → y ≤ reachBytes := fun j hj y hy =>
      hbk y (List.mem_cons_of_mem _ (List.mem_append_left _ (w_all (d := D j) (ds := (List.range len).map D) (List.mem_map.2 ⟨j, List.mem_range.2 hj, rfl⟩) y hy)))
    rcases Nat.eq_zero_or_pos len with h0 | h0
    · subst h0
      exact ⟨[], ⟨some a, m, h1, fun h => absurd rfl h⟩, fun x hx => by cases hx⟩
    have ha : ∃ b o, a = ⟨b, o, none⟩ ∧ b < w.heap.size := by
      obtain ⟨cs, h2, _⟩ := hx 0 (by omega)
      obtain ⟨_, h3, h4⟩ := World.cells?_some h2
      have h5 := h4 0 (by omega)
      obtain ⟨b, o, e, hb, _⟩ := cells_add (n := 1) (a := a) (V := fun _ => cs[0]) (fun i hi => by
        obtain rfl : i = 0 := by omega
        have : (a.add (0 * 8)).add 0 = a.add 0 := rfl
        rw [← this, h5, List.getElem?_eq_getElem]) (by omega)
      exact ⟨b, o, e, hb⟩
    obtain ⟨b, o, rfl, hb⟩ := ha
    obtain ⟨l, hl1, hl2⟩ := choose_list (n := len) (p := fun j (x : St) => (∃ pv qv, PB w.heap.size w pv x.l ∧ PB w.heap.size w qv x.z.l ∧ ∀ i, i < 8 → w.cell? ⟨b, o + j * 8 + i, none⟩ = [.int .i64 x.k, pv, .int .i64 x.z.k, .int .i64 x.z.f, .int .i64 x.z.t, .int .i64 x.z.o, .int .i64 x.z.n, qv][i]?) ∧ x.l.length ≤ 140737488351232 ∧ x.z.l.length ≤ 140737488351232) (by
      intro j hj
      obtain ⟨cs, h2, h3⟩ := hx j (by omega)
      obtain ⟨_, h4, h5⟩ := World.cells?_some h2
      obtain ⟨y0, y1, y2, n2, hy, _, t0, t1, t2⟩ := Go.Deep.trod_struct3 Try.underlying54 h3
      match cs, h4 with
      | [c0, c1, c2, c3, c4, c5, c6, c7], _ =>
        have e0 : Try.prog.cellsOf 3 = 1 := by kernel_rfl
        have e2 : Try.prog.cellsOf 28 = 1 := by kernel_rfl
        have e3 : Try.prog.cellsOf 46 = 6 := by kernel_rfl
        simp only [e0, e2, e3] at t0 t1 t2
        obtain ⟨kind, g0, _, _⟩ := DataW.trod_int Try.underlying3 t0
        have g0 : c0 = _ := (List.cons.inj (show [c0] = _ from g0)).1
        obtain ⟨bs, hbs, hbl⟩ := pb_open (v := c1) t1
        obtain ⟨z0, z1, z2, z3, z4, z5, n3, hz, _, s0, s1, s2, s3, s4, s5⟩ := trod_struct6 Try.underlying46 t2
        simp only [e0, e2] at s0 s1 s2 s3 s4 s5
        obtain ⟨zk, k0, _, _⟩ := DataW.trod_int Try.underlying3 s0
        have k0 : c2 = _ := (List.cons.inj (show [c2] = _ from k0)).1
        obtain ⟨zf, k1, _, _⟩ := DataW.trod_int Try.underlying3 s1
        have k1 : c3 = _ := (List.cons.inj (show [c3] = _ from k1)).1
        obtain ⟨zt, k2, _, _⟩ := DataW.trod_int Try.underlying3 s2
        have k2 : c4 = _ := (List.cons.inj (show [c4] = _ from k2)).1
        obtain ⟨zo, k3, _, _⟩ := DataW.trod_int Try.underlying3 s3
        have k3 : c5 = _ := (List.cons.inj (show [c5] = _ from k3)).1
        obtain ⟨zn, k4, _, _⟩ := DataW.trod_int Try.underlying3 s4
        have k4 : c6 = _ := (List.cons.inj (show [c6] = _ from k4)).1
        obtain ⟨zs, hzs, hzl⟩ := pb_open (v := c7) s5
        have hc : ∀ i, i < 8 → w.cell? ⟨b, o + j * 8 + i, none⟩ = [c0, c1, c2, c3, c4, c5, c6, c7][i]? := by
          intro i hi
          rw [← h5 i hi]
          congr 1
          unfold Addr.add
          by_cases hj0 : j * 8 = 0
          · by_cases hi0 : i = 0
            · simp [hj0, hi0]
            · simp [hj0, hi0]
          · by_cases hi0 : i = 0
            · simp [hj0, hi0]
            · simp [hj0, hi0]
        have hDj := hDb j hj
        have hyD := (Prod.mk.inj hy).1
        rw [hyD] at hDj
        simp only [DataW.weights, Try.underlying54] at hDj
        have hbl := hbl fun y hy => hDj y (w_each (j := 1) rfl rfl y hy)
        have hDz : ∀ y, y ∈ DataW.weights Try.prog 46 y2.1 → y ≤ reachBytes := fun y hy => hDj y (w_each (j := 2) rfl rfl y hy)
        rw [hz] at hDz
        simp only [DataW.weights, Try.underlying46] at hDz
        have hzl := hzl fun y hy => hDz y (w_each (j := 5) rfl rfl y hy)
        rw [g0, k0, k1, k2, k3, k4] at hc
        exact ⟨⟨kind, bs, ⟨zk, zf, zt, zo, zn, zs⟩⟩, ⟨c1, c7, hbs, hzs, hc⟩, hbl, hzl⟩)
    exact ⟨l, ⟨_, _, by rw [hl1]; exact h1, fun _ => ⟨b, o, rfl, hb, fun j x hj => (hl2 j x hj).1⟩⟩, fun x hx => by obtain ⟨j, hj⟩ := List.getElem?_of_mem hx; exact (hl2 j x hj).2⟩
end Go.Proofs.Ytpgfokhpacdhjaa.Fd
