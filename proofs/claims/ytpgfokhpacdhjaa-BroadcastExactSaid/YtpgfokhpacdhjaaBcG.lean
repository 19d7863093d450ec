/-
  awake.
-/
import Derived.Test.YtpgfokhpacdhjaaBcA
import Derived.Lib.SlBytesConst
namespace Go.Proofs.Ytpgfokhpacdhjaa.Fd
set_option linter.unusedSimpArgs false
set_option linter.unusedVariables false
open Go Go.ChangeMaps
set_option maxRecDepth 100000

theorem bsl_u81 (x : Int) (w : World) : bslS Try.prog 28 1 #[(0, .int .u8 x)] w = some (.slice (some ⟨w.heap.size, 0, none⟩) 1 1, w.alloc (.cells [.int .u8 x].toArray 5 (0, 0))) := by kernel_rfl
def qZ : Pk := ⟨1, 0, 1, 0, 1, [120]⟩
def q1 : PS := { n := 3, self := 1, made := 0, notes := [((0, 1), ([120], BitVec.twoPow 16 1 ||| tw 0 ||| tw 0))], done := fun _ => 0, list := [] }
theorem q1_elig : elig q1 0 = some ([120], BitVec.twoPow 16 1 ||| tw 0 ||| tw 0) := by decide
theorem q2_elig : ∀ o, o < 3 → elig (delS q1 0 [120]) o = none := by decide
theorem Run.inv {S S' : PS} (h : Run S S') : ((∀ o, o < S.n → elig S o = none) ∧ S' = S) ∨ ∃ o l D, o < S.n ∧ elig S o = some (l, D) ∧ (∀ i, i < o → elig S i = none) ∧ Run (delS S o l) S' := by
  cases h with
  | done h => exact .inl ⟨h, rfl⟩
  | step h1 h2 h3 h4 => exact .inr ⟨_, _, _, h1, h2, h3, h4⟩
theorem q_run {S : PS} (h : Run q1 S) : S.list = [((0, 1), [120])] := by
  rcases h.inv with ⟨h, _⟩ | ⟨o, l, D, ho, h1, h2, h3⟩
  · have := h 0 (by decide)
    rw [q1_elig] at this
    cases this
  · have ho0 : o = 0 := by
      by_cases h0 : o = 0
      · exact h0
      · have := h2 0 (by omega)
        rw [q1_elig] at this
        cases this
    subst ho0
    rw [q1_elig] at h1
    injection h1 with h1
    injection h1 with e1 e2
    subst e1
    rcases h3.inv with ⟨_, rfl⟩ | ⟨o', l', D', ho', h1', _, _⟩
    · rfl
    · rw [q2_elig o' ho'] at h1'
      cases h1'
theorem cnv_bb {w : World} {C : Array Value} {n c : Nat} : cnvS Try.prog 28 28 (.slice (some ⟨w.heap.size, 0, none⟩) n c) (w.alloc (.cells C 5 (0, 0))) = some (.slice (some ⟨w.heap.size, 0, none⟩) n c, w.alloc (.cells C 5 (C.size, C.size + 1))) := by
  have := Lib.run_convert_bytes_const (P := Try.prog) w 28 5 C n c Try.underlying28 Try.underlying5
  unfold cnvS lift
  rw [this]
theorem pb_x {base : Nat} {w : World} {x : Nat × Nat} {c : Nat} : PB base (w.alloc (.cells #[.int .u8 120] 5 x)) (.slice (some ⟨w.heap.size, 0, none⟩) 1 c) [120] := by
  have hh : (w.alloc (.cells #[.int .u8 120] 5 x)).heap[w.heap.size]? = some (.cells #[.int .u8 120] 5 x) := by
    show (w.heap.push _)[w.heap.size]? = _
    simp
  refine ⟨fun y hy => by simp at hy; omega, _, c, rfl, fun _ => ⟨w.heap.size, 0, rfl, ⟨by rw [size_alloc]; omega, .inr ⟨_, _, hh⟩⟩, fun j hj => ?_⟩⟩
  have hj0 : j = 0 := by simp [by8] at hj; omega
  subst hj0
  unfold World.cell?
  simp only [Nat.add_zero, hh]
  rfl
theorem q_rc {S : PS} {ps : List Pk} (h : RcR ⟨3, 1, 0, [], fun _ => 0, []⟩ qZ S ps) : S.list = [((0, 1), [120])] ∧ ps.length = 2 := by
  have e : rcS ⟨3, 1, 0, [], fun _ => 0, []⟩ qZ = some (q1, rcO ⟨3, 1, 0, [], fun _ => 0, []⟩ qZ 3) := by rfl
  unfold RcR at h
  rw [e] at h
  exact ⟨q_run h.1, by rw [h.2]; rfl⟩
set_option maxHeartbeats 4000000 in
theorem awake_ok {w : World} : Ok (den Try.prog 7 #[] w) fun v w' => v = .bool true ∧ Upd (fun _ => False) w w' := by
  refine den_ok (args := []) rs7 Try.func7 rfl mixed in7 ok7 rfl ?_
  rw [W_seq]
  generalize hKs : KS _ _ _ _ _ = Ks
  simp (disch := omega) only [push_cast, Nat.reduceBEq, Nat.reduceEqDiff, Nat.reduceAdd, Nat.reduceMul, Nat.reduceSub, Nat.reduceLT, Int.reduceToNat, Int.reduceLT, Int.reduceLE, Int.reduceEq, Int.reduceAdd, Int.reduceSub, Int.reduceNeg, Int.reduceMul]
  subst hKs
  rw [KS_nor]
  simp (disch := omega) only [push_cast, Nat.reduceBEq, Nat.reduceEqDiff, Nat.reduceAdd, Nat.reduceMul, Nat.reduceSub, Nat.reduceLT, Int.reduceToNat, Int.reduceLT, Int.reduceLE, Int.reduceEq, Int.reduceAdd, Int.reduceSub, Int.reduceNeg, Int.reduceMul]
  refine Ok.use (New_ok (base := w.heap.size) (Nat.le_refl _) 3 0) ?_
  rintro v w1 ⟨hu1, hv⟩
  rw [if_pos (by decide)] at hv
  obtain ⟨p, pm, pd, rfl, hp, hp1, hp2, hp3⟩ := hv
  simp (disch := omega) only [push_cast, Nat.reduceBEq, Nat.reduceEqDiff, Nat.reduceAdd, Nat.reduceMul, Nat.reduceSub, Nat.reduceLT, Int.reduceToNat, Int.reduceLT, Int.reduceLE, Int.reduceEq, Int.reduceAdd, Int.reduceSub, Int.reduceNeg, Int.reduceMul]
  refine Ok.use (New_ok (base := w.heap.size) hu1.size 3 1) ?_
  rintro v w2 ⟨hu2, hv⟩
  rw [if_pos (by decide)] at hv
  obtain ⟨q, qm, qd, rfl, hq, hq1, hq2, hq3⟩ := hv
  have hold := fun b (hb : Ft p pm pd (.slice none 0 0) b) => hp.old hb
  have hp := hp.quiet hu2
  simp (disch := omega) only [push_cast, Nat.reduceBEq, Nat.reduceEqDiff, Nat.reduceAdd, Nat.reduceMul, Nat.reduceSub, Nat.reduceLT, Int.reduceToNat, Int.reduceLT, Int.reduceLE, Int.reduceEq, Int.reduceAdd, Int.reduceSub, Int.reduceNeg, Int.reduceMul, bsl_u81, cnv_bb]
  have hxp : PB w.heap.size (w2.alloc (.cells #[.int .u8 120] 5 (1, 2))) (.slice (some ⟨w2.heap.size, 0, none⟩) 1 1) [120] := pb_x
  have uA : Upd (fun _ => False) w2 (w2.alloc (.cells #[.int .u8 120] 5 (1, 2))) := Upd.alloc
  have hpA := hp.quiet uA
  have hqA := hq.quiet uA
  refine Ok.use (Broadcast_ok (l := [120]) hpA (fun o => ⟨Int.le_refl _, Int.le_refl _⟩) (by decide) hxp (by decide) (by decide)) ?_
  rintro lv w3 ⟨S', lv', m', ds', hrun, hp3, hu3, hf3, hov⟩
  have hbc : bcO ⟨(3 : Int).toNat, (0 : Int).toNat, 0, [], fun _ => 0, []⟩ [120] (3 : Int).toNat = [qZ, ⟨1, 0, 2, 0, 1, [120]⟩] := by rfl
  simp only at hov
  rw [hbc] at hov
  have hq3 : PA w.heap.size w3 q ⟨(3 : Int).toNat, (1 : Int).toNat, 0, [], fun _ => 0, []⟩ qm qd (.slice none 0 0) [] [] := hqA.frame hu3 (fun b hb hf => by
    have := hold b hb
    rcases hf with rfl | rfl | rfl | h
    · omega
    · omega
    · omega
    · cases h) (hpA.kp hu3)
  obtain ⟨g, cap, pv, rfl, hgo, hpv, hcell⟩ := hov.get (i := 0) (z := qZ) rfl
  obtain ⟨qa, qc, rfl⟩ := hpv.form
  have q0 := hcell 0 (by omega)
  have q1 := hcell 1 (by omega)
  have q2 := hcell 2 (by omega)
  have q3 := hcell 3 (by omega)
  have q4 := hcell 4 (by omega)
  have q5 := hcell 5 (by omega)
  simp only [pkC, qZ, List.getElem?_cons_succ, List.getElem?_cons_zero, Nat.add_zero, Nat.zero_mul, Nat.zero_add] at q0 q1 q2 q3 q4 q5
  have hln : [qZ, (⟨1, 0, 2, 0, 1, [120]⟩ : Pk)].length = 2 := rfl
  rw [hln]
  simp (disch := omega) only [push_cast, Nat.reduceBEq, Nat.reduceEqDiff, Nat.reduceAdd, Nat.reduceMul, Nat.reduceSub, Nat.reduceLT, Int.reduceToNat, Int.reduceLT, Int.reduceLE, Int.reduceEq, Int.reduceAdd, Int.reduceSub, Int.reduceNeg, Int.reduceMul, q0, q1, q2, q3, q4, q5]
  have hrc := Receive_ok hq3 (fun o => ⟨Int.le_refl _, Int.le_refl _⟩) (by decide) (qZ, .slice qa 1 qc) hpv (by show (1 : Nat) ≤ 140737488355328; omega) (fun k x h => by cases h)
  unfold pkV pkC at hrc
  simp only [qZ] at hrc
  refine Ok.use hrc ?_
  clear hrc
  rintro ov w4 ⟨S2, lv2, m2, ds2, ps, hR, hq4, hu4, hf4, hov4⟩
  obtain ⟨hl2, hps2⟩ := q_rc (ps := ps) (S := S2) hR
  obtain ⟨oa, oc, rfl⟩ := hov4.form
  rw [hps2]
  simp (disch := omega) only [push_cast, Nat.reduceBEq, Nat.reduceEqDiff, Nat.reduceAdd, Nat.reduceMul, Nat.reduceSub, Nat.reduceLT, Int.reduceToNat, Int.reduceLT, Int.reduceLE, Int.reduceEq, Int.reduceAdd, Int.reduceSub, Int.reduceNeg, Int.reduceMul]
  refine Ok.use (Delivered_ok hq4 (by rw [hl2]; decide) (by rw [hl2]; intro x hx; simp at hx; subst hx; decide)) ?_
  rintro dv w5 ⟨⟨dd, hdo, hdl⟩, hu5⟩
  rw [hl2] at hdl
  have hdl1 : dd.length = 1 := hdl.1
  obtain ⟨d0, rfl⟩ : ∃ d0, dd = [d0] := by
    match dd, hdl1 with
    | [d0], _ => exact ⟨d0, rfl⟩
  obtain ⟨l0, hl0, hpv0⟩ := hdl.2 0 d0 rfl
  simp only [List.getElem?_cons_zero, Option.some.injEq, Prod.mk.injEq] at hl0
  obtain ⟨_, rfl⟩ := hl0
  obtain ⟨dg, dc, rfl, _, hdc⟩ := own_cell (s := 3) (f := dlC) (fun _ => rfl) (own_to0 hdo) (j := 0) (x := d0) rfl
  have hc2 := hdc 2 (by omega)
  obtain ⟨⟨dx, dy⟩, dv0⟩ := d0
  obtain ⟨ra, rc, hrv⟩ := hpv0.form
  simp only at hrv hpv0
  subst hrv
  simp only [dlC, List.getElem?_cons_succ, List.getElem?_cons_zero, Nat.zero_mul, Nat.zero_add] at hc2
  have hcn := cnv_str hpv0.slb
  have hst : strOfNums [120] = { data := #[120] } := rfl
  rw [hst] at hcn
  rw [List.length_singleton]
  simp only [List.length_singleton] at hcn hc2
  simp (disch := omega) only [push_cast, Nat.reduceBEq, Nat.reduceEqDiff, Nat.reduceAdd, Nat.reduceMul, Nat.reduceSub, Nat.reduceLT, Int.reduceToNat, Int.reduceLT, Int.reduceLE, Int.reduceEq, Int.reduceAdd, Int.reduceSub, Int.reduceNeg, Int.reduceMul, hc2, hcn]
  refine ⟨by rw [beq_self_eq_true], ?_⟩
  have hu12 : Upd (fun _ => False) w w2 := hu1.trans hu2 (fun _ _ h => h)
  refine (((hu12.trans uA (fun _ _ h => h)).trans hu3 (fun b hb h => ?_)).trans hu4 (fun b hb h => ?_)).trans hu5 (fun _ _ h => h)
  · rcases h with rfl | rfl | rfl | h
    · omega
    · omega
    · omega
    · cases h
  · have := hu1.size
    rcases h with rfl | rfl | rfl | h
    · omega
    · omega
    · omega
    · cases h
end Go.Proofs.Ytpgfokhpacdhjaa.Fd
