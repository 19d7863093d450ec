/-
  play, whole.
-/
import Derived.Test.YtpgfokhpacdhjaaBcD
namespace Go.Proofs.Ytpgfokhpacdhjaa.Fd
set_option linter.unusedSimpArgs false
set_option linter.unusedVariables false
open Go Go.ChangeMaps
set_option maxRecDepth 100000

theorem calls_of_okR {P : Program} {f : FuncId} {args : Array Value} {w : World} {K : Value → World → Prop} (h : Ok (den P f args w) K) : Calls P f args w fun e w' => ∃ v, e = .returned v ∧ K v w' := by
  obtain ⟨v, w', h1, h2⟩ := Ok_iff.1 h
  refine Calls.mono (den_sound P f args w v w' h1) ?_
  rintro e w'' ⟨rfl, rfl⟩
  exact ⟨v, rfl, h2⟩
theorem rsO_out {S : PS} {ss : List NP} : ∀ y, y ∈ rsO S ss → y.f = S.self ∧ 0 ≤ y.t ∧ y.t < S.n := by
  intro y hy
  unfold rsO rsB at hy
  obtain ⟨b, _, hy⟩ := List.mem_flatMap.1 hy
  obtain ⟨to, hto, hy⟩ := List.mem_filterMap.1 hy
  have hto := List.mem_range.1 hto
  split at hy
  · split at hy
    · cases hy
    · cases hy; exact ⟨rfl, by show (0 : Int) ≤ (to : Int); omega, by show (to : Int) < _; omega⟩
  · cases hy
set_option maxHeartbeats 4000000 in
theorem play_calls {base : Nat} {w : World} {H : Hp} {W : Wd} (h : WR base w H W) (hR : Rdy W) (x : Ev × Value) (hx : PB base w x.2 x.1.l) (hxl : x.1.l.length ≤ 140737488355328) :
    Calls Try.prog 9 #[.pointer (some ⟨H.a, 0, none⟩), evV x] w fun e w' => e = .returned (.bool true) ∧ ∃ H' W', WR base w' H' W' ∧ H'.a = H.a ∧ PlayR x.1 W W' ∧ Upd (fun b => base ≤ b) w w' := by
  by_cases hn6 : x.1.k = 6 ∧ W.down (idx x.1.A W.n) = false ∧ W.under.length < 500
  rotate_left
  · refine (calls_of_okR (play1_ok h hR x hx hxl hn6)).mono ?_
    rintro e w' ⟨v, rfl, rfl, h⟩
    exact ⟨rfl, h⟩
  obtain ⟨h6, hdn, h500⟩ := hn6
  have key : Calls Try.prog 9 #[.pointer (some ⟨H.a, 0, none⟩), evV x] w fun e w' => ∃ v, e = .returned v ∧ (v = .bool true ∧ ∃ H' W', WR base w' H' W' ∧ H'.a = H.a ∧ PlayR x.1 W W' ∧ Upd (fun b => base ≤ b) w w') := by
    refine calls_of_wr (args := [.pointer (some ⟨H.a, 0, none⟩), evV x]) rs9 Try.func9 rfl ok9 rfl (R := fun v w' => v = .bool true ∧ ∃ H' W', WR base w' H' W' ∧ H'.a = H.a ∧ PlayR x.1 W W' ∧ Upd (fun b => base ≤ b) w w') ?_
    obtain ⟨za, zc, hx2⟩ := hx.form
    obtain ⟨⟨xk, xA, xl⟩, x2⟩ := x
    simp only at hx2 hx hxl h6 hdn
    subst hx2
    subst h6
    refine wr_seq (wr_of_w mixed ?_)
    simp (disch := omega) only [push_cast, Nat.reduceBEq, Nat.reduceEqDiff, Nat.reduceAdd, Nat.reduceMul, Nat.reduceSub, Nat.reduceLT, Int.reduceToNat, Int.reduceLT, Int.reduceLE, Int.reduceEq, Int.reduceAdd, Int.reduceSub, Int.reduceNeg, Int.reduceMul, KSr_nor, evV, evC]
    have d1 := Blk.new (w := w) (cs := [.int .i64 6, .int .i64 xA, .slice za xl.length zc]) (E := 30)
    have u1 : Upd (fun _ => False) w (w.alloc (.cells [.int .i64 6, .int .i64 xA, .slice za xl.length zc].toArray 30 (0, 0))) := Upd.alloc
    generalize w.alloc (.cells [.int .i64 6, .int .i64 xA, .slice za xl.length zc].toArray 30 (0, 0)) = w1 at *
    have h1 := h.quiet u1
    have hn12 := h.n12
    have hn1 := hR.n1
    have hpl := idx_lt (A := xA) (k := W.n) (by omega)
    have hid := u_idx (A := xA) (k := W.n) (by omega)
    generalize hP : idx xA W.n = p at *
    obtain ⟨dg, dc, hdv, hdc, hdb, hdl, hdcell⟩ := own1 h1.dwn hpl
    obtain ⟨ag, ac, hav, hac, hab, hal, hacell⟩ := own1 h1.all hpl
    obtain ⟨ua, uc, huv⟩ := h1.und.form
    have ho1 := h1.obj
    rw [hdv, hav, huv] at ho1
    rw [hdn] at hdcell
    have hwl : base ≤ w.heap.size := by have := h.ba; have := h.obj.lt; omega
    have hul := hR.ul
    have hwn := u_nat (n := W.n) (by omega)
    have hwu := u_nat (n := W.under.length) (by omega)
    have h500' : (W.under.length : Int) < 500 := by omega
    refine wr_seq (wr_of_w mixed ?_)
    simp (disch := omega) only [push_cast, Nat.reduceBEq, Nat.reduceEqDiff, Nat.reduceAdd, Nat.reduceMul, Nat.reduceSub, Nat.reduceLT, Int.reduceToNat, Int.reduceLT, Int.reduceLE, Int.reduceEq, Int.reduceAdd, Int.reduceSub, Int.reduceNeg, Int.reduceMul, ho1.cell, d1.cell, KSr_nor]
    refine wr_seq (wr_of_w mixed ?_)
    simp (disch := omega) only [push_cast, Nat.reduceBEq, Nat.reduceEqDiff, Nat.reduceAdd, Nat.reduceMul, Nat.reduceSub, Nat.reduceLT, Int.reduceToNat, Int.reduceLT, Int.reduceLE, Int.reduceEq, Int.reduceAdd, Int.reduceSub, Int.reduceNeg, Int.reduceMul, ho1.cell, d1.cell, cnv_i_u, cnv_u_i, hwn, hid, KSr_nor]
    refine wr_seq (wr_of_w mixed ?_)
    simp (disch := omega) only [push_cast, Nat.reduceBEq, Nat.reduceEqDiff, Nat.reduceAdd, Nat.reduceMul, Nat.reduceSub, Nat.reduceLT, Int.reduceToNat, Int.reduceLT, Int.reduceLE, Int.reduceEq, Int.reduceAdd, Int.reduceSub, Int.reduceNeg, Int.reduceMul, KSr_nor]
    refine wr_seq (wr_of_w mixed ?_)
    by_cases hu0 : W.under.length = 0
    · simp (disch := omega) only [push_cast, Nat.reduceBEq, Nat.reduceEqDiff, Nat.reduceAdd, Nat.reduceMul, Nat.reduceSub, Nat.reduceLT, Int.reduceToNat, Int.reduceLT, Int.reduceLE, Int.reduceEq, Int.reduceAdd, Int.reduceSub, Int.reduceNeg, Int.reduceMul, ho1.cell, d1.cell, hu0, KSr_nor]
      refine wr_seq (wr_seq (wr_of_w mixed ?_))
      simp (disch := omega) only [push_cast, Nat.reduceBEq, Nat.reduceEqDiff, Nat.reduceAdd, Nat.reduceMul, Nat.reduceSub, Nat.reduceLT, Int.reduceToNat, Int.reduceLT, Int.reduceLE, Int.reduceEq, Int.reduceAdd, Int.reduceSub, Int.reduceNeg, Int.reduceMul, d1.cell, KSr_nor]
      refine wr_block (wr_seq (wr_of_w mixed ?_))
      simp (disch := omega) only [push_cast, Nat.reduceBEq, Nat.reduceEqDiff, Nat.reduceAdd, Nat.reduceMul, Nat.reduceSub, Nat.reduceLT, Int.reduceToNat, Int.reduceLT, Int.reduceLE, Int.reduceEq, Int.reduceAdd, Int.reduceSub, Int.reduceNeg, Int.reduceMul, KSr_nor]
      refine wr_cond (t := false) (by simp (disch := omega) only [push_cast, Nat.reduceBEq, Nat.reduceEqDiff, Nat.reduceAdd, Nat.reduceMul, Nat.reduceSub, Nat.reduceLT, Int.reduceToNat, Int.reduceLT, Int.reduceLE, Int.reduceEq, Int.reduceAdd, Int.reduceSub, Int.reduceNeg, Int.reduceMul]) ?_
      rw [if_neg (by decide)]
      refine wr_seq (wr_of_w mixed ?_)
      simp (disch := omega) only [push_cast, Nat.reduceBEq, Nat.reduceEqDiff, Nat.reduceAdd, Nat.reduceMul, Nat.reduceSub, Nat.reduceLT, Int.reduceToNat, Int.reduceLT, Int.reduceLE, Int.reduceEq, Int.reduceAdd, Int.reduceSub, Int.reduceNeg, Int.reduceMul, KSr_nor]
      refine wr_cond (t := false) (by simp (disch := omega) only [push_cast, Nat.reduceBEq, Nat.reduceEqDiff, Nat.reduceAdd, Nat.reduceMul, Nat.reduceSub, Nat.reduceLT, Int.reduceToNat, Int.reduceLT, Int.reduceLE, Int.reduceEq, Int.reduceAdd, Int.reduceSub, Int.reduceNeg, Int.reduceMul]) ?_
      rw [if_neg (by decide)]
      refine wr_seq (wr_of_w mixed ?_)
      simp (disch := omega) only [push_cast, Nat.reduceBEq, Nat.reduceEqDiff, Nat.reduceAdd, Nat.reduceMul, Nat.reduceSub, Nat.reduceLT, Int.reduceToNat, Int.reduceLT, Int.reduceLE, Int.reduceEq, Int.reduceAdd, Int.reduceSub, Int.reduceNeg, Int.reduceMul, KSr_nor]
      refine wr_cond (t := false) (by simp (disch := omega) only [push_cast, Nat.reduceBEq, Nat.reduceEqDiff, Nat.reduceAdd, Nat.reduceMul, Nat.reduceSub, Nat.reduceLT, Int.reduceToNat, Int.reduceLT, Int.reduceLE, Int.reduceEq, Int.reduceAdd, Int.reduceSub, Int.reduceNeg, Int.reduceMul]) ?_
      rw [if_neg (by decide)]
      refine wr_seq (wr_of_w mixed ?_)
      simp (disch := omega) only [push_cast, Nat.reduceBEq, Nat.reduceEqDiff, Nat.reduceAdd, Nat.reduceMul, Nat.reduceSub, Nat.reduceLT, Int.reduceToNat, Int.reduceLT, Int.reduceLE, Int.reduceEq, Int.reduceAdd, Int.reduceSub, Int.reduceNeg, Int.reduceMul, KSr_nor]
      refine wr_cond (t := false) (by simp (disch := omega) only [push_cast, Nat.reduceBEq, Nat.reduceEqDiff, Nat.reduceAdd, Nat.reduceMul, Nat.reduceSub, Nat.reduceLT, Int.reduceToNat, Int.reduceLT, Int.reduceLE, Int.reduceEq, Int.reduceAdd, Int.reduceSub, Int.reduceNeg, Int.reduceMul]) ?_
      rw [if_neg (by decide)]
      refine wr_seq (wr_of_w mixed ?_)
      simp (disch := omega) only [push_cast, Nat.reduceBEq, Nat.reduceEqDiff, Nat.reduceAdd, Nat.reduceMul, Nat.reduceSub, Nat.reduceLT, Int.reduceToNat, Int.reduceLT, Int.reduceLE, Int.reduceEq, Int.reduceAdd, Int.reduceSub, Int.reduceNeg, Int.reduceMul, KSr_nor]
      refine wr_cond (t := false) (by simp (disch := omega) only [push_cast, Nat.reduceBEq, Nat.reduceEqDiff, Nat.reduceAdd, Nat.reduceMul, Nat.reduceSub, Nat.reduceLT, Int.reduceToNat, Int.reduceLT, Int.reduceLE, Int.reduceEq, Int.reduceAdd, Int.reduceSub, Int.reduceNeg, Int.reduceMul]) ?_
      rw [if_neg (by decide)]
      refine wr_seq (wr_of_w mixed ?_)
      simp (disch := omega) only [push_cast, Nat.reduceBEq, Nat.reduceEqDiff, Nat.reduceAdd, Nat.reduceMul, Nat.reduceSub, Nat.reduceLT, Int.reduceToNat, Int.reduceLT, Int.reduceLE, Int.reduceEq, Int.reduceAdd, Int.reduceSub, Int.reduceNeg, Int.reduceMul, KSr_nor]
      refine wr_cond (t := true) (by simp (disch := omega) only [push_cast, Nat.reduceBEq, Nat.reduceEqDiff, Nat.reduceAdd, Nat.reduceMul, Nat.reduceSub, Nat.reduceLT, Int.reduceToNat, Int.reduceLT, Int.reduceLE, Int.reduceEq, Int.reduceAdd, Int.reduceSub, Int.reduceNeg, Int.reduceMul]) ?_
      rw [if_pos rfl]
      refine wr_seq (wr_of_w mixed ?_)
      simp (disch := omega) only [push_cast, Nat.reduceBEq, Nat.reduceEqDiff, Nat.reduceAdd, Nat.reduceMul, Nat.reduceSub, Nat.reduceLT, Int.reduceToNat, Int.reduceLT, Int.reduceLE, Int.reduceEq, Int.reduceAdd, Int.reduceSub, Int.reduceNeg, Int.reduceMul, ho1.cell, hdcell, h500', KSr_nor]
      refine wr_cond (t := true) (by simp (disch := omega) only [push_cast, Nat.reduceBEq, Nat.reduceEqDiff, Nat.reduceAdd, Nat.reduceMul, Nat.reduceSub, Nat.reduceLT, Int.reduceToNat, Int.reduceLT, Int.reduceLE, Int.reduceEq, Int.reduceAdd, Int.reduceSub, Int.reduceNeg, Int.reduceMul]) ?_
      rw [if_pos rfl]
      refine wr_seq (wr_region ?_)
      refine wlr_step ?_
      simp (disch := omega) only [push_cast, Nat.reduceBEq, Nat.reduceEqDiff, Nat.reduceAdd, Nat.reduceMul, Nat.reduceSub, Nat.reduceLT, Int.reduceToNat, Int.reduceLT, Int.reduceLE, Int.reduceEq, Int.reduceAdd, Int.reduceSub, Int.reduceNeg, Int.reduceMul, ho1.cell, hacell]
      refine wlr_step ?_
      simp (disch := omega) only [push_cast, Nat.reduceBEq, Nat.reduceEqDiff, Nat.reduceAdd, Nat.reduceMul, Nat.reduceSub, Nat.reduceLT, Int.reduceToNat, Int.reduceLT, Int.reduceLE, Int.reduceEq, Int.reduceAdd, Int.reduceSub, Int.reduceNeg, Int.reduceMul, ho1.cell, hacell]
      refine wlr_step ?_
      simp (disch := omega) only [push_cast, Nat.reduceBEq, Nat.reduceEqDiff, Nat.reduceAdd, Nat.reduceMul, Nat.reduceSub, Nat.reduceLT, Int.reduceToNat, Int.reduceLT, Int.reduceLE, Int.reduceEq, Int.reduceAdd, Int.reduceSub, Int.reduceNeg, Int.reduceMul, ho1.cell, hacell]
      refine wlr_step ?_
      simp (disch := omega) only [push_cast, Nat.reduceBEq, Nat.reduceEqDiff, Nat.reduceAdd, Nat.reduceMul, Nat.reduceSub, Nat.reduceLT, Int.reduceToNat, Int.reduceLT, Int.reduceLE, Int.reduceEq, Int.reduceAdd, Int.reduceSub, Int.reduceNeg, Int.reduceMul, ho1.cell, hacell]
      refine wlr_step ?_
      simp (disch := omega) only [push_cast, Nat.reduceBEq, Nat.reduceEqDiff, Nat.reduceAdd, Nat.reduceMul, Nat.reduceSub, Nat.reduceLT, Int.reduceToNat, Int.reduceLT, Int.reduceLE, Int.reduceEq, Int.reduceAdd, Int.reduceSub, Int.reduceNeg, Int.reduceMul, ho1.cell, hacell]
      refine wlr_step ?_
      simp (disch := omega) only [push_cast, Nat.reduceBEq, Nat.reduceEqDiff, Nat.reduceAdd, Nat.reduceMul, Nat.reduceSub, Nat.reduceLT, Int.reduceToNat, Int.reduceLT, Int.reduceLE, Int.reduceEq, Int.reduceAdd, Int.reduceSub, Int.reduceNeg, Int.reduceMul, ho1.cell, hacell]
      refine wlr_step ?_
      simp (disch := omega) only [push_cast, Nat.reduceBEq, Nat.reduceEqDiff, Nat.reduceAdd, Nat.reduceMul, Nat.reduceSub, Nat.reduceLT, Int.reduceToNat, Int.reduceLT, Int.reduceLE, Int.reduceEq, Int.reduceAdd, Int.reduceSub, Int.reduceNeg, Int.reduceMul, ho1.cell, hacell]
      refine wlr_step ?_
      simp (disch := omega) only [push_cast, Nat.reduceBEq, Nat.reduceEqDiff, Nat.reduceAdd, Nat.reduceMul, Nat.reduceSub, Nat.reduceLT, Int.reduceToNat, Int.reduceLT, Int.reduceLE, Int.reduceEq, Int.reduceAdd, Int.reduceSub, Int.reduceNeg, Int.reduceMul, ho1.cell, hacell]
      refine wlr_step ?_
      simp (disch := omega) only [push_cast, Nat.reduceBEq, Nat.reduceEqDiff, Nat.reduceAdd, Nat.reduceMul, Nat.reduceSub, Nat.reduceLT, Int.reduceToNat, Int.reduceLT, Int.reduceLE, Int.reduceEq, Int.reduceAdd, Int.reduceSub, Int.reduceNeg, Int.reduceMul, ho1.cell, hacell]
      have h2 : WR base w1 H W := h1.quiet (Upd.refl (F := fun _ => False))
      refine wlr_call (w1 := w1) (f := 13) (args := #[.pointer (some ⟨H.p p, 0, none⟩)]) rfl (by kernel_rfl) ?_
      have hsn := hR.sane p hpl
      refine (Resend_calls (h2.pr p hpl) (by have := hsn.2.1; omega) hsn.2.2.2.1).mono ?_
      rintro e w3 ⟨u, rfl, ss, hss, _, hou, hu3⟩
      refine ⟨_, rfl, wlr_of_wl ?_⟩
      have h3 := h2.quiet hu3
      obtain ⟨oa, oc, rfl⟩ := hou.form
      have hpn := h.pn p hpl
      have hol := @rsO_length (W.procs p) ss
      have hssl : ss.length ≤ 10000 := by rw [hss.length_eq, List.length_map]; have := hsn.2.1; omega
      have hmul : ss.length * (W.procs p).n ≤ 10000 * 12 := Nat.mul_le_mul hssl (by rw [hpn.1]; exact hn12)
      have hal3 : ∃ aa ac, H.allV = .slice aa W.n ac := ⟨_, _, hav⟩
      simp (disch := omega) only [push_cast, Nat.reduceBEq, Nat.reduceEqDiff, Nat.reduceAdd, Nat.reduceMul, Nat.reduceSub, Nat.reduceLT, Int.reduceToNat, Int.reduceLT, Int.reduceLE, Int.reduceEq, Int.reduceAdd, Int.reduceSub, Int.reduceNeg, Int.reduceMul]
      refine Ok.use (send_ok (n := W.n) h3.obj hal3 h3.und hou (fun g hg e => ?_) h3.ba (p : Int) (fun y hy => by have hh := rsO_out y hy; rw [hpn.1, hpn.2] at hh; exact hh) (by omega) hn12) ?_
      · have := (hou.ge hg).1
        have := (h2.und.ge e).2
        omega
      rintro v w4 ⟨rfl, uv4, ho4, hu4, hup4, hf4⟩
      have h4 := h3.under hup4 ho4 hu4
      simp (disch := omega) only [push_cast, Nat.reduceBEq, Nat.reduceEqDiff, Nat.reduceAdd, Nat.reduceMul, Nat.reduceSub, Nat.reduceLT, Int.reduceToNat, Int.reduceLT, Int.reduceLE, Int.reduceEq, Int.reduceAdd, Int.reduceSub, Int.reduceNeg, Int.reduceMul, KSr_nor]
      refine wr_of_w mixed ?_
      simp (disch := omega) only [push_cast, Nat.reduceBEq, Nat.reduceEqDiff, Nat.reduceAdd, Nat.reduceMul, Nat.reduceSub, Nat.reduceLT, Int.reduceToNat, Int.reduceLT, Int.reduceLE, Int.reduceEq, Int.reduceAdd, Int.reduceSub, Int.reduceNeg, Int.reduceMul]
      exact ⟨rfl, _, _, h4, rfl, PlayR.rs hpl hdn h500 hss, ((((u1.trans (Upd.refl (F := fun _ => False)) (fun _ _ h => h)).trans hu3 (fun _ _ h => h)).mono (fun _ _ h => h.elim)).trans hup4 (fun b _ hb => hb.elim (fun h' => by rw [h']; exact h.ba) (fun hb => (h3.und.ge hb).1)))⟩
    · have hu0' : (0 : Int) < W.under.length := by omega
      have hiu := u_idx (A := xA) (k := W.under.length) (by omega)
      have hil := idx_lt (A := xA) (k := W.under.length) (by omega)
      simp (disch := omega) only [push_cast, Nat.reduceBEq, Nat.reduceEqDiff, Nat.reduceAdd, Nat.reduceMul, Nat.reduceSub, Nat.reduceLT, Int.reduceToNat, Int.reduceLT, Int.reduceLE, Int.reduceEq, Int.reduceAdd, Int.reduceSub, Int.reduceNeg, Int.reduceMul, ho1.cell, d1.cell, hu0', cnv_i_u, cnv_u_i, hwu, hiu, KSr_nor]
      refine wr_seq (wr_seq (wr_of_w mixed ?_))
      simp (disch := omega) only [push_cast, Nat.reduceBEq, Nat.reduceEqDiff, Nat.reduceAdd, Nat.reduceMul, Nat.reduceSub, Nat.reduceLT, Int.reduceToNat, Int.reduceLT, Int.reduceLE, Int.reduceEq, Int.reduceAdd, Int.reduceSub, Int.reduceNeg, Int.reduceMul, d1.cell, KSr_nor]
      refine wr_block (wr_seq (wr_of_w mixed ?_))
      simp (disch := omega) only [push_cast, Nat.reduceBEq, Nat.reduceEqDiff, Nat.reduceAdd, Nat.reduceMul, Nat.reduceSub, Nat.reduceLT, Int.reduceToNat, Int.reduceLT, Int.reduceLE, Int.reduceEq, Int.reduceAdd, Int.reduceSub, Int.reduceNeg, Int.reduceMul, KSr_nor]
      refine wr_cond (t := false) (by simp (disch := omega) only [push_cast, Nat.reduceBEq, Nat.reduceEqDiff, Nat.reduceAdd, Nat.reduceMul, Nat.reduceSub, Nat.reduceLT, Int.reduceToNat, Int.reduceLT, Int.reduceLE, Int.reduceEq, Int.reduceAdd, Int.reduceSub, Int.reduceNeg, Int.reduceMul]) ?_
      rw [if_neg (by decide)]
      refine wr_seq (wr_of_w mixed ?_)
      simp (disch := omega) only [push_cast, Nat.reduceBEq, Nat.reduceEqDiff, Nat.reduceAdd, Nat.reduceMul, Nat.reduceSub, Nat.reduceLT, Int.reduceToNat, Int.reduceLT, Int.reduceLE, Int.reduceEq, Int.reduceAdd, Int.reduceSub, Int.reduceNeg, Int.reduceMul, KSr_nor]
      refine wr_cond (t := false) (by simp (disch := omega) only [push_cast, Nat.reduceBEq, Nat.reduceEqDiff, Nat.reduceAdd, Nat.reduceMul, Nat.reduceSub, Nat.reduceLT, Int.reduceToNat, Int.reduceLT, Int.reduceLE, Int.reduceEq, Int.reduceAdd, Int.reduceSub, Int.reduceNeg, Int.reduceMul]) ?_
      rw [if_neg (by decide)]
      refine wr_seq (wr_of_w mixed ?_)
      simp (disch := omega) only [push_cast, Nat.reduceBEq, Nat.reduceEqDiff, Nat.reduceAdd, Nat.reduceMul, Nat.reduceSub, Nat.reduceLT, Int.reduceToNat, Int.reduceLT, Int.reduceLE, Int.reduceEq, Int.reduceAdd, Int.reduceSub, Int.reduceNeg, Int.reduceMul, KSr_nor]
      refine wr_cond (t := false) (by simp (disch := omega) only [push_cast, Nat.reduceBEq, Nat.reduceEqDiff, Nat.reduceAdd, Nat.reduceMul, Nat.reduceSub, Nat.reduceLT, Int.reduceToNat, Int.reduceLT, Int.reduceLE, Int.reduceEq, Int.reduceAdd, Int.reduceSub, Int.reduceNeg, Int.reduceMul]) ?_
      rw [if_neg (by decide)]
      refine wr_seq (wr_of_w mixed ?_)
      simp (disch := omega) only [push_cast, Nat.reduceBEq, Nat.reduceEqDiff, Nat.reduceAdd, Nat.reduceMul, Nat.reduceSub, Nat.reduceLT, Int.reduceToNat, Int.reduceLT, Int.reduceLE, Int.reduceEq, Int.reduceAdd, Int.reduceSub, Int.reduceNeg, Int.reduceMul, KSr_nor]
      refine wr_cond (t := false) (by simp (disch := omega) only [push_cast, Nat.reduceBEq, Nat.reduceEqDiff, Nat.reduceAdd, Nat.reduceMul, Nat.reduceSub, Nat.reduceLT, Int.reduceToNat, Int.reduceLT, Int.reduceLE, Int.reduceEq, Int.reduceAdd, Int.reduceSub, Int.reduceNeg, Int.reduceMul]) ?_
      rw [if_neg (by decide)]
      refine wr_seq (wr_of_w mixed ?_)
      simp (disch := omega) only [push_cast, Nat.reduceBEq, Nat.reduceEqDiff, Nat.reduceAdd, Nat.reduceMul, Nat.reduceSub, Nat.reduceLT, Int.reduceToNat, Int.reduceLT, Int.reduceLE, Int.reduceEq, Int.reduceAdd, Int.reduceSub, Int.reduceNeg, Int.reduceMul, KSr_nor]
      refine wr_cond (t := false) (by simp (disch := omega) only [push_cast, Nat.reduceBEq, Nat.reduceEqDiff, Nat.reduceAdd, Nat.reduceMul, Nat.reduceSub, Nat.reduceLT, Int.reduceToNat, Int.reduceLT, Int.reduceLE, Int.reduceEq, Int.reduceAdd, Int.reduceSub, Int.reduceNeg, Int.reduceMul]) ?_
      rw [if_neg (by decide)]
      refine wr_seq (wr_of_w mixed ?_)
      simp (disch := omega) only [push_cast, Nat.reduceBEq, Nat.reduceEqDiff, Nat.reduceAdd, Nat.reduceMul, Nat.reduceSub, Nat.reduceLT, Int.reduceToNat, Int.reduceLT, Int.reduceLE, Int.reduceEq, Int.reduceAdd, Int.reduceSub, Int.reduceNeg, Int.reduceMul, KSr_nor]
      refine wr_cond (t := true) (by simp (disch := omega) only [push_cast, Nat.reduceBEq, Nat.reduceEqDiff, Nat.reduceAdd, Nat.reduceMul, Nat.reduceSub, Nat.reduceLT, Int.reduceToNat, Int.reduceLT, Int.reduceLE, Int.reduceEq, Int.reduceAdd, Int.reduceSub, Int.reduceNeg, Int.reduceMul]) ?_
      rw [if_pos rfl]
      refine wr_seq (wr_of_w mixed ?_)
      simp (disch := omega) only [push_cast, Nat.reduceBEq, Nat.reduceEqDiff, Nat.reduceAdd, Nat.reduceMul, Nat.reduceSub, Nat.reduceLT, Int.reduceToNat, Int.reduceLT, Int.reduceLE, Int.reduceEq, Int.reduceAdd, Int.reduceSub, Int.reduceNeg, Int.reduceMul, ho1.cell, hdcell, h500', KSr_nor]
      refine wr_cond (t := true) (by simp (disch := omega) only [push_cast, Nat.reduceBEq, Nat.reduceEqDiff, Nat.reduceAdd, Nat.reduceMul, Nat.reduceSub, Nat.reduceLT, Int.reduceToNat, Int.reduceLT, Int.reduceLE, Int.reduceEq, Int.reduceAdd, Int.reduceSub, Int.reduceNeg, Int.reduceMul]) ?_
      rw [if_pos rfl]
      refine wr_seq (wr_region ?_)
      refine wlr_step ?_
      simp (disch := omega) only [push_cast, Nat.reduceBEq, Nat.reduceEqDiff, Nat.reduceAdd, Nat.reduceMul, Nat.reduceSub, Nat.reduceLT, Int.reduceToNat, Int.reduceLT, Int.reduceLE, Int.reduceEq, Int.reduceAdd, Int.reduceSub, Int.reduceNeg, Int.reduceMul, ho1.cell, hacell]
      refine wlr_step ?_
      simp (disch := omega) only [push_cast, Nat.reduceBEq, Nat.reduceEqDiff, Nat.reduceAdd, Nat.reduceMul, Nat.reduceSub, Nat.reduceLT, Int.reduceToNat, Int.reduceLT, Int.reduceLE, Int.reduceEq, Int.reduceAdd, Int.reduceSub, Int.reduceNeg, Int.reduceMul, ho1.cell, hacell]
      refine wlr_step ?_
      simp (disch := omega) only [push_cast, Nat.reduceBEq, Nat.reduceEqDiff, Nat.reduceAdd, Nat.reduceMul, Nat.reduceSub, Nat.reduceLT, Int.reduceToNat, Int.reduceLT, Int.reduceLE, Int.reduceEq, Int.reduceAdd, Int.reduceSub, Int.reduceNeg, Int.reduceMul, ho1.cell, hacell]
      refine wlr_step ?_
      simp (disch := omega) only [push_cast, Nat.reduceBEq, Nat.reduceEqDiff, Nat.reduceAdd, Nat.reduceMul, Nat.reduceSub, Nat.reduceLT, Int.reduceToNat, Int.reduceLT, Int.reduceLE, Int.reduceEq, Int.reduceAdd, Int.reduceSub, Int.reduceNeg, Int.reduceMul, ho1.cell, hacell]
      refine wlr_step ?_
      simp (disch := omega) only [push_cast, Nat.reduceBEq, Nat.reduceEqDiff, Nat.reduceAdd, Nat.reduceMul, Nat.reduceSub, Nat.reduceLT, Int.reduceToNat, Int.reduceLT, Int.reduceLE, Int.reduceEq, Int.reduceAdd, Int.reduceSub, Int.reduceNeg, Int.reduceMul, ho1.cell, hacell]
      refine wlr_step ?_
      simp (disch := omega) only [push_cast, Nat.reduceBEq, Nat.reduceEqDiff, Nat.reduceAdd, Nat.reduceMul, Nat.reduceSub, Nat.reduceLT, Int.reduceToNat, Int.reduceLT, Int.reduceLE, Int.reduceEq, Int.reduceAdd, Int.reduceSub, Int.reduceNeg, Int.reduceMul, ho1.cell, hacell]
      refine wlr_step ?_
      simp (disch := omega) only [push_cast, Nat.reduceBEq, Nat.reduceEqDiff, Nat.reduceAdd, Nat.reduceMul, Nat.reduceSub, Nat.reduceLT, Int.reduceToNat, Int.reduceLT, Int.reduceLE, Int.reduceEq, Int.reduceAdd, Int.reduceSub, Int.reduceNeg, Int.reduceMul, ho1.cell, hacell]
      refine wlr_step ?_
      simp (disch := omega) only [push_cast, Nat.reduceBEq, Nat.reduceEqDiff, Nat.reduceAdd, Nat.reduceMul, Nat.reduceSub, Nat.reduceLT, Int.reduceToNat, Int.reduceLT, Int.reduceLE, Int.reduceEq, Int.reduceAdd, Int.reduceSub, Int.reduceNeg, Int.reduceMul, ho1.cell, hacell]
      refine wlr_step ?_
      simp (disch := omega) only [push_cast, Nat.reduceBEq, Nat.reduceEqDiff, Nat.reduceAdd, Nat.reduceMul, Nat.reduceSub, Nat.reduceLT, Int.reduceToNat, Int.reduceLT, Int.reduceLE, Int.reduceEq, Int.reduceAdd, Int.reduceSub, Int.reduceNeg, Int.reduceMul, ho1.cell, hacell]
      have h2 : WR base w1.drew H W := h1.quiet (Upd.drew (F := fun _ => False))
      refine wlr_call (w1 := w1.drew) (f := 13) (args := #[.pointer (some ⟨H.p p, 0, none⟩)]) rfl (by kernel_rfl) ?_
      have hsn := hR.sane p hpl
      refine (Resend_calls (h2.pr p hpl) (by have := hsn.2.1; omega) hsn.2.2.2.1).mono ?_
      rintro e w3 ⟨u, rfl, ss, hss, _, hou, hu3⟩
      refine ⟨_, rfl, wlr_of_wl ?_⟩
      have h3 := h2.quiet hu3
      obtain ⟨oa, oc, rfl⟩ := hou.form
      have hpn := h.pn p hpl
      have hol := @rsO_length (W.procs p) ss
      have hssl : ss.length ≤ 10000 := by rw [hss.length_eq, List.length_map]; have := hsn.2.1; omega
      have hmul : ss.length * (W.procs p).n ≤ 10000 * 12 := Nat.mul_le_mul hssl (by rw [hpn.1]; exact hn12)
      have hal3 : ∃ aa ac, H.allV = .slice aa W.n ac := ⟨_, _, hav⟩
      simp (disch := omega) only [push_cast, Nat.reduceBEq, Nat.reduceEqDiff, Nat.reduceAdd, Nat.reduceMul, Nat.reduceSub, Nat.reduceLT, Int.reduceToNat, Int.reduceLT, Int.reduceLE, Int.reduceEq, Int.reduceAdd, Int.reduceSub, Int.reduceNeg, Int.reduceMul]
      refine Ok.use (send_ok (n := W.n) h3.obj hal3 h3.und hou (fun g hg e => ?_) h3.ba (p : Int) (fun y hy => by have hh := rsO_out y hy; rw [hpn.1, hpn.2] at hh; exact hh) (by omega) hn12) ?_
      · have := (hou.ge hg).1
        have := (h2.und.ge e).2
        omega
      rintro v w4 ⟨rfl, uv4, ho4, hu4, hup4, hf4⟩
      have h4 := h3.under hup4 ho4 hu4
      simp (disch := omega) only [push_cast, Nat.reduceBEq, Nat.reduceEqDiff, Nat.reduceAdd, Nat.reduceMul, Nat.reduceSub, Nat.reduceLT, Int.reduceToNat, Int.reduceLT, Int.reduceLE, Int.reduceEq, Int.reduceAdd, Int.reduceSub, Int.reduceNeg, Int.reduceMul, KSr_nor]
      refine wr_of_w mixed ?_
      simp (disch := omega) only [push_cast, Nat.reduceBEq, Nat.reduceEqDiff, Nat.reduceAdd, Nat.reduceMul, Nat.reduceSub, Nat.reduceLT, Int.reduceToNat, Int.reduceLT, Int.reduceLE, Int.reduceEq, Int.reduceAdd, Int.reduceSub, Int.reduceNeg, Int.reduceMul]
      exact ⟨rfl, _, _, h4, rfl, PlayR.rs hpl hdn h500 hss, ((((u1.trans (Upd.drew (F := fun _ => False)) (fun _ _ h => h)).trans hu3 (fun _ _ h => h)).mono (fun _ _ h => h.elim)).trans hup4 (fun b _ hb => hb.elim (fun h' => by rw [h']; exact h.ba) (fun hb => (h3.und.ge hb).1)))⟩
  refine key.mono ?_
  rintro e w' ⟨v, rfl, rfl, h⟩
  exact ⟨rfl, h⟩
end Go.Proofs.Ytpgfokhpacdhjaa.Fd
