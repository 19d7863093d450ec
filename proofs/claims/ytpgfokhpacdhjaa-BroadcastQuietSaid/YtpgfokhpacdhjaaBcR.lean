/-
  BroadcastQuiet: the reading.
-/
import Derived.Test.YtpgfokhpacdhjaaBcK
import Derived.Test.YtpgfokhpacdhjaaBcP
namespace Go.Proofs.Ytpgfokhpacdhjaa.Fd
set_option linter.unusedSimpArgs false
set_option linter.unusedVariables false
open Go Go.ChangeMaps
set_option maxRecDepth 100000

set_option maxHeartbeats 4000000 in
theorem broadcastQuiet_calls {w : World} (n : Int) {v : Value} {xs : List Ev} (hv : SlV w v xs) (hx : ∀ x, x ∈ xs → x.l.length ≤ 140737488351232) (last : Bool) :
    Calls Try.prog 5 #[.int .i64 n, v, .bool last] w fun e w' => ∃ u, e = .returned u ∧ u = .bool true ∧ Upd (fun _ => False) w w' := by
  obtain ⟨ea, ec, rfl, _⟩ := id hv
  refine calls_of_wr (args := [.int .i64 n, .slice ea xs.length ec, .bool last]) rs5 Try.func5 rfl ok5 rfl (R := fun u w' => u = .bool true ∧ Upd (fun _ => False) w w') ?_
  refine wr_seq (wr_of_w mixed ?_)
  simp (disch := omega) only [push_cast, Nat.reduceBEq, Nat.reduceEqDiff, Nat.reduceAdd, Nat.reduceMul, Nat.reduceSub, Nat.reduceLT, Int.reduceToNat, Int.reduceLT, Int.reduceLE, Int.reduceEq, Int.reduceAdd, Int.reduceSub, Int.reduceNeg, Int.reduceMul, KSr_nor]
  refine wr_seq (wr_of_w mixed ?_)
  simp (disch := omega) only [push_cast, Nat.reduceBEq, Nat.reduceEqDiff, Nat.reduceAdd, Nat.reduceMul, Nat.reduceSub, Nat.reduceLT, Int.reduceToNat, Int.reduceLT, Int.reduceLE, Int.reduceEq, Int.reduceAdd, Int.reduceSub, Int.reduceNeg, Int.reduceMul, KSr_nor]
  refine Ok.use awake_ok ?_
  rintro v0 w1 ⟨rfl, hu1⟩
  simp (disch := omega) only [push_cast, Nat.reduceBEq, Nat.reduceEqDiff, Nat.reduceAdd, Nat.reduceMul, Nat.reduceSub, Nat.reduceLT, Int.reduceToNat, Int.reduceLT, Int.reduceLE, Int.reduceEq, Int.reduceAdd, Int.reduceSub, Int.reduceNeg, Int.reduceMul, KSr_nor]
  refine wr_seq (wr_of_w mixed ?_)
  have h5 := u_five (A := n)
  have hi5 := idx_lt (A := n) (k := 5) (by omega)
  simp (disch := omega) only [push_cast, Nat.reduceBEq, Nat.reduceEqDiff, Nat.reduceAdd, Nat.reduceMul, Nat.reduceSub, Nat.reduceLT, Int.reduceToNat, Int.reduceLT, Int.reduceLE, Int.reduceEq, Int.reduceAdd, Int.reduceSub, Int.reduceNeg, Int.reduceMul, KSr_nor, cnv_i_u, cnv_u_i, h5]
  rw [show (1 + (idx n 5 : Int)) = ((1 + idx n 5 : Nat) : Int) from by omega]
  generalize hN : 1 + idx n 5 = N at *
  refine Ok.use (begin_ok (base := w.heap.size) hu1.size N (by omega)) ?_
  rintro v0 w2 ⟨H, rfl, hW2, hu2⟩
  simp (disch := omega) only [push_cast, Nat.reduceBEq, Nat.reduceEqDiff, Nat.reduceAdd, Nat.reduceMul, Nat.reduceSub, Nat.reduceLT, Int.reduceToNat, Int.reduceLT, Int.reduceLE, Int.reduceEq, Int.reduceAdd, Int.reduceSub, Int.reduceNeg, Int.reduceMul, KSr_nor]
  refine wr_seq (wr_of_w mixed ?_)
  simp (disch := omega) only [push_cast, Nat.reduceBEq, Nat.reduceEqDiff, Nat.reduceAdd, Nat.reduceMul, Nat.reduceSub, Nat.reduceLT, Int.reduceToNat, Int.reduceLT, Int.reduceLE, Int.reduceEq, Int.reduceAdd, Int.reduceSub, Int.reduceNeg, Int.reduceMul, KSr_nor]
  refine wr_seq (wr_seq (wr_of_w mixed ?_))
  simp (disch := omega) only [push_cast, Nat.reduceBEq, Nat.reduceEqDiff, Nat.reduceAdd, Nat.reduceMul, Nat.reduceSub, Nat.reduceLT, Int.reduceToNat, Int.reduceLT, Int.reduceLE, Int.reduceEq, Int.reduceAdd, Int.reduceSub, Int.reduceNeg, Int.reduceMul, KSr_nor]
  have u02 : Upd (fun b => w.heap.size ≤ b) w w2 := (hu1.trans hu2 (fun _ _ h => h)).mono (fun _ _ h => h.elim)
  refine wr_block (wr_loop (fun k st w' => ∃ (i : Nat) (H' : Hp) (W' : Wd), k + i = min xs.length 60 ∧ st = [.int .i64 (i : Int)] ∧ WR w.heap.size w' H' W' ∧ H'.a = H.a ∧ Inv1 i W' ∧ Inv2 W' ∧ Upd (fun b => w.heap.size ≤ b) w w') ?_ (min xs.length 60) ⟨0, H, W0 N, rfl, rfl, hW2, rfl, Inv1.start N (by omega), Inv2.start N, u02⟩)
  clear hW2 u02 hu2 hu1
  rintro k st w3 ⟨i, H3, W3, hk, rfl, h3, ha3, hI3, hJ3, u03⟩
  by_cases hk0 : k = 0
  · refine wr_seq (wr_of_w mixed ?_)
    by_cases hil : i < xs.length
    · have hil' : (i : Int) < xs.length := by omega
      have h60 : ¬ (i : Int) < 60 := by omega
      simp (disch := omega) only [push_cast, Nat.reduceBEq, Nat.reduceEqDiff, Nat.reduceAdd, Nat.reduceMul, Nat.reduceSub, Nat.reduceLT, Int.reduceToNat, Int.reduceLT, Int.reduceLE, Int.reduceEq, Int.reduceAdd, Int.reduceSub, Int.reduceNeg, Int.reduceMul, hil', h60, KSr_exit, KJr_exit, KSr_nor]
      refine wr_seq (wr_seq (wr_region (wlr_step ?_)))
      simp (disch := omega) only [push_cast, Nat.reduceBEq, Nat.reduceEqDiff, Nat.reduceAdd, Nat.reduceMul, Nat.reduceSub, Nat.reduceLT, Int.reduceToNat, Int.reduceLT, Int.reduceLE, Int.reduceEq, Int.reduceAdd, Int.reduceSub, Int.reduceNeg, Int.reduceMul]
      refine wlr_step ?_
      simp (disch := omega) only [push_cast, Nat.reduceBEq, Nat.reduceEqDiff, Nat.reduceAdd, Nat.reduceMul, Nat.reduceSub, Nat.reduceLT, Int.reduceToNat, Int.reduceLT, Int.reduceLE, Int.reduceEq, Int.reduceAdd, Int.reduceSub, Int.reduceNeg, Int.reduceMul]
      have hcm := calm_calls h3 (hI3.inv0 (by omega)) hJ3 (by have := hI3.ul; omega) last
      rw [ha3] at hcm
      refine wlr_call (w1 := w3) (f := 11) (args := #[.pointer (some ⟨H.a, 0, none⟩), .bool last]) rfl (by kernel_rfl) ?_
      refine hcm.mono ?_
      clear hcm
      rintro e w4 ⟨v4, rfl, rfl, H4, W4, h4, ha4, hC, hue, up4⟩
      refine ⟨_, rfl, wlr_of_wl ?_⟩
      simp (disch := omega) only [push_cast, Nat.reduceBEq, Nat.reduceEqDiff, Nat.reduceAdd, Nat.reduceMul, Nat.reduceSub, Nat.reduceLT, Int.reduceToNat, Int.reduceLT, Int.reduceLE, Int.reduceEq, Int.reduceAdd, Int.reduceSub, Int.reduceNeg, Int.reduceMul, KSr_nor]
      refine wr_of_w mixed ?_
      simp (disch := omega) only [push_cast, Nat.reduceBEq, Nat.reduceEqDiff, Nat.reduceAdd, Nat.reduceMul, Nat.reduceSub, Nat.reduceLT, Int.reduceToNat, Int.reduceLT, Int.reduceLE, Int.reduceEq, Int.reduceAdd, Int.reduceSub, Int.reduceNeg, Int.reduceMul, KSr_nor]
      refine wr_seq (wr_seq (wr_of_w mixed ?_))
      simp (disch := omega) only [push_cast, Nat.reduceBEq, Nat.reduceEqDiff, Nat.reduceAdd, Nat.reduceMul, Nat.reduceSub, Nat.reduceLT, Int.reduceToNat, Int.reduceLT, Int.reduceLE, Int.reduceEq, Int.reduceAdd, Int.reduceSub, Int.reduceNeg, Int.reduceMul, KSr_nor]
      have hn12 := h4.n12
      have hn5 : W4.n ≤ 5 := hC.i0.1.n1.2
      refine wr_block (wr_loop (fun k st w' => ∃ i : Nat, k + i = W4.n ∧ st = [.int .i64 (i : Int)] ∧ WR w.heap.size w' H4 W4 ∧ Upd (fun b => w.heap.size ≤ b) w w') ?_ W4.n ⟨0, rfl, rfl, h4, u03.trans up4 (fun _ _ h => h)⟩)
      clear h4 h3 hI3 hJ3 u03 up4 ha3
      rintro k st w5 ⟨i, hk, rfl, h5, u05⟩
      obtain ⟨ca, cc, hav0⟩ : ∃ a c, H4.allV = .slice a W4.n c := own_slice h5.all
      have ho5 := h5.obj
      rw [hav0, ha4] at ho5
      by_cases hk0 : k = 0
      · obtain rfl : i = W4.n := by omega
        refine wr_seq (wr_of_w mixed ?_)
        simp (disch := omega) only [push_cast, Nat.reduceBEq, Nat.reduceEqDiff, Nat.reduceAdd, Nat.reduceMul, Nat.reduceSub, Nat.reduceLT, Int.reduceToNat, Int.reduceLT, Int.reduceLE, Int.reduceEq, Int.reduceAdd, Int.reduceSub, Int.reduceNeg, Int.reduceMul, ho5.cell, KSr_exit, KJr_exit, KSr_nor]
        refine wr_of_w mixed ?_
        simp (disch := omega) only [push_cast, Nat.reduceBEq, Nat.reduceEqDiff, Nat.reduceAdd, Nat.reduceMul, Nat.reduceSub, Nat.reduceLT, Int.reduceToNat, Int.reduceLT, Int.reduceLE, Int.reduceEq, Int.reduceAdd, Int.reduceSub, Int.reduceNeg, Int.reduceMul]
        exact u05.mono fun b hb h => by omega
      have hi : i < W4.n := by omega
      refine wr_seq (wr_of_w mixed ?_)
      simp (disch := omega) only [push_cast, Nat.reduceBEq, Nat.reduceEqDiff, Nat.reduceAdd, Nat.reduceMul, Nat.reduceSub, Nat.reduceLT, Int.reduceToNat, Int.reduceLT, Int.reduceLE, Int.reduceEq, Int.reduceAdd, Int.reduceSub, Int.reduceNeg, Int.reduceMul, ho5.cell, KSr_nor]
      obtain ⟨dg, dc, hdv, hdc, hdb, hdl, hdcell⟩ := own1 h5.dwn hi
      obtain ⟨ag, ac, hav, hac, hab, hal, hacell⟩ := own1 h5.all hi
      have ho2 := h5.obj
      rw [hdv, hav, ha4] at ho2
      refine wr_seq (wr_block (wr_seq (wr_of_w mixed ?_)))
      cases hdn : W4.down i
      rotate_left
      · rw [hdn] at hdcell
        simp (disch := omega) only [push_cast, Nat.reduceBEq, Nat.reduceEqDiff, Nat.reduceAdd, Nat.reduceMul, Nat.reduceSub, Nat.reduceLT, Int.reduceToNat, Int.reduceLT, Int.reduceLE, Int.reduceEq, Int.reduceAdd, Int.reduceSub, Int.reduceNeg, Int.reduceMul, ho2.cell, hdcell, KSr_exit, KSr_nor]
        refine wr_of_w mixed ?_
        simp (disch := omega) only [push_cast, Nat.reduceBEq, Nat.reduceEqDiff, Nat.reduceAdd, Nat.reduceMul, Nat.reduceSub, Nat.reduceLT, Int.reduceToNat, Int.reduceLT, Int.reduceLE, Int.reduceEq, Int.reduceAdd, Int.reduceSub, Int.reduceNeg, Int.reduceMul, KJr_nor]
        exact ⟨k - 1, by omega, i + 1, by omega, by simp, h5, u05⟩
      rw [hdn] at hdcell
      simp (disch := omega) only [push_cast, Nat.reduceBEq, Nat.reduceEqDiff, Nat.reduceAdd, Nat.reduceMul, Nat.reduceSub, Nat.reduceLT, Int.reduceToNat, Int.reduceLT, Int.reduceLE, Int.reduceEq, Int.reduceAdd, Int.reduceSub, Int.reduceNeg, Int.reduceMul, ho2.cell, hdcell, KSr_nor]
      refine wr_seq (wr_region ?_)
      refine wlr_step ?_
      simp (disch := omega) only [push_cast, Nat.reduceBEq, Nat.reduceEqDiff, Nat.reduceAdd, Nat.reduceMul, Nat.reduceSub, Nat.reduceLT, Int.reduceToNat, Int.reduceLT, Int.reduceLE, Int.reduceEq, Int.reduceAdd, Int.reduceSub, Int.reduceNeg, Int.reduceMul, ho2.cell, hacell]
      refine wlr_step ?_
      simp (disch := omega) only [push_cast, Nat.reduceBEq, Nat.reduceEqDiff, Nat.reduceAdd, Nat.reduceMul, Nat.reduceSub, Nat.reduceLT, Int.reduceToNat, Int.reduceLT, Int.reduceLE, Int.reduceEq, Int.reduceAdd, Int.reduceSub, Int.reduceNeg, Int.reduceMul, ho2.cell, hacell]
      refine wlr_step ?_
      simp (disch := omega) only [push_cast, Nat.reduceBEq, Nat.reduceEqDiff, Nat.reduceAdd, Nat.reduceMul, Nat.reduceSub, Nat.reduceLT, Int.reduceToNat, Int.reduceLT, Int.reduceLE, Int.reduceEq, Int.reduceAdd, Int.reduceSub, Int.reduceNeg, Int.reduceMul, ho2.cell, hacell]
      refine wlr_step ?_
      simp (disch := omega) only [push_cast, Nat.reduceBEq, Nat.reduceEqDiff, Nat.reduceAdd, Nat.reduceMul, Nat.reduceSub, Nat.reduceLT, Int.reduceToNat, Int.reduceLT, Int.reduceLE, Int.reduceEq, Int.reduceAdd, Int.reduceSub, Int.reduceNeg, Int.reduceMul, ho2.cell, hacell]
      refine wlr_step ?_
      simp (disch := omega) only [push_cast, Nat.reduceBEq, Nat.reduceEqDiff, Nat.reduceAdd, Nat.reduceMul, Nat.reduceSub, Nat.reduceLT, Int.reduceToNat, Int.reduceLT, Int.reduceLE, Int.reduceEq, Int.reduceAdd, Int.reduceSub, Int.reduceNeg, Int.reduceMul, ho2.cell, hacell]
      refine wlr_step ?_
      simp (disch := omega) only [push_cast, Nat.reduceBEq, Nat.reduceEqDiff, Nat.reduceAdd, Nat.reduceMul, Nat.reduceSub, Nat.reduceLT, Int.reduceToNat, Int.reduceLT, Int.reduceLE, Int.reduceEq, Int.reduceAdd, Int.reduceSub, Int.reduceNeg, Int.reduceMul, ho2.cell, hacell]
      refine wlr_step ?_
      simp (disch := omega) only [push_cast, Nat.reduceBEq, Nat.reduceEqDiff, Nat.reduceAdd, Nat.reduceMul, Nat.reduceSub, Nat.reduceLT, Int.reduceToNat, Int.reduceLT, Int.reduceLE, Int.reduceEq, Int.reduceAdd, Int.reduceSub, Int.reduceNeg, Int.reduceMul, ho2.cell, hacell]
      have hsn := hC.i0.sane hi
      refine wlr_call (w1 := w5) (f := 13) (args := #[.pointer (some ⟨H4.p i, 0, none⟩)]) rfl (by kernel_rfl) ?_
      refine (Resend_calls (h5.pr i hi) (by have := hsn.2.1; omega) hsn.2.2.2.1).mono ?_
      rintro e w6 ⟨u, rfl, ss, hss, _, hou, hu6⟩
      refine ⟨_, rfl, wlr_of_wl ?_⟩
      have h6 := h5.quiet hu6
      have hpn := h5.pn i hi
      obtain ⟨oa, oc, rfl⟩ := hou.form
      have hto : ∀ y, y ∈ rsO (W4.procs i) ss → ∃ t : Nat, y.t = (t : Int) ∧ t < W4.n ∧ W4.down t = true := by
        intro y hy
        unfold rsO rsB at hy
        obtain ⟨b, _, hy⟩ := List.mem_flatMap.1 hy
        obtain ⟨to, hto, hy⟩ := List.mem_filterMap.1 hy
        have hto := List.mem_range.1 hto
        rw [hpn.1] at hto
        split at hy
        · rename_i l D hf
          split at hy
          · cases hy
          · rename_i hbit
            cases hy
            refine ⟨to, rfl, hto, ?_⟩
            cases hd : W4.down to with
            | true => rfl
            | false => exact absurd (calm_end hue (hC.pd i hi hdn) hf hto hd) hbit
        · cases hy
      have hol := @rsO_length (W4.procs i) ss
      have hssl : ss.length ≤ 305 := by rw [hss.length_eq, List.length_map]; exact (hC.i0.1.lens (Nat.le_refl _) hi).1
      have hmul : ss.length * (W4.procs i).n ≤ 305 * 5 := Nat.mul_le_mul hssl (by rw [hpn.1]; exact hn5)
      have hsz6 : w.heap.size ≤ w6.heap.size := by have := u05.size; have := hu6.size; omega
      generalize rsO (W4.procs i) ss = ps at *
      simp (disch := omega) only [push_cast, Nat.reduceBEq, Nat.reduceEqDiff, Nat.reduceAdd, Nat.reduceMul, Nat.reduceSub, Nat.reduceLT, Int.reduceToNat, Int.reduceLT, Int.reduceLE, Int.reduceEq, Int.reduceAdd, Int.reduceSub, Int.reduceNeg, Int.reduceMul, KSr_nor]
      refine wr_of_w mixed ?_
      simp (disch := omega) only [push_cast, Nat.reduceBEq, Nat.reduceEqDiff, Nat.reduceAdd, Nat.reduceMul, Nat.reduceSub, Nat.reduceLT, Int.reduceToNat, Int.reduceLT, Int.reduceLE, Int.reduceEq, Int.reduceAdd, Int.reduceSub, Int.reduceNeg, Int.reduceMul]
      refine loop_inv (I := fun k st w' => Bx (∃ j : Nat, k + j = ps.length ∧ st = [.int .i64 (j : Int)] ∧ Upd (fun _ => False) w6 w') ⟨⟩) ?_ ps.length ⟨0, rfl, rfl, Upd.refl⟩
      rintro k2 st w7 ⟨j, hk2, rfl, hu7⟩
      by_cases hk20 : k2 = 0
      · simp (disch := omega) only [push_cast, Nat.reduceBEq, Nat.reduceEqDiff, Nat.reduceAdd, Nat.reduceMul, Nat.reduceSub, Nat.reduceLT, Int.reduceToNat, Int.reduceLT, Int.reduceLE, Int.reduceEq, Int.reduceAdd, Int.reduceSub, Int.reduceNeg, Int.reduceMul, KSr_nor]
        refine wr_of_w mixed ?_
        simp (disch := omega) only [push_cast, Nat.reduceBEq, Nat.reduceEqDiff, Nat.reduceAdd, Nat.reduceMul, Nat.reduceSub, Nat.reduceLT, Int.reduceToNat, Int.reduceLT, Int.reduceLE, Int.reduceEq, Int.reduceAdd, Int.reduceSub, Int.reduceNeg, Int.reduceMul, KJr_nor]
        exact ⟨k - 1, by omega, i + 1, by omega, by simp, h6.quiet hu7, (u05.trans hu6 (fun _ _ h => h.elim)).trans hu7 (fun _ _ h => h.elim)⟩
      have hj : j < ps.length := by omega
      have hzj := List.getElem?_eq_getElem hj
      obtain ⟨t, hyt, htn, hdt⟩ := hto _ (List.getElem_mem hj)
      generalize ps[j] = y at *
      have hou7 := hou.quiet hu7
      have h7 := h6.quiet hu7
      obtain ⟨g, cap, pv, hv', hgo, hpv', hcell⟩ := hou7.get hzj
      injection hv' with e1 _ e3
      subst e1
      subst e3
      have q2 := hcell 2 (by omega)
      simp only [pkC, List.getElem?_cons_succ, List.getElem?_cons_zero] at q2
      rw [hyt] at q2
      obtain ⟨eg, ec2, hev, hec, heb, hel, hecell⟩ := own1 h7.dwn htn
      rw [hdt] at hecell
      have ho7 := h7.obj
      rw [hev, hav, ha4] at ho7
      simp (config := { maxSteps := 3000000 }) (disch := omega) only [push_cast, Nat.reduceBEq, Nat.reduceEqDiff, Nat.reduceAdd, Nat.reduceMul, Nat.reduceSub, Nat.reduceLT, Int.reduceToNat, Int.reduceLT, Int.reduceLE, Int.reduceEq, Int.reduceAdd, Int.reduceSub, Int.reduceNeg, Int.reduceMul, q2, ho7.cell, hecell]
      exact ⟨k2 - 1, by omega, j + 1, by omega, by simp, hu7.drew'⟩
    · have hil' : ¬ (i : Int) < xs.length := by omega
      simp (disch := omega) only [push_cast, Nat.reduceBEq, Nat.reduceEqDiff, Nat.reduceAdd, Nat.reduceMul, Nat.reduceSub, Nat.reduceLT, Int.reduceToNat, Int.reduceLT, Int.reduceLE, Int.reduceEq, Int.reduceAdd, Int.reduceSub, Int.reduceNeg, Int.reduceMul, hil', KSr_exit, KJr_exit, KSr_nor]
      refine wr_seq (wr_seq (wr_region (wlr_step ?_)))
      simp (disch := omega) only [push_cast, Nat.reduceBEq, Nat.reduceEqDiff, Nat.reduceAdd, Nat.reduceMul, Nat.reduceSub, Nat.reduceLT, Int.reduceToNat, Int.reduceLT, Int.reduceLE, Int.reduceEq, Int.reduceAdd, Int.reduceSub, Int.reduceNeg, Int.reduceMul]
      refine wlr_step ?_
      simp (disch := omega) only [push_cast, Nat.reduceBEq, Nat.reduceEqDiff, Nat.reduceAdd, Nat.reduceMul, Nat.reduceSub, Nat.reduceLT, Int.reduceToNat, Int.reduceLT, Int.reduceLE, Int.reduceEq, Int.reduceAdd, Int.reduceSub, Int.reduceNeg, Int.reduceMul]
      have hcm := calm_calls h3 (hI3.inv0 (by omega)) hJ3 (by have := hI3.ul; omega) last
      rw [ha3] at hcm
      refine wlr_call (w1 := w3) (f := 11) (args := #[.pointer (some ⟨H.a, 0, none⟩), .bool last]) rfl (by kernel_rfl) ?_
      refine hcm.mono ?_
      clear hcm
      rintro e w4 ⟨v4, rfl, rfl, H4, W4, h4, ha4, hC, hue, up4⟩
      refine ⟨_, rfl, wlr_of_wl ?_⟩
      simp (disch := omega) only [push_cast, Nat.reduceBEq, Nat.reduceEqDiff, Nat.reduceAdd, Nat.reduceMul, Nat.reduceSub, Nat.reduceLT, Int.reduceToNat, Int.reduceLT, Int.reduceLE, Int.reduceEq, Int.reduceAdd, Int.reduceSub, Int.reduceNeg, Int.reduceMul, KSr_nor]
      refine wr_of_w mixed ?_
      simp (disch := omega) only [push_cast, Nat.reduceBEq, Nat.reduceEqDiff, Nat.reduceAdd, Nat.reduceMul, Nat.reduceSub, Nat.reduceLT, Int.reduceToNat, Int.reduceLT, Int.reduceLE, Int.reduceEq, Int.reduceAdd, Int.reduceSub, Int.reduceNeg, Int.reduceMul, KSr_nor]
      refine wr_seq (wr_seq (wr_of_w mixed ?_))
      simp (disch := omega) only [push_cast, Nat.reduceBEq, Nat.reduceEqDiff, Nat.reduceAdd, Nat.reduceMul, Nat.reduceSub, Nat.reduceLT, Int.reduceToNat, Int.reduceLT, Int.reduceLE, Int.reduceEq, Int.reduceAdd, Int.reduceSub, Int.reduceNeg, Int.reduceMul, KSr_nor]
      have hn12 := h4.n12
      have hn5 : W4.n ≤ 5 := hC.i0.1.n1.2
      refine wr_block (wr_loop (fun k st w' => ∃ i : Nat, k + i = W4.n ∧ st = [.int .i64 (i : Int)] ∧ WR w.heap.size w' H4 W4 ∧ Upd (fun b => w.heap.size ≤ b) w w') ?_ W4.n ⟨0, rfl, rfl, h4, u03.trans up4 (fun _ _ h => h)⟩)
      clear h4 h3 hI3 hJ3 u03 up4 ha3
      rintro k st w5 ⟨i, hk, rfl, h5, u05⟩
      obtain ⟨ca, cc, hav0⟩ : ∃ a c, H4.allV = .slice a W4.n c := own_slice h5.all
      have ho5 := h5.obj
      rw [hav0, ha4] at ho5
      by_cases hk0 : k = 0
      · obtain rfl : i = W4.n := by omega
        refine wr_seq (wr_of_w mixed ?_)
        simp (disch := omega) only [push_cast, Nat.reduceBEq, Nat.reduceEqDiff, Nat.reduceAdd, Nat.reduceMul, Nat.reduceSub, Nat.reduceLT, Int.reduceToNat, Int.reduceLT, Int.reduceLE, Int.reduceEq, Int.reduceAdd, Int.reduceSub, Int.reduceNeg, Int.reduceMul, ho5.cell, KSr_exit, KJr_exit, KSr_nor]
        refine wr_of_w mixed ?_
        simp (disch := omega) only [push_cast, Nat.reduceBEq, Nat.reduceEqDiff, Nat.reduceAdd, Nat.reduceMul, Nat.reduceSub, Nat.reduceLT, Int.reduceToNat, Int.reduceLT, Int.reduceLE, Int.reduceEq, Int.reduceAdd, Int.reduceSub, Int.reduceNeg, Int.reduceMul]
        exact u05.mono fun b hb h => by omega
      have hi : i < W4.n := by omega
      refine wr_seq (wr_of_w mixed ?_)
      simp (disch := omega) only [push_cast, Nat.reduceBEq, Nat.reduceEqDiff, Nat.reduceAdd, Nat.reduceMul, Nat.reduceSub, Nat.reduceLT, Int.reduceToNat, Int.reduceLT, Int.reduceLE, Int.reduceEq, Int.reduceAdd, Int.reduceSub, Int.reduceNeg, Int.reduceMul, ho5.cell, KSr_nor]
      obtain ⟨dg, dc, hdv, hdc, hdb, hdl, hdcell⟩ := own1 h5.dwn hi
      obtain ⟨ag, ac, hav, hac, hab, hal, hacell⟩ := own1 h5.all hi
      have ho2 := h5.obj
      rw [hdv, hav, ha4] at ho2
      refine wr_seq (wr_block (wr_seq (wr_of_w mixed ?_)))
      cases hdn : W4.down i
      rotate_left
      · rw [hdn] at hdcell
        simp (disch := omega) only [push_cast, Nat.reduceBEq, Nat.reduceEqDiff, Nat.reduceAdd, Nat.reduceMul, Nat.reduceSub, Nat.reduceLT, Int.reduceToNat, Int.reduceLT, Int.reduceLE, Int.reduceEq, Int.reduceAdd, Int.reduceSub, Int.reduceNeg, Int.reduceMul, ho2.cell, hdcell, KSr_exit, KSr_nor]
        refine wr_of_w mixed ?_
        simp (disch := omega) only [push_cast, Nat.reduceBEq, Nat.reduceEqDiff, Nat.reduceAdd, Nat.reduceMul, Nat.reduceSub, Nat.reduceLT, Int.reduceToNat, Int.reduceLT, Int.reduceLE, Int.reduceEq, Int.reduceAdd, Int.reduceSub, Int.reduceNeg, Int.reduceMul, KJr_nor]
        exact ⟨k - 1, by omega, i + 1, by omega, by simp, h5, u05⟩
      rw [hdn] at hdcell
      simp (disch := omega) only [push_cast, Nat.reduceBEq, Nat.reduceEqDiff, Nat.reduceAdd, Nat.reduceMul, Nat.reduceSub, Nat.reduceLT, Int.reduceToNat, Int.reduceLT, Int.reduceLE, Int.reduceEq, Int.reduceAdd, Int.reduceSub, Int.reduceNeg, Int.reduceMul, ho2.cell, hdcell, KSr_nor]
      refine wr_seq (wr_region ?_)
      refine wlr_step ?_
      simp (disch := omega) only [push_cast, Nat.reduceBEq, Nat.reduceEqDiff, Nat.reduceAdd, Nat.reduceMul, Nat.reduceSub, Nat.reduceLT, Int.reduceToNat, Int.reduceLT, Int.reduceLE, Int.reduceEq, Int.reduceAdd, Int.reduceSub, Int.reduceNeg, Int.reduceMul, ho2.cell, hacell]
      refine wlr_step ?_
      simp (disch := omega) only [push_cast, Nat.reduceBEq, Nat.reduceEqDiff, Nat.reduceAdd, Nat.reduceMul, Nat.reduceSub, Nat.reduceLT, Int.reduceToNat, Int.reduceLT, Int.reduceLE, Int.reduceEq, Int.reduceAdd, Int.reduceSub, Int.reduceNeg, Int.reduceMul, ho2.cell, hacell]
      refine wlr_step ?_
      simp (disch := omega) only [push_cast, Nat.reduceBEq, Nat.reduceEqDiff, Nat.reduceAdd, Nat.reduceMul, Nat.reduceSub, Nat.reduceLT, Int.reduceToNat, Int.reduceLT, Int.reduceLE, Int.reduceEq, Int.reduceAdd, Int.reduceSub, Int.reduceNeg, Int.reduceMul, ho2.cell, hacell]
      refine wlr_step ?_
      simp (disch := omega) only [push_cast, Nat.reduceBEq, Nat.reduceEqDiff, Nat.reduceAdd, Nat.reduceMul, Nat.reduceSub, Nat.reduceLT, Int.reduceToNat, Int.reduceLT, Int.reduceLE, Int.reduceEq, Int.reduceAdd, Int.reduceSub, Int.reduceNeg, Int.reduceMul, ho2.cell, hacell]
      refine wlr_step ?_
      simp (disch := omega) only [push_cast, Nat.reduceBEq, Nat.reduceEqDiff, Nat.reduceAdd, Nat.reduceMul, Nat.reduceSub, Nat.reduceLT, Int.reduceToNat, Int.reduceLT, Int.reduceLE, Int.reduceEq, Int.reduceAdd, Int.reduceSub, Int.reduceNeg, Int.reduceMul, ho2.cell, hacell]
      refine wlr_step ?_
      simp (disch := omega) only [push_cast, Nat.reduceBEq, Nat.reduceEqDiff, Nat.reduceAdd, Nat.reduceMul, Nat.reduceSub, Nat.reduceLT, Int.reduceToNat, Int.reduceLT, Int.reduceLE, Int.reduceEq, Int.reduceAdd, Int.reduceSub, Int.reduceNeg, Int.reduceMul, ho2.cell, hacell]
      refine wlr_step ?_
      simp (disch := omega) only [push_cast, Nat.reduceBEq, Nat.reduceEqDiff, Nat.reduceAdd, Nat.reduceMul, Nat.reduceSub, Nat.reduceLT, Int.reduceToNat, Int.reduceLT, Int.reduceLE, Int.reduceEq, Int.reduceAdd, Int.reduceSub, Int.reduceNeg, Int.reduceMul, ho2.cell, hacell]
      have hsn := hC.i0.sane hi
      refine wlr_call (w1 := w5) (f := 13) (args := #[.pointer (some ⟨H4.p i, 0, none⟩)]) rfl (by kernel_rfl) ?_
      refine (Resend_calls (h5.pr i hi) (by have := hsn.2.1; omega) hsn.2.2.2.1).mono ?_
      rintro e w6 ⟨u, rfl, ss, hss, _, hou, hu6⟩
      refine ⟨_, rfl, wlr_of_wl ?_⟩
      have h6 := h5.quiet hu6
      have hpn := h5.pn i hi
      obtain ⟨oa, oc, rfl⟩ := hou.form
      have hto : ∀ y, y ∈ rsO (W4.procs i) ss → ∃ t : Nat, y.t = (t : Int) ∧ t < W4.n ∧ W4.down t = true := by
        intro y hy
        unfold rsO rsB at hy
        obtain ⟨b, _, hy⟩ := List.mem_flatMap.1 hy
        obtain ⟨to, hto, hy⟩ := List.mem_filterMap.1 hy
        have hto := List.mem_range.1 hto
        rw [hpn.1] at hto
        split at hy
        · rename_i l D hf
          split at hy
          · cases hy
          · rename_i hbit
            cases hy
            refine ⟨to, rfl, hto, ?_⟩
            cases hd : W4.down to with
            | true => rfl
            | false => exact absurd (calm_end hue (hC.pd i hi hdn) hf hto hd) hbit
        · cases hy
      have hol := @rsO_length (W4.procs i) ss
      have hssl : ss.length ≤ 305 := by rw [hss.length_eq, List.length_map]; exact (hC.i0.1.lens (Nat.le_refl _) hi).1
      have hmul : ss.length * (W4.procs i).n ≤ 305 * 5 := Nat.mul_le_mul hssl (by rw [hpn.1]; exact hn5)
      have hsz6 : w.heap.size ≤ w6.heap.size := by have := u05.size; have := hu6.size; omega
      generalize rsO (W4.procs i) ss = ps at *
      simp (disch := omega) only [push_cast, Nat.reduceBEq, Nat.reduceEqDiff, Nat.reduceAdd, Nat.reduceMul, Nat.reduceSub, Nat.reduceLT, Int.reduceToNat, Int.reduceLT, Int.reduceLE, Int.reduceEq, Int.reduceAdd, Int.reduceSub, Int.reduceNeg, Int.reduceMul, KSr_nor]
      refine wr_of_w mixed ?_
      simp (disch := omega) only [push_cast, Nat.reduceBEq, Nat.reduceEqDiff, Nat.reduceAdd, Nat.reduceMul, Nat.reduceSub, Nat.reduceLT, Int.reduceToNat, Int.reduceLT, Int.reduceLE, Int.reduceEq, Int.reduceAdd, Int.reduceSub, Int.reduceNeg, Int.reduceMul]
      refine loop_inv (I := fun k st w' => Bx (∃ j : Nat, k + j = ps.length ∧ st = [.int .i64 (j : Int)] ∧ Upd (fun _ => False) w6 w') ⟨⟩) ?_ ps.length ⟨0, rfl, rfl, Upd.refl⟩
      rintro k2 st w7 ⟨j, hk2, rfl, hu7⟩
      by_cases hk20 : k2 = 0
      · simp (disch := omega) only [push_cast, Nat.reduceBEq, Nat.reduceEqDiff, Nat.reduceAdd, Nat.reduceMul, Nat.reduceSub, Nat.reduceLT, Int.reduceToNat, Int.reduceLT, Int.reduceLE, Int.reduceEq, Int.reduceAdd, Int.reduceSub, Int.reduceNeg, Int.reduceMul, KSr_nor]
        refine wr_of_w mixed ?_
        simp (disch := omega) only [push_cast, Nat.reduceBEq, Nat.reduceEqDiff, Nat.reduceAdd, Nat.reduceMul, Nat.reduceSub, Nat.reduceLT, Int.reduceToNat, Int.reduceLT, Int.reduceLE, Int.reduceEq, Int.reduceAdd, Int.reduceSub, Int.reduceNeg, Int.reduceMul, KJr_nor]
        exact ⟨k - 1, by omega, i + 1, by omega, by simp, h6.quiet hu7, (u05.trans hu6 (fun _ _ h => h.elim)).trans hu7 (fun _ _ h => h.elim)⟩
      have hj : j < ps.length := by omega
      have hzj := List.getElem?_eq_getElem hj
      obtain ⟨t, hyt, htn, hdt⟩ := hto _ (List.getElem_mem hj)
      generalize ps[j] = y at *
      have hou7 := hou.quiet hu7
      have h7 := h6.quiet hu7
      obtain ⟨g, cap, pv, hv', hgo, hpv', hcell⟩ := hou7.get hzj
      injection hv' with e1 _ e3
      subst e1
      subst e3
      have q2 := hcell 2 (by omega)
      simp only [pkC, List.getElem?_cons_succ, List.getElem?_cons_zero] at q2
      rw [hyt] at q2
      obtain ⟨eg, ec2, hev, hec, heb, hel, hecell⟩ := own1 h7.dwn htn
      rw [hdt] at hecell
      have ho7 := h7.obj
      rw [hev, hav, ha4] at ho7
      simp (config := { maxSteps := 3000000 }) (disch := omega) only [push_cast, Nat.reduceBEq, Nat.reduceEqDiff, Nat.reduceAdd, Nat.reduceMul, Nat.reduceSub, Nat.reduceLT, Int.reduceToNat, Int.reduceLT, Int.reduceLE, Int.reduceEq, Int.reduceAdd, Int.reduceSub, Int.reduceNeg, Int.reduceMul, q2, ho7.cell, hecell]
      exact ⟨k2 - 1, by omega, j + 1, by omega, by simp, hu7.drew'⟩
  refine wr_seq (wr_of_w mixed ?_)
  have hil : i < xs.length := by omega
  have hil' : (i : Int) < xs.length := by omega
  have h60 : (i : Int) < 60 := by omega
  simp (disch := omega) only [push_cast, Nat.reduceBEq, Nat.reduceEqDiff, Nat.reduceAdd, Nat.reduceMul, Nat.reduceSub, Nat.reduceLT, Int.reduceToNat, Int.reduceLT, Int.reduceLE, Int.reduceEq, Int.reduceAdd, Int.reduceSub, Int.reduceNeg, Int.reduceMul, hil', h60, KSr_nor]
  have hxi := List.getElem?_eq_getElem hil
  have hxl := hx _ (List.getElem_mem hil)
  generalize xs[i] = x at *
  obtain ⟨eb, eo, ec', pv, he, q0, q1, q2, hpv⟩ := hv.get u03 hxi
  injection he with e1 _ e3
  subst e1
  subst e3
  obtain ⟨pa, pc, rfl⟩ := hpv.form
  obtain ⟨xk, xA, xl⟩ := x
  simp only at q0 q1 q2 hpv hxl
  refine wr_seq (wr_block (wr_seq (wr_region (wlr_step ?_))))
  simp (disch := omega) only [push_cast, Nat.reduceBEq, Nat.reduceEqDiff, Nat.reduceAdd, Nat.reduceMul, Nat.reduceSub, Nat.reduceLT, Int.reduceToNat, Int.reduceLT, Int.reduceLE, Int.reduceEq, Int.reduceAdd, Int.reduceSub, Int.reduceNeg, Int.reduceMul]
  refine wlr_step ?_
  simp (disch := omega) only [push_cast, Nat.reduceBEq, Nat.reduceEqDiff, Nat.reduceAdd, Nat.reduceMul, Nat.reduceSub, Nat.reduceLT, Int.reduceToNat, Int.reduceLT, Int.reduceLE, Int.reduceEq, Int.reduceAdd, Int.reduceSub, Int.reduceNeg, Int.reduceMul]
  refine wlr_step ?_
  simp (disch := omega) only [push_cast, Nat.reduceBEq, Nat.reduceEqDiff, Nat.reduceAdd, Nat.reduceMul, Nat.reduceSub, Nat.reduceLT, Int.reduceToNat, Int.reduceLT, Int.reduceLE, Int.reduceEq, Int.reduceAdd, Int.reduceSub, Int.reduceNeg, Int.reduceMul]
  refine wlr_step ?_
  simp (disch := omega) only [push_cast, Nat.reduceBEq, Nat.reduceEqDiff, Nat.reduceAdd, Nat.reduceMul, Nat.reduceSub, Nat.reduceLT, Int.reduceToNat, Int.reduceLT, Int.reduceLE, Int.reduceEq, Int.reduceAdd, Int.reduceSub, Int.reduceNeg, Int.reduceMul]
  refine wlr_step ?_
  simp (disch := omega) only [push_cast, Nat.reduceBEq, Nat.reduceEqDiff, Nat.reduceAdd, Nat.reduceMul, Nat.reduceSub, Nat.reduceLT, Int.reduceToNat, Int.reduceLT, Int.reduceLE, Int.reduceEq, Int.reduceAdd, Int.reduceSub, Int.reduceNeg, Int.reduceMul, q0, q1, q2]
  have hpl := play_calls h3 (hI3.rdy (by omega)) (⟨xk, xA, xl⟩, .slice pa xl.length pc) hpv (by simp only; omega)
  rw [ha3] at hpl
  unfold evV evC at hpl
  simp only at hpl
  refine wlr_call (w1 := w3) (f := 9) (args := #[.pointer (some ⟨H.a, 0, none⟩), .agg [.int .i64 xk, .int .i64 xA, .slice pa xl.length pc].toArray]) rfl (by kernel_rfl) ?_
  refine hpl.mono ?_
  clear hpl
  rintro e w4 ⟨rfl, H4, W4, h4, ha4, hP4, u34⟩
  refine ⟨_, rfl, wlr_of_wl ?_⟩
  have hI4 := hP4.inv1 hI3 (by omega) hxl
  have u04 := u03.trans u34 (fun _ _ h => h)
  have hJ4 := hP4.inv2 (hI3.inv0 (by omega)) hJ3
  simp (disch := omega) only [push_cast, Nat.reduceBEq, Nat.reduceEqDiff, Nat.reduceAdd, Nat.reduceMul, Nat.reduceSub, Nat.reduceLT, Int.reduceToNat, Int.reduceLT, Int.reduceLE, Int.reduceEq, Int.reduceAdd, Int.reduceSub, Int.reduceNeg, Int.reduceMul]
  simp (disch := omega) only [push_cast, Nat.reduceBEq, Nat.reduceEqDiff, Nat.reduceAdd, Nat.reduceMul, Nat.reduceSub, Nat.reduceLT, Int.reduceToNat, Int.reduceLT, Int.reduceLE, Int.reduceEq, Int.reduceAdd, Int.reduceSub, Int.reduceNeg, Int.reduceMul, KSr_nor]
  refine wr_of_w mixed ?_
  simp (disch := omega) only [push_cast, Nat.reduceBEq, Nat.reduceEqDiff, Nat.reduceAdd, Nat.reduceMul, Nat.reduceSub, Nat.reduceLT, Int.reduceToNat, Int.reduceLT, Int.reduceLE, Int.reduceEq, Int.reduceAdd, Int.reduceSub, Int.reduceNeg, Int.reduceMul, KSr_nor]
  refine wr_of_w mixed ?_
  simp (disch := omega) only [push_cast, Nat.reduceBEq, Nat.reduceEqDiff, Nat.reduceAdd, Nat.reduceMul, Nat.reduceSub, Nat.reduceLT, Int.reduceToNat, Int.reduceLT, Int.reduceLE, Int.reduceEq, Int.reduceAdd, Int.reduceSub, Int.reduceNeg, Int.reduceMul, KJr_nor]
  exact ⟨k - 1, by omega, i + 1, H4, W4, by omega, by simp, h4, ha4, hI4, hJ4, u04⟩
theorem broadcastQuiet_law {w : World} (n : Int) (_hn : (Lit.int .i64 n).wf = true) {v : Value} (h : ∃ l, SlV w v l ∧ ∀ x, x ∈ l → x.l.length ≤ 140737488351232) (last : Bool) :
    Calls Try.prog 5 #[.int .i64 n, v, .bool last] w fun e w' => e = .returned (.bool true) ∧ RowKit.Below w.heap.size w w' := by
  obtain ⟨l, h1, h2⟩ := h
  exact calls_law (broadcastQuiet_calls n h1 h2 last)
end Go.Proofs.Ytpgfokhpacdhjaa.Fd
