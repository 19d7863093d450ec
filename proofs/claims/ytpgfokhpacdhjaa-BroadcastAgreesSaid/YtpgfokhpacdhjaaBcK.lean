/-
  BroadcastPrefixes: the reading.
-/
import Derived.Test.YtpgfokhpacdhjaaBcG
import Derived.Test.YtpgfokhpacdhjaaBcL
namespace Go.Proofs.Ytpgfokhpacdhjaa.Fd
set_option linter.unusedSimpArgs false
set_option linter.unusedVariables false
open Go Go.ChangeMaps
set_option maxRecDepth 100000

theorem u_five {A : Int} : (IntKind.u64.wrap A).tmod 5 = (idx A 5 : Int) := u_idx (k := 5) (by omega)
/-- An event of the row, in a world that has only changed blocks not older than base. -/
theorem SlV.get {w w' : World} {v : Value} {xs : List Ev} (h : SlV w v xs) (u : Upd (fun b => w.heap.size ≤ b) w w') {j : Nat} {x : Ev} (hj : xs[j]? = some x) :
    ∃ b o c pv, v = .slice (some ⟨b, o, none⟩) xs.length c ∧ w'.cell? ⟨b, o + j * 3, none⟩ = some (.int .i64 x.k) ∧ w'.cell? ⟨b, o + j * 3 + 1, none⟩ = some (.int .i64 x.A) ∧ w'.cell? ⟨b, o + j * 3 + 2, none⟩ = some pv ∧ PB w.heap.size w' pv x.l := by
  obtain ⟨a, c, hv, hl⟩ := h
  obtain ⟨b, o, rfl, hb, hc⟩ := hl (fun e => by rw [e] at hj; simp at hj)
  obtain ⟨h1, h2, pv, h3, h4⟩ := hc j x hj
  have e : ∀ o, w'.cell? ⟨b, o, none⟩ = w.cell? ⟨b, o, none⟩ := fun o => World.cell?_of_block (u.block b hb (fun h => by omega))
  refine ⟨b, o, c, pv, hv, by rw [e]; exact h1, by rw [e]; exact h2, by rw [e]; exact h3, h4.keep ?_⟩
  exact ⟨u.size, fun b' hs => u.block b' hs.1 (fun h => by have := hs.1; omega)⟩
set_option maxHeartbeats 4000000 in
theorem broadcastPrefixes_calls {w : World} (n : Int) {v : Value} {xs : List Ev} (hv : SlV w v xs) (hx : ∀ x, x ∈ xs → x.l.length ≤ 140737488351232) :
    Calls Try.prog 3 #[.int .i64 n, v] w fun e w' => ∃ u, e = .returned u ∧ u = .bool true ∧ Upd (fun _ => False) w w' := by
  obtain ⟨ea, ec, rfl, _⟩ := id hv
  refine calls_of_wr (args := [.int .i64 n, .slice ea xs.length ec]) rs3 Try.func3 rfl ok3 rfl (R := fun u w' => u = .bool true ∧ Upd (fun _ => False) w w') ?_
  refine wr_seq (wr_of_w mixed ?_)
  simp (disch := omega) only [push_cast, Nat.reduceBEq, Nat.reduceEqDiff, Nat.reduceAdd, Nat.reduceMul, Nat.reduceSub, Nat.reduceLT, Int.reduceToNat, Int.reduceLT, Int.reduceLE, Int.reduceEq, Int.reduceAdd, Int.reduceSub, Int.reduceNeg, Int.reduceMul, KSr_nor]
  refine wr_seq (wr_of_w mixed ?_)
  simp (disch := omega) only [push_cast, Nat.reduceBEq, Nat.reduceEqDiff, Nat.reduceAdd, Nat.reduceMul, Nat.reduceSub, Nat.reduceLT, Int.reduceToNat, Int.reduceLT, Int.reduceLE, Int.reduceEq, Int.reduceAdd, Int.reduceSub, Int.reduceNeg, Int.reduceMul, KSr_nor]
  refine Ok.use awake_ok ?_
  rintro v0 w1 ⟨rfl, hu1⟩
  simp (disch := omega) only [push_cast, Nat.reduceBEq, Nat.reduceEqDiff, Nat.reduceAdd, Nat.reduceMul, Nat.reduceSub, Nat.reduceLT, Int.reduceToNat, Int.reduceLT, Int.reduceLE, Int.reduceEq, Int.reduceAdd, Int.reduceSub, Int.reduceNeg, Int.reduceMul, KSr_nor]
  refine wr_seq (wr_of_w mixed ?_)
  have h5 := u_five (A := n)
  have hi5 := idx_lt (A := n) (k := 5) (by omega)
  simp (disch := omega) only [push_cast, Nat.reduceBEq, Nat.reduceEqDiff, Nat.reduceAdd, Nat.reduceMul, Nat.reduceSub, Nat.reduceLT, Int.reduceToNat, Int.reduceLT, Int.reduceLE, Int.reduceEq, Int.reduceAdd, Int.reduceSub, Int.reduceNeg, Int.reduceMul, KSr_nor, cnv_i_u, cnv_u_i, h5]
  rw [show (1 + (idx n 5 : Int)) = ((1 + idx n 5 : Nat) : Int) from by omega]
  generalize hN : 1 + idx n 5 = N at *
  refine Ok.use (begin_ok (base := w.heap.size) hu1.size N (by omega)) ?_
  rintro v0 w2 ⟨H, rfl, hW2, hu2⟩
  simp (disch := omega) only [push_cast, Nat.reduceBEq, Nat.reduceEqDiff, Nat.reduceAdd, Nat.reduceMul, Nat.reduceSub, Nat.reduceLT, Int.reduceToNat, Int.reduceLT, Int.reduceLE, Int.reduceEq, Int.reduceAdd, Int.reduceSub, Int.reduceNeg, Int.reduceMul, KSr_nor]
  refine wr_seq (wr_of_w mixed ?_)
  simp (disch := omega) only [push_cast, Nat.reduceBEq, Nat.reduceEqDiff, Nat.reduceAdd, Nat.reduceMul, Nat.reduceSub, Nat.reduceLT, Int.reduceToNat, Int.reduceLT, Int.reduceLE, Int.reduceEq, Int.reduceAdd, Int.reduceSub, Int.reduceNeg, Int.reduceMul, KSr_nor]
  refine wr_seq (wr_seq (wr_of_w mixed ?_))
  simp (disch := omega) only [push_cast, Nat.reduceBEq, Nat.reduceEqDiff, Nat.reduceAdd, Nat.reduceMul, Nat.reduceSub, Nat.reduceLT, Int.reduceToNat, Int.reduceLT, Int.reduceLE, Int.reduceEq, Int.reduceAdd, Int.reduceSub, Int.reduceNeg, Int.reduceMul, KSr_nor]
  have u02 : Upd (fun b => w.heap.size ≤ b) w w2 := (hu1.trans hu2 (fun _ _ h => h)).mono (fun _ _ h => h.elim)
  refine wr_block (wr_loop (fun k st w' => ∃ (i : Nat) (H' : Hp) (W' : Wd), k + i = min xs.length 60 ∧ st = [.int .i64 (i : Int)] ∧ WR w.heap.size w' H' W' ∧ H'.a = H.a ∧ Inv1 i W' ∧ Upd (fun b => w.heap.size ≤ b) w w') ?_ (min xs.length 60) ⟨0, H, W0 N, rfl, rfl, hW2, rfl, Inv1.start N (by omega), u02⟩)
  clear hW2 u02 hu2 hu1
  rintro k st w3 ⟨i, H3, W3, hk, rfl, h3, ha3, hI3, u03⟩
  by_cases hk0 : k = 0
  · refine wr_seq (wr_of_w mixed ?_)
    by_cases hil : i < xs.length
    · have hil' : (i : Int) < xs.length := by omega
      have h60 : ¬ (i : Int) < 60 := by omega
      simp (disch := omega) only [push_cast, Nat.reduceBEq, Nat.reduceEqDiff, Nat.reduceAdd, Nat.reduceMul, Nat.reduceSub, Nat.reduceLT, Int.reduceToNat, Int.reduceLT, Int.reduceLE, Int.reduceEq, Int.reduceAdd, Int.reduceSub, Int.reduceNeg, Int.reduceMul, hil', h60, KSr_exit, KJr_exit, KSr_nor]
      refine wr_of_w mixed ?_
      simp (disch := omega) only [push_cast, Nat.reduceBEq, Nat.reduceEqDiff, Nat.reduceAdd, Nat.reduceMul, Nat.reduceSub, Nat.reduceLT, Int.reduceToNat, Int.reduceLT, Int.reduceLE, Int.reduceEq, Int.reduceAdd, Int.reduceSub, Int.reduceNeg, Int.reduceMul]
      exact u03.mono fun b hb h => by omega
    · have hil' : ¬ (i : Int) < xs.length := by omega
      simp (disch := omega) only [push_cast, Nat.reduceBEq, Nat.reduceEqDiff, Nat.reduceAdd, Nat.reduceMul, Nat.reduceSub, Nat.reduceLT, Int.reduceToNat, Int.reduceLT, Int.reduceLE, Int.reduceEq, Int.reduceAdd, Int.reduceSub, Int.reduceNeg, Int.reduceMul, hil', KSr_exit, KJr_exit, KSr_nor]
      refine wr_of_w mixed ?_
      simp (disch := omega) only [push_cast, Nat.reduceBEq, Nat.reduceEqDiff, Nat.reduceAdd, Nat.reduceMul, Nat.reduceSub, Nat.reduceLT, Int.reduceToNat, Int.reduceLT, Int.reduceLE, Int.reduceEq, Int.reduceAdd, Int.reduceSub, Int.reduceNeg, Int.reduceMul]
      exact u03.mono fun b hb h => by omega
  refine wr_seq (wr_of_w mixed ?_)
  have hil : i < xs.length := by omega
  have hil' : (i : Int) < xs.length := by omega
  have h60 : (i : Int) < 60 := by omega
  simp (disch := omega) only [push_cast, Nat.reduceBEq, Nat.reduceEqDiff, Nat.reduceAdd, Nat.reduceMul, Nat.reduceSub, Nat.reduceLT, Int.reduceToNat, Int.reduceLT, Int.reduceLE, Int.reduceEq, Int.reduceAdd, Int.reduceSub, Int.reduceNeg, Int.reduceMul, hil', h60, KSr_nor]
  have hxi := List.getElem?_eq_getElem hil
  have hxl := hx _ (List.getElem_mem hil)
  generalize xs[i] = x at *
  obtain ⟨eb, eo, ec', pv, he, q0, q1, q2, hpv⟩ := hv.get u03 hxi
  injection he with e1 _ e3
  subst e1
  subst e3
  obtain ⟨pa, pc, rfl⟩ := hpv.form
  obtain ⟨xk, xA, xl⟩ := x
  simp only at q0 q1 q2 hpv hxl
  refine wr_seq (wr_block (wr_seq (wr_region (wlr_step ?_))))
  simp (disch := omega) only [push_cast, Nat.reduceBEq, Nat.reduceEqDiff, Nat.reduceAdd, Nat.reduceMul, Nat.reduceSub, Nat.reduceLT, Int.reduceToNat, Int.reduceLT, Int.reduceLE, Int.reduceEq, Int.reduceAdd, Int.reduceSub, Int.reduceNeg, Int.reduceMul]
  refine wlr_step ?_
  simp (disch := omega) only [push_cast, Nat.reduceBEq, Nat.reduceEqDiff, Nat.reduceAdd, Nat.reduceMul, Nat.reduceSub, Nat.reduceLT, Int.reduceToNat, Int.reduceLT, Int.reduceLE, Int.reduceEq, Int.reduceAdd, Int.reduceSub, Int.reduceNeg, Int.reduceMul]
  refine wlr_step ?_
  simp (disch := omega) only [push_cast, Nat.reduceBEq, Nat.reduceEqDiff, Nat.reduceAdd, Nat.reduceMul, Nat.reduceSub, Nat.reduceLT, Int.reduceToNat, Int.reduceLT, Int.reduceLE, Int.reduceEq, Int.reduceAdd, Int.reduceSub, Int.reduceNeg, Int.reduceMul]
  refine wlr_step ?_
  simp (disch := omega) only [push_cast, Nat.reduceBEq, Nat.reduceEqDiff, Nat.reduceAdd, Nat.reduceMul, Nat.reduceSub, Nat.reduceLT, Int.reduceToNat, Int.reduceLT, Int.reduceLE, Int.reduceEq, Int.reduceAdd, Int.reduceSub, Int.reduceNeg, Int.reduceMul]
  refine wlr_step ?_
  simp (disch := omega) only [push_cast, Nat.reduceBEq, Nat.reduceEqDiff, Nat.reduceAdd, Nat.reduceMul, Nat.reduceSub, Nat.reduceLT, Int.reduceToNat, Int.reduceLT, Int.reduceLE, Int.reduceEq, Int.reduceAdd, Int.reduceSub, Int.reduceNeg, Int.reduceMul, q0, q1, q2]
  have hpl := play_calls h3 (hI3.rdy (by omega)) (⟨xk, xA, xl⟩, .slice pa xl.length pc) hpv (by simp only; omega)
  rw [ha3] at hpl
  unfold evV evC at hpl
  simp only at hpl
  refine wlr_call (w1 := w3) (f := 9) (args := #[.pointer (some ⟨H.a, 0, none⟩), .agg [.int .i64 xk, .int .i64 xA, .slice pa xl.length pc].toArray]) rfl (by kernel_rfl) ?_
  refine hpl.mono ?_
  clear hpl
  rintro e w4 ⟨rfl, H4, W4, h4, ha4, hP4, u34⟩
  refine ⟨_, rfl, wlr_of_wl ?_⟩
  have hI4 := hP4.inv1 hI3 (by omega) hxl
  have u04 := u03.trans u34 (fun _ _ h => h)
  have hpf := prefixes_ok h4 (fun j hj => (hI4.ls j hj).1) (fun j hj => by
    obtain ⟨l1, l2⟩ := hI4.lens (by omega) hj
    exact ⟨by omega, (hI4.sane (by omega) hj).2.2.2.2⟩)
  rw [ha4] at hpf
  simp (disch := omega) only [push_cast, Nat.reduceBEq, Nat.reduceEqDiff, Nat.reduceAdd, Nat.reduceMul, Nat.reduceSub, Nat.reduceLT, Int.reduceToNat, Int.reduceLT, Int.reduceLE, Int.reduceEq, Int.reduceAdd, Int.reduceSub, Int.reduceNeg, Int.reduceMul]
  refine Ok.use hpf ?_
  rintro v5 w5 ⟨rfl, hu5⟩
  simp (disch := omega) only [push_cast, Nat.reduceBEq, Nat.reduceEqDiff, Nat.reduceAdd, Nat.reduceMul, Nat.reduceSub, Nat.reduceLT, Int.reduceToNat, Int.reduceLT, Int.reduceLE, Int.reduceEq, Int.reduceAdd, Int.reduceSub, Int.reduceNeg, Int.reduceMul, KSr_nor]
  refine wr_of_w mixed ?_
  simp (disch := omega) only [push_cast, Nat.reduceBEq, Nat.reduceEqDiff, Nat.reduceAdd, Nat.reduceMul, Nat.reduceSub, Nat.reduceLT, Int.reduceToNat, Int.reduceLT, Int.reduceLE, Int.reduceEq, Int.reduceAdd, Int.reduceSub, Int.reduceNeg, Int.reduceMul, KSr_nor]
  refine wr_of_w mixed ?_
  simp (disch := omega) only [push_cast, Nat.reduceBEq, Nat.reduceEqDiff, Nat.reduceAdd, Nat.reduceMul, Nat.reduceSub, Nat.reduceLT, Int.reduceToNat, Int.reduceLT, Int.reduceLE, Int.reduceEq, Int.reduceAdd, Int.reduceSub, Int.reduceNeg, Int.reduceMul, KJr_nor]
  exact ⟨k - 1, by omega, i + 1, H4, W4, by omega, by simp, h4.quiet hu5, ha4, hI4, u04.trans hu5 (fun _ _ h => h.elim)⟩
theorem calls_law {f : FuncId} {args : Array Value} {w : World} (h : Calls Try.prog f args w fun e w' => ∃ u, e = .returned u ∧ u = .bool true ∧ Upd (fun _ => False) w w') :
    Calls Try.prog f args w fun e w' => e = .returned (.bool true) ∧ RowKit.Below w.heap.size w w' := by
  refine h.mono ?_
  rintro e w' ⟨u, rfl, rfl, hu⟩
  exact ⟨rfl, hu.os, hu.tape, hu.output, hu.size, fun k hk => hu.block k hk (fun h => h)⟩
theorem broadcastPrefixes_law {w : World} (n : Int) (_hn : (Lit.int .i64 n).wf = true) {v : Value} (h : ∃ l, SlV w v l ∧ ∀ x, x ∈ l → x.l.length ≤ 140737488351232) :
    Calls Try.prog 3 #[.int .i64 n, v] w fun e w' => e = .returned (.bool true) ∧ RowKit.Below w.heap.size w w' := by
  obtain ⟨l, h1, h2⟩ := h
  exact calls_law (broadcastPrefixes_calls n h1 h2)
end Go.Proofs.Ytpgfokhpacdhjaa.Fd
