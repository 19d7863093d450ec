/-
  prefixes.
-/
import Derived.Test.YtpgfokhpacdhjaaBcE
namespace Go.Proofs.Ytpgfokhpacdhjaa.Fd
set_option linter.unusedSimpArgs false
set_option linter.unusedVariables false
open Go Go.ChangeMaps
set_option maxRecDepth 100000

def cnt (xs : List (NP × List Int)) (o : Int) : Nat := (xs.filter fun d => decide (d.1.1 = o)).length
def DelOk (n : Nat) (sent : Nat → List (List Int)) (list : List (NP × List Int)) : Prop :=
  ∀ (j : Nat) d, list[j]? = some d → ∃ o : Nat, d.1.1 = (o : Int) ∧ o < n ∧ d.1.2 = (cnt (list.take j) o : Int) + 1 ∧ (sent o)[cnt (list.take j) o]? = some d.2
theorem cnt_succ {xs : List (NP × List Int)} {j : Nat} {d : NP × List Int} (h : xs[j]? = some d) (o : Int) : cnt (xs.take (j + 1)) o = cnt (xs.take j) o + (if d.1.1 = o then 1 else 0) := by
  obtain ⟨hlt, rfl⟩ := List.getElem?_eq_some_iff.1 h
  rw [List.take_succ_eq_append_getElem hlt]
  unfold cnt
  rw [List.filter_append, List.length_append]
  congr 1
  by_cases e : xs[j].1.1 = o <;> simp [e]
theorem cnt_le {xs : List (NP × List Int)} {o : Int} : cnt xs o ≤ xs.length := List.length_filter_le _ _
set_option maxHeartbeats 8000000 in
theorem prefixes_ok {base : Nat} {w : World} {H : Hp} {W : Wd} (h : WR base w H W) (hD : ∀ i, i < W.n → DelOk W.n W.sent (W.procs i).list) (hS : ∀ i, i < W.n → (W.procs i).list.length ≤ 100000 ∧ ∀ x ∈ (W.procs i).list, x.2.length ≤ 140737488355328) :
    Ok (den Try.prog 10 #[.pointer (some ⟨H.a, 0, none⟩)] w) fun v w' => v = .bool true ∧ Upd (fun _ => False) w w' := by
  refine den_ok (args := [.pointer (some ⟨H.a, 0, none⟩)]) rs10 Try.func10 rfl mixed in10 ok10 rfl ?_
  have hn12 := h.n12
  simp (disch := omega) only [push_cast, Nat.reduceBEq, Nat.reduceEqDiff, Nat.reduceAdd, Nat.reduceMul, Nat.reduceSub, Nat.reduceLT, Int.reduceToNat, Int.reduceLT, Int.reduceLE, Int.reduceEq, Int.reduceAdd, Int.reduceSub, Int.reduceNeg, Int.reduceMul]
  refine loop_inv (I := fun k st w' => Bx (∃ (i : Nat), k + i = W.n ∧ st = [.int .i64 (i : Int)] ∧ Upd (fun _ => False) w w') ⟨⟩) ?_ W.n ⟨0, rfl, rfl, Upd.refl⟩
  rintro k st w1 ⟨i, hk, rfl, u1⟩
  have h1 := h.quiet u1
  obtain ⟨ca, cc, hav0⟩ : ∃ a c, H.allV = .slice a W.n c := own_slice h1.all
  have ho1 := h1.obj
  rw [hav0] at ho1
  by_cases hk0 : k = 0
  · obtain rfl : i = W.n := by omega
    simp (disch := omega) only [push_cast, Nat.reduceBEq, Nat.reduceEqDiff, Nat.reduceAdd, Nat.reduceMul, Nat.reduceSub, Nat.reduceLT, Int.reduceToNat, Int.reduceLT, Int.reduceLE, Int.reduceEq, Int.reduceAdd, Int.reduceSub, Int.reduceNeg, Int.reduceMul, ho1.cell]
    exact u1
  have hi : i < W.n := by omega
  obtain ⟨ag, ac, hav, hac, hab, hal, hacell⟩ := own1 h1.all hi
  rw [hav] at hav0
  injection hav0 with e1 _ e3
  subst e1
  subst e3
  have hSi := hS i hi
  have b2 := Blk.new (w := w1) (cs := List.replicate W.n (.int .i64 0)) (E := 3)
  have u2 : Upd (fun _ => False) w1 (w1.alloc (.cells (List.replicate W.n (Value.int .i64 0)).toArray 3 (0, 0))) := Upd.alloc
  have h2 := h1.quiet u2
  have ho2 := h2.obj
  rw [hav] at ho2
  have hc2 : (w1.alloc (.cells (List.replicate W.n (Value.int .i64 0)).toArray 3 (0, 0))).cell? ⟨ag, i, none⟩ = some (.pointer (some ⟨H.p i, 0, none⟩)) := by rw [World.cell?_of_block (a := ⟨ag, i, none⟩) (u2.block ag hal (fun h => h))]; exact hacell
  simp (disch := omega) only [push_cast, Nat.reduceBEq, Nat.reduceEqDiff, Nat.reduceAdd, Nat.reduceMul, Nat.reduceSub, Nat.reduceLT, Int.reduceToNat, Int.reduceLT, Int.reduceLE, Int.reduceEq, Int.reduceAdd, Int.reduceSub, Int.reduceNeg, Int.reduceMul, ho1.cell, ho2.cell, hc2]
  refine Ok.use (Delivered_ok (h2.pr i hi) (by omega) hSi.2) ?_
  rintro dv w3 ⟨⟨ds, hdo, hdl⟩, hu3⟩
  have b3 := b2.upd hu3 (fun h => h)
  rw [atL_zero] at b3
  have s12 : w1.heap.size < w3.heap.size := b3.lt
  have u13 := u2.trans hu3 (fun _ _ h => h)
  have hds : ds.length = (W.procs i).list.length := hdl.1
  obtain ⟨da, dc, rfl⟩ := own_slice hdo
  generalize hL : (W.procs i).list = list at *
  have hDi := hD i hi
  rw [hL] at hDi
  have hwb : base ≤ w1.heap.size := by have := h1.ba; have := ho1.lt; omega
  have hsd : w1.heap.size < (w1.alloc (.cells (List.replicate W.n (Value.int .i64 0)).toArray 3 (0, 0))).heap.size := by rw [size_alloc]; omega
  generalize w1.alloc (.cells (List.replicate W.n (Value.int .i64 0)).toArray 3 (0, 0)) = w2 at *
  simp (disch := omega) only [push_cast, Nat.reduceBEq, Nat.reduceEqDiff, Nat.reduceAdd, Nat.reduceMul, Nat.reduceSub, Nat.reduceLT, Int.reduceToNat, Int.reduceLT, Int.reduceLE, Int.reduceEq, Int.reduceAdd, Int.reduceSub, Int.reduceNeg, Int.reduceMul]
  refine loop_inv (I := fun k st w' => Bx (∃ (j : Nat), k + j = list.length ∧ st = [.int .i64 (j : Int)] ∧ Upd (fun _ => False) w1 w' ∧ Blk w' w1.heap.size (atL W.n fun o => (cnt (list.take j) (o : Int) : Int)) 3 ∧ w'.ownsRow w2.heap.size 69 3 (.slice da ds.length dc) ds.length (ds.flatMap dlC) ∧ LsR base w' ds list) ⟨⟩) ?_ list.length ⟨0, rfl, rfl, u13, by simpa [cnt] using b3, hdo, hdl⟩
  clear hdo hdl b3
  rintro k2 st w4 ⟨j, hk2, rfl, u14, b4, hdo, hdl⟩
  by_cases hk20 : k2 = 0
  · obtain rfl : j = list.length := by omega
    simp (disch := omega) only [push_cast, Nat.reduceBEq, Nat.reduceEqDiff, Nat.reduceAdd, Nat.reduceMul, Nat.reduceSub, Nat.reduceLT, Int.reduceToNat, Int.reduceLT, Int.reduceLE, Int.reduceEq, Int.reduceAdd, Int.reduceSub, Int.reduceNeg, Int.reduceMul, hds]
    exact ⟨k - 1, by omega, i + 1, by omega, by simp, u1.trans u14 (fun _ _ h => h)⟩
  have hj : j < list.length := by omega
  have hgj := List.getElem?_eq_getElem hj
  obtain ⟨o, ho1', hon, hnum, hsl⟩ := hDi j _ hgj
  generalize list[j] = d at *
  obtain ⟨⟨do_, dn⟩, dl⟩ := d
  simp only at ho1' hnum hsl
  subst ho1'
  have hdj : ds[j]? = some ds[j] := List.getElem?_eq_getElem (by omega)
  obtain ⟨dl', hdl', hpv⟩ := hdl.2 j _ hdj
  rw [hgj] at hdl'
  simp only [Option.some.injEq, Prod.mk.injEq] at hdl'
  obtain ⟨hd1, rfl⟩ := hdl'
  generalize ds[j] = dd at *
  obtain ⟨dk, dvv⟩ := dd
  simp only at hd1 hpv
  subst hd1
  obtain ⟨qa, qc, rfl⟩ := hpv.form
  obtain ⟨dg, dcap, hdv, hdgo, hdc⟩ := own_cell (s := 3) (f := dlC) (fun _ => rfl) (own_to0 hdo) hdj
  injection hdv with f1 _ f3
  subst f1
  subst f3
  have hc0 := hdc 0 (by omega)
  have hc1 := hdc 1 (by omega)
  have hc2' := hdc 2 (by omega)
  simp only [dlC, List.getElem?_cons_succ, List.getElem?_cons_zero, Nat.add_zero] at hc0 hc1 hc2'
  have h4 := h1.quiet u14
  obtain ⟨sg, sc, hsv, _, _, hsgl, hscell⟩ := own1 h4.snt hon
  obtain ⟨xa, xc, hxv⟩ := own_slice (h4.sn o hon).1
  have hsn4 := h4.sn o hon
  obtain ⟨pvv, hpvv⟩ : ∃ v, (H.pv o)[cnt (list.take j) o]? = some v := by
    have := (List.getElem?_eq_some_iff.1 hsl).1
    rw [← hsn4.2.1] at this
    exact ⟨_, List.getElem?_eq_getElem this⟩
  obtain ⟨l2, hl2, hpb2⟩ := hsn4.2.2 _ _ hpvv
  rw [hsl] at hl2
  injection hl2 with hl2
  subst hl2
  have hclt : cnt (list.take j) o < (H.pv o).length := (List.getElem?_eq_some_iff.1 hpvv).1
  obtain ⟨ya, yc, rfl⟩ := hpb2.form
  have hrow := hsn4.1
  rw [hxv] at hrow hscell
  obtain ⟨pg, rfl⟩ : ∃ pg, xa = some ⟨pg, 0, none⟩ := by
    rcases hrow.2 with ⟨h0, h00⟩ | ⟨g, cap, cur, h0, _⟩
    · omega
    · injection h0 with e1 _ _; exact ⟨g, e1⟩
  have hpc := hrow.cellAt (cnt (list.take j) o) (by omega)
  rw [hpvv] at hpc
  have ho4 := h4.obj
  rw [hav, hsv] at ho4
  have e1 := cnv_str (hpv.keep (Kp.quiet Upd.drew)).slb
  have e2 := cnv_str (hpb2.keep (Kp.quiet Upd.drew)).slb
  have hjl : cnt (list.take j) o ≤ 100000 := Nat.le_trans cnt_le (by rw [List.length_take]; have := hSi.1; omega)
  have hcl' : ¬ ((H.pv o).length : Int) ≤ (cnt (list.take j) o : Int) := by omega
  have hnum' : dn = (cnt (list.take j) o : Int) + 1 := hnum
  subst hnum'
  rw [W_seq]
  generalize hKs : KS _ _ _ _ _ = Ks
  simp (disch := omega) only [push_cast, Nat.reduceBEq, Nat.reduceEqDiff, Nat.reduceAdd, Nat.reduceMul, Nat.reduceSub, Nat.reduceLT, Int.reduceToNat, Int.reduceLT, Int.reduceLE, Int.reduceEq, Int.reduceAdd, Int.reduceSub, Int.reduceNeg, Int.reduceMul]
  subst hKs
  rw [KS_nor]
  simp (config := { maxSteps := 3000000 }) (disch := omega) only [push_cast, Nat.reduceBEq, Nat.reduceEqDiff, Nat.reduceAdd, Nat.reduceMul, Nat.reduceSub, Nat.reduceLT, Int.reduceToNat, Int.reduceLT, Int.reduceLE, Int.reduceEq, Int.reduceAdd, Int.reduceSub, Int.reduceNeg, Int.reduceMul, b4.cell, b4.free, atL_get hon, hc0, hc1, hc2', ho4.cell, hscell, hpc, e1, e2, hcl', beq_self_eq_true]
  have us : Upd (fun b => b = w1.heap.size) w4 (w4.setCell ⟨w1.heap.size, o, none⟩ (.int .i64 ((cnt (list.take j) o : Int) + 1))).drew := (Upd.set (F := fun b => b = w1.heap.size) rfl).drew'
  have b5 := (b4.set o (.int .i64 ((cnt (list.take j) o : Int) + 1))).drew
  have kp : Kp base w4 (w4.setCell ⟨w1.heap.size, o, none⟩ (.int .i64 ((cnt (list.take j) o : Int) + 1))).drew := kp_new us b4 (by decide) hwb
  generalize (w4.setCell ⟨w1.heap.size, o, none⟩ (.int .i64 ((cnt (list.take j) o : Int) + 1))).drew = w5 at *
  rw [atL_set] at b5
  refine ⟨k2 - 1, by omega, j + 1, by omega, by simp, u14.trans us (fun b h1 h2 => by omega), ?_, own_updB hdo us (fun g hg e => ?_), hdl.keep kp⟩
  · refine Eq.mp ?_ b5
    congr 2
    funext x
    rw [cnt_succ hgj]
    simp only
    by_cases e : x = o
    · subst e
      simp
    · rw [if_neg e, if_neg (by omega)]
      simp
  · obtain ⟨cs, hb⟩ := own_ty hdo hg
    rw [e] at hb
    exact absurd (hb.ty b4) (by decide)
end Go.Proofs.Ytpgfokhpacdhjaa.Fd
