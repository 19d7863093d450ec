/-
  BroadcastAgrees: agreement (plain), delivered, the reading.
-/
import Derived.Test.YtpgfokhpacdhjaaBcK
import Derived.Test.YtpgfokhpacdhjaaBcP
namespace Go.Proofs.Ytpgfokhpacdhjaa.Fd
set_option linter.unusedSimpArgs false
set_option linter.unusedVariables false
open Go Go.ChangeMaps
set_option maxRecDepth 100000

def lives (W : Wd) : Nat := sumN (fun i => if W.down i then 0 else 1) W.n
theorem sumN_filter {p : Nat → Bool} : ∀ {n : Nat}, sumN (fun i => if p i then 1 else 0) n = ((List.range n).filter p).length
  | 0 => rfl
  | n + 1 => by
    rw [sumN, sumN_filter, List.range_succ, List.filter_append, List.length_append]
    cases h : p n <;> simp [h]
theorem sumN_mono {f g : Nat → Nat} : ∀ {n : Nat}, (∀ i, i < n → f i ≤ g i) → sumN f n ≤ sumN g n
  | 0, _ => Nat.le_refl _
  | n + 1, h => by
    have h1 := sumN_mono (n := n) fun i hi => h i (by omega)
    have h2 := h n (by omega)
    rw [sumN, sumN]
    omega
theorem sumN_more {f : Nat → Nat} : ∀ {n m : Nat}, n ≤ m → sumN f n ≤ sumN f m
  | n, 0, h => by rw [show n = 0 from by omega]; exact Nat.le_refl _
  | n, m + 1, h => by
    by_cases e : n = m + 1
    · rw [e]; exact Nat.le_refl _
    · have := sumN_more (f := f) (n := n) (m := m) (by omega)
      rw [sumN]
      omega
theorem sumN_zero {f : Nat → Nat} {n : Nat} : ∀ {m : Nat}, n ≤ m → (∀ i, n ≤ i → i < m → f i = 0) → sumN f m = sumN f n
  | 0, h, _ => by rw [show n = 0 from by omega]
  | m + 1, h, hz => by
    by_cases e : n = m + 1
    · rw [e]
    · rw [sumN, sumN_zero (n := n) (m := m) (by omega) (fun i h1 h2 => hz i h1 (by omega)), hz m (by omega) (by omega)]
      rfl
theorem ones_sum {D : BitVec 16} : ones D = sumN (fun i => if D.getLsbD i then 1 else 0) 16 := by rw [ones_two, sumN_filter]
theorem sumN_add {f g : Nat → Nat} : ∀ {n : Nat}, sumN (fun i => f i + g i) n = sumN f n + sumN g n
  | 0 => rfl
  | n + 1 => by rw [sumN, sumN, sumN, sumN_add]; omega
theorem lives_le {W : Wd} (hn : W.n ≤ 16) {D : BitVec 16} (h : ∀ j, j < W.n → W.down j = false → D.getLsbD j = true) : lives W ≤ ones D := by
  rw [ones_sum]
  refine Nat.le_trans (sumN_mono (g := fun i => if D.getLsbD i then 1 else 0) fun i hi => ?_) (sumN_more hn)
  cases hd : W.down i
  · rw [h i hi hd]; simp
  · simp
theorem meetL {W : Wd} (hn : W.n ≤ 16) {D : BitVec 16} (hb : ∀ j, D.getLsbD j = true → j < W.n) (h1 : W.n < 2 * ones D) (h2 : W.n < 2 * lives W) : ∃ j, j < W.n ∧ W.down j = false ∧ D.getLsbD j = true := by
  by_cases h : ∃ j, j < W.n ∧ W.down j = false ∧ D.getLsbD j = true
  · exact h
  · exfalso
    have e : ones D = sumN (fun i => if D.getLsbD i then 1 else 0) W.n := by
      rw [ones_sum]
      refine sumN_zero hn fun i h1 h2 => ?_
      cases hd : D.getLsbD i with
      | true => have := hb i hd; omega
      | false => rfl
    have hs : sumN (fun i => (if D.getLsbD i then 1 else 0) + (if W.down i then 0 else 1)) W.n ≤ W.n * 1 := sumN_le fun i hi => by
      cases hd : W.down i
      · cases hD : D.getLsbD i
        · simp
        · exact absurd ⟨i, hi, hd, hD⟩ h
      · cases D.getLsbD i <;> simp
    rw [sumN_add, ← e] at hs
    unfold lives at h2
    omega
theorem notes_live {W0 W : Wd} (hC : Cm W0 W) (hu : W.under = []) {i j : Nat} (hi : i < W.n) (hj : j < W.n) (hdi : W.down i = false) (hdj : W.down j = false) {k : NP} (h : findS k (W.procs i).notes ≠ none) : findS k (W.procs j).notes ≠ none := by
  cases hf : findS k (W.procs i).notes with
  | none => exact absurd hf h
  | some x => exact ((hC.i2.bt i hi k x hf).2 j (calm_end hu (hC.pd i hi hdi) hf hj hdj)).2
/-- Whoever lives has delivered all that it knows, up to the first gap. -/
theorem gap {W0 W : Wd} (hC : Cm W0 W) (hu : W.under = []) (hl : W.n < 2 * lives W) {i o : Nat} (hi : i < W.n) (ho : o < W.n) (hdi : W.down i = false) : findS ((o : Int), (W.procs i).done o + 1) (W.procs i).notes = none := by
  have hn5 : W.n ≤ 5 := hC.i0.1.n1.2
  obtain ⟨e1, _⟩ := hC.i0.1.pn i hi
  have e1 : (W.procs i).n = W.n := e1
  cases hf : findS ((o : Int), (W.procs i).done o + 1) (W.procs i).notes with
  | none => rfl
  | some x =>
    exfalso
    have he := hC.i2.el i hi o ho
    unfold elig at he
    rw [hf] at he
    simp only at he
    have hon := lives_le (W := W) (D := x.2) (by omega) fun j hj hd => calm_end hu (hC.pd i hi hdi) hf hj hd
    rw [if_pos (by rw [e1]; omega)] at he
    cases he
theorem agree_le {W0 W : Wd} (hC : Cm W0 W) (hu : W.under = []) (hl : W.n < 2 * lives W) {i k o : Nat} (hi : i < W.n) (hk : k < W.n) (ho : o < W.n) (hdi : W.down i = false) : cnt (W.procs k).list (o : Int) ≤ cnt (W.procs i).list (o : Int) := by
  have hn5 : W.n ≤ 5 := hC.i0.1.n1.2
  obtain ⟨e1, _⟩ := hC.i0.1.pn k hk
  have e1 : (W.procs k).n = W.n := e1
  have d1 := (hC.i0.1.ls i hi).2 o
  have d2 := (hC.i0.1.ls k hk).2 o
  simp only at d1 d2
  by_cases h : cnt (W.procs k).list (o : Int) ≤ cnt (W.procs i).list (o : Int)
  · exact h
  · exfalso
    have hg := gap hC hu hl hi ho hdi
    rw [d1] at hg
    obtain ⟨l, D, h1, h2⟩ := hC.i2.mj k hk o (cnt (W.procs i).list (o : Int)) (by rw [d2]; omega)
    have hb := (hC.i2.bt k hk _ _ h1).2
    obtain ⟨j, hj, hdj, hbj⟩ := meetL (W := W) (D := D) (by omega) (fun j hj => (hb j hj).1) (by omega) hl
    exact notes_live hC hu hj hi hdj hdi (hb j hbj).2 hg
theorem agree_own {W0 W : Wd} (hC : Cm W0 W) (hu : W.under = []) (hl : W.n < 2 * lives W) {i o : Nat} (hi : i < W.n) (ho : o < W.n) (hdi : W.down i = false) (hdo : W.down o = false) : cnt (W.procs i).list (o : Int) = (W.sent o).length := by
  have d1 := (hC.i0.1.ls i hi).2 o
  simp only at d1
  have hb := cnt_bound (hC.i0.1.ls i hi).1 o _ (Nat.le_refl _)
  rw [List.take_length] at hb
  simp only at hb
  by_cases h : cnt (W.procs i).list (o : Int) < (W.sent o).length
  · exfalso
    have hg := gap hC hu hl hi ho hdi
    rw [d1] at hg
    exact notes_live hC hu ho hi hdo hdi (hC.i2.own o ho _ h) hg
  · omega

set_option maxHeartbeats 8000000 in
theorem delivered_ok {base : Nat} {w : World} {H : Hp} {W : Wd} (h : WR base w H W) {i : Nat} (hi : i < W.n) (hDi : DelOk W.n W.sent (W.procs i).list) (hSi : (W.procs i).list.length ≤ 100000 ∧ ∀ x ∈ (W.procs i).list, x.2.length ≤ 140737488355328) :
    Ok (den Try.prog 12 #[.pointer (some ⟨H.a, 0, none⟩), .int .i64 (i : Int)] w) fun v w' => ∃ g, v = .slice (some ⟨g, 0, none⟩) W.n W.n ∧ Blk w' g (atL W.n fun o => (cnt (W.procs i).list (o : Int) : Int)) 3 ∧ w.heap.size ≤ g ∧ Upd (fun _ => False) w w' := by
  refine den_ok (args := [.pointer (some ⟨H.a, 0, none⟩), .int .i64 (i : Int)]) rs12 Try.func12 rfl mixed in12 ok12 rfl ?_
  have hn12 := h.n12
  obtain ⟨ag, ac, hav, hac, hab, hal, hacell⟩ := own1 h.all hi
  have ho1 := h.obj
  rw [hav] at ho1
  have b2 := Blk.new (w := w) (cs := List.replicate W.n (.int .i64 0)) (E := 3)
  have u2 : Upd (fun _ => False) w (w.alloc (.cells (List.replicate W.n (Value.int .i64 0)).toArray 3 (0, 0))) := Upd.alloc
  have h2 := h.quiet u2
  have ho2 := h2.obj
  rw [hav] at ho2
  have hc2 : (w.alloc (.cells (List.replicate W.n (Value.int .i64 0)).toArray 3 (0, 0))).cell? ⟨ag, i, none⟩ = some (.pointer (some ⟨H.p i, 0, none⟩)) := by rw [World.cell?_of_block (a := ⟨ag, i, none⟩) (u2.block ag hal (fun h => h))]; exact hacell
  simp (disch := omega) only [push_cast, Nat.reduceBEq, Nat.reduceEqDiff, Nat.reduceAdd, Nat.reduceMul, Nat.reduceSub, Nat.reduceLT, Int.reduceToNat, Int.reduceLT, Int.reduceLE, Int.reduceEq, Int.reduceAdd, Int.reduceSub, Int.reduceNeg, Int.reduceMul, ho1.cell, ho2.cell, hc2]
  refine Ok.use (Delivered_ok (h2.pr i hi) (by omega) hSi.2) ?_
  rintro dv w3 ⟨⟨ds, hdo, hdl⟩, hu3⟩
  have b3 := b2.upd hu3 (fun h => h)
  rw [atL_zero] at b3
  have s12 : w.heap.size < w3.heap.size := b3.lt
  have u13 := u2.trans hu3 (fun _ _ h => h)
  have hds : ds.length = (W.procs i).list.length := hdl.1
  obtain ⟨da, dc, rfl⟩ := own_slice hdo
  generalize hL : (W.procs i).list = list at *
  have hwb : base ≤ w.heap.size := by have := h.ba; have := ho1.lt; omega
  have hsd : w.heap.size < (w.alloc (.cells (List.replicate W.n (Value.int .i64 0)).toArray 3 (0, 0))).heap.size := by rw [size_alloc]; omega
  generalize w.alloc (.cells (List.replicate W.n (Value.int .i64 0)).toArray 3 (0, 0)) = w2 at *
  simp (disch := omega) only [push_cast, Nat.reduceBEq, Nat.reduceEqDiff, Nat.reduceAdd, Nat.reduceMul, Nat.reduceSub, Nat.reduceLT, Int.reduceToNat, Int.reduceLT, Int.reduceLE, Int.reduceEq, Int.reduceAdd, Int.reduceSub, Int.reduceNeg, Int.reduceMul]
  refine loop_inv (I := fun k st w' => Bx (∃ (j : Nat), k + j = list.length ∧ st = [.int .i64 (j : Int)] ∧ Upd (fun _ => False) w w' ∧ Blk w' w.heap.size (atL W.n fun o => (cnt (list.take j) (o : Int) : Int)) 3 ∧ w'.ownsRow w2.heap.size 69 3 (.slice da ds.length dc) ds.length (ds.flatMap dlC) ∧ LsR base w' ds list) ⟨⟩) ?_ list.length ⟨0, rfl, rfl, u13, by simpa [cnt] using b3, hdo, hdl⟩
  clear hdo hdl b3
  rintro k2 st w4 ⟨j, hk2, rfl, u14, b4, hdo, hdl⟩
  by_cases hk20 : k2 = 0
  · obtain rfl : j = list.length := by omega
    rw [List.take_length] at b4
    simp (disch := omega) only [push_cast, Nat.reduceBEq, Nat.reduceEqDiff, Nat.reduceAdd, Nat.reduceMul, Nat.reduceSub, Nat.reduceLT, Int.reduceToNat, Int.reduceLT, Int.reduceLE, Int.reduceEq, Int.reduceAdd, Int.reduceSub, Int.reduceNeg, Int.reduceMul, hds]
    exact ⟨_, rfl, b4, Nat.le_refl _, u14⟩
  have hj : j < list.length := by omega
  have hgj := List.getElem?_eq_getElem hj
  obtain ⟨o, ho1', hon, hnum, hsl⟩ := hDi j _ hgj
  generalize list[j] = d at *
  obtain ⟨⟨do_, dn⟩, dl⟩ := d
  simp only at ho1' hnum hsl
  subst ho1'
  have hdj : ds[j]? = some ds[j] := List.getElem?_eq_getElem (by omega)
  obtain ⟨dl', hdl', hpv⟩ := hdl.2 j _ hdj
  rw [hgj] at hdl'
  simp only [Option.some.injEq, Prod.mk.injEq] at hdl'
  obtain ⟨hd1, rfl⟩ := hdl'
  generalize ds[j] = dd at *
  obtain ⟨dk, dvv⟩ := dd
  simp only at hd1 hpv
  subst hd1
  obtain ⟨dg, dcap, hdv, hdgo, hdc⟩ := own_cell (s := 3) (f := dlC) (fun _ => rfl) (own_to0 hdo) hdj
  injection hdv with f1 _ f3
  subst f1
  subst f3
  have hc0 := hdc 0 (by omega)
  simp only [dlC, List.getElem?_cons_succ, List.getElem?_cons_zero, Nat.add_zero] at hc0
  have hjl : cnt (list.take j) o ≤ 100000 := Nat.le_trans cnt_le (by rw [List.length_take]; have := hSi.1; omega)
  simp (disch := omega) only [push_cast, Nat.reduceBEq, Nat.reduceEqDiff, Nat.reduceAdd, Nat.reduceMul, Nat.reduceSub, Nat.reduceLT, Int.reduceToNat, Int.reduceLT, Int.reduceLE, Int.reduceEq, Int.reduceAdd, Int.reduceSub, Int.reduceNeg, Int.reduceMul, b4.cell, b4.free, atL_get hon, hc0]
  have us : Upd (fun b => b = w.heap.size) w4 (w4.setCell ⟨w.heap.size, o, none⟩ (.int .i64 ((cnt (list.take j) o : Int) + 1))) := Upd.set rfl
  have b5 := b4.set o (.int .i64 ((cnt (list.take j) o : Int) + 1))
  have kp : Kp base w4 (w4.setCell ⟨w.heap.size, o, none⟩ (.int .i64 ((cnt (list.take j) o : Int) + 1))) := kp_new us b4 (by decide) hwb
  generalize (w4.setCell ⟨w.heap.size, o, none⟩ (.int .i64 ((cnt (list.take j) o : Int) + 1))) = w5 at *
  rw [atL_set] at b5
  refine ⟨k2 - 1, by omega, j + 1, by omega, by simp, u14.trans us (fun b h1 h2 => by omega), ?_, own_updB hdo us (fun g hg e => ?_), hdl.keep kp⟩
  · refine Eq.mp ?_ b5
    congr 2
    funext x
    rw [cnt_succ hgj]
    simp only
    by_cases e : x = o
    · subst e
      simp
    · rw [if_neg e, if_neg (by omega)]
      simp
  · obtain ⟨cs, hb⟩ := own_ty hdo hg
    rw [e] at hb
    exact absurd (hb.ty b4) (by decide)

set_option maxHeartbeats 40000000 in
theorem broadcastAgrees_calls {w : World} (n : Int) {v : Value} {xs : List Ev} (hv : SlV w v xs) (hx : ∀ x, x ∈ xs → x.l.length ≤ 140737488351232) (last : Bool) :
    Calls Try.prog 4 #[.int .i64 n, v, .bool last] w fun e w' => ∃ u, e = .returned u ∧ u = .bool true ∧ Upd (fun _ => False) w w' := by
  obtain ⟨ea, ec, rfl, _⟩ := id hv
  refine calls_of_wr (args := [.int .i64 n, .slice ea xs.length ec, .bool last]) rs4 Try.func4 rfl ok4 rfl (R := fun u w' => u = .bool true ∧ Upd (fun _ => False) w w') ?_
  refine wr_seq (wr_of_w mixed ?_)
  simp (disch := omega) only [push_cast, Nat.reduceBEq, Nat.reduceEqDiff, Nat.reduceAdd, Nat.reduceMul, Nat.reduceSub, Nat.reduceLT, Int.reduceToNat, Int.reduceLT, Int.reduceLE, Int.reduceEq, Int.reduceAdd, Int.reduceSub, Int.reduceNeg, Int.reduceMul, KSr_nor]
  refine wr_seq (wr_of_w mixed ?_)
  simp (disch := omega) only [push_cast, Nat.reduceBEq, Nat.reduceEqDiff, Nat.reduceAdd, Nat.reduceMul, Nat.reduceSub, Nat.reduceLT, Int.reduceToNat, Int.reduceLT, Int.reduceLE, Int.reduceEq, Int.reduceAdd, Int.reduceSub, Int.reduceNeg, Int.reduceMul, KSr_nor]
  refine Ok.use awake_ok ?_
  rintro v0 w1 ⟨rfl, hu1⟩
  simp (disch := omega) only [push_cast, Nat.reduceBEq, Nat.reduceEqDiff, Nat.reduceAdd, Nat.reduceMul, Nat.reduceSub, Nat.reduceLT, Int.reduceToNat, Int.reduceLT, Int.reduceLE, Int.reduceEq, Int.reduceAdd, Int.reduceSub, Int.reduceNeg, Int.reduceMul, KSr_nor]
  refine wr_seq (wr_of_w mixed ?_)
  have h5 := u_five (A := n)
  have hi5 := idx_lt (A := n) (k := 5) (by omega)
  simp (disch := omega) only [push_cast, Nat.reduceBEq, Nat.reduceEqDiff, Nat.reduceAdd, Nat.reduceMul, Nat.reduceSub, Nat.reduceLT, Int.reduceToNat, Int.reduceLT, Int.reduceLE, Int.reduceEq, Int.reduceAdd, Int.reduceSub, Int.reduceNeg, Int.reduceMul, KSr_nor, cnv_i_u, cnv_u_i, h5]
  rw [show (1 + (idx n 5 : Int)) = ((1 + idx n 5 : Nat) : Int) from by omega]
  generalize hN : 1 + idx n 5 = N at *
  refine Ok.use (begin_ok (base := w.heap.size) hu1.size N (by omega)) ?_
  rintro v0 w2 ⟨H, rfl, hW2, hu2⟩
  simp (disch := omega) only [push_cast, Nat.reduceBEq, Nat.reduceEqDiff, Nat.reduceAdd, Nat.reduceMul, Nat.reduceSub, Nat.reduceLT, Int.reduceToNat, Int.reduceLT, Int.reduceLE, Int.reduceEq, Int.reduceAdd, Int.reduceSub, Int.reduceNeg, Int.reduceMul, KSr_nor]
  refine wr_seq (wr_of_w mixed ?_)
  simp (disch := omega) only [push_cast, Nat.reduceBEq, Nat.reduceEqDiff, Nat.reduceAdd, Nat.reduceMul, Nat.reduceSub, Nat.reduceLT, Int.reduceToNat, Int.reduceLT, Int.reduceLE, Int.reduceEq, Int.reduceAdd, Int.reduceSub, Int.reduceNeg, Int.reduceMul, KSr_nor]
  refine wr_seq (wr_seq (wr_of_w mixed ?_))
  simp (disch := omega) only [push_cast, Nat.reduceBEq, Nat.reduceEqDiff, Nat.reduceAdd, Nat.reduceMul, Nat.reduceSub, Nat.reduceLT, Int.reduceToNat, Int.reduceLT, Int.reduceLE, Int.reduceEq, Int.reduceAdd, Int.reduceSub, Int.reduceNeg, Int.reduceMul, KSr_nor]
  have u02 : Upd (fun b => w.heap.size ≤ b) w w2 := (hu1.trans hu2 (fun _ _ h => h)).mono (fun _ _ h => h.elim)
  refine wr_block (wr_loop (fun k st w' => ∃ (i : Nat) (H' : Hp) (W' : Wd), k + i = min xs.length 60 ∧ st = [.int .i64 (i : Int)] ∧ WR w.heap.size w' H' W' ∧ H'.a = H.a ∧ Inv1 i W' ∧ Inv2 W' ∧ Upd (fun b => w.heap.size ≤ b) w w') ?_ (min xs.length 60) ⟨0, H, W0 N, rfl, rfl, hW2, rfl, Inv1.start N (by omega), Inv2.start N, u02⟩)
  clear hW2 u02 hu2 hu1
  rintro k st w3 ⟨i, H3, W3, hk, rfl, h3, ha3, hI3, hJ3, u03⟩
  by_cases hk0 : k = 0
  · refine wr_seq (wr_of_w mixed ?_)
    by_cases hil : i < xs.length
    · have hil' : (i : Int) < xs.length := by omega
      have h60 : ¬ (i : Int) < 60 := by omega
      simp (disch := omega) only [push_cast, Nat.reduceBEq, Nat.reduceEqDiff, Nat.reduceAdd, Nat.reduceMul, Nat.reduceSub, Nat.reduceLT, Int.reduceToNat, Int.reduceLT, Int.reduceLE, Int.reduceEq, Int.reduceAdd, Int.reduceSub, Int.reduceNeg, Int.reduceMul, hil', h60, KSr_exit, KJr_exit, KSr_nor]
      refine wr_seq (wr_of_w mixed ?_)
      simp (disch := omega) only [push_cast, Nat.reduceBEq, Nat.reduceEqDiff, Nat.reduceAdd, Nat.reduceMul, Nat.reduceSub, Nat.reduceLT, Int.reduceToNat, Int.reduceLT, Int.reduceLE, Int.reduceEq, Int.reduceAdd, Int.reduceSub, Int.reduceNeg, Int.reduceMul, KSr_nor]
      have hn12 := h3.n12
      obtain ⟨ca, cc, hav0⟩ : ∃ a c, H3.allV = .slice a W3.n c := own_slice h3.all
      have ho3 := h3.obj
      rw [hav0, ha3] at ho3
      have hlv : lives W3 ≤ W3.n := by
        have := sumN_le (f := fun i => if W3.down i then 0 else 1) (E := 1) (n := W3.n) fun i hi => by split <;> omega
        unfold lives; omega
      refine wr_seq (wr_of_w mixed ?_)
      simp (disch := omega) only [push_cast, Nat.reduceBEq, Nat.reduceEqDiff, Nat.reduceAdd, Nat.reduceMul, Nat.reduceSub, Nat.reduceLT, Int.reduceToNat, Int.reduceLT, Int.reduceLE, Int.reduceEq, Int.reduceAdd, Int.reduceSub, Int.reduceNeg, Int.reduceMul, KSr_nor]
      refine loop_inv (I := fun k st w' => Bx (∃ j : Nat, k + j = W3.n ∧ st = [.int .i64 ((sumN (fun i => if W3.down i then 0 else 1) j : Nat) : Int), .int .i64 (j : Int)] ∧ w' = w3) ⟨⟩) ?_ W3.n ⟨0, rfl, rfl, rfl⟩
      rintro k2 st w4 ⟨j, hk2, rfl, rfl⟩
      by_cases hk20 : k2 ≠ 0
      · have hj : j < W3.n := by omega
        obtain ⟨dg, dc, hdv, hdc, hdb, hdl, hdcell⟩ := own1 h3.dwn hj
        have ho4 := h3.obj
        rw [hav0, hdv, ha3] at ho4
        have hsj : sumN (fun i => if W3.down i then 0 else 1) j ≤ j * 1 := sumN_le fun i hi => by split <;> omega
        cases hdj : W3.down j
        · rw [hdj] at hdcell
          simp (disch := omega) only [push_cast, Nat.reduceBEq, Nat.reduceEqDiff, Nat.reduceAdd, Nat.reduceMul, Nat.reduceSub, Nat.reduceLT, Int.reduceToNat, Int.reduceLT, Int.reduceLE, Int.reduceEq, Int.reduceAdd, Int.reduceSub, Int.reduceNeg, Int.reduceMul, ho4.cell, hdcell]
          exact ⟨k2 - 1, by omega, j + 1, by omega, by rw [sumN, hdj]; simp, rfl⟩
        · rw [hdj] at hdcell
          simp (disch := omega) only [push_cast, Nat.reduceBEq, Nat.reduceEqDiff, Nat.reduceAdd, Nat.reduceMul, Nat.reduceSub, Nat.reduceLT, Int.reduceToNat, Int.reduceLT, Int.reduceLE, Int.reduceEq, Int.reduceAdd, Int.reduceSub, Int.reduceNeg, Int.reduceMul, ho4.cell, hdcell]
          exact ⟨k2 - 1, by omega, j + 1, by omega, by rw [sumN, hdj]; simp, rfl⟩
      have hk20 : k2 = 0 := by omega
      obtain rfl : j = W3.n := by omega
      simp (disch := omega) only [push_cast, Nat.reduceBEq, Nat.reduceEqDiff, Nat.reduceAdd, Nat.reduceMul, Nat.reduceSub, Nat.reduceLT, Int.reduceToNat, Int.reduceLT, Int.reduceLE, Int.reduceEq, Int.reduceAdd, Int.reduceSub, Int.reduceNeg, Int.reduceMul, ho3.cell, KSr_nor]
      refine wr_seq (wr_of_w mixed ?_)
      have hLd : sumN (fun i => if W3.down i then 0 else 1) W3.n = lives W3 := rfl
      rw [hLd]
      by_cases hmaj : 2 * lives W3 ≤ W3.n
      · have hmaj' : 2 * (lives W3 : Int) ≤ W3.n := by omega
        simp (disch := omega) only [push_cast, Nat.reduceBEq, Nat.reduceEqDiff, Nat.reduceAdd, Nat.reduceMul, Nat.reduceSub, Nat.reduceLT, Int.reduceToNat, Int.reduceLT, Int.reduceLE, Int.reduceEq, Int.reduceAdd, Int.reduceSub, Int.reduceNeg, Int.reduceMul, ho3.cell, hmaj', KSr_ret]
        exact u03.mono fun b hb h => by omega
      have hmaj' : ¬ 2 * (lives W3 : Int) ≤ W3.n := by omega
      simp (disch := omega) only [push_cast, Nat.reduceBEq, Nat.reduceEqDiff, Nat.reduceAdd, Nat.reduceMul, Nat.reduceSub, Nat.reduceLT, Int.reduceToNat, Int.reduceLT, Int.reduceLE, Int.reduceEq, Int.reduceAdd, Int.reduceSub, Int.reduceNeg, Int.reduceMul, ho3.cell, hmaj', KSr_nor]
      refine wr_seq (wr_seq (wr_region (wlr_step ?_)))
      simp (disch := omega) only [push_cast, Nat.reduceBEq, Nat.reduceEqDiff, Nat.reduceAdd, Nat.reduceMul, Nat.reduceSub, Nat.reduceLT, Int.reduceToNat, Int.reduceLT, Int.reduceLE, Int.reduceEq, Int.reduceAdd, Int.reduceSub, Int.reduceNeg, Int.reduceMul]
      refine wlr_step ?_
      simp (disch := omega) only [push_cast, Nat.reduceBEq, Nat.reduceEqDiff, Nat.reduceAdd, Nat.reduceMul, Nat.reduceSub, Nat.reduceLT, Int.reduceToNat, Int.reduceLT, Int.reduceLE, Int.reduceEq, Int.reduceAdd, Int.reduceSub, Int.reduceNeg, Int.reduceMul]
      have hcm := calm_calls h3 (hI3.inv0 (by omega)) hJ3 (by have := hI3.ul; omega) last
      rw [ha3] at hcm
      refine wlr_call (w1 := w4) (f := 11) (args := #[.pointer (some ⟨H.a, 0, none⟩), .bool last]) rfl (by kernel_rfl) ?_
      refine hcm.mono ?_
      clear hcm
      rintro e w5 ⟨v4, rfl, rfl, H4, W4, h5, ha4, hC, hue, up4⟩
      refine ⟨_, rfl, wlr_of_wl ?_⟩
      have u05 := u03.trans up4 (fun _ _ h => h)
      have hl4 : W4.n < 2 * lives W4 := by
        have : lives W4 = lives W3 := by unfold lives; rw [hC.en, hC.ed]
        rw [this, hC.en]; omega
      have hS4 : ∀ j, j < W4.n → (W4.procs j).list.length ≤ 100000 ∧ ∀ x ∈ (W4.procs j).list, x.2.length ≤ 140737488355328 := fun j hj => by
        obtain ⟨l1, l2⟩ := hC.i0.1.lens (Nat.le_refl _) hj
        exact ⟨by simp only at l2; omega, (hC.i0.sane hj).2.2.2.2⟩
      have hD4 : ∀ j, j < W4.n → DelOk W4.n W4.sent (W4.procs j).list := fun j hj => (hC.i0.1.ls j hj).1
      have hpf := prefixes_ok h5 hD4 hS4
      rw [ha4] at hpf
      simp (disch := omega) only [push_cast, Nat.reduceBEq, Nat.reduceEqDiff, Nat.reduceAdd, Nat.reduceMul, Nat.reduceSub, Nat.reduceLT, Int.reduceToNat, Int.reduceLT, Int.reduceLE, Int.reduceEq, Int.reduceAdd, Int.reduceSub, Int.reduceNeg, Int.reduceMul]
      refine Ok.use hpf ?_
      rintro v5 w6 ⟨rfl, hu6⟩
      have h6 := h5.quiet hu6
      have u06 := u05.trans hu6 (fun _ _ h => h.elim)
      simp (disch := omega) only [push_cast, Nat.reduceBEq, Nat.reduceEqDiff, Nat.reduceAdd, Nat.reduceMul, Nat.reduceSub, Nat.reduceLT, Int.reduceToNat, Int.reduceLT, Int.reduceLE, Int.reduceEq, Int.reduceAdd, Int.reduceSub, Int.reduceNeg, Int.reduceMul, KSr_nor]
      refine wr_of_w mixed ?_
      simp (disch := omega) only [push_cast, Nat.reduceBEq, Nat.reduceEqDiff, Nat.reduceAdd, Nat.reduceMul, Nat.reduceSub, Nat.reduceLT, Int.reduceToNat, Int.reduceLT, Int.reduceLE, Int.reduceEq, Int.reduceAdd, Int.reduceSub, Int.reduceNeg, Int.reduceMul, KSr_nor]
      refine wr_of_w mixed ?_
      clear h3 ho3 hav0 ca cc hI3 hJ3 u03 up4 ha3 hlv hmaj hmaj' hLd
      have hn124 := h6.n12
      obtain ⟨ca, cc, hav0⟩ : ∃ a c, H4.allV = .slice a W4.n c := own_slice h6.all
      have ho6 := h6.obj
      rw [hav0, ha4] at ho6
      simp (disch := omega) only [push_cast, Nat.reduceBEq, Nat.reduceEqDiff, Nat.reduceAdd, Nat.reduceMul, Nat.reduceSub, Nat.reduceLT, Int.reduceToNat, Int.reduceLT, Int.reduceLE, Int.reduceEq, Int.reduceAdd, Int.reduceSub, Int.reduceNeg, Int.reduceMul]
      refine loop_inv (I := fun k st w' => Bx (∃ i : Nat, k + i = W4.n ∧ st = [.int .i64 (i : Int)] ∧ Upd (fun _ => False) w6 w') ⟨⟩) ?_ W4.n ⟨0, rfl, rfl, Upd.refl⟩
      rintro k3 st w7 ⟨a1, hk3, rfl, hu7⟩
      have h7 := h6.quiet hu7
      have ho7 := ho6.upd hu7 (fun h => h)
      by_cases hk30 : k3 = 0
      · simp (disch := omega) only [push_cast, Nat.reduceBEq, Nat.reduceEqDiff, Nat.reduceAdd, Nat.reduceMul, Nat.reduceSub, Nat.reduceLT, Int.reduceToNat, Int.reduceLT, Int.reduceLE, Int.reduceEq, Int.reduceAdd, Int.reduceSub, Int.reduceNeg, Int.reduceMul, ho7.cell]
        exact (u06.trans hu7 (fun _ _ h => h.elim)).mono fun b hb h => by omega
      have hi1 : a1 < W4.n := by omega
      obtain ⟨dg, dc, hdv, hdc, hdb, hdl, hdcell⟩ := own1 h7.dwn hi1
      have ho8 := h7.obj
      rw [hav0, hdv, ha4] at ho8
      cases hd1 : W4.down a1
      rotate_left
      · rw [hd1] at hdcell
        simp (disch := omega) only [push_cast, Nat.reduceBEq, Nat.reduceEqDiff, Nat.reduceAdd, Nat.reduceMul, Nat.reduceSub, Nat.reduceLT, Int.reduceToNat, Int.reduceLT, Int.reduceLE, Int.reduceEq, Int.reduceAdd, Int.reduceSub, Int.reduceNeg, Int.reduceMul, ho8.cell, hdcell]
        exact ⟨k3 - 1, by omega, a1 + 1, by omega, by simp, hu7⟩
      rw [hd1] at hdcell
      have hdv1 := delivered_ok h7 hi1 (hD4 a1 hi1) (hS4 a1 hi1)
      rw [ha4] at hdv1
      simp (disch := omega) only [push_cast, Nat.reduceBEq, Nat.reduceEqDiff, Nat.reduceAdd, Nat.reduceMul, Nat.reduceSub, Nat.reduceLT, Int.reduceToNat, Int.reduceLT, Int.reduceLE, Int.reduceEq, Int.reduceAdd, Int.reduceSub, Int.reduceNeg, Int.reduceMul, ho8.cell, hdcell]
      refine Ok.use hdv1 ?_
      clear hdv1
      rintro v8 w8 ⟨g1, rfl, b1, hg1, hu8⟩
      have h8 := h7.quiet hu8
      have ho8 := ho7.upd hu8 (fun h => h)
      simp (disch := omega) only [push_cast, Nat.reduceBEq, Nat.reduceEqDiff, Nat.reduceAdd, Nat.reduceMul, Nat.reduceSub, Nat.reduceLT, Int.reduceToNat, Int.reduceLT, Int.reduceLE, Int.reduceEq, Int.reduceAdd, Int.reduceSub, Int.reduceNeg, Int.reduceMul]
      refine loop_inv (I := fun k st w' => Bx (∃ i : Nat, k + i = W4.n ∧ st = [.int .i64 (i : Int)] ∧ Upd (fun _ => False) w8 w') ⟨⟩) ?_ W4.n ⟨0, rfl, rfl, Upd.refl⟩
      rintro k4 st w9 ⟨a2, hk4, rfl, hu9⟩
      have h9 := h8.quiet hu9
      have ho9 := ho8.upd hu9 (fun h => h)
      by_cases hk40 : k4 = 0
      · simp (disch := omega) only [push_cast, Nat.reduceBEq, Nat.reduceEqDiff, Nat.reduceAdd, Nat.reduceMul, Nat.reduceSub, Nat.reduceLT, Int.reduceToNat, Int.reduceLT, Int.reduceLE, Int.reduceEq, Int.reduceAdd, Int.reduceSub, Int.reduceNeg, Int.reduceMul, ho9.cell]
        exact ⟨k3 - 1, by omega, a1 + 1, by omega, by simp, (hu7.trans hu8 (fun _ _ h => h)).trans hu9 (fun _ _ h => h)⟩
      have hi2 : a2 < W4.n := by omega
      have hdv2 := delivered_ok h9 hi2 (hD4 a2 hi2) (hS4 a2 hi2)
      rw [ha4] at hdv2
      simp (disch := omega) only [push_cast, Nat.reduceBEq, Nat.reduceEqDiff, Nat.reduceAdd, Nat.reduceMul, Nat.reduceSub, Nat.reduceLT, Int.reduceToNat, Int.reduceLT, Int.reduceLE, Int.reduceEq, Int.reduceAdd, Int.reduceSub, Int.reduceNeg, Int.reduceMul, ho9.cell]
      refine Ok.use hdv2 ?_
      clear hdv2
      rintro v9 wA ⟨g2, rfl, b2, hg2, huA⟩
      have hA := h9.quiet huA
      have hoA := ho9.upd huA (fun h => h)
      have b1A := (b1.upd hu9 (fun h => h)).upd huA (fun h => h)
      simp (disch := omega) only [push_cast, Nat.reduceBEq, Nat.reduceEqDiff, Nat.reduceAdd, Nat.reduceMul, Nat.reduceSub, Nat.reduceLT, Int.reduceToNat, Int.reduceLT, Int.reduceLE, Int.reduceEq, Int.reduceAdd, Int.reduceSub, Int.reduceNeg, Int.reduceMul]
      refine loop_inv (I := fun k st w' => Bx (∃ i : Nat, k + i = W4.n ∧ st = [.int .i64 (i : Int)] ∧ Upd (fun _ => False) wA w') ⟨⟩) ?_ W4.n ⟨0, rfl, rfl, Upd.refl⟩
      rintro k5 st wB ⟨a3, hk5, rfl, huB⟩
      have hB := hA.quiet huB
      have hoB := hoA.upd huB (fun h => h)
      by_cases hk50 : k5 = 0
      · simp (disch := omega) only [push_cast, Nat.reduceBEq, Nat.reduceEqDiff, Nat.reduceAdd, Nat.reduceMul, Nat.reduceSub, Nat.reduceLT, Int.reduceToNat, Int.reduceLT, Int.reduceLE, Int.reduceEq, Int.reduceAdd, Int.reduceSub, Int.reduceNeg, Int.reduceMul, hoB.cell]
        exact ⟨k4 - 1, by omega, a2 + 1, by omega, by simp, (hu9.trans huA (fun _ _ h => h)).trans huB (fun _ _ h => h)⟩
      have hi3 : a3 < W4.n := by omega
      have c1 := b1A.upd huB (fun h => h)
      have c2 := b2.upd huB (fun h => h)
      obtain ⟨d2, dc2, hdv2, _, _, _, hdcell2⟩ := own1 hB.dwn hi2
      obtain ⟨d3, dc3, hdv3, _, _, _, hdcell3⟩ := own1 hB.dwn hi3
      rw [hdv2] at hdv3
      injection hdv3 with e1 _ e3
      simp only [Option.some.injEq, Addr.mk.injEq, and_true] at e1
      subst e1
      subst e3
      obtain ⟨sg, sc, hsv, _, _, _, hscell⟩ := own1 hB.snt hi3
      obtain ⟨xa, xc, hxv⟩ := own_slice (hB.sn a3 hi3).1
      rw [hxv, (hB.sn a3 hi3).2.1] at hscell
      have hoC := hB.obj
      rw [hav0, hdv2, hsv, ha4] at hoC
      have f1 : ¬ (cnt (W4.procs a1).list (a3 : Int) : Int) < (cnt (W4.procs a2).list (a3 : Int) : Int) := by have := agree_le hC hue hl4 hi1 hi2 hi3 hd1; omega
      cases hdk : W4.down a2
      · have f2 : (cnt (W4.procs a2).list (a3 : Int) : Int) = (cnt (W4.procs a1).list (a3 : Int) : Int) := by
          have q1 := agree_le hC hue hl4 hi1 hi2 hi3 hd1
          have q2 := agree_le hC hue hl4 hi2 hi1 hi3 hdk
          omega
        rw [hdk] at hdcell2
        cases hdo : W4.down a3
        · have f3 : (cnt (W4.procs a1).list (a3 : Int) : Int) = ((W4.sent a3).length : Int) := by have := agree_own hC hue hl4 hi1 hi3 hd1 hdo; omega
          rw [hdo] at hdcell3
          rw [f2] at f1
          simp (config := { maxSteps := 3000000 }) (disch := omega) only [push_cast, Nat.reduceBEq, Nat.reduceEqDiff, Nat.reduceAdd, Nat.reduceMul, Nat.reduceSub, Nat.reduceLT, Int.reduceToNat, Int.reduceLT, Int.reduceLE, Int.reduceEq, Int.reduceAdd, Int.reduceSub, Int.reduceNeg, Int.reduceMul, c1.cell, c2.cell, atL_get hi3, hoC.cell, hdcell2, hdcell3, hscell, f1, f2, f3]
          exact ⟨k5 - 1, by omega, a3 + 1, by omega, by simp, huB.drew'⟩
        · rw [hdo] at hdcell3
          rw [f2] at f1
          simp (config := { maxSteps := 3000000 }) (disch := omega) only [push_cast, Nat.reduceBEq, Nat.reduceEqDiff, Nat.reduceAdd, Nat.reduceMul, Nat.reduceSub, Nat.reduceLT, Int.reduceToNat, Int.reduceLT, Int.reduceLE, Int.reduceEq, Int.reduceAdd, Int.reduceSub, Int.reduceNeg, Int.reduceMul, c1.cell, c2.cell, atL_get hi3, hoC.cell, hdcell2, hdcell3, hscell, f1, f2]
          exact ⟨k5 - 1, by omega, a3 + 1, by omega, by simp, huB.drew'⟩
      · rw [hdk] at hdcell2
        cases hdo : W4.down a3
        · have f3 : (cnt (W4.procs a1).list (a3 : Int) : Int) = ((W4.sent a3).length : Int) := by have := agree_own hC hue hl4 hi1 hi3 hd1 hdo; omega
          rw [hdo] at hdcell3
          rw [f3] at f1
          simp (config := { maxSteps := 3000000 }) (disch := omega) only [push_cast, Nat.reduceBEq, Nat.reduceEqDiff, Nat.reduceAdd, Nat.reduceMul, Nat.reduceSub, Nat.reduceLT, Int.reduceToNat, Int.reduceLT, Int.reduceLE, Int.reduceEq, Int.reduceAdd, Int.reduceSub, Int.reduceNeg, Int.reduceMul, c1.cell, c2.cell, atL_get hi3, hoC.cell, hdcell2, hdcell3, hscell, f1, f3]
          exact ⟨k5 - 1, by omega, a3 + 1, by omega, by simp, huB.drew'⟩
        · rw [hdo] at hdcell3
          simp (config := { maxSteps := 3000000 }) (disch := omega) only [push_cast, Nat.reduceBEq, Nat.reduceEqDiff, Nat.reduceAdd, Nat.reduceMul, Nat.reduceSub, Nat.reduceLT, Int.reduceToNat, Int.reduceLT, Int.reduceLE, Int.reduceEq, Int.reduceAdd, Int.reduceSub, Int.reduceNeg, Int.reduceMul, c1.cell, c2.cell, atL_get hi3, hoC.cell, hdcell2, hdcell3, hscell, f1]
          exact ⟨k5 - 1, by omega, a3 + 1, by omega, by simp, huB.drew'⟩
    · have hil' : ¬ (i : Int) < xs.length := by omega
      simp (disch := omega) only [push_cast, Nat.reduceBEq, Nat.reduceEqDiff, Nat.reduceAdd, Nat.reduceMul, Nat.reduceSub, Nat.reduceLT, Int.reduceToNat, Int.reduceLT, Int.reduceLE, Int.reduceEq, Int.reduceAdd, Int.reduceSub, Int.reduceNeg, Int.reduceMul, hil', KSr_exit, KJr_exit, KSr_nor]
      refine wr_seq (wr_of_w mixed ?_)
      simp (disch := omega) only [push_cast, Nat.reduceBEq, Nat.reduceEqDiff, Nat.reduceAdd, Nat.reduceMul, Nat.reduceSub, Nat.reduceLT, Int.reduceToNat, Int.reduceLT, Int.reduceLE, Int.reduceEq, Int.reduceAdd, Int.reduceSub, Int.reduceNeg, Int.reduceMul, KSr_nor]
      have hn12 := h3.n12
      obtain ⟨ca, cc, hav0⟩ : ∃ a c, H3.allV = .slice a W3.n c := own_slice h3.all
      have ho3 := h3.obj
      rw [hav0, ha3] at ho3
      have hlv : lives W3 ≤ W3.n := by
        have := sumN_le (f := fun i => if W3.down i then 0 else 1) (E := 1) (n := W3.n) fun i hi => by split <;> omega
        unfold lives; omega
      refine wr_seq (wr_of_w mixed ?_)
      simp (disch := omega) only [push_cast, Nat.reduceBEq, Nat.reduceEqDiff, Nat.reduceAdd, Nat.reduceMul, Nat.reduceSub, Nat.reduceLT, Int.reduceToNat, Int.reduceLT, Int.reduceLE, Int.reduceEq, Int.reduceAdd, Int.reduceSub, Int.reduceNeg, Int.reduceMul, KSr_nor]
      refine loop_inv (I := fun k st w' => Bx (∃ j : Nat, k + j = W3.n ∧ st = [.int .i64 ((sumN (fun i => if W3.down i then 0 else 1) j : Nat) : Int), .int .i64 (j : Int)] ∧ w' = w3) ⟨⟩) ?_ W3.n ⟨0, rfl, rfl, rfl⟩
      rintro k2 st w4 ⟨j, hk2, rfl, rfl⟩
      by_cases hk20 : k2 ≠ 0
      · have hj : j < W3.n := by omega
        obtain ⟨dg, dc, hdv, hdc, hdb, hdl, hdcell⟩ := own1 h3.dwn hj
        have ho4 := h3.obj
        rw [hav0, hdv, ha3] at ho4
        have hsj : sumN (fun i => if W3.down i then 0 else 1) j ≤ j * 1 := sumN_le fun i hi => by split <;> omega
        cases hdj : W3.down j
        · rw [hdj] at hdcell
          simp (disch := omega) only [push_cast, Nat.reduceBEq, Nat.reduceEqDiff, Nat.reduceAdd, Nat.reduceMul, Nat.reduceSub, Nat.reduceLT, Int.reduceToNat, Int.reduceLT, Int.reduceLE, Int.reduceEq, Int.reduceAdd, Int.reduceSub, Int.reduceNeg, Int.reduceMul, ho4.cell, hdcell]
          exact ⟨k2 - 1, by omega, j + 1, by omega, by rw [sumN, hdj]; simp, rfl⟩
        · rw [hdj] at hdcell
          simp (disch := omega) only [push_cast, Nat.reduceBEq, Nat.reduceEqDiff, Nat.reduceAdd, Nat.reduceMul, Nat.reduceSub, Nat.reduceLT, Int.reduceToNat, Int.reduceLT, Int.reduceLE, Int.reduceEq, Int.reduceAdd, Int.reduceSub, Int.reduceNeg, Int.reduceMul, ho4.cell, hdcell]
          exact ⟨k2 - 1, by omega, j + 1, by omega, by rw [sumN, hdj]; simp, rfl⟩
      have hk20 : k2 = 0 := by omega
      obtain rfl : j = W3.n := by omega
      simp (disch := omega) only [push_cast, Nat.reduceBEq, Nat.reduceEqDiff, Nat.reduceAdd, Nat.reduceMul, Nat.reduceSub, Nat.reduceLT, Int.reduceToNat, Int.reduceLT, Int.reduceLE, Int.reduceEq, Int.reduceAdd, Int.reduceSub, Int.reduceNeg, Int.reduceMul, ho3.cell, KSr_nor]
      refine wr_seq (wr_of_w mixed ?_)
      have hLd : sumN (fun i => if W3.down i then 0 else 1) W3.n = lives W3 := rfl
      rw [hLd]
      by_cases hmaj : 2 * lives W3 ≤ W3.n
      · have hmaj' : 2 * (lives W3 : Int) ≤ W3.n := by omega
        simp (disch := omega) only [push_cast, Nat.reduceBEq, Nat.reduceEqDiff, Nat.reduceAdd, Nat.reduceMul, Nat.reduceSub, Nat.reduceLT, Int.reduceToNat, Int.reduceLT, Int.reduceLE, Int.reduceEq, Int.reduceAdd, Int.reduceSub, Int.reduceNeg, Int.reduceMul, ho3.cell, hmaj', KSr_ret]
        exact u03.mono fun b hb h => by omega
      have hmaj' : ¬ 2 * (lives W3 : Int) ≤ W3.n := by omega
      simp (disch := omega) only [push_cast, Nat.reduceBEq, Nat.reduceEqDiff, Nat.reduceAdd, Nat.reduceMul, Nat.reduceSub, Nat.reduceLT, Int.reduceToNat, Int.reduceLT, Int.reduceLE, Int.reduceEq, Int.reduceAdd, Int.reduceSub, Int.reduceNeg, Int.reduceMul, ho3.cell, hmaj', KSr_nor]
      refine wr_seq (wr_seq (wr_region (wlr_step ?_)))
      simp (disch := omega) only [push_cast, Nat.reduceBEq, Nat.reduceEqDiff, Nat.reduceAdd, Nat.reduceMul, Nat.reduceSub, Nat.reduceLT, Int.reduceToNat, Int.reduceLT, Int.reduceLE, Int.reduceEq, Int.reduceAdd, Int.reduceSub, Int.reduceNeg, Int.reduceMul]
      refine wlr_step ?_
      simp (disch := omega) only [push_cast, Nat.reduceBEq, Nat.reduceEqDiff, Nat.reduceAdd, Nat.reduceMul, Nat.reduceSub, Nat.reduceLT, Int.reduceToNat, Int.reduceLT, Int.reduceLE, Int.reduceEq, Int.reduceAdd, Int.reduceSub, Int.reduceNeg, Int.reduceMul]
      have hcm := calm_calls h3 (hI3.inv0 (by omega)) hJ3 (by have := hI3.ul; omega) last
      rw [ha3] at hcm
      refine wlr_call (w1 := w4) (f := 11) (args := #[.pointer (some ⟨H.a, 0, none⟩), .bool last]) rfl (by kernel_rfl) ?_
      refine hcm.mono ?_
      clear hcm
      rintro e w5 ⟨v4, rfl, rfl, H4, W4, h5, ha4, hC, hue, up4⟩
      refine ⟨_, rfl, wlr_of_wl ?_⟩
      have u05 := u03.trans up4 (fun _ _ h => h)
      have hl4 : W4.n < 2 * lives W4 := by
        have : lives W4 = lives W3 := by unfold lives; rw [hC.en, hC.ed]
        rw [this, hC.en]; omega
      have hS4 : ∀ j, j < W4.n → (W4.procs j).list.length ≤ 100000 ∧ ∀ x ∈ (W4.procs j).list, x.2.length ≤ 140737488355328 := fun j hj => by
        obtain ⟨l1, l2⟩ := hC.i0.1.lens (Nat.le_refl _) hj
        exact ⟨by simp only at l2; omega, (hC.i0.sane hj).2.2.2.2⟩
      have hD4 : ∀ j, j < W4.n → DelOk W4.n W4.sent (W4.procs j).list := fun j hj => (hC.i0.1.ls j hj).1
      have hpf := prefixes_ok h5 hD4 hS4
      rw [ha4] at hpf
      simp (disch := omega) only [push_cast, Nat.reduceBEq, Nat.reduceEqDiff, Nat.reduceAdd, Nat.reduceMul, Nat.reduceSub, Nat.reduceLT, Int.reduceToNat, Int.reduceLT, Int.reduceLE, Int.reduceEq, Int.reduceAdd, Int.reduceSub, Int.reduceNeg, Int.reduceMul]
      refine Ok.use hpf ?_
      rintro v5 w6 ⟨rfl, hu6⟩
      have h6 := h5.quiet hu6
      have u06 := u05.trans hu6 (fun _ _ h => h.elim)
      simp (disch := omega) only [push_cast, Nat.reduceBEq, Nat.reduceEqDiff, Nat.reduceAdd, Nat.reduceMul, Nat.reduceSub, Nat.reduceLT, Int.reduceToNat, Int.reduceLT, Int.reduceLE, Int.reduceEq, Int.reduceAdd, Int.reduceSub, Int.reduceNeg, Int.reduceMul, KSr_nor]
      refine wr_of_w mixed ?_
      simp (disch := omega) only [push_cast, Nat.reduceBEq, Nat.reduceEqDiff, Nat.reduceAdd, Nat.reduceMul, Nat.reduceSub, Nat.reduceLT, Int.reduceToNat, Int.reduceLT, Int.reduceLE, Int.reduceEq, Int.reduceAdd, Int.reduceSub, Int.reduceNeg, Int.reduceMul, KSr_nor]
      refine wr_of_w mixed ?_
      clear h3 ho3 hav0 ca cc hI3 hJ3 u03 up4 ha3 hlv hmaj hmaj' hLd
      have hn124 := h6.n12
      obtain ⟨ca, cc, hav0⟩ : ∃ a c, H4.allV = .slice a W4.n c := own_slice h6.all
      have ho6 := h6.obj
      rw [hav0, ha4] at ho6
      simp (disch := omega) only [push_cast, Nat.reduceBEq, Nat.reduceEqDiff, Nat.reduceAdd, Nat.reduceMul, Nat.reduceSub, Nat.reduceLT, Int.reduceToNat, Int.reduceLT, Int.reduceLE, Int.reduceEq, Int.reduceAdd, Int.reduceSub, Int.reduceNeg, Int.reduceMul]
      refine loop_inv (I := fun k st w' => Bx (∃ i : Nat, k + i = W4.n ∧ st = [.int .i64 (i : Int)] ∧ Upd (fun _ => False) w6 w') ⟨⟩) ?_ W4.n ⟨0, rfl, rfl, Upd.refl⟩
      rintro k3 st w7 ⟨a1, hk3, rfl, hu7⟩
      have h7 := h6.quiet hu7
      have ho7 := ho6.upd hu7 (fun h => h)
      by_cases hk30 : k3 = 0
      · simp (disch := omega) only [push_cast, Nat.reduceBEq, Nat.reduceEqDiff, Nat.reduceAdd, Nat.reduceMul, Nat.reduceSub, Nat.reduceLT, Int.reduceToNat, Int.reduceLT, Int.reduceLE, Int.reduceEq, Int.reduceAdd, Int.reduceSub, Int.reduceNeg, Int.reduceMul, ho7.cell]
        exact (u06.trans hu7 (fun _ _ h => h.elim)).mono fun b hb h => by omega
      have hi1 : a1 < W4.n := by omega
      obtain ⟨dg, dc, hdv, hdc, hdb, hdl, hdcell⟩ := own1 h7.dwn hi1
      have ho8 := h7.obj
      rw [hav0, hdv, ha4] at ho8
      cases hd1 : W4.down a1
      rotate_left
      · rw [hd1] at hdcell
        simp (disch := omega) only [push_cast, Nat.reduceBEq, Nat.reduceEqDiff, Nat.reduceAdd, Nat.reduceMul, Nat.reduceSub, Nat.reduceLT, Int.reduceToNat, Int.reduceLT, Int.reduceLE, Int.reduceEq, Int.reduceAdd, Int.reduceSub, Int.reduceNeg, Int.reduceMul, ho8.cell, hdcell]
        exact ⟨k3 - 1, by omega, a1 + 1, by omega, by simp, hu7⟩
      rw [hd1] at hdcell
      have hdv1 := delivered_ok h7 hi1 (hD4 a1 hi1) (hS4 a1 hi1)
      rw [ha4] at hdv1
      simp (disch := omega) only [push_cast, Nat.reduceBEq, Nat.reduceEqDiff, Nat.reduceAdd, Nat.reduceMul, Nat.reduceSub, Nat.reduceLT, Int.reduceToNat, Int.reduceLT, Int.reduceLE, Int.reduceEq, Int.reduceAdd, Int.reduceSub, Int.reduceNeg, Int.reduceMul, ho8.cell, hdcell]
      refine Ok.use hdv1 ?_
      clear hdv1
      rintro v8 w8 ⟨g1, rfl, b1, hg1, hu8⟩
      have h8 := h7.quiet hu8
      have ho8 := ho7.upd hu8 (fun h => h)
      simp (disch := omega) only [push_cast, Nat.reduceBEq, Nat.reduceEqDiff, Nat.reduceAdd, Nat.reduceMul, Nat.reduceSub, Nat.reduceLT, Int.reduceToNat, Int.reduceLT, Int.reduceLE, Int.reduceEq, Int.reduceAdd, Int.reduceSub, Int.reduceNeg, Int.reduceMul]
      refine loop_inv (I := fun k st w' => Bx (∃ i : Nat, k + i = W4.n ∧ st = [.int .i64 (i : Int)] ∧ Upd (fun _ => False) w8 w') ⟨⟩) ?_ W4.n ⟨0, rfl, rfl, Upd.refl⟩
      rintro k4 st w9 ⟨a2, hk4, rfl, hu9⟩
      have h9 := h8.quiet hu9
      have ho9 := ho8.upd hu9 (fun h => h)
      by_cases hk40 : k4 = 0
      · simp (disch := omega) only [push_cast, Nat.reduceBEq, Nat.reduceEqDiff, Nat.reduceAdd, Nat.reduceMul, Nat.reduceSub, Nat.reduceLT, Int.reduceToNat, Int.reduceLT, Int.reduceLE, Int.reduceEq, Int.reduceAdd, Int.reduceSub, Int.reduceNeg, Int.reduceMul, ho9.cell]
        exact ⟨k3 - 1, by omega, a1 + 1, by omega, by simp, (hu7.trans hu8 (fun _ _ h => h)).trans hu9 (fun _ _ h => h)⟩
      have hi2 : a2 < W4.n := by omega
      have hdv2 := delivered_ok h9 hi2 (hD4 a2 hi2) (hS4 a2 hi2)
      rw [ha4] at hdv2
      simp (disch := omega) only [push_cast, Nat.reduceBEq, Nat.reduceEqDiff, Nat.reduceAdd, Nat.reduceMul, Nat.reduceSub, Nat.reduceLT, Int.reduceToNat, Int.reduceLT, Int.reduceLE, Int.reduceEq, Int.reduceAdd, Int.reduceSub, Int.reduceNeg, Int.reduceMul, ho9.cell]
      refine Ok.use hdv2 ?_
      clear hdv2
      rintro v9 wA ⟨g2, rfl, b2, hg2, huA⟩
      have hA := h9.quiet huA
      have hoA := ho9.upd huA (fun h => h)
      have b1A := (b1.upd hu9 (fun h => h)).upd huA (fun h => h)
      simp (disch := omega) only [push_cast, Nat.reduceBEq, Nat.reduceEqDiff, Nat.reduceAdd, Nat.reduceMul, Nat.reduceSub, Nat.reduceLT, Int.reduceToNat, Int.reduceLT, Int.reduceLE, Int.reduceEq, Int.reduceAdd, Int.reduceSub, Int.reduceNeg, Int.reduceMul]
      refine loop_inv (I := fun k st w' => Bx (∃ i : Nat, k + i = W4.n ∧ st = [.int .i64 (i : Int)] ∧ Upd (fun _ => False) wA w') ⟨⟩) ?_ W4.n ⟨0, rfl, rfl, Upd.refl⟩
      rintro k5 st wB ⟨a3, hk5, rfl, huB⟩
      have hB := hA.quiet huB
      have hoB := hoA.upd huB (fun h => h)
      by_cases hk50 : k5 = 0
      · simp (disch := omega) only [push_cast, Nat.reduceBEq, Nat.reduceEqDiff, Nat.reduceAdd, Nat.reduceMul, Nat.reduceSub, Nat.reduceLT, Int.reduceToNat, Int.reduceLT, Int.reduceLE, Int.reduceEq, Int.reduceAdd, Int.reduceSub, Int.reduceNeg, Int.reduceMul, hoB.cell]
        exact ⟨k4 - 1, by omega, a2 + 1, by omega, by simp, (hu9.trans huA (fun _ _ h => h)).trans huB (fun _ _ h => h)⟩
      have hi3 : a3 < W4.n := by omega
      have c1 := b1A.upd huB (fun h => h)
      have c2 := b2.upd huB (fun h => h)
      obtain ⟨d2, dc2, hdv2, _, _, _, hdcell2⟩ := own1 hB.dwn hi2
      obtain ⟨d3, dc3, hdv3, _, _, _, hdcell3⟩ := own1 hB.dwn hi3
      rw [hdv2] at hdv3
      injection hdv3 with e1 _ e3
      simp only [Option.some.injEq, Addr.mk.injEq, and_true] at e1
      subst e1
      subst e3
      obtain ⟨sg, sc, hsv, _, _, _, hscell⟩ := own1 hB.snt hi3
      obtain ⟨xa, xc, hxv⟩ := own_slice (hB.sn a3 hi3).1
      rw [hxv, (hB.sn a3 hi3).2.1] at hscell
      have hoC := hB.obj
      rw [hav0, hdv2, hsv, ha4] at hoC
      have f1 : ¬ (cnt (W4.procs a1).list (a3 : Int) : Int) < (cnt (W4.procs a2).list (a3 : Int) : Int) := by have := agree_le hC hue hl4 hi1 hi2 hi3 hd1; omega
      cases hdk : W4.down a2
      · have f2 : (cnt (W4.procs a2).list (a3 : Int) : Int) = (cnt (W4.procs a1).list (a3 : Int) : Int) := by
          have q1 := agree_le hC hue hl4 hi1 hi2 hi3 hd1
          have q2 := agree_le hC hue hl4 hi2 hi1 hi3 hdk
          omega
        rw [hdk] at hdcell2
        cases hdo : W4.down a3
        · have f3 : (cnt (W4.procs a1).list (a3 : Int) : Int) = ((W4.sent a3).length : Int) := by have := agree_own hC hue hl4 hi1 hi3 hd1 hdo; omega
          rw [hdo] at hdcell3
          rw [f2] at f1
          simp (config := { maxSteps := 3000000 }) (disch := omega) only [push_cast, Nat.reduceBEq, Nat.reduceEqDiff, Nat.reduceAdd, Nat.reduceMul, Nat.reduceSub, Nat.reduceLT, Int.reduceToNat, Int.reduceLT, Int.reduceLE, Int.reduceEq, Int.reduceAdd, Int.reduceSub, Int.reduceNeg, Int.reduceMul, c1.cell, c2.cell, atL_get hi3, hoC.cell, hdcell2, hdcell3, hscell, f1, f2, f3]
          exact ⟨k5 - 1, by omega, a3 + 1, by omega, by simp, huB.drew'⟩
        · rw [hdo] at hdcell3
          rw [f2] at f1
          simp (config := { maxSteps := 3000000 }) (disch := omega) only [push_cast, Nat.reduceBEq, Nat.reduceEqDiff, Nat.reduceAdd, Nat.reduceMul, Nat.reduceSub, Nat.reduceLT, Int.reduceToNat, Int.reduceLT, Int.reduceLE, Int.reduceEq, Int.reduceAdd, Int.reduceSub, Int.reduceNeg, Int.reduceMul, c1.cell, c2.cell, atL_get hi3, hoC.cell, hdcell2, hdcell3, hscell, f1, f2]
          exact ⟨k5 - 1, by omega, a3 + 1, by omega, by simp, huB.drew'⟩
      · rw [hdk] at hdcell2
        cases hdo : W4.down a3
        · have f3 : (cnt (W4.procs a1).list (a3 : Int) : Int) = ((W4.sent a3).length : Int) := by have := agree_own hC hue hl4 hi1 hi3 hd1 hdo; omega
          rw [hdo] at hdcell3
          rw [f3] at f1
          simp (config := { maxSteps := 3000000 }) (disch := omega) only [push_cast, Nat.reduceBEq, Nat.reduceEqDiff, Nat.reduceAdd, Nat.reduceMul, Nat.reduceSub, Nat.reduceLT, Int.reduceToNat, Int.reduceLT, Int.reduceLE, Int.reduceEq, Int.reduceAdd, Int.reduceSub, Int.reduceNeg, Int.reduceMul, c1.cell, c2.cell, atL_get hi3, hoC.cell, hdcell2, hdcell3, hscell, f1, f3]
          exact ⟨k5 - 1, by omega, a3 + 1, by omega, by simp, huB.drew'⟩
        · rw [hdo] at hdcell3
          simp (config := { maxSteps := 3000000 }) (disch := omega) only [push_cast, Nat.reduceBEq, Nat.reduceEqDiff, Nat.reduceAdd, Nat.reduceMul, Nat.reduceSub, Nat.reduceLT, Int.reduceToNat, Int.reduceLT, Int.reduceLE, Int.reduceEq, Int.reduceAdd, Int.reduceSub, Int.reduceNeg, Int.reduceMul, c1.cell, c2.cell, atL_get hi3, hoC.cell, hdcell2, hdcell3, hscell, f1]
          exact ⟨k5 - 1, by omega, a3 + 1, by omega, by simp, huB.drew'⟩
  refine wr_seq (wr_of_w mixed ?_)
  have hil : i < xs.length := by omega
  have hil' : (i : Int) < xs.length := by omega
  have h60 : (i : Int) < 60 := by omega
  simp (disch := omega) only [push_cast, Nat.reduceBEq, Nat.reduceEqDiff, Nat.reduceAdd, Nat.reduceMul, Nat.reduceSub, Nat.reduceLT, Int.reduceToNat, Int.reduceLT, Int.reduceLE, Int.reduceEq, Int.reduceAdd, Int.reduceSub, Int.reduceNeg, Int.reduceMul, hil', h60, KSr_nor]
  have hxi := List.getElem?_eq_getElem hil
  have hxl := hx _ (List.getElem_mem hil)
  generalize xs[i] = x at *
  obtain ⟨eb, eo, ec', pv, he, q0, q1, q2, hpv⟩ := hv.get u03 hxi
  injection he with e1 _ e3
  subst e1
  subst e3
  obtain ⟨pa, pc, rfl⟩ := hpv.form
  obtain ⟨xk, xA, xl⟩ := x
  simp only at q0 q1 q2 hpv hxl
  refine wr_seq (wr_block (wr_seq (wr_region (wlr_step ?_))))
  simp (disch := omega) only [push_cast, Nat.reduceBEq, Nat.reduceEqDiff, Nat.reduceAdd, Nat.reduceMul, Nat.reduceSub, Nat.reduceLT, Int.reduceToNat, Int.reduceLT, Int.reduceLE, Int.reduceEq, Int.reduceAdd, Int.reduceSub, Int.reduceNeg, Int.reduceMul]
  refine wlr_step ?_
  simp (disch := omega) only [push_cast, Nat.reduceBEq, Nat.reduceEqDiff, Nat.reduceAdd, Nat.reduceMul, Nat.reduceSub, Nat.reduceLT, Int.reduceToNat, Int.reduceLT, Int.reduceLE, Int.reduceEq, Int.reduceAdd, Int.reduceSub, Int.reduceNeg, Int.reduceMul]
  refine wlr_step ?_
  simp (disch := omega) only [push_cast, Nat.reduceBEq, Nat.reduceEqDiff, Nat.reduceAdd, Nat.reduceMul, Nat.reduceSub, Nat.reduceLT, Int.reduceToNat, Int.reduceLT, Int.reduceLE, Int.reduceEq, Int.reduceAdd, Int.reduceSub, Int.reduceNeg, Int.reduceMul]
  refine wlr_step ?_
  simp (disch := omega) only [push_cast, Nat.reduceBEq, Nat.reduceEqDiff, Nat.reduceAdd, Nat.reduceMul, Nat.reduceSub, Nat.reduceLT, Int.reduceToNat, Int.reduceLT, Int.reduceLE, Int.reduceEq, Int.reduceAdd, Int.reduceSub, Int.reduceNeg, Int.reduceMul]
  refine wlr_step ?_
  simp (disch := omega) only [push_cast, Nat.reduceBEq, Nat.reduceEqDiff, Nat.reduceAdd, Nat.reduceMul, Nat.reduceSub, Nat.reduceLT, Int.reduceToNat, Int.reduceLT, Int.reduceLE, Int.reduceEq, Int.reduceAdd, Int.reduceSub, Int.reduceNeg, Int.reduceMul, q0, q1, q2]
  have hpl := play_calls h3 (hI3.rdy (by omega)) (⟨xk, xA, xl⟩, .slice pa xl.length pc) hpv (by simp only; omega)
  rw [ha3] at hpl
  unfold evV evC at hpl
  simp only at hpl
  refine wlr_call (w1 := w3) (f := 9) (args := #[.pointer (some ⟨H.a, 0, none⟩), .agg [.int .i64 xk, .int .i64 xA, .slice pa xl.length pc].toArray]) rfl (by kernel_rfl) ?_
  refine hpl.mono ?_
  clear hpl
  rintro e w4 ⟨rfl, H4, W4, h4, ha4, hP4, u34⟩
  refine ⟨_, rfl, wlr_of_wl ?_⟩
  have hI4 := hP4.inv1 hI3 (by omega) hxl
  have u04 := u03.trans u34 (fun _ _ h => h)
  have hJ4 := hP4.inv2 (hI3.inv0 (by omega)) hJ3
  simp (disch := omega) only [push_cast, Nat.reduceBEq, Nat.reduceEqDiff, Nat.reduceAdd, Nat.reduceMul, Nat.reduceSub, Nat.reduceLT, Int.reduceToNat, Int.reduceLT, Int.reduceLE, Int.reduceEq, Int.reduceAdd, Int.reduceSub, Int.reduceNeg, Int.reduceMul]
  simp (disch := omega) only [push_cast, Nat.reduceBEq, Nat.reduceEqDiff, Nat.reduceAdd, Nat.reduceMul, Nat.reduceSub, Nat.reduceLT, Int.reduceToNat, Int.reduceLT, Int.reduceLE, Int.reduceEq, Int.reduceAdd, Int.reduceSub, Int.reduceNeg, Int.reduceMul, KSr_nor]
  refine wr_of_w mixed ?_
  simp (disch := omega) only [push_cast, Nat.reduceBEq, Nat.reduceEqDiff, Nat.reduceAdd, Nat.reduceMul, Nat.reduceSub, Nat.reduceLT, Int.reduceToNat, Int.reduceLT, Int.reduceLE, Int.reduceEq, Int.reduceAdd, Int.reduceSub, Int.reduceNeg, Int.reduceMul, KSr_nor]
  refine wr_of_w mixed ?_
  simp (disch := omega) only [push_cast, Nat.reduceBEq, Nat.reduceEqDiff, Nat.reduceAdd, Nat.reduceMul, Nat.reduceSub, Nat.reduceLT, Int.reduceToNat, Int.reduceLT, Int.reduceLE, Int.reduceEq, Int.reduceAdd, Int.reduceSub, Int.reduceNeg, Int.reduceMul, KJr_nor]
  exact ⟨k - 1, by omega, i + 1, H4, W4, by omega, by simp, h4, ha4, hI4, hJ4, u04⟩
theorem broadcastAgrees_law {w : World} (n : Int) (_hn : (Lit.int .i64 n).wf = true) {v : Value} (h : ∃ l, SlV w v l ∧ ∀ x, x ∈ l → x.l.length ≤ 140737488351232) (last : Bool) :
    Calls Try.prog 4 #[.int .i64 n, v, .bool last] w fun e w' => e = .returned (.bool true) ∧ RowKit.Below w.heap.size w w' := by
  obtain ⟨l, h1, h2⟩ := h
  exact calls_law (broadcastAgrees_calls n h1 h2 last)
end Go.Proofs.Ytpgfokhpacdhjaa.Fd
