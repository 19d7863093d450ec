/-
  names, Resend.
-/
import Derived.Test.YtpgfokhpacdhjaaBc5
namespace Go.Proofs.Ytpgfokhpacdhjaa.Fd
set_option linter.unusedSimpArgs false
set_option linter.unusedVariables false
open Go Go.ChangeMaps
set_option maxRecDepth 100000

theorem NtR.keys {base : Nat} {w : World} {m : List (NP × Value)} {notes : List (NP × (List Int × BitVec 16))} (h : NtR base w m notes) : m.map (·.1) = notes.map (·.1) := by
  apply List.ext_getElem?
  intro j
  rw [List.getElem?_map, List.getElem?_map]
  cases hj : m[j]? with
  | none =>
    have : notes[j]? = none := by
      rw [List.getElem?_eq_none_iff] at hj ⊢
      rw [← h.1]; exact hj
    rw [this]; rfl
  | some x =>
    obtain ⟨l, D, pv, h1, _, _⟩ := h.2 j x.1 x.2 hj
    rw [h1]; rfl
theorem names_calls {base : Nat} {w : World} {p : Nat} {S : PS} {mb db : Nat} {lv : Value} {m ds : List (NP × Value)} (h : PA base w p S mb db lv m ds) (hN : S.notes.length ≤ 1000000) :
    Calls Try.prog 30 #[.pointer (some ⟨p, 0, none⟩)] w fun e w' => ∃ u, e = .returned u ∧ ∃ ss : List NP, ss.Perm (S.notes.map (·.1)) ∧ ss.Pairwise (fun a b => ltN b a = false) ∧ SlQ w' u ss ∧ Upd (fun _ => False) w w' := by
  refine calls_of_wr (args := [.pointer (some ⟨p, 0, none⟩)]) rs30 Try.func30 rfl ok30 rfl (R := fun u w' => ∃ ss : List NP, ss.Perm (S.notes.map (·.1)) ∧ ss.Pairwise (fun a b => ltN b a = false) ∧ SlQ w' u ss ∧ Upd (fun _ => False) w w') ?_
  refine wr_seq (wr_of_w mixed ?_)
  simp (disch := omega) only [push_cast, Nat.reduceBEq, Nat.reduceEqDiff, Nat.reduceAdd, Nat.reduceMul, Nat.reduceSub, Nat.reduceLT, Int.reduceToNat, Int.reduceLT, Int.reduceLE, Int.reduceEq, Int.reduceAdd, Int.reduceSub, Int.reduceNeg, Int.reduceMul, KSr_nor]
  refine wr_seq (wr_region (wlr_step ?_))
  simp (disch := omega) only [push_cast, Nat.reduceBEq, Nat.reduceEqDiff, Nat.reduceAdd, Nat.reduceMul, Nat.reduceSub, Nat.reduceLT, Int.reduceToNat, Int.reduceLT, Int.reduceLE, Int.reduceEq, Int.reduceAdd, Int.reduceSub, Int.reduceNeg, Int.reduceMul, h.obj.cell]
  refine wlr_step ?_
  simp (disch := omega) only [push_cast, Nat.reduceBEq, Nat.reduceEqDiff, Nat.reduceAdd, Nat.reduceMul, Nat.reduceSub, Nat.reduceLT, Int.reduceToNat, Int.reduceLT, Int.reduceLE, Int.reduceEq, Int.reduceAdd, Int.reduceSub, Int.reduceNeg, Int.reduceMul, h.obj.cell]
  refine wlr_step ?_
  simp (disch := omega) only [push_cast, Nat.reduceBEq, Nat.reduceEqDiff, Nat.reduceAdd, Nat.reduceMul, Nat.reduceSub, Nat.reduceLT, Int.reduceToNat, Int.reduceLT, Int.reduceLE, Int.reduceEq, Int.reduceAdd, Int.reduceSub, Int.reduceNeg, Int.reduceMul, h.obj.cell]
  refine wlr_step ?_
  simp (disch := omega) only [push_cast, Nat.reduceBEq, Nat.reduceEqDiff, Nat.reduceAdd, Nat.reduceMul, Nat.reduceSub, Nat.reduceLT, Int.reduceToNat, Int.reduceLT, Int.reduceLE, Int.reduceEq, Int.reduceAdd, Int.reduceSub, Int.reduceNeg, Int.reduceMul, h.obj.cell]
  refine wlr_step ?_
  simp (disch := omega) only [push_cast, Nat.reduceBEq, Nat.reduceEqDiff, Nat.reduceAdd, Nat.reduceMul, Nat.reduceSub, Nat.reduceLT, Int.reduceToNat, Int.reduceLT, Int.reduceLE, Int.reduceEq, Int.reduceAdd, Int.reduceSub, Int.reduceNeg, Int.reduceMul, h.obj.cell]
  refine Ok.use (keys_ok mb) ?_
  rintro v w1 ⟨rfl, rfl⟩
  have hb1 := Blk.new (w := w) (cs := [.map (some mb)]) (E := 77)
  have hu1 : Upd (fun _ => False) w (w.alloc (.cells #[.map (some mb)] 77 (0, 0))) := Upd.alloc
  have hsc := sortedFunc_calls (w := w.alloc (.cells #[.map (some mb)] 77 (0, 0))) (Bm := w.heap.size) (b := mb) hb1.lt (hb1.cell 0) (h.map.upd hu1 (fun h => h)) (by rw [h.nts.1]; exact hN)
  dsimp only
  refine wlr_call (w1 := w.alloc (.cells #[.map (some mb)] 77 (0, 0))) (f := 44) (args := #[.func (.func fKeys1) #[] #[.pointer (some ⟨w.heap.size, 0, none⟩)], .func (.func 46) #[] #[]]) rfl (by kernel_rfl) ?_
  refine hsc.mono ?_
  rintro e w2 ⟨u, rfl, ss, hp, hpw, hsl, hu2⟩
  refine ⟨_, rfl, wlr_of_wl ?_⟩
  obtain ⟨a, c, rfl, hl⟩ := id hsl
  simp (disch := omega) only [push_cast, Nat.reduceBEq, Nat.reduceEqDiff, Nat.reduceAdd, Nat.reduceMul, Nat.reduceSub, Nat.reduceLT, Int.reduceToNat, Int.reduceLT, Int.reduceLE, Int.reduceEq, Int.reduceAdd, Int.reduceSub, Int.reduceNeg, Int.reduceMul, KSr_nor]
  refine wr_of_w mixed ?_
  simp (disch := omega) only [push_cast, Nat.reduceBEq, Nat.reduceEqDiff, Nat.reduceAdd, Nat.reduceMul, Nat.reduceSub, Nat.reduceLT, Int.reduceToNat, Int.reduceLT, Int.reduceLE, Int.reduceEq, Int.reduceAdd, Int.reduceSub, Int.reduceNeg, Int.reduceMul]
  exact ⟨ss, by rw [← h.nts.keys]; exact hp, hpw, hsl, hu1.trans hu2 (fun _ _ h => h)⟩
def rsB (S : PS) (b : NP) (k : Nat) : List Pk := (List.range k).filterMap fun to => match findS b S.notes with
  | some (l, D) => if D.getLsbD to then none else some ⟨1, S.self, to, b.1, b.2, l⟩
  | none => none
def rsO (S : PS) (ss : List NP) : List Pk := ss.flatMap fun b => rsB S b S.n
theorem rsB_succ {S : PS} {b : NP} {l : List Int} {D : BitVec 16} (hf : findS b S.notes = some (l, D)) {i : Nat} : rsB S b (i + 1) = rsB S b i ++ (if D.getLsbD i then [] else [⟨1, S.self, i, b.1, b.2, l⟩]) := by
  unfold rsB
  rw [List.range_succ, List.filterMap_append, hf]
  congr 1
  cases h : D.getLsbD i <;> simp [h]
theorem rsB_length {S : PS} {b : NP} {i : Nat} : (rsB S b i).length ≤ i := by
  unfold rsB
  refine Nat.le_trans (List.length_filterMap_le _ _) ?_
  rw [List.length_range]; exact Nat.le_refl _
theorem rsO_length {S : PS} : ∀ {ss : List NP}, (rsO S ss).length ≤ ss.length * S.n
  | [] => by simp [rsO]
  | b :: r => by
    have h1 := rsO_length (S := S) (ss := r)
    have h2 := rsB_length (S := S) (b := b) (i := S.n)
    unfold rsO at h1 ⊢
    rw [List.flatMap_cons, List.length_append, List.length_cons, Nat.add_mul, Nat.one_mul]
    omega
theorem rsO_take {S : PS} {ss : List NP} {i : Nat} {b : NP} (h : ss[i]? = some b) : rsO S (ss.take (i + 1)) = rsO S (ss.take i) ++ rsB S b S.n := by
  obtain ⟨hlt, rfl⟩ := List.getElem?_eq_some_iff.1 h
  rw [List.take_succ_eq_append_getElem hlt]
  unfold rsO
  rw [List.flatMap_append]
  simp
theorem findS_some {b : NP} : ∀ {notes : List (NP × (List Int × BitVec 16))}, b ∈ notes.map (·.1) → ∃ x, findS b notes = some x
  | [], h => by simp at h
  | (k, x) :: r, h => by
    unfold findS
    by_cases e : b = k
    · exact ⟨x, by rw [if_pos e]⟩
    · rw [if_neg e]
      simp [e] at h
      exact findS_some (by simpa using h)
set_option maxHeartbeats 2000000 in
theorem Resend_calls {base : Nat} {w : World} {p : Nat} {S : PS} {mb db : Nat} {lv : Value} {m ds : List (NP × Value)} (h : PA base w p S mb db lv m ds) (hN : S.notes.length ≤ 10000) (hnl : ∀ k x, findS k S.notes = some x → x.1.length ≤ 140737488355328) :
    Calls Try.prog 13 #[.pointer (some ⟨p, 0, none⟩)] w fun e w' => ∃ u, e = .returned u ∧ ∃ ss : List NP, ss.Perm (S.notes.map (·.1)) ∧ ss.Pairwise (fun a b => ltN b a = false) ∧ OwnK base w.heap.size w' u (rsO S ss) ∧ Upd (fun _ => False) w w' := by
  refine calls_of_wr (args := [.pointer (some ⟨p, 0, none⟩)]) rs13 Try.func13 rfl ok13 rfl (R := fun u w' => ∃ ss : List NP, ss.Perm (S.notes.map (·.1)) ∧ ss.Pairwise (fun a b => ltN b a = false) ∧ OwnK base w.heap.size w' u (rsO S ss) ∧ Upd (fun _ => False) w w') ?_
  refine wr_seq (wr_of_w mixed ?_)
  simp (disch := omega) only [push_cast, Nat.reduceBEq, Nat.reduceEqDiff, Nat.reduceAdd, Nat.reduceMul, Nat.reduceSub, Nat.reduceLT, Int.reduceToNat, Int.reduceLT, Int.reduceLE, Int.reduceEq, Int.reduceAdd, Int.reduceSub, Int.reduceNeg, Int.reduceMul, KSr_nor]
  refine wr_seq (wr_of_w mixed ?_)
  simp (disch := omega) only [push_cast, Nat.reduceBEq, Nat.reduceEqDiff, Nat.reduceAdd, Nat.reduceMul, Nat.reduceSub, Nat.reduceLT, Int.reduceToNat, Int.reduceLT, Int.reduceLE, Int.reduceEq, Int.reduceAdd, Int.reduceSub, Int.reduceNeg, Int.reduceMul, KSr_nor]
  refine wr_seq (wr_seq (wr_region (wlr_step ?_)))
  simp (disch := omega) only [push_cast, Nat.reduceBEq, Nat.reduceEqDiff, Nat.reduceAdd, Nat.reduceMul, Nat.reduceSub, Nat.reduceLT, Int.reduceToNat, Int.reduceLT, Int.reduceLE, Int.reduceEq, Int.reduceAdd, Int.reduceSub, Int.reduceNeg, Int.reduceMul]
  refine wlr_call (w1 := w) (f := 30) (args := #[.pointer (some ⟨p, 0, none⟩)]) rfl (by kernel_rfl) ?_
  refine (names_calls h (by omega)).mono ?_
  rintro e w1 ⟨u, rfl, ss, hp, hpw, hsl, hu1⟩
  refine ⟨_, rfl, wlr_of_wl ?_⟩
  obtain ⟨a, c, rfl, hl⟩ := id hsl
  have hsn : ss.length = S.notes.length := by rw [hp.length_eq, List.length_map]
  have h1 := h.quiet hu1
  have hn12 := h.n12
  have hbw : base ≤ w.heap.size := by have := h.b1; have := h.obj.lt; omega
  simp (disch := omega) only [push_cast, Nat.reduceBEq, Nat.reduceEqDiff, Nat.reduceAdd, Nat.reduceMul, Nat.reduceSub, Nat.reduceLT, Int.reduceToNat, Int.reduceLT, Int.reduceLE, Int.reduceEq, Int.reduceAdd, Int.reduceSub, Int.reduceNeg, Int.reduceMul, KSr_nor]
  refine wr_of_w mixed ?_
  simp (disch := omega) only [push_cast, Nat.reduceBEq, Nat.reduceEqDiff, Nat.reduceAdd, Nat.reduceMul, Nat.reduceSub, Nat.reduceLT, Int.reduceToNat, Int.reduceLT, Int.reduceLE, Int.reduceEq, Int.reduceAdd, Int.reduceSub, Int.reduceNeg, Int.reduceMul]
  refine loop_inv (I := fun k st w' => Bx (∃ (i : Nat) (ov : Value), k + i = ss.length ∧ st = [ov, .int .i64 (i : Int)] ∧ Upd (fun _ => False) w1 w' ∧ OwnK base w.heap.size w' ov (rsO S (ss.take i)) ∧ ∀ g, ov.ownBlock = some g → w1.heap.size ≤ g) ⟨⟩) ?_ ss.length ⟨0, _, rfl, rfl, Upd.refl, OwnK.nil, fun g hg => by cases hg⟩
  rintro k st w2 ⟨i, ov, hk, rfl, hu2, ho, hg⟩
  have h2 := h1.quiet hu2
  by_cases hk0 : k = 0
  · obtain rfl : i = ss.length := by omega
    obtain ⟨oa, oc, rfl⟩ := ho.form
    simp (disch := omega) only [push_cast, Nat.reduceBEq, Nat.reduceEqDiff, Nat.reduceAdd, Nat.reduceMul, Nat.reduceSub, Nat.reduceLT, Int.reduceToNat, Int.reduceLT, Int.reduceLE, Int.reduceEq, Int.reduceAdd, Int.reduceSub, Int.reduceNeg, Int.reduceMul, KSr_nor]
    refine wr_of_w mixed ?_
    simp (disch := omega) only [push_cast, Nat.reduceBEq, Nat.reduceEqDiff, Nat.reduceAdd, Nat.reduceMul, Nat.reduceSub, Nat.reduceLT, Int.reduceToNat, Int.reduceLT, Int.reduceLE, Int.reduceEq, Int.reduceAdd, Int.reduceSub, Int.reduceNeg, Int.reduceMul]
    rw [List.take_length] at ho ⊢
    exact ⟨ss, hp, hpw, ho, hu1.trans hu2 (fun _ _ h => h)⟩
  have hi : i < ss.length := by omega
  have hsi := List.getElem?_eq_getElem hi
  have hmem := hp.mem_iff.1 (List.getElem_mem hi)
  obtain ⟨⟨l, D⟩, hf⟩ := findS_some hmem
  generalize ss[i] = b at *
  obtain ⟨b1, b2⟩ := b
  obtain ⟨a', c', hv', hl'⟩ := hsl.upd hu2
  injection hv' with e1 e2 e3
  subst e1
  obtain ⟨sb, so, rfl, hsb, hcell⟩ := hl' (fun e => by rw [e] at hi; simp at hi)
  obtain ⟨hc1, hc2⟩ := hcell i _ hsi
  simp only at hc1 hc2
  have hpl2 := h2.obj.lt
  have h2a := h2.quiet (Upd.alloc (F := fun _ => False) (o := .cells [.int .i64 0, .int .i64 0].toArray 76 (0, 0)))
  simp (disch := omega) only [push_cast, Nat.reduceBEq, Nat.reduceEqDiff, Nat.reduceAdd, Nat.reduceMul, Nat.reduceSub, Nat.reduceLT, Int.reduceToNat, Int.reduceLT, Int.reduceLE, Int.reduceEq, Int.reduceAdd, Int.reduceSub, Int.reduceNeg, Int.reduceMul, hc1, hc2, h2.obj.cell, h2a.obj.cell]
  have c3 := ((Blk.new (w := w2) (cs := [.int .i64 0, .int .i64 0]) (E := 76)).set 0 (.int .i64 b1)).set 1 (.int .i64 b2)
  have u3 : Upd (fun _ => False) w2 (((w2.alloc (.cells [.int .i64 0, .int .i64 0].toArray 76 (0, 0))).setCell ⟨w2.heap.size, 0, none⟩ (.int .i64 b1)).setCell ⟨w2.heap.size, 1, none⟩ (.int .i64 b2)) := (Upd.alloc.setNew (Nat.le_refl _)).setNew (Nat.le_refl _)
  simp only [List.set_cons_succ, List.set_cons_zero] at c3
  generalize ((w2.alloc (.cells [.int .i64 0, .int .i64 0].toArray 76 (0, 0))).setCell ⟨w2.heap.size, 0, none⟩ (.int .i64 b1)).setCell ⟨w2.heap.size, 1, none⟩ (.int .i64 b2) = w3 at *
  have h3 := h2.quiet u3
  have hol := @rsO_length S (ss.take i)
  have htl : (ss.take i).length ≤ 10000 := by rw [List.length_take]; omega
  have hmul : (ss.take i).length * S.n ≤ 10000 * 12 := Nat.mul_le_mul htl hn12
  have s12 := hu2.size
  have s23 := u3.size
  have s01 := hu1.size
  have ho3 := ho.quiet u3
  refine loop_inv (I := fun k st w' => Bx (∃ (j : Nat) (ov : Value), k + j = S.n ∧ st = [ov, .int .i64 (j : Int)] ∧ Upd (fun _ => False) w1 w' ∧ Upd (fun b => w1.heap.size ≤ b ∧ b ≠ w2.heap.size) w3 w' ∧ OwnK base w.heap.size w' ov (rsO S (ss.take i) ++ rsB S (b1, b2) j) ∧ ∀ g, ov.ownBlock = some g → w1.heap.size ≤ g) ⟨⟩) ?_ S.n ⟨0, _, rfl, rfl, hu2.trans u3 (fun _ _ h => h), Upd.refl, by simpa [rsB] using ho3, hg⟩
  clear hg ho ho3
  rintro k2 st w4 ⟨j, ov, hk2, rfl, hu14, hu34, ho, hg⟩
  have h4 := h1.quiet hu14
  have c4 := c3.upd hu34 (fun h => h.2 rfl)
  by_cases hk20 : k2 = 0
  · obtain rfl : j = S.n := by omega
    simp (disch := omega) only [push_cast, Nat.reduceBEq, Nat.reduceEqDiff, Nat.reduceAdd, Nat.reduceMul, Nat.reduceSub, Nat.reduceLT, Int.reduceToNat, Int.reduceLT, Int.reduceLE, Int.reduceEq, Int.reduceAdd, Int.reduceSub, Int.reduceNeg, Int.reduceMul]
    refine ⟨k - 1, by omega, i + 1, ov, by omega, by simp, hu14, ?_, hg⟩
    rw [rsO_take hsi]
    exact ho
  have hj : j < S.n := by omega
  have hlk4 := lkp_p (k := (b1, b2)) (ok := false) h4.map.drew'
  rcases h4.nts.find (b1, b2) with ⟨hf', hpi⟩ | ⟨l', D', pv, jj, hf', hpi, hpv⟩
  · rw [hf] at hf'; cases hf'
  rw [hf] at hf'
  simp only [Option.some.injEq, Prod.mk.injEq] at hf'
  obtain ⟨rfl, rfl⟩ := hf'
  obtain ⟨pa, pc, rfl⟩ := hpv.form
  rw [hpi] at hlk4
  unfold keyV at hlk4
  simp only [Bool.false_eq_true, if_false] at hlk4
  have hbl := @rsB_length S (b1, b2) j
  cases hb : D.getLsbD j
  · simp (disch := omega) only [push_cast, Nat.reduceBEq, Nat.reduceEqDiff, Nat.reduceAdd, Nat.reduceMul, Nat.reduceSub, Nat.reduceLT, Int.reduceToNat, Int.reduceLT, Int.reduceLE, Int.reduceEq, Int.reduceAdd, Int.reduceSub, Int.reduceNeg, Int.reduceMul, h4.obj.cell, c4.cell, hlk4, hb]
    refine Ok.use (packet_ok (h4.quiet Upd.drew) 1 (j : Int) (b1, b2) hf (hnl _ _ hf)) ?_
    rintro v w6 ⟨pv, rfl, hpv6, hu6'⟩
    have hu6 : Upd (fun _ => False) w4 w6 := Upd.drew.trans hu6' (fun _ _ h => h)
    rw [if_pos rfl] at hpv6 ⊢
    obtain ⟨qa, qc, rfl⟩ := hpv6.form
    have ho6 := ho.quiet hu6
    unfold pkV pkC
    simp (disch := omega) only [push_cast, Nat.reduceBEq, Nat.reduceEqDiff, Nat.reduceAdd, Nat.reduceMul, Nat.reduceSub, Nat.reduceLT, Int.reduceToNat, Int.reduceLT, Int.reduceLE, Int.reduceEq, Int.reduceAdd, Int.reduceSub, Int.reduceNeg, Int.reduceMul, bsl_pk]
    have hu7 : Upd (fun _ => False) w6 (w6.alloc (.cells (pkC (⟨1, S.self, j, b1, b2, l⟩, .slice qa l.length qc)).toArray 46 (0, 0))) := Upd.alloc
    have hb7 := Blk.new (w := w6) (cs := pkC (⟨1, S.self, j, b1, b2, l⟩, .slice qa l.length qc)) (E := 46)
    have s46 := hu6.size
    have s34 := hu34.size
    have s67 := hu7.size
    refine app_pk (z := (⟨1, S.self, j, b1, b2, l⟩, .slice qa l.length qc)) (ho6.quiet hu7) (hpv6.keep (Kp.quiet hu7)) hbw (by omega) (by rw [List.length_append]; omega) hb7 ?_
    intro v' w8 h8 hu8 hf8
    have hu47 := hu6.trans hu7 (fun _ _ h => h)
    simp (disch := omega) only [push_cast, Nat.reduceBEq, Nat.reduceEqDiff, Nat.reduceAdd, Nat.reduceMul, Nat.reduceSub, Nat.reduceLT, Int.reduceToNat, Int.reduceLT, Int.reduceLE, Int.reduceEq, Int.reduceAdd, Int.reduceSub, Int.reduceNeg, Int.reduceMul]
    refine ⟨k2 - 1, by omega, j + 1, v', by omega, by simp, (hu14.trans hu47 (fun _ _ h => h)).trans hu8 (fun b h1 h2 => by have := hg b h2; omega), (hu34.trans hu47 (fun _ _ h => h.elim)).trans hu8 (fun b h1 h2 => ⟨hg b h2, fun e => ?_⟩), ?_, ?_⟩
    · obtain ⟨cs, hb⟩ := ho.ty h2
      rw [e] at hb
      exact absurd (hb.ty c4) (by decide)
    · rw [rsB_succ hf, hb, if_neg (by decide), ← List.append_assoc]
      exact h8
    · intro g hg'
      rcases hf8 g hg' with h | h
      · exact hg g h
      · have := hu14.size
        omega
  · simp (disch := omega) only [push_cast, Nat.reduceBEq, Nat.reduceEqDiff, Nat.reduceAdd, Nat.reduceMul, Nat.reduceSub, Nat.reduceLT, Int.reduceToNat, Int.reduceLT, Int.reduceLE, Int.reduceEq, Int.reduceAdd, Int.reduceSub, Int.reduceNeg, Int.reduceMul, h4.obj.cell, c4.cell, hlk4, hb]
    refine ⟨k2 - 1, by omega, j + 1, ov, by omega, by simp, hu14.trans Upd.drew (fun _ _ h => h), hu34.trans (Upd.drew (F := fun _ => False)) (fun _ _ h => h.elim), ?_, hg⟩
    rw [rsB_succ hf, hb, if_pos rfl, List.append_nil]
    exact ho.quiet Upd.drew
end Go.Proofs.Ytpgfokhpacdhjaa.Fd
