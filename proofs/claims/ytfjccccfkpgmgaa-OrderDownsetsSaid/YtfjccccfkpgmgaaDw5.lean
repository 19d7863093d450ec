/-
  order.Downsets.
-/
import Derived.Test.YtfjccccfkpgmgaaDw2
import Derived.Test.YtfjccccfkpgmgaaDw4
import Derived.Test.YtfjccccfkpgmgaaFdR
import Derived.Test.YtfjccccfkpgmgaaOr9
namespace Go.Proofs.Ytfjccccfkpgmgaa.Fd
set_option linter.unusedSimpArgs false
set_option linter.unusedVariables false
open Go
set_option maxRecDepth 100000

theorem ext_drop {n : Nat} {R : Rel} {o : List Nat} (hl : o.length = n) (h : Topo n R fun j => o.getD j 0) : ∀ m k, m + k = n → Ext n R (o.drop k)
  | 0, k, e => by rw [List.drop_of_length_le (by omega)]; trivial
  | m + 1, k, e => by
    have hk : k < o.length := by omega
    have hs : ∀ j (hj : j < o.length), o.getD j 0 = o[j] := fun j hj => by rw [List.getD_eq_getElem?_getD, List.getElem?_eq_getElem hj]; rfl
    have hm : ∀ a, a ∈ o.drop (k + 1) → ∃ j, k < j ∧ j < n ∧ o.getD j 0 = a := by
      intro a ha
      obtain ⟨j, hj⟩ := List.mem_iff_getElem?.1 ha
      rw [List.getElem?_drop] at hj
      obtain ⟨h1, h2⟩ := List.getElem?_eq_some_iff.1 hj
      exact ⟨k + 1 + j, by omega, by omega, by rw [hs _ h1, h2]⟩
    rw [List.drop_eq_getElem_cons hk, ← hs k hk]
    refine ⟨h.lt k (by omega), fun ha => ?_, fun a ha hR => ?_, ext_drop hl h m (k + 1) (by omega)⟩
    · obtain ⟨j, h1, h2, h3⟩ := hm _ ha
      have := h.inj j k h2 (by omega) h3
      omega
    · obtain ⟨i, h1, h2⟩ := h.free k (by omega) a ha hR
      refine ⟨fun e' => ?_, fun hd => ?_⟩
      · have := h.inj i k (by omega) (by omega) (h2.trans e'); omega
      · obtain ⟨j, h4, h5, h6⟩ := hm _ hd
        have := h.inj i j (by omega) (by omega) (h2.trans h6.symm); omega
theorem ext_sortL {n : Nat} {R : Rel} (ht : ∀ a b c, R a c = true → R c b = true → R a b = true) (hi : ∀ a, R a a = false) :
    Ext n R (sortL n R n) ∧ (∀ a, a < n → a ∈ sortL n R n) ∧ (sortL n R n).length = n := by
  have hl := sortL_length ht hi n (Nat.le_refl n)
  have h := (topo_sortL (n := n) ht hi).1
  refine ⟨ext_drop hl h n 0 rfl, fun a ha => ?_, hl⟩
  obtain ⟨j, h1, h2⟩ := h.surj a ha
  rw [List.getD_eq_getElem?_getD, List.getElem?_eq_getElem (by omega)] at h2
  rw [← h2]
  exact List.getElem_mem _

theorem wSets_ne {n : Nat} {lt : Nat → Nat → Bool} : ∀ {o : List Nat} {S : Nat → Bool}, 0 < (wSets n lt o S).length
  | [], S => by simp [wSets]
  | x :: o, S => by
    have := wSets_ne (n := n) (lt := lt) (o := o) (S := S)
    rw [wSets, List.length_append]
    omega
theorem asc_nodup {l : List Nat} (h : l.Pairwise (· < ·)) : l.Nodup := h.imp fun h => Nat.ne_of_lt h
set_option maxHeartbeats 4000000 in
theorem Downsets_calls {w : World} {m lim : Nat} {v : Value} {l : List Pr} (hv : SlP w v l) (h12 : m ≤ 12) (h1 : 1 ≤ lim) (hf : flt m l = 0) :
    Calls Try.prog 35 #[.int .i64 m, v, .int .i64 lim] w fun e w' => ∃ u, e = .returned u ∧ Upd (fun _ => False) w w' ∧
      if (specD m (less m l)).length ≤ lim then ∃ u0, u = .tuple #[u0, .int .i64 0] ∧ SlL w' u0 (specD m (less m l)) else u = .tuple #[.slice none 0 0, .int .i64 6] := by
  refine (calls_of_wr (args := [.int .i64 m, v, .int .i64 lim]) rs35 Try.func35 rfl ok35 rfl (R := fun u w' => Upd (fun _ => False) w w' ∧
      if (specD m (less m l)).length ≤ lim then ∃ u0, u = .tuple #[u0, .int .i64 0] ∧ SlL w' u0 (specD m (less m l)) else u = .tuple #[.slice none 0 0, .int .i64 6]) ?_)
  obtain ⟨m', hmm, hm, hl4, hall, hck, hcy⟩ := flt_zero hf
  obtain rfl : m' = m := by omega
  refine wr_seq (wr_of_w mixed ?_)
  simp (disch := omega) only [push_cast, Nat.reduceBEq, Nat.reduceEqDiff, Nat.reduceAdd, Nat.reduceMul, Nat.reduceSub, Nat.reduceLT, Int.reduceToNat, Int.reduceLT, Int.reduceLE, Int.reduceEq, Int.reduceAdd, Int.reduceSub, Int.reduceNeg, Int.reduceMul, KSr_nor]
  have b0 : Blk ((w.alloc (.cells #[.int .i64 m'] 3 (0, 0))).alloc (.cells #[.int .i64 lim] 3 (0, 0))) w.heap.size [.int .i64 m'] 3 := Blk.new.alloc _
  have b1 : Blk ((w.alloc (.cells #[.int .i64 m'] 3 (0, 0))).alloc (.cells #[.int .i64 lim] 3 (0, 0))) (w.heap.size + 1) [.int .i64 lim] 3 := Blk.newAt size_alloc
  have hu0 : Upd (fun _ => False) w ((w.alloc (.cells #[.int .i64 m'] 3 (0, 0))).alloc (.cells #[.int .i64 lim] 3 (0, 0))) := Upd.refl.alloc'.alloc'
  generalize ((w.alloc (.cells #[.int .i64 m'] 3 (0, 0))).alloc (.cells #[.int .i64 lim] 3 (0, 0))) = w2 at *
  refine wr_seq (wr_of_w mixed ?_)
  simp (disch := omega) only [push_cast, Nat.reduceBEq, Nat.reduceEqDiff, Nat.reduceAdd, Nat.reduceMul, Nat.reduceSub, Nat.reduceLT, Int.reduceToNat, Int.reduceLT, Int.reduceLE, Int.reduceEq, Int.reduceAdd, Int.reduceSub, Int.reduceNeg, Int.reduceMul, b0.cell]
  refine Ok.use (check_ok _ (hv.upd hu0)) ?_
  rintro v1 w3 ⟨rfl, hu3⟩
  have hu03 := hu0.trans hu3 (fun _ _ h => h)
  have b03 := b0.upd hu3 (fun h => h)
  have b13 := b1.upd hu3 (fun h => h)
  simp (disch := omega) only [push_cast, Nat.reduceBEq, Nat.reduceEqDiff, Nat.reduceAdd, Nat.reduceMul, Nat.reduceSub, Nat.reduceLT, Int.reduceToNat, Int.reduceLT, Int.reduceLE, Int.reduceEq, Int.reduceAdd, Int.reduceSub, Int.reduceNeg, Int.reduceMul, hck, KSr_nor]
  refine wr_seq (wr_of_w mixed ?_)
  simp (disch := omega) only [push_cast, Nat.reduceBEq, Nat.reduceEqDiff, Nat.reduceAdd, Nat.reduceMul, Nat.reduceSub, Nat.reduceLT, Int.reduceToNat, Int.reduceLT, Int.reduceLE, Int.reduceEq, Int.reduceAdd, Int.reduceSub, Int.reduceNeg, Int.reduceMul, b13.cell, KSr_nor]
  refine wr_seq (wr_of_w mixed ?_)
  simp (disch := omega) only [push_cast, Nat.reduceBEq, Nat.reduceEqDiff, Nat.reduceAdd, Nat.reduceMul, Nat.reduceSub, Nat.reduceLT, Int.reduceToNat, Int.reduceLT, Int.reduceLE, Int.reduceEq, Int.reduceAdd, Int.reduceSub, Int.reduceNeg, Int.reduceMul, b03.cell, KSr_nor]
  refine Ok.use (acyclic_ok _ (hv.upd hu03)) ?_
  rintro v2 w4 ⟨r, rfl, hr, hu4⟩
  have hu04 := hu03.trans hu4 (fun _ _ h => h)
  have b04 := b03.upd hu4 (fun h => h)
  have b14 := b13.upd hu4 (fun h => h)
  obtain ⟨r', e1, e2⟩ := tab_norm (hr hf) (fun a b h => by have := less_lt hall h; omega)
  rw [← e1]
  have hb2 : Blk (w4.alloc (.cells (tabL fun _ => 0#64).toArray 53 (0, 0))) w4.heap.size (tabL fun _ => 0#64) 53 := Blk.new
  obtain ⟨hb3, hu5⟩ := new_tab (w := w4) (r := r')
  simp (disch := omega) only [push_cast, Nat.reduceBEq, Nat.reduceEqDiff, Nat.reduceAdd, Nat.reduceMul, Nat.reduceSub, Nat.reduceLT, Int.reduceToNat, Int.reduceLT, Int.reduceLE, Int.reduceEq, Int.reduceAdd, Int.reduceSub, Int.reduceNeg, Int.reduceMul, st_tab hb2, hf, KSr_nor]
  generalize (w4.alloc (.cells (tabL fun _ => 0#64).toArray 53 (0, 0))).setRow w4.heap.size (tabL r').toArray = w5 at *
  have hu05 := hu04.trans hu5 (fun _ _ h => h)
  have b05 := b04.upd hu5 (fun h => h)
  have b15 := b14.upd hu5 (fun h => h)
  refine wr_seq (wr_of_w mixed ?_)
  simp (disch := omega) only [push_cast, Nat.reduceBEq, Nat.reduceEqDiff, Nat.reduceAdd, Nat.reduceMul, Nat.reduceSub, Nat.reduceLT, Int.reduceToNat, Int.reduceLT, Int.reduceLE, Int.reduceEq, Int.reduceAdd, Int.reduceSub, Int.reduceNeg, Int.reduceMul, KSr_nor]
  refine wr_seq (wr_of_w mixed ?_)
  simp (disch := omega) only [push_cast, Nat.reduceBEq, Nat.reduceEqDiff, Nat.reduceAdd, Nat.reduceMul, Nat.reduceSub, Nat.reduceLT, Int.reduceToNat, Int.reduceLT, Int.reduceLE, Int.reduceEq, Int.reduceAdd, Int.reduceSub, Int.reduceNeg, Int.reduceMul, b05.cell]
  refine Ok.use (sorted_ok hb3 hm (by rw [e2]; exact less_trans hall) (by rw [e2]; exact less_irr hall hcy)) ?_
  rintro v3 w6 ⟨hs, hu6, hob⟩
  rw [e2] at hs
  have hu06 := hu05.trans hu6 (fun _ _ h => h)
  have b06 := b05.upd hu6 (fun h => h)
  have b16 := b15.upd hu6 (fun h => h)
  have b26 := hb3.upd hu6 (fun h => h)
  obtain ⟨oa, oc, rfl, hol⟩ := hs
  rw [toI_length] at *
  have hc7 : Blk ((w6.alloc (.cells #[.slice none 0 0] 26 (0, 0))).setCell ⟨w6.heap.size, 0, none⟩ (.slice oa (sortL m' (less m' l) m').length oc)) w6.heap.size [.slice oa (sortL m' (less m' l) m').length oc] 26 := Blk.new.set 0 _
  have hu7 : Upd (fun _ => False) w6 ((w6.alloc (.cells #[.slice none 0 0] 26 (0, 0))).setCell ⟨w6.heap.size, 0, none⟩ (.slice oa (sortL m' (less m' l) m').length oc)) := Upd.alloc.setNew (Nat.le_refl _)
  have hz7 : ((w6.alloc (.cells #[.slice none 0 0] 26 (0, 0))).setCell ⟨w6.heap.size, 0, none⟩ (.slice oa (sortL m' (less m' l) m').length oc)).heap.size = w6.heap.size + 1 := by rw [size_set, size_alloc]
  simp (disch := omega) only [push_cast, Nat.reduceBEq, Nat.reduceEqDiff, Nat.reduceAdd, Nat.reduceMul, Nat.reduceSub, Nat.reduceLT, Int.reduceToNat, Int.reduceLT, Int.reduceLE, Int.reduceEq, Int.reduceAdd, Int.reduceSub, Int.reduceNeg, Int.reduceMul, KSr_nor]
  generalize (w6.alloc (.cells #[.slice none 0 0] 26 (0, 0))).setCell ⟨w6.heap.size, 0, none⟩ (.slice oa (sortL m' (less m' l) m').length oc) = w7 at *
  refine wr_seq (wr_of_w mixed ?_)
  simp (disch := omega) only [push_cast, Nat.reduceBEq, Nat.reduceEqDiff, Nat.reduceAdd, Nat.reduceMul, Nat.reduceSub, Nat.reduceLT, Int.reduceToNat, Int.reduceLT, Int.reduceLE, Int.reduceEq, Int.reduceAdd, Int.reduceSub, Int.reduceNeg, Int.reduceMul, KSr_nor]
  refine wr_seq (wr_of_w mixed ?_)
  simp (disch := omega) only [push_cast, Nat.reduceBEq, Nat.reduceEqDiff, Nat.reduceAdd, Nat.reduceMul, Nat.reduceSub, Nat.reduceLT, Int.reduceToNat, Int.reduceLT, Int.reduceLE, Int.reduceEq, Int.reduceAdd, Int.reduceSub, Int.reduceNeg, Int.reduceMul, KSr_nor]
  have g8 : Blk ((w7.alloc (.cells #[.slice none 0 0] 43 (0, 0))).alloc (.cells #[.nilFunc] 70 (0, 0))) w7.heap.size [.slice none 0 0] 43 := Blk.new.alloc _
  have k8 : Blk ((w7.alloc (.cells #[.slice none 0 0] 43 (0, 0))).alloc (.cells #[.nilFunc] 70 (0, 0))) (w7.heap.size + 1) [.nilFunc] 70 := Blk.newAt size_alloc
  have hu8 : Upd (fun _ => False) w7 ((w7.alloc (.cells #[.slice none 0 0] 43 (0, 0))).alloc (.cells #[.nilFunc] 70 (0, 0))) := Upd.refl.alloc'.alloc'
  have hz8 : ((w7.alloc (.cells #[.slice none 0 0] 43 (0, 0))).alloc (.cells #[.nilFunc] 70 (0, 0))).heap.size = w7.heap.size + 2 := by rw [size_alloc, size_alloc]
  refine wr_seq (wr_of_w mixed ?_)
  simp (disch := omega) only [push_cast, Nat.reduceBEq, Nat.reduceEqDiff, Nat.reduceAdd, Nat.reduceMul, Nat.reduceSub, Nat.reduceLT, Int.reduceToNat, Int.reduceLT, Int.reduceLE, Int.reduceEq, Int.reduceAdd, Int.reduceSub, Int.reduceNeg, Int.reduceMul, k8.cell, k8.free, KSr_nor]
  generalize (w7.alloc (.cells #[.slice none 0 0] 43 (0, 0))).alloc (.cells #[.nilFunc] 70 (0, 0)) = w8 at *
  have hlo : (sortL m' (less m' l) m').length = m' := (ext_sortL (n := m') (R := less m' l) (less_trans hall) (less_irr hall hcy)).2.2
  have hE := ext_sortL (n := m') (R := less m' l) (less_trans hall) (less_irr hall hcy)
  have z0 := b1.lt
  have z1 := hu3.size
  have z2 := hu4.size
  have z4 := hu04.size
  have z5 := hu5.size
  have z6 := hu6.size
  have hu9 : Upd (fun b => b = w7.heap.size + 1) w8 (w8.setCell ⟨w7.heap.size + 1, 0, none⟩ (.func (.func 51) #[] #[.pointer (some ⟨w.heap.size, 0, none⟩), .pointer (some ⟨w7.heap.size, 0, none⟩), .pointer (some ⟨w.heap.size + 1, 0, none⟩), .pointer (some ⟨w7.heap.size + 1, 0, none⟩), .pointer (some ⟨w4.heap.size, 0, none⟩), .pointer (some ⟨w6.heap.size, 0, none⟩)])) := Upd.set rfl
  have k9 := k8.set 0 (.func (.func 51) #[] #[.pointer (some ⟨w.heap.size, 0, none⟩), .pointer (some ⟨w7.heap.size, 0, none⟩), .pointer (some ⟨w.heap.size + 1, 0, none⟩), .pointer (some ⟨w7.heap.size + 1, 0, none⟩), .pointer (some ⟨w4.heap.size, 0, none⟩), .pointer (some ⟨w6.heap.size, 0, none⟩)])
  have hz9 : (w8.setCell ⟨w7.heap.size + 1, 0, none⟩ (.func (.func 51) #[] #[.pointer (some ⟨w.heap.size, 0, none⟩), .pointer (some ⟨w7.heap.size, 0, none⟩), .pointer (some ⟨w.heap.size + 1, 0, none⟩), .pointer (some ⟨w7.heap.size + 1, 0, none⟩), .pointer (some ⟨w4.heap.size, 0, none⟩), .pointer (some ⟨w6.heap.size, 0, none⟩)])).heap.size = w8.heap.size := size_set
  simp only [List.set_cons_zero] at k9
  generalize w8.setCell ⟨w7.heap.size + 1, 0, none⟩ (.func (.func 51) #[] #[.pointer (some ⟨w.heap.size, 0, none⟩), .pointer (some ⟨w7.heap.size, 0, none⟩), .pointer (some ⟨w.heap.size + 1, 0, none⟩), .pointer (some ⟨w7.heap.size + 1, 0, none⟩), .pointer (some ⟨w4.heap.size, 0, none⟩), .pointer (some ⟨w6.heap.size, 0, none⟩)]) = w9 at *
  have hu69 : Upd (fun _ => False) w6 w9 := (hu7.trans hu8 (fun _ _ h => h)).trans hu9 (fun b h1 h2 => by omega)
  have hu79 : Upd (fun b => b = w7.heap.size + 1) w7 w9 := (hu8.mono fun _ _ h => h.elim).trans hu9 (fun _ _ h => h)
  have hu09 := hu06.trans hu69 (fun _ _ h => h)
  have C : WkC w9 m' lim w.heap.size w7.heap.size (w.heap.size + 1) (w7.heap.size + 1) w4.heap.size w6.heap.size r' (sortL m' (less m' l) m') := by
    refine ⟨b06.upd hu69 (fun h => h), b16.upd hu69 (fun h => h), k9, b26.upd hu69 (fun h => h), ?_, by omega, by omega, by omega, by omega, by omega, by omega, hlo, h12, fun x hx => ext_lt hE.1 x hx⟩
    intro h0
    obtain ⟨b, f, rfl, hb, hcl⟩ := hol (by intro e; have := congrArg List.length e; rw [toI_length, hlo] at this; simp at this; omega)
    refine ⟨_, oc, b, f, rfl, hc7.upd hu79 (by omega), by have := hu69.size; omega, by omega, fun j x hj => ?_⟩
    rw [World.cell?_of_block (hu69.block b hb (fun h => h))]
    refine hcl j x ?_
    unfold toI
    rw [List.getElem?_map, hj]; rfl
  have hW0 : WS w9 w9 w7.heap.size [] := ⟨Upd.refl, .slice none 0 0, [], g8.upd hu9 (by omega), ⟨rfl, .inl ⟨rfl, rfl⟩⟩, fun g hg => by (cases hg), rfl, fun j u c hj => by simp at hj⟩
  have hwk := walk_ok C m' 0 0#64 w9 [] (by omega) hW0 (Nat.zero_le _) (by have : 2 ^ m' ≤ 2 ^ 12 := Nat.pow_le_pow_right (by omega) h12; simp; omega)
  rw [show ((0 : Nat) : Int) = 0 from rfl, show U 0#64 = .int .u64 0 from rfl] at hwk
  refine wr_seq (wr_of_w mixed ?_)
  simp (disch := omega) only [push_cast, Nat.reduceBEq, Nat.reduceEqDiff, Nat.reduceAdd, Nat.reduceMul, Nat.reduceSub, Nat.reduceLT, Int.reduceToNat, Int.reduceLT, Int.reduceLE, Int.reduceEq, Int.reduceAdd, Int.reduceSub, Int.reduceNeg, Int.reduceMul, k9.cell]
  refine Ok.use hwk ?_
  clear hwk
  rintro v10 w10 hr10
  have hS0 : (fun a => (0#64).getLsbD a) = fun _ => false := by funext a; simp
  have hpe := walkP_eq (n := m') (lt := rbit r') (limit := lim) (o := sortL m' (less m' l) m') (S := fun _ => false) (acc := []) (Nat.zero_le _)
  rw [List.drop_zero, hS0, hpe, e2] at hr10
  rw [List.nil_append, List.length_nil, Nat.zero_add, downs_len hE.1 hE.2.1] at hr10
  by_cases hlen : (specD m' (less m' l)).length ≤ lim
  rotate_left
  · rw [if_neg hlen] at hr10
    obtain ⟨rfl, hu10⟩ := hr10
    simp (disch := omega) only [push_cast, Nat.reduceBEq, Nat.reduceEqDiff, Nat.reduceAdd, Nat.reduceMul, Nat.reduceSub, Nat.reduceLT, Int.reduceToNat, Int.reduceLT, Int.reduceLE, Int.reduceEq, Int.reduceAdd, Int.reduceSub, Int.reduceNeg, Int.reduceMul, KSr_ret]
    rw [if_neg hlen]
    exact ⟨hu09.trans hu10 (fun b h1 h2 => by omega), trivial⟩
  rw [if_pos hlen] at hr10
  obtain ⟨rfl, hu10, V, vs, q1, hown, hVb, hvl, hvs⟩ := hr10
  simp (disch := omega) only [push_cast, Nat.reduceBEq, Nat.reduceEqDiff, Nat.reduceAdd, Nat.reduceMul, Nat.reduceSub, Nat.reduceLT, Int.reduceToNat, Int.reduceLT, Int.reduceLE, Int.reduceEq, Int.reduceAdd, Int.reduceSub, Int.reduceNeg, Int.reduceMul, KSr_nor]
  generalize hcss : wSets m' (less m' l) (sortL m' (less m' l) m') (fun _ => false) = css at *
  have hpos : 0 < css.length := by rw [← hcss]; exact wSets_ne
  have hmem : ∀ c, c ∈ css → c ∈ specD m' (less m' l) := fun c hc => (wSets_iff hE.1 hE.2.1).1 (by rw [hcss]; exact hc)
  have hl64 : ∀ c ∈ css, c.length ≤ 64 := by
    intro c hc
    obtain ⟨_, h2, h3⟩ := specD_mem.1 (hmem c hc)
    have := nodup_le m' c (asc_nodup h2) h3
    omega
  have h4096 : css.length ≤ 4096 := by
    have h2 : css.length ≤ 2 ^ m' := by rw [← hcss]; have := wSets_len (n := m') (lt := less m' l) (o := sortL m' (less m' l) m') (S := fun _ => false); rw [hlo] at this; exact this
    have : 2 ^ m' ≤ 2 ^ 12 := Nat.pow_le_pow_right (by omega) h12
    omega
  obtain ⟨blk, cap, rfl⟩ : ∃ blk cap, V = .slice (some ⟨blk, 0, none⟩) css.length cap := by
    rcases id hown.2 with ⟨_, h0⟩ | ⟨g, cap, cur, hv, _⟩
    · omega
    · exact ⟨g, cap, by rw [hv, hvl]⟩
  have hsc := sort_calls hown hvl (fun j u c hj hc => ⟨(hvs j u c hj hc).1, (hvs j u c hj hc).2.1, fun g hg e => ((hvs j u c hj hc).2.2 g hg).2.2 (by rw [e]; rfl)⟩) hl64 h4096
  have hblk := hVb blk rfl
  refine wr_seq (wr_region (wlr_step ?_))
  simp (disch := omega) only [push_cast, Nat.reduceBEq, Nat.reduceEqDiff, Nat.reduceAdd, Nat.reduceMul, Nat.reduceSub, Nat.reduceLT, Int.reduceToNat, Int.reduceLT, Int.reduceLE, Int.reduceEq, Int.reduceAdd, Int.reduceSub, Int.reduceNeg, Int.reduceMul, q1.cell]
  refine wlr_call (f := 52) (args := #[.slice (some ⟨blk, 0, none⟩) css.length cap, .func (.func 53) #[] #[]]) (w1 := w10) rfl (by kernel_rfl) ?_
  refine hsc.mono ?_
  clear hsc
  rintro e w11 ⟨rfl, d, hp, hd, hsl, hu11⟩
  refine ⟨_, rfl, wlr_of_wl ?_⟩
  have hde : d = specD m' (less m' l) := downs_eq hE.1 hE.2.1 (by rw [hcss]; exact hp) hd
  have q11 := q1.upd hu11 (by omega)
  simp (disch := omega) only [push_cast, Nat.reduceBEq, Nat.reduceEqDiff, Nat.reduceAdd, Nat.reduceMul, Nat.reduceSub, Nat.reduceLT, Int.reduceToNat, Int.reduceLT, Int.reduceLE, Int.reduceEq, Int.reduceAdd, Int.reduceSub, Int.reduceNeg, Int.reduceMul, KSr_nor]
  refine wr_of_w mixed ?_
  simp (disch := omega) only [push_cast, Nat.reduceBEq, Nat.reduceEqDiff, Nat.reduceAdd, Nat.reduceMul, Nat.reduceSub, Nat.reduceLT, Int.reduceToNat, Int.reduceLT, Int.reduceLE, Int.reduceEq, Int.reduceAdd, Int.reduceSub, Int.reduceNeg, Int.reduceMul, q11.cell]
  rw [if_pos hlen]
  exact ⟨(hu09.trans hu10 (fun b h1 h2 => by omega)).trans hu11 (fun b h1 h2 => by omega), _, rfl, by rw [← hde]; exact hsl⟩
end Go.Proofs.Ytfjccccfkpgmgaa.Fd
