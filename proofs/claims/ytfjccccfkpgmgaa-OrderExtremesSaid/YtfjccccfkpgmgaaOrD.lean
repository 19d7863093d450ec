/-
  The law OrderMinimal, as a reading.
-/
import Derived.Test.YtfjccccfkpgmgaaOrC
namespace Go.Proofs.Ytfjccccfkpgmgaa.Fd
set_option linter.unusedSimpArgs false
set_option linter.unusedVariables false
open Go
set_option maxRecDepth 100000

set_option maxHeartbeats 4000000 in
theorem orderMinimal_ok {w : World} (n : Int) {v : Value} {l : List Pr} (hv : SlP w v l) :
    Ok (den Try.prog 6 #[.int .i64 n, v] w) fun u w' => u = .bool true ∧ Upd (fun _ => False) w w' := by
  have t := fun {a b c : World} (x : Upd (fun _ => False) a b) (y : Upd (fun _ => False) b c) => x.trans y (F := fun _ => False) (fun _ _ h => h)
  refine den_ok (args := [.int .i64 n, v]) rs6 Try.func6 rfl mixed in6 ok6 rfl ?_
  simp (disch := omega) only [push_cast, Nat.reduceBEq, Nat.reduceEqDiff, Nat.reduceAdd, Nat.reduceMul, Nat.reduceSub, Nat.reduceLT, Int.reduceToNat, Int.reduceLT, Int.reduceLE, Int.reduceEq, Int.reduceAdd, Int.reduceSub, Int.reduceNeg, Int.reduceMul]
  refine Ok.use awake_ok ?_
  rintro v1 w1 ⟨rfl, hu1⟩
  simp (disch := omega) only [push_cast, Nat.reduceBEq, Nat.reduceEqDiff, Nat.reduceAdd, Nat.reduceMul, Nat.reduceSub, Nat.reduceLT, Int.reduceToNat, Int.reduceLT, Int.reduceLE, Int.reduceEq, Int.reduceAdd, Int.reduceSub, Int.reduceNeg, Int.reduceMul]
  refine Ok.use (fault_ok n (hv.upd hu1)) ?_
  rintro v1 w2 ⟨rfl, hu2⟩
  by_cases h0 : flt n l = 0
  rotate_left
  · simp (disch := omega) only [push_cast, Nat.reduceBEq, Nat.reduceEqDiff, Nat.reduceAdd, Nat.reduceMul, Nat.reduceSub, Nat.reduceLT, Int.reduceToNat, Int.reduceLT, Int.reduceLE, Int.reduceEq, Int.reduceAdd, Int.reduceSub, Int.reduceNeg, Int.reduceMul]
    exact t hu1 hu2
  obtain ⟨m, rfl, hm, hl4, hall, hchk, hcy⟩ := flt_zero h0
  rw [h0]
  simp (disch := omega) only [push_cast, Nat.reduceBEq, Nat.reduceEqDiff, Nat.reduceAdd, Nat.reduceMul, Nat.reduceSub, Nat.reduceLT, Int.reduceToNat, Int.reduceLT, Int.reduceLE, Int.reduceEq, Int.reduceAdd, Int.reduceSub, Int.reduceNeg, Int.reduceMul]
  have u2 := t hu1 hu2
  refine Ok.use (Closure_ok m (hv.upd u2)) ?_
  rintro v1 w3 ⟨c, rfl, hc, hu3⟩
  have u3 := t u2 hu3
  rw [if_pos hchk, Int.toNat_natCast] at hc
  rw [hchk]
  simp (disch := omega) only [push_cast, Nat.reduceBEq, Nat.reduceEqDiff, Nat.reduceAdd, Nat.reduceMul, Nat.reduceSub, Nat.reduceLT, Int.reduceToNat, Int.reduceLT, Int.reduceLE, Int.reduceEq, Int.reduceAdd, Int.reduceSub, Int.reduceNeg, Int.reduceMul]
  refine Ok.use (Reduction_ok m (hv.upd u3)) ?_
  rintro v1 w4 ⟨rv, rfl, hr, hu4, hcap⟩
  have u4 := t u3 hu4
  rw [if_pos h0, Int.toNat_natCast] at hr
  rw [h0]
  have hlt : ∀ a b, less m l a b = true → a < m ∧ b < m := fun a b h => less_lt hall h
  have htr := less_trans hall
  have hir := less_irr hall hcy
  have h64 : m * m ≤ 64 * 64 := Nat.mul_le_mul hm hm
  have hlen := pairsOf_le (n := m) (m := m) (R := red m (less m l))
  have hlen2 := pairsOf_le (n := m) (m := m) (R := less m l)
  have hrc : chk m (pairsOf m m (red m (less m l))) = 0 := chk_all hm (by omega) pairs_inR
  simp (disch := omega) only [push_cast, Nat.reduceBEq, Nat.reduceEqDiff, Nat.reduceAdd, Nat.reduceMul, Nat.reduceSub, Nat.reduceLT, Int.reduceToNat, Int.reduceLT, Int.reduceLE, Int.reduceEq, Int.reduceAdd, Int.reduceSub, Int.reduceNeg, Int.reduceMul]
  refine Ok.use (Closure_ok m hr) ?_
  rintro v1 w5 ⟨d, rfl, hd, hu5⟩
  have u5 := t u4 hu5
  rw [if_pos hrc, Int.toNat_natCast] at hd
  rw [hrc]
  have hsame : less m (pairsOf m m (red m (less m l))) = less m l := by
    unfold less
    rw [Int.toNat_natCast]
    have h1 : relOf (pairsOf m m (red m (less m l))) = red m (less m l) := relOf_pairs fun a b h => hlt a b (by unfold red at h; simp only [Bool.and_eq_true] at h; exact h.1)
    have h2 := red_closed hlt htr hir
    unfold less at h1 h2
    rw [Int.toNat_natCast] at h1 h2
    rw [h1, h2]
  rw [hsame] at hd
  have hneed := fun i hi => red_needs (R := less m l) hlt htr (i := i) hi
  have hinr : ∀ x ∈ pairsOf m m (red m (less m l)), inR m x = true := List.all_eq_true.1 pairs_inR
  generalize pairsOf m m (red m (less m l)) = L at *
  generalize hC : pairsOf m m (less m l) = C at *
  simp (disch := omega) only [push_cast, Nat.reduceBEq, Nat.reduceEqDiff, Nat.reduceAdd, Nat.reduceMul, Nat.reduceSub, Nat.reduceLT, Int.reduceToNat, Int.reduceLT, Int.reduceLE, Int.reduceEq, Int.reduceAdd, Int.reduceSub, Int.reduceNeg, Int.reduceMul]
  refine Ok.use (samePairs_ok ((hc.upd hu4).upd hu5) hd (by omega)) ?_
  rintro v1 w6 ⟨rfl, hu6⟩
  rw [show decide (C = C) = true from by simp]
  have u6 := t u5 hu6
  have hr6 := (hr.upd hu5).upd hu6
  have hc6 := ((hc.upd hu4).upd hu5).upd hu6
  clear hu1 hu2 hu3 hu4 hu5 hu6 hr hc hd u2 u3 u4 u5 h0
  obtain ⟨ra, rcap, rfl, hra⟩ := id hr6
  have hcap' : L.length ≤ rcap := by
    obtain ⟨_, _, _, e, h⟩ := hcap
    injection e with e1 e2 e3
    omega
  simp (disch := omega) only [push_cast, Nat.reduceBEq, Nat.reduceEqDiff, Nat.reduceAdd, Nat.reduceMul, Nat.reduceSub, Nat.reduceLT, Int.reduceToNat, Int.reduceLT, Int.reduceLE, Int.reduceEq, Int.reduceAdd, Int.reduceSub, Int.reduceNeg, Int.reduceMul]
  refine loop_inv (I := fun k st w' => Bx (∃ i, k + i = L.length ∧ st = [.int .i64 (i : Int)] ∧ Upd (fun _ => False) w6 w') ⟨⟩) ?_ L.length ⟨0, rfl, rfl, Upd.refl⟩
  rintro k st w7 ⟨i, hki, rfl, hu⟩
  by_cases hk0 : k = 0
  · simp (disch := omega) only [push_cast, Nat.reduceBEq, Nat.reduceEqDiff, Nat.reduceAdd, Nat.reduceMul, Nat.reduceSub, Nat.reduceLT, Int.reduceToNat, Int.reduceLT, Int.reduceLE, Int.reduceEq, Int.reduceAdd, Int.reduceSub, Int.reduceNeg, Int.reduceMul]
    exact t u6 hu
  have hi : i < L.length := by omega
  obtain ⟨b, o, rfl, hb, hcell⟩ := hra (by intro e; rw [e] at hi; simp at hi)
  have e0 : Blk (w7.alloc (.cells #[] 29 (0, 0))).drew w7.heap.size [] 29 := (Blk.new (cs := [])).drew
  have hu8 : Upd (fun _ => False) w7 (w7.alloc (.cells #[] 29 (0, 0))).drew := Upd.alloc.trans Upd.drew (fun _ _ h => h)
  have hs8 : (w7.alloc (.cells #[] 29 (0, 0))).drew.heap.size = w7.heap.size + 1 := by rw [size_drew, size_alloc]
  simp (disch := omega) only [push_cast, Nat.reduceBEq, Nat.reduceEqDiff, Nat.reduceAdd, Nat.reduceMul, Nat.reduceSub, Nat.reduceLT, Int.reduceToNat, Int.reduceLT, Int.reduceLE, Int.reduceEq, Int.reduceAdd, Int.reduceSub, Int.reduceNeg, Int.reduceMul]
  generalize (w7.alloc (.cells #[] 29 (0, 0))).drew = w8 at *
  have hb7 : b < w7.heap.size := Nat.lt_of_lt_of_le hb hu.size
  have cell8 : ∀ {w9 : World}, Upd (fun b => w7.heap.size ≤ b) w8 w9 → ∀ j x, L[j]? = some x → w9.cell? ⟨b, o + j * 2, none⟩ = some (.int .i64 x.1) ∧ w9.cell? ⟨b, o + j * 2 + 1, none⟩ = some (.int .i64 x.2) := by
    intro w9 h9 j x hx
    have e1 : w9.heap[b]? = w6.heap[b]? := by
      rw [h9.block b (by omega) (by omega), hu8.block b hb7 (fun h => h), hu.block b hb (fun h => h)]
    obtain ⟨c1, c2⟩ := hcell j x hx
    exact ⟨by rw [World.cell?_of_block e1]; exact c1, by rw [World.cell?_of_block e1]; exact c2⟩
  have hown0 : w8.ownsRow 0 29 2 (.slice (some ⟨w7.heap.size, 0, none⟩) 0 0) ([] : List Pr).length (([] : List Pr).flatMap pairRow) :=
    ⟨rfl, .inr ⟨w7.heap.size, 0, #[], rfl, Nat.zero_le _, e0, Nat.le_refl _, Nat.zero_le _, rfl, rfl⟩⟩
  have hti : (L.take i).length = i := by rw [List.length_take]; omega
  refine app_prl hown0 (news := L.take i) hti (by simp only [List.length_nil]; omega) (fun j x hx => ?_) ?_
  · refine cell8 Upd.refl j x ?_
    rw [List.getElem?_take] at hx
    split at hx
    · exact hx
    · cases hx
  intro v' w9 hown9 hu9 hfr9
  rw [List.nil_append] at hown9
  have hs9 := hu9.size
  have hu89 : Upd (fun b => w7.heap.size ≤ b) w8 w9 := hu9.mono fun b' _ h => by simp [Value.ownBlock] at h; omega
  have hfr9' : ∀ g, v'.ownBlock = some g → w7.heap.size ≤ g := fun g hg => by
    rcases hfr9 g hg with h | h
    · simp [Value.ownBlock] at h; omega
    · omega
  have hsucc : ((i : Int) + 1).toNat = i + 1 := by omega
  simp (disch := omega) only [push_cast, Nat.reduceBEq, Nat.reduceEqDiff, Nat.reduceAdd, Nat.reduceMul, Nat.reduceSub, Nat.reduceLT, Int.reduceToNat, Int.reduceLT, Int.reduceLE, Int.reduceEq, Int.reduceAdd, Int.reduceSub, Int.reduceNeg, Int.reduceMul, hsucc]
  have hdl : (L.drop (i + 1)).length = L.length - (i + 1) := List.length_drop
  refine app_prl hown9 (news := L.drop (i + 1)) hdl (by omega) (fun j x hx => ?_) ?_
  · rw [List.getElem?_drop] at hx
    have hlt : i + 1 + j < L.length := (List.getElem?_eq_some_iff.1 hx).1
    have := cell8 hu89 _ x hx
    rw [if_neg (by omega), show o + (i + 1) * 2 + j * 2 = o + (i + 1 + j) * 2 from by omega]
    exact this
  intro v2 w10 hown10 hu10 hfr10
  have hu710 : Upd (fun _ => False) w7 w10 := ((hu8.mono (G := fun b => w7.heap.size ≤ b) (fun _ _ h => h.elim)).trans (hu89.trans (hu10.mono (G := fun b => w7.heap.size ≤ b) fun b' _ h => hfr9' b' h) (fun _ _ h => h)) (fun _ _ h => h)).mono (fun b h1 h2 => by omega)
  have hLx := SlP.of_own hown10
  simp (disch := omega) only [push_cast, Nat.reduceBEq, Nat.reduceEqDiff, Nat.reduceAdd, Nat.reduceMul, Nat.reduceSub, Nat.reduceLT, Int.reduceToNat, Int.reduceLT, Int.reduceLE, Int.reduceEq, Int.reduceAdd, Int.reduceSub, Int.reduceNeg, Int.reduceMul, hsucc]
  generalize hLD : L.take i ++ L.drop (i + 1) = LD at *
  have hLDlen : LD.length ≤ m * m := by rw [← hLD, List.length_append, hti, hdl]; omega
  have hLDin : LD.all (inR m) = true := by
    rw [List.all_eq_true]
    intro x hx
    rw [← hLD] at hx
    rcases List.mem_append.1 hx with h | h
    · exact hinr x (List.mem_of_mem_take h)
    · exact hinr x (List.mem_of_mem_drop h)
  have hchk2 : chk m LD = 0 := chk_all hm (by omega) hLDin
  have hn2 : pairsOf m m (less m LD) ≠ C := by
    have := hneed i hi
    rw [hLD] at this
    unfold less
    rw [Int.toNat_natCast]
    exact this
  refine Ok.use (Closure_ok m hLx) ?_
  rintro v1 w11 ⟨x, rfl, hx, hu11⟩
  rw [if_pos hchk2, Int.toNat_natCast] at hx
  rw [hchk2]
  simp (disch := omega) only [push_cast, Nat.reduceBEq, Nat.reduceEqDiff, Nat.reduceAdd, Nat.reduceMul, Nat.reduceSub, Nat.reduceLT, Int.reduceToNat, Int.reduceLT, Int.reduceLE, Int.reduceEq, Int.reduceAdd, Int.reduceSub, Int.reduceNeg, Int.reduceMul]
  have u610 := t hu (t hu710 hu11)
  have hxl := pairsOf_le (n := m) (m := m) (R := less m LD)
  refine Ok.use (samePairs_ok hx (hc6.upd u610) (by omega)) ?_
  rintro v1 w12 ⟨rfl, hu12⟩
  rw [decide_eq_false hn2]
  simp (disch := omega) only [push_cast, Nat.reduceBEq, Nat.reduceEqDiff, Nat.reduceAdd, Nat.reduceMul, Nat.reduceSub, Nat.reduceLT, Int.reduceToNat, Int.reduceLT, Int.reduceLE, Int.reduceEq, Int.reduceAdd, Int.reduceSub, Int.reduceNeg, Int.reduceMul]
  exact ⟨k - 1, by omega, i + 1, by omega, by simp, t u610 hu12⟩
theorem orderMinimal_law {w : World} (n : Int) (_ : (Lit.int .i64 n).wf = true) {v : Value} (h : ∃ l, SlP w v l) :
    Ok (den Try.prog 6 #[.int .i64 n, v] w) fun u w' => u = .bool true ∧ Upd (fun _ => False) w w' := by
  obtain ⟨l, h⟩ := h
  exact orderMinimal_ok n h
end Go.Proofs.Ytfjccccfkpgmgaa.Fd
