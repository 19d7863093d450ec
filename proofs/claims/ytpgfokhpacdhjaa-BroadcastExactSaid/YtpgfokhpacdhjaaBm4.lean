/-
  slices.AppendSeq(nil, maps.Keys(m)), slices.Collect(maps.Keys(m)).
-/
import Derived.Test.YtpgfokhpacdhjaaBm3
namespace Go.Proofs.Ytpgfokhpacdhjaa.Fd
set_option linter.unusedSimpArgs false
set_option linter.unusedVariables false
open Go Go.RowKit Go.MapKept Go.ChangeMaps
set_option maxRecDepth 100000
abbrev fKeys1 : FuncId := 52
set_option maxHeartbeats 4000000 in
theorem appendSeq_p (w : World) (Bm b : Nat) (m : List (NP × Value)) (hBm : Bm < w.heap.size) (hm : w.cell? ⟨Bm, 0, none⟩ = some (.map (some b))) (hown : MapP w b m) (hN : m.length ≤ 1000000) :
    CallsIn Fence.wide 2 Try.prog 54 #[.slice none 0 0, .func (.func fKeys1) #[] #[.pointer (some ⟨Bm, 0, none⟩)]] w fun e w' => ∃ (v : Value) (ss : List NP), e = .returned v ∧ ss.Perm (m.map (·.1)) ∧ w'.ownsRow w.heap.size 76 2 v ss.length (ss.flatMap keyC) ∧ (v = .slice none 0 0 ↔ ss = []) ∧ Below w.heap.size w w' := by
  have eg : ∀ args w, (callFunc fKeys1 args).run Try.prog w = .ok (.enter fKeys1 args) w := enters_of Try.func52 (by kernel_rfl) rfl
  refine callsIn_of_wp_marks Try.func54 rfl trivial ?_ rfl
  simp only [Try.ntmps54, List.size_toArray, List.length_cons, List.length_nil, Nat.reduceAdd, Nat.reduceSub, Array.replicate_succ, Array.replicate_zero, List.push_toArray, List.append_toArray, List.nil_append, List.cons_append]
  gi_wp2
  refine wpIn_rangeFunc ?_
  intro fn hfn
  rw [show Fence.wide.round = none from rfl]
  obtain ⟨W0, hW0⟩ : ∃ W0, w.alloc (.cells #[.slice none 0 0] 73) = W0 := ⟨_, rfl⟩
  have hs0 : W0.heap.size = w.heap.size + 1 := by rw [← hW0]; simp
  have hv0 : W0.heap[w.heap.size]? = some (.cells #[.slice none 0 0] 73 (0, 0)) := by rw [← hW0]; exact World.alloc_heap_new w _
  have hb0 : Below w.heap.size w W0 := by rw [← hW0]; exact (Below.refl _ w).alloc (Nat.le_refl _) _
  rw [hW0]
  obtain ⟨W1, hW1⟩ : ∃ W1, (W0.alloc (.deferred (some []))).alloc (.loop (apRec fn (.func (.func fKeys1) #[] #[.pointer (some ⟨Bm, 0, none⟩)]) w.heap.size W0.heap.size .ready none)) = W1 := ⟨_, rfl⟩
  have hold : ∀ k, k < W0.heap.size → W1.heap[k]? = W0.heap[k]? := fun k hk => by
    rw [← hW1]; exact (Below.heap_alloc _ _ k (by simp; omega)).trans (Below.heap_alloc _ _ k hk)
  have hb1 : Below w.heap.size w W1 := by rw [← hW1]; exact (hb0.alloc hb0.size _).alloc (by have := hb0.size; simp; omega) _
  have hs1 : W1.heap.size = W0.heap.size + 2 := by rw [← hW1]; simp
  have hM : ApAt w fn (.func (.func fKeys1) #[] #[.pointer (some ⟨Bm, 0, none⟩)]) w.heap.size (W0.heap.size + 1) W0.heap.size [] W1 :=
    ⟨⟨_, (hold w.heap.size (by omega)).trans hv0, ⟨rfl, .inl ⟨rfl, rfl⟩⟩, by simp⟩,
     by rw [← hW1]; have := World.alloc_heap_new (W0.alloc (.deferred (some []))) (.loop (apRec fn (.func (.func fKeys1) #[] #[.pointer (some ⟨Bm, 0, none⟩)]) w.heap.size W0.heap.size .ready none)); rwa [World.size_alloc] at this,
     by rw [← hW1]; exact (Below.heap_alloc _ _ _ (by simp)).trans (World.alloc_heap_new W0 _), hb1⟩
  refine ⟨W0.heap.size + 1, [{ target := .collected W0.heap.size, args := #[] }], W1, { target := .fn (.func fKeys1) #[.pointer (some ⟨Bm, 0, none⟩)], args := #[.func (.yield (W0.heap.size + 1)) #[] #[]] }, W1, fKeys1,
    #[.func (.yield (W0.heap.size + 1)) #[] #[]] ++ #[.pointer (some ⟨Bm, 0, none⟩)], W1, ?_, ?_, ?_, ?_, fun _ => by omega, ?_⟩
  · rw [← hW1]; exact run_enterLoop_outer _ _ _ _ _
  · simp [resolve, go_sem]
  · intro f' hf'; trivial
  · simp [invoke, go_sem, eg]
  · have hmap1 : MapP W1 b m := by
      unfold MapP
      rw [hb1.block b hown.lt]
      exact hown
    have hm1 : W1.cell? ⟨Bm, 0, none⟩ = some (.map (some b)) := by rw [World.cell?_of_block (hb1.block Bm hBm)]; exact hm
    refine (keysP_in (W0.heap.size + 1) Bm b m (ApAt w fn (.func (.func fKeys1) #[] #[.pointer (some ⟨Bm, 0, none⟩)]) w.heap.size (W0.heap.size + 1) W0.heap.size)
      (fun pre x W hJ hl => apYield w fn _ w.heap.size (W0.heap.size + 1) W0.heap.size (by omega) (by omega) (by omega) (Nat.le_refl _) (by omega) m.length hN pre x W hJ hl) W1 (ap_abides _ _ _ _ _ _ _ hb1.size) hm1 hmap1 hM).mono ?_
    rintro e W2 ⟨⟨v0, rfl⟩, ss, hS, h2⟩
    obtain ⟨v, hv, hrow, hnil⟩ := h2.box
    have hend := run_endLoop (P := Try.prog) h2.L (by simp [apRec])
    obtain ⟨W3, hW3⟩ : ∃ W3, W2.putObj (W0.heap.size + 1) (.loop { apRec fn (.func (.func fKeys1) #[] #[.pointer (some ⟨Bm, 0, none⟩)]) w.heap.size W0.heap.size .ready none with state := .exhausted }) = W3 := ⟨_, rfl⟩
    rw [hW3] at hend
    have hg3 : W2.grownBy W3 (some (W0.heap.size + 1)) := by rw [← hW3]; exact gb_put _ _ _
    have hv3 : W3.heap[w.heap.size]? = some (.cells #[v] 73 (0, 0)) := by rw [← hW3]; exact (World.putObj_heap_other (by omega)).trans hv
    have hK3 : W3.heap[W0.heap.size]? = some (.deferred (some [])) := by rw [← hW3]; exact (World.putObj_heap_other (by omega)).trans h2.K
    have hrow3 := hrow.kept hg3 (own_ne hrow h2.L (fun cur e => by cases e))
    have hb3 : Below w.heap.size w W3 := h2.below.grown hg3 h2.below.size (fun k e => by cases e; omega)
    obtain ⟨hc3, hf3⟩ := box_cell hv3
    clear hW3
    refine ⟨none, W3, hend, ?_⟩
    gi_wp2
    rw [← hs0]
    refine ⟨by simp, .inl ⟨_, _, rfl, run_takeDeferred hK3, ?_⟩⟩
    exact ⟨_, results_tmp rfl _ _ _, v, ss, rfl, hS, hrow3.kept (gb_put _ _ _) (own_ne hrow3 hK3 (fun cur e => by cases e)), hnil, hb3.grown (gb_put _ _ _) hb3.size (fun k e => by cases e; omega)⟩

set_option maxHeartbeats 1000000 in
/-- slices.Collect(maps.Keys(m)). -/
theorem collect_p (w : World) (Bm b : Nat) (m : List (NP × Value)) (hBm : Bm < w.heap.size) (hm : w.cell? ⟨Bm, 0, none⟩ = some (.map (some b))) (hown : MapP w b m) (hN : m.length ≤ 1000000) :
    Calls Try.prog 50 #[.func (.func fKeys1) #[] #[.pointer (some ⟨Bm, 0, none⟩)]] w fun e w' => ∃ (v : Value) (ss : List NP), e = .returned v ∧ ss.Perm (m.map (·.1)) ∧ w'.ownsRow w.heap.size 76 2 v ss.length (ss.flatMap keyC) ∧ (v = .slice none 0 0 ↔ ss = []) ∧ Below w.heap.size w w' := by
  refine (callsIn_wide (n := 3)).1 ?_
  have e11 : ∀ args w, (callFunc 54 args).run Try.prog w = .ok (.enter 54 args) w := enters_of Try.func54 (by kernel_rfl) rfl
  refine callsIn_of_wp Try.func50 rfl trivial ?_ rfl
  simp only [Try.ntmps50, List.size_toArray, List.length_cons, List.length_nil, Nat.reduceAdd, Nat.reduceSub, Array.replicate_succ, Array.replicate_zero, List.push_toArray, List.append_toArray, List.nil_append, List.cons_append]
  gi_wp2
  refine ⟨trivial, (appendSeq_p _ Bm b m hBm hm hown hN).mono ?_⟩
  rintro e w' ⟨v, ss, rfl, hS, hrow, hnil, hb⟩
  gi_wp2
  go_ret
  exact ⟨v, ss, rfl, hS, hrow, hnil, hb⟩
end Go.Proofs.Ytpgfokhpacdhjaa.Fd
