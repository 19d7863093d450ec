/-
  slices.SortedFunc(maps.Keys(m), ..); names.
-/
import Derived.Test.YtpgfokhpacdhjaaBm7
namespace Go.Proofs.Ytpgfokhpacdhjaa.Fd
set_option linter.unusedSimpArgs false
set_option linter.unusedVariables false
open Go
set_option maxRecDepth 100000

theorem keys_ok {w : World} (r : Nat) : Ok (den Try.prog 45 #[.map (some r)] w) fun v w' => v = .func (.func fKeys1) #[] #[.pointer (some ⟨w.heap.size, 0, none⟩)] ∧ w' = w.alloc (.cells #[.map (some r)] 77 (0, 0)) := by
  refine den_ok (args := [.map (some r)]) rs45 Try.func45 rfl mixed in45 ok45 rfl ?_
  simp (disch := omega) only [push_cast, Nat.reduceBEq, Nat.reduceEqDiff, Nat.reduceAdd, Nat.reduceMul, Nat.reduceSub, Nat.reduceLT, Int.reduceToNat, Int.reduceLT, Int.reduceLE, Int.reduceEq, Int.reduceAdd, Int.reduceSub, Int.reduceNeg, Int.reduceMul]
  done
set_option maxHeartbeats 1000000 in
theorem sortedFunc_calls {w : World} {Bm b : Nat} {m : List (NP × Value)} (hBm : Bm < w.heap.size) (hm : w.cell? ⟨Bm, 0, none⟩ = some (.map (some b))) (hown : MapP w b m) (hN : m.length ≤ 1000000) :
    Calls Try.prog 44 #[.func (.func fKeys1) #[] #[.pointer (some ⟨Bm, 0, none⟩)], .func (.func 46) #[] #[]] w fun e w' => ∃ u, e = .returned u ∧ ∃ ss : List NP, ss.Perm (m.map (·.1)) ∧ ss.Pairwise (fun a b => ltN b a = false) ∧ SlQ w' u ss ∧ Upd (fun _ => False) w w' := by
  refine calls_of_wr (args := [.func (.func fKeys1) #[] #[.pointer (some ⟨Bm, 0, none⟩)], .func (.func 46) #[] #[]]) rs44 Try.func44 rfl ok44 rfl (R := fun u w' => ∃ ss : List NP, ss.Perm (m.map (·.1)) ∧ ss.Pairwise (fun a b => ltN b a = false) ∧ SlQ w' u ss ∧ Upd (fun _ => False) w w') ?_
  refine wr_seq (wr_of_w mixed ?_)
  simp (disch := omega) only [push_cast, Nat.reduceBEq, Nat.reduceEqDiff, Nat.reduceAdd, Nat.reduceMul, Nat.reduceSub, Nat.reduceLT, Int.reduceToNat, Int.reduceLT, Int.reduceLE, Int.reduceEq, Int.reduceAdd, Int.reduceSub, Int.reduceNeg, Int.reduceMul, KSr_nor]
  refine wr_seq (wr_region (wlr_step ?_))
  simp (disch := omega) only [push_cast, Nat.reduceBEq, Nat.reduceEqDiff, Nat.reduceAdd, Nat.reduceMul, Nat.reduceSub, Nat.reduceLT, Int.reduceToNat, Int.reduceLT, Int.reduceLE, Int.reduceEq, Int.reduceAdd, Int.reduceSub, Int.reduceNeg, Int.reduceMul]
  refine wlr_call (f := 50) (args := #[.func (.func fKeys1) #[] #[.pointer (some ⟨Bm, 0, none⟩)]]) (w1 := w) rfl (by kernel_rfl) ?_
  refine (collect_p w Bm b m hBm hm hown hN).mono ?_
  rintro e w1 ⟨v, ss, rfl, hp, hrow, hnil, hb⟩
  have hu1 : Upd (fun _ => False) w w1 := ⟨hb.os, hb.tape, hb.output, hb.size, fun k hk _ => hb.block k hk⟩
  refine ⟨_, rfl, wlr_of_wl ?_⟩
  simp (disch := omega) only [push_cast, Nat.reduceBEq, Nat.reduceEqDiff, Nat.reduceAdd, Nat.reduceMul, Nat.reduceSub, Nat.reduceLT, Int.reduceToNat, Int.reduceLT, Int.reduceLE, Int.reduceEq, Int.reduceAdd, Int.reduceSub, Int.reduceNeg, Int.reduceMul, KSr_nor]
  refine wr_seq (wr_region (wlr_step ?_))
  simp (disch := omega) only [push_cast, Nat.reduceBEq, Nat.reduceEqDiff, Nat.reduceAdd, Nat.reduceMul, Nat.reduceSub, Nat.reduceLT, Int.reduceToNat, Int.reduceLT, Int.reduceLE, Int.reduceEq, Int.reduceAdd, Int.reduceSub, Int.reduceNeg, Int.reduceMul]
  refine wlr_step ?_
  simp (disch := omega) only [push_cast, Nat.reduceBEq, Nat.reduceEqDiff, Nat.reduceAdd, Nat.reduceMul, Nat.reduceSub, Nat.reduceLT, Int.reduceToNat, Int.reduceLT, Int.reduceLE, Int.reduceEq, Int.reduceAdd, Int.reduceSub, Int.reduceNeg, Int.reduceMul]
  refine wlr_call (f := 51) (args := #[v, .func (.func 46) #[] #[]]) (w1 := w1) rfl (by kernel_rfl) ?_
  have hl : ss.length ≤ 1000000 := by rw [hp.length_eq]; simpa using hN
  refine (sortN_calls hrow hnil hl).mono ?_
  rintro e w2 ⟨rfl, d, hp2, hs2, hq, hu2⟩
  refine ⟨_, rfl, wlr_of_wl ?_⟩
  simp (disch := omega) only [push_cast, Nat.reduceBEq, Nat.reduceEqDiff, Nat.reduceAdd, Nat.reduceMul, Nat.reduceSub, Nat.reduceLT, Int.reduceToNat, Int.reduceLT, Int.reduceLE, Int.reduceEq, Int.reduceAdd, Int.reduceSub, Int.reduceNeg, Int.reduceMul, KSr_nor]
  refine wr_of_w mixed ?_
  simp (disch := omega) only [push_cast, Nat.reduceBEq, Nat.reduceEqDiff, Nat.reduceAdd, Nat.reduceMul, Nat.reduceSub, Nat.reduceLT, Int.reduceToNat, Int.reduceLT, Int.reduceLE, Int.reduceEq, Int.reduceAdd, Int.reduceSub, Int.reduceNeg, Int.reduceMul]
  exact ⟨d, hp2.trans hp, hs2, hq, hu1.trans hu2 (fun g h1 h2 => by have := (hrow.lt _ h2).1; omega)⟩
end Go.Proofs.Ytpgfokhpacdhjaa.Fd
