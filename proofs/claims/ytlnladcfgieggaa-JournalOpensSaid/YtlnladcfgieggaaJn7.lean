/-
  split, length of a head, digits; the specification's Stream, Head, Holds, Left.
-/
import Derived.Test.YtlnladcfgieggaaJn6
namespace Go.Proofs.Ytlnladcfgieggaa.Fd
set_option linter.unusedSimpArgs false
set_option linter.unusedVariables false
open Go
set_option maxRecDepth 100000

theorem byt_rng {d b : List Int} {at_ nx : Nat} (hr : Rng d) (h : byt_ d at_ = some (b, nx)) : Rng b := by
  unfold byt_ at h
  split at h
  · cases h
  · split at h
    · cases h
    · cases h
      exact (hr.drop _).take _
theorem splF_rng {d : List Int} (hr : Rng d) : ∀ {k at_ : Nat} {ls : List (List Int)}, splF d k at_ = some ls → RngL ls
  | 0, at_, ls, h => by
    rw [splF] at h
    split at h
    · cases h
    · cases h; intro l hl; simp at hl
  | k + 1, at_, ls, h => by
    rw [splF] at h
    split at h
    · split at h
      · cases h
      · rename_i b nx hb
        cases hs : splF d k nx with
        | none => rw [hs] at h; cases h
        | some r =>
          rw [hs] at h
          cases h
          intro l hl
          rcases List.mem_cons.1 hl with rfl | hl
          · exact byt_rng hr hb
          · exact splF_rng hr hs l hl
    · cases h; intro l hl; simp at hl
theorem splF_len {d : List Int} : ∀ {k at_ : Nat} {ls : List (List Int)}, splF d k at_ = some ls → at_ ≤ d.length → ls.length + at_ ≤ d.length
  | 0, at_, ls, h, hle => by
    rw [splF] at h
    split at h
    · cases h
    · cases h; simpa using hle
  | k + 1, at_, ls, h, hle => by
    rw [splF] at h
    split at h
    · split at h
      · cases h
      · rename_i b nx hb
        have := byt_next hb
        cases hs : splF d k nx with
        | none => rw [hs] at h; cases h
        | some r =>
          rw [hs] at h
          cases h
          have := splF_len hs (by omega)
          simp
          omega
    · cases h; simpa using hle
set_option maxHeartbeats 1000000 in
theorem split_ok {w : World} {F : Nat → Prop} {v : Value} {d : List Int} (h : SlB w F v d) (hr : Rng d) (hl : d.length ≤ 100000) :
    Ok (den Try.prog 39 #[v] w) fun u w' => (∃ u0 ok, u = .tuple #[u0, .bool ok] ∧ match spl d with | none => ok = false ∧ u0 = .slice none 0 0 | some ls => ok = true ∧ SlR w' (fun b => b < w.heap.size) u0 ls) ∧ Upd (fun _ => False) w w' := by
  refine den_ok (args := [v]) rs39 Try.func39 rfl mixed in39 ok39 rfl ?_
  simp (disch := omega) only [push_cast, Nat.reduceBEq, Nat.reduceEqDiff, Nat.reduceAdd, Nat.reduceMul, Nat.reduceSub, Nat.reduceLT, Int.reduceToNat, Int.reduceLT, Int.reduceLE, Int.reduceEq, Int.reduceAdd, Int.reduceSub, Int.reduceNeg, Int.reduceMul]
  refine Ok.use (NewReader_ok h hr (by omega)) ?_
  rintro u w1 ⟨p, rv, rfl, hR, hp, hu1⟩
  simp (disch := omega) only [push_cast, Nat.reduceBEq, Nat.reduceEqDiff, Nat.reduceAdd, Nat.reduceMul, Nat.reduceSub, Nat.reduceLT, Int.reduceToNat, Int.reduceLT, Int.reduceLE, Int.reduceEq, Int.reduceAdd, Int.reduceSub, Int.reduceNeg, Int.reduceMul]
  refine loop_inv (I := fun k st w' => Bx (∃ (at_ item : Nat) (acc : List (List Int)) (v' : Value), d.length ≤ at_ + k ∧ st = [v'] ∧ Rd w' p d at_ item 0 rv ∧ spl d = (splF d k at_).map (acc ++ ·) ∧ acc.length ≤ at_ ∧ RowB w' (fun b => b < w1.heap.size) v' acc ∧ Upd (fun b => b = p) w1 w') ⟨⟩) ?_ d.length
    ⟨0, 0, [], _, by omega, rfl, hR, by simp [spl], Nat.le_refl _, RowB.nil, Upd.refl⟩
  have hs1 := hu1.size
  have hpl := hR.head.lt
  have hrv : ∀ g, rv.ownBlock = some g → g < w1.heap.size := fun g hg => hR.own.lt hg
  clear hR
  rintro k st w' ⟨at_, item, acc, v', hk, rfl, hR, hspl, hal, hrow, hu⟩
  have huw : Upd (fun _ => False) w w' := hu1.trans hu fun b hb e => by omega
  obtain ⟨oa, oc, rfl⟩ := hrow.form
  have hle := hR.le
  simp (disch := omega) only [push_cast, Nat.reduceBEq, Nat.reduceEqDiff, Nat.reduceAdd, Nat.reduceMul, Nat.reduceSub, Nat.reduceLT, Int.reduceToNat, Int.reduceLT, Int.reduceLE, Int.reduceEq, Int.reduceAdd, Int.reduceSub, Int.reduceNeg, Int.reduceMul]
  refine Ok.use (rLeft_ok hR) ?_
  rintro u w2 ⟨rfl, hu2⟩
  have hR2 := hR.upd hu2
  by_cases hend : at_ < d.length
  rotate_left
  · rw [splF_end hend] at hspl
    have he : ¬ (0 : Int) < (d.length : Int) - at_ := by omega
    simp (disch := omega) only [push_cast, Nat.reduceBEq, Nat.reduceEqDiff, Nat.reduceAdd, Nat.reduceMul, Nat.reduceSub, Nat.reduceLT, Int.reduceToNat, Int.reduceLT, Int.reduceLE, Int.reduceEq, Int.reduceAdd, Int.reduceSub, Int.reduceNeg, Int.reduceMul]
    rw [hspl]
    refine ⟨⟨_, true, rfl, ?_⟩, huw.trans hu2 (fun _ _ h => h)⟩
    simp only [Option.map_some, List.append_nil]
    exact ⟨trivial, (hrow.go hu2 (F' := fun b => b < w1.heap.size) fun b _ h => h.elim False.elim id).slr.go (Upd.refl (F := fun _ => False)) fun b _ h => h.elim False.elim fun h => by omega⟩
  have he : (0 : Int) < (d.length : Int) - at_ := by omega
  simp (disch := omega) only [push_cast, Nat.reduceBEq, Nat.reduceEqDiff, Nat.reduceAdd, Nat.reduceMul, Nat.reduceSub, Nat.reduceLT, Int.reduceToNat, Int.reduceLT, Int.reduceLE, Int.reduceEq, Int.reduceAdd, Int.reduceSub, Int.reduceNeg, Int.reduceMul]
  obtain ⟨k', rfl, hsF⟩ := splF_more hend hk
  rw [hsF] at hspl
  refine Ok.use (rdBytes_ok hR2) ?_
  rintro u w3 ⟨hb, hu3⟩
  have hs3 := hu3.size
  have hs2 := hu2.size
  have hs' := hu.size
  cases hby : byt_ d at_ with
  | none =>
    rw [hby] at hb hspl
    obtain ⟨rfl, item', hR3⟩ := hb
    simp (disch := omega) only [push_cast, Nat.reduceBEq, Nat.reduceEqDiff, Nat.reduceAdd, Nat.reduceMul, Nat.reduceSub, Nat.reduceLT, Int.reduceToNat, Int.reduceLT, Int.reduceLE, Int.reduceEq, Int.reduceAdd, Int.reduceSub, Int.reduceNeg, Int.reduceMul]
    refine Ok.use (Err_ok hR3) ?_
    rintro u w4 ⟨rfl, rfl⟩
    simp (disch := omega) only [push_cast, Nat.reduceBEq, Nat.reduceEqDiff, Nat.reduceAdd, Nat.reduceMul, Nat.reduceSub, Nat.reduceLT, Int.reduceToNat, Int.reduceLT, Int.reduceLE, Int.reduceEq, Int.reduceAdd, Int.reduceSub, Int.reduceNeg, Int.reduceMul]
    rw [hspl]
    exact ⟨⟨_, false, rfl, rfl, rfl⟩, (huw.trans hu2 (fun _ _ h => h)).trans hu3 fun b hb e => by omega⟩
  | some x =>
    obtain ⟨b, nx⟩ := x
    have hnx := byt_next hby
    rw [hby] at hb hspl
    obtain ⟨hown, hfr, item', hR3⟩ := hb
    obtain ⟨ba, bc, rfl, _⟩ := hown.form
    simp (disch := omega) only [push_cast, Nat.reduceBEq, Nat.reduceEqDiff, Nat.reduceAdd, Nat.reduceMul, Nat.reduceSub, Nat.reduceLT, Int.reduceToNat, Int.reduceLT, Int.reduceLE, Int.reduceEq, Int.reduceAdd, Int.reduceSub, Int.reduceNeg, Int.reduceMul]
    refine Ok.use (Err_ok hR3) ?_
    rintro u w4 ⟨rfl, rfl⟩
    simp (disch := omega) only [push_cast, Nat.reduceBEq, Nat.reduceEqDiff, Nat.reduceAdd, Nat.reduceMul, Nat.reduceSub, Nat.reduceLT, Int.reduceToNat, Int.reduceLT, Int.reduceLE, Int.reduceEq, Int.reduceAdd, Int.reduceSub, Int.reduceNeg, Int.reduceMul]
    have hrow3 : RowB w3 (fun b => b < w1.heap.size) (.slice oa acc.length oc) acc := (hrow.go hu2 (F' := fun b => b < w1.heap.size) fun b _ h => h.elim False.elim id).go hu3 fun b _ h => h.elim (fun e => by omega) id
    have hsl : SlB w3 (fun b => b < w1.heap.size ∨ (Value.slice oa acc.length oc).ownBlock = some b) (.slice ba b.length bc) b := hown.slb fun g hg h => by
      have h1 := hfr g hg
      rcases h with h | h
      · omega
      · have := hrow.lt h; omega
    refine app_row (hrow3.go (Upd.alloc (F := fun _ => False)) fun b _ h => h.elim False.elim id) (slr_one hsl fun h => by
      rcases h with h | h
      · omega
      · have := hrow.lt h; omega) (by simp; omega) (fun b hb => by rw [size_alloc]; omega) ?_
    intro v4 w4 hrow4 hu4 hfr4
    obtain ⟨va4, vc4, rfl⟩ := hrow4.form
    simp (disch := omega) only [push_cast, Nat.reduceBEq, Nat.reduceEqDiff, Nat.reduceAdd, Nat.reduceMul, Nat.reduceSub, Nat.reduceLT, Int.reduceToNat, Int.reduceLT, Int.reduceLE, Int.reduceEq, Int.reduceAdd, Int.reduceSub, Int.reduceNeg, Int.reduceMul]
    have hlt : ∀ g, (Value.slice oa acc.length oc).ownBlock = some g → g ≠ p := fun g hg e => by
      obtain ⟨us, _, _, _, h4⟩ := hrow
      exact h4 g hg (by omega)
    have hu34 : Upd (fun b => (Value.slice oa acc.length oc).ownBlock = some b) w3 w4 := Upd.alloc.trans hu4 (fun _ _ h => h)
    refine ⟨k', by omega, nx, item', acc ++ [b], _, by omega, by simp, ?_, ?_, by simp; omega, hrow4, ?_⟩
    · exact ⟨hR3.head.upd hu34 fun e => hlt p e rfl, hR3.own.upd hu34 fun g hg e => by
        obtain ⟨us, _, _, _, h4⟩ := hrow
        exact h4 g e (hrv g hg), hR3.ne, hR3.rng, hR3.len, hR3.le⟩
    · rw [hspl]
      simp [Option.map_map]
      rfl
    · refine ((hu.trans hu2 (fun _ _ h => h.elim)).trans hu3 (fun _ _ h => h)).trans hu34 fun b' hb' e => ?_
      obtain ⟨us, _, _, _, h4⟩ := hrow
      exact absurd hb' (h4 b' e)
end Go.Proofs.Ytlnladcfgieggaa.Fd
