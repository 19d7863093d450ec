/-
  The reference's down-closed sets: from, Downsets.
-/
import Derived.Test.YtfjccccfkpgmgaaDw7
namespace Go.Proofs.Ytfjccccfkpgmgaa.Fd
set_option linter.unusedSimpArgs false
set_option linter.unusedVariables false
open Go
set_option maxRecDepth 100000

set_option maxHeartbeats 4000000 in
theorem from_ok {w0 : World} {lo n : Nat} {mv : Value} {R : Rel} (hm : Mat lo w0 mv n n R) (hn : n ≤ 12) (k : Nat) : ∀ (l : List Nat) (lv V : Value) (css : List (List Nat)) (w : World),
    Upd (fun _ => False) w0 w → RL w0.heap.size w V css → SlN w lv l → (∀ g, lv.ownBlock = some g → V.ownBlock ≠ some g) → (∀ x, x ∈ l → x < n) → l.length ≤ n - k →
    (l = [] ∧ k = n ∨ ∃ l' x, l = l' ++ [x] ∧ x + 1 + k = n) → css.length + (fromL n R k l).length ≤ 8192 →
    Ok (den Try.prog 50 #[mv, lv, V] w) fun v w' => RL w0.heap.size w' v (css ++ fromL n R k l) ∧ Upd (fun b => V.ownBlock = some b) w w' ∧ ∀ g, v.ownBlock = some g → V.ownBlock = some g ∨ w.heap.size ≤ g := by
  induction k using Nat.strongRecOn with
  | _ k ih =>
  intro l lv V css w hu hV hl hlV hlt hll hnx hlen
  obtain ⟨av, cv, rfl⟩ := hm.form
  obtain ⟨lb, lo', lc, rfl, hlb, hlc⟩ := id hl
  have hV2 := hV
  obtain ⟨a0, c0, rfl⟩ : ∃ a c, V = .slice a css.length c := by
    obtain ⟨vs, h1, _, h3, _⟩ := hV2
    obtain ⟨a, c, h⟩ := own_slice h1
    exact ⟨a, c, by rw [← h3]; exact h⟩
  have hn64 : n ≤ 64 := by omega
  have hlc2 : ∀ {w' : World}, Upd (fun b => (Value.slice a0 css.length c0).ownBlock = some b) w w' → ∀ (j y : Nat), l[j]? = some y → w'.cell? ⟨lb, lo' + j, none⟩ = some (.int .i64 (y : Int)) := fun hu j y hj => by
    rw [World.cell?_of_block (hu.block lb hlb (hlV lb rfl))]
    exact hlc j y hj
  refine den_ok (args := [.slice av n cv, .slice (some ⟨lb, lo', none⟩) l.length lc, .slice a0 css.length c0]) rs50 Try.func50 rfl mixed in50 ok50 rfl ?_
  simp (disch := omega) only [push_cast, Nat.reduceBEq, Nat.reduceEqDiff, Nat.reduceAdd, Nat.reduceMul, Nat.reduceSub, Nat.reduceLT, Int.reduceToNat, Int.reduceLT, Int.reduceLE, Int.reduceEq, Int.reduceAdd, Int.reduceSub, Int.reduceNeg, Int.reduceMul]
  refine Ok.use (down_ok (hm.upd hu) hn64 hl.sl hlt (by omega)) ?_
  rintro v w1 ⟨rfl, hu1⟩
  rcases hnx with ⟨hle, hkn⟩ | ⟨l', x, hle, hx⟩
  · have hl0 : l.length = 0 := by rw [hle]; rfl
    have hl0' : ¬ (0 : Int) < (l.length : Int) := by omega
    cases hd : dnP n R l
    · have hRL := hV.upd hu1
      have huF : Upd (fun b => (Value.slice a0 css.length c0).ownBlock = some b) w w1 := hu1.mono fun _ _ h => h.elim
      have hu0F := hu.trans hu1 (fun _ _ h => h)
      have hfrF : ∀ g, (Value.slice a0 css.length c0).ownBlock = some g → (Value.slice a0 css.length c0).ownBlock = some g ∨ w.heap.size ≤ g := fun g hg => .inl hg
      have hcur : css ++ gSets n (dnP n R) k l = css ++ fromL n R k l := by rw [fromL, hd]; simp
      simp (disch := omega) only [push_cast, Nat.reduceBEq, Nat.reduceEqDiff, Nat.reduceAdd, Nat.reduceMul, Nat.reduceSub, Nat.reduceLT, Int.reduceToNat, Int.reduceLT, Int.reduceLE, Int.reduceEq, Int.reduceAdd, Int.reduceSub, Int.reduceNeg, Int.reduceMul, hd, hl0']
      refine loop_inv (I := fun r st w' => Bx (∃ (i : Nat) (V' : Value) (cur : List (List Nat)), r + i = n ∧ r ≤ k ∧ st = [V', .int .i64 (i : Int)] ∧ RL w0.heap.size w' V' cur ∧ cur ++ gSets n (dnP n R) r l = css ++ fromL n R k l ∧ Upd (fun b => (Value.slice a0 css.length c0).ownBlock = some b) w w' ∧ Upd (fun _ => False) w0 w' ∧
        (∀ g, V'.ownBlock = some g → (Value.slice a0 css.length c0).ownBlock = some g ∨ w.heap.size ≤ g)) ⟨⟩) ?_ k ⟨n - k, _, css, by omega, by omega, by rw [show n - k = 0 from by omega]; rfl, hRL, hcur, huF, hu0F, hfrF⟩
      clear hRL hcur huF hu0F hfrF
      rintro r st w5 ⟨i, V', cur, hri, hrk, rfl, hRL, hcur, huF, hu0F, hfrF⟩
      obtain ⟨a5, c5, rfl⟩ : ∃ a c, V' = .slice a cur.length c := by
        obtain ⟨vs, h1, _, h3, _⟩ := id hRL
        obtain ⟨a, c, h⟩ := own_slice h1
        exact ⟨a, c, by rw [← h3]; exact h⟩
      by_cases hr0 : r = 0
      · subst hr0
        rw [gSets, List.append_nil] at hcur
        simp (disch := omega) only [push_cast, Nat.reduceBEq, Nat.reduceEqDiff, Nat.reduceAdd, Nat.reduceMul, Nat.reduceSub, Nat.reduceLT, Int.reduceToNat, Int.reduceLT, Int.reduceLE, Int.reduceEq, Int.reduceAdd, Int.reduceSub, Int.reduceNeg, Int.reduceMul]
        exact ⟨hcur ▸ hRL, huF, hfrF⟩
      · obtain ⟨r', rfl⟩ : ∃ r', r = r' + 1 := ⟨r - 1, by omega⟩
        have hi : i < n := by omega
        rw [gSets_from, show n - (r' + 1) = i from by omega, ← List.append_assoc] at hcur
        have hl5 := hl.updF huF hlV
        have hlen5 : cur.length + (fromL n R r' (l ++ [i])).length ≤ 8192 := by
          have h1 := congrArg List.length hcur
          simp only [List.length_append] at h1 hlen ⊢
          omega
        simp (disch := omega) only [push_cast, Nat.reduceBEq, Nat.reduceEqDiff, Nat.reduceAdd, Nat.reduceMul, Nat.reduceSub, Nat.reduceLT, Int.reduceToNat, Int.reduceLT, Int.reduceLE, Int.reduceEq, Int.reduceAdd, Int.reduceSub, Int.reduceNeg, Int.reduceMul, bsl_int0]
        refine app_copy Blk.new (hl5.updF (F := fun _ => False) Upd.alloc (fun _ _ h => h)) (by omega) ?_
        intro v6 w6 hown6 hu6 hfr6
        simp (disch := omega) only [push_cast, Nat.reduceBEq, Nat.reduceEqDiff, Nat.reduceAdd, Nat.reduceMul, Nat.reduceSub, Nat.reduceLT, Int.reduceToNat, Int.reduceLT, Int.reduceLE, Int.reduceEq, Int.reduceAdd, Int.reduceSub, Int.reduceNeg, Int.reduceMul]
        refine app_int (hown6.alloc _) (by rw [toI_length]; omega) (x := (i : Int)) Blk.new ?_
        intro v7 w7 hown7 hu7 hfr7
        have hs5 := huF.size
        have hu56 : Upd (fun _ => False) w5 w6 := Upd.alloc.trans hu6 (fun b h1 h2 => by omega)
        have hs6 := hu56.size
        have hu67 : Upd (fun _ => False) w5 w7 := (hu56.alloc').trans hu7 (fun b h1 h2 => by rcases hfr6 b h2 with h | h <;> rw [size_alloc] at * <;> omega)
        have hs7 := hu67.size
        have hl7 : SlN w7 v7 (l ++ [i]) := SlN.of_own (by unfold toI at hown7 ⊢; rw [List.map_append]; exact hown7) (by simp)
        have hb7 : ∀ g, v7.ownBlock = some g → w5.heap.size ≤ g ∧ g < w7.heap.size := fun g hg => by
          refine ⟨?_, (hown7.lt _ hg).2⟩
          rcases hfr7 g hg with h | h
          · rcases hfr6 g h with h | h
            · omega
            · rw [size_alloc] at h; omega
          · rw [size_alloc] at h; omega
        obtain ⟨b7, o7, c7, rfl, _, _⟩ := id hl7
        simp (disch := omega) only [push_cast, Nat.reduceBEq, Nat.reduceEqDiff, Nat.reduceAdd, Nat.reduceMul, Nat.reduceSub, Nat.reduceLT, Int.reduceToNat, Int.reduceLT, Int.reduceLE, Int.reduceEq, Int.reduceAdd, Int.reduceSub, Int.reduceNeg, Int.reduceMul]
        refine Ok.use (ih r' (by omega) (l ++ [i]) _ _ cur w7 (hu0F.trans hu67 (fun _ _ h => h)) (hRL.upd hu67) hl7 (fun g hg h5 => by have := (hb7 g hg).1; have := (hRL.lt h5).2; omega) ?_ (by simp; omega) (.inr ⟨l, i, rfl, by omega⟩) hlen5) ?_
        · intro x hx
          rcases List.mem_append.1 hx with h | h
          · exact hlt x h
          · simp at h; omega
        rintro v8 w8 ⟨hRL8, hu8, hfr8⟩
        simp (disch := omega) only [push_cast, Nat.reduceBEq, Nat.reduceEqDiff, Nat.reduceAdd, Nat.reduceMul, Nat.reduceSub, Nat.reduceLT, Int.reduceToNat, Int.reduceLT, Int.reduceLE, Int.reduceEq, Int.reduceAdd, Int.reduceSub, Int.reduceNeg, Int.reduceMul]
        refine ⟨r', by omega, i + 1, v8, _, by omega, by omega, by simp, hRL8, ?_, ?_, ?_, fun g hg => ?_⟩
        · rw [← hcur]
        · exact (huF.trans (hu67.mono fun _ _ h => h.elim) (fun _ _ h => h)).trans hu8 (fun b h1 h2 => by
            rcases hfrF b h2 with h | h
            · exact h
            · omega)
        · exact (hu0F.trans hu67 (fun _ _ h => h)).trans hu8 (fun b h1 h2 => by have := (hRL.lt h2).1; omega)
        · rcases hfr8 g hg with h | h
          · exact hfrF g h
          · exact .inr (by omega)
    · simp (disch := omega) only [push_cast, Nat.reduceBEq, Nat.reduceEqDiff, Nat.reduceAdd, Nat.reduceMul, Nat.reduceSub, Nat.reduceLT, Int.reduceToNat, Int.reduceLT, Int.reduceLE, Int.reduceEq, Int.reduceAdd, Int.reduceSub, Int.reduceNeg, Int.reduceMul, hd]
      refine app_copy Blk.new ((hl.updF hu1 (fun _ _ h => h)).updF (F := fun _ => False) Upd.alloc (fun _ _ h => h)) (by omega) ?_
      intro v2 w2 hown2 hu2 hfr2
      have hs1 := hu1.size
      have hs0 := hu.size
      have hu12 : Upd (fun _ => False) w1 w2 := Upd.alloc.trans hu2 (fun b h1 h2 => by omega)
      have hs2 := hu12.size
      have hx2 : v2.oneCell' = true := by obtain ⟨a, c, rfl⟩ := own_slice hown2; rfl
      have hb2 : ∀ g, v2.ownBlock = some g → w1.heap.size ≤ g ∧ g < w2.heap.size := fun g hg => by
        refine ⟨?_, (hown2.lt _ hg).2⟩
        rcases hfr2 g hg with h | h
        · omega
        · rw [size_alloc] at h; omega
      have hsl2 : SlI w2 v2 (toI l) := SlI.of_own hown2
      obtain ⟨a2, c2, rfl⟩ := own_slice hown2
      simp (disch := omega) only [push_cast, Nat.reduceBEq, Nat.reduceEqDiff, Nat.reduceAdd, Nat.reduceMul, Nat.reduceSub, Nat.reduceLT, Int.reduceToNat, Int.reduceLT, Int.reduceLE, Int.reduceEq, Int.reduceAdd, Int.reduceSub, Int.reduceNeg, Int.reduceMul, bsl_sli]
      refine RL.app (c := l) (((hV.upd hu1).upd hu12).upd Upd.alloc) (by omega) (hsl2.upd Upd.alloc) hx2 (by rw [size_alloc]; omega) (fun g hg => ?_) Blk.new ?_
      · have := hb2 g hg
        rw [size_alloc]
        exact ⟨by omega, by omega, fun h5 => by have := (hV.lt h5).2; omega⟩
      intro V3 w3 hRL hu3 hfr3
      have huF : Upd (fun b => (Value.slice a0 css.length c0).ownBlock = some b) w w3 := (((hu1.trans hu12 (fun _ _ h => h)).alloc').mono fun _ _ h => h.elim).trans hu3 (fun _ _ h => h)
      have hu0F : Upd (fun _ => False) w0 w3 := ((hu.trans hu1 (fun _ _ h => h)).trans hu12 (fun _ _ h => h)).alloc'.trans hu3 (fun b h1 h2 => by have := (hV.lt h2).1; omega)
      have hfrF : ∀ g, V3.ownBlock = some g → (Value.slice a0 css.length c0).ownBlock = some g ∨ w.heap.size ≤ g := fun g hg => by
        rcases hfr3 g hg with h | h
        · exact .inl h
        · rw [size_alloc] at h; exact .inr (by omega)
      have hcur : (css ++ [l]) ++ gSets n (dnP n R) k l = css ++ fromL n R k l := by rw [fromL, hd]; simp
      obtain ⟨a3, c3, rfl⟩ : ∃ a c, V3 = .slice a (css ++ [l]).length c := by
        obtain ⟨vs, h1, _, h3, _⟩ := id hRL
        obtain ⟨a, c, h⟩ := own_slice h1
        exact ⟨a, c, by rw [← h3]; exact h⟩
      simp (disch := omega) only [push_cast, Nat.reduceBEq, Nat.reduceEqDiff, Nat.reduceAdd, Nat.reduceMul, Nat.reduceSub, Nat.reduceLT, Int.reduceToNat, Int.reduceLT, Int.reduceLE, Int.reduceEq, Int.reduceAdd, Int.reduceSub, Int.reduceNeg, Int.reduceMul, hl0']
      refine loop_inv (I := fun r st w' => Bx (∃ (i : Nat) (V' : Value) (cur : List (List Nat)), r + i = n ∧ r ≤ k ∧ st = [V', .int .i64 (i : Int)] ∧ RL w0.heap.size w' V' cur ∧ cur ++ gSets n (dnP n R) r l = css ++ fromL n R k l ∧ Upd (fun b => (Value.slice a0 css.length c0).ownBlock = some b) w w' ∧ Upd (fun _ => False) w0 w' ∧
        (∀ g, V'.ownBlock = some g → (Value.slice a0 css.length c0).ownBlock = some g ∨ w.heap.size ≤ g)) ⟨⟩) ?_ k ⟨n - k, _, css ++ [l], by omega, by omega, by rw [show n - k = 0 from by omega]; rfl, hRL, hcur, huF, hu0F, hfrF⟩
      clear hRL hcur huF hu0F hfrF
      rintro r st w5 ⟨i, V', cur, hri, hrk, rfl, hRL, hcur, huF, hu0F, hfrF⟩
      obtain ⟨a5, c5, rfl⟩ : ∃ a c, V' = .slice a cur.length c := by
        obtain ⟨vs, h1, _, h3, _⟩ := id hRL
        obtain ⟨a, c, h⟩ := own_slice h1
        exact ⟨a, c, by rw [← h3]; exact h⟩
      by_cases hr0 : r = 0
      · subst hr0
        rw [gSets, List.append_nil] at hcur
        simp (disch := omega) only [push_cast, Nat.reduceBEq, Nat.reduceEqDiff, Nat.reduceAdd, Nat.reduceMul, Nat.reduceSub, Nat.reduceLT, Int.reduceToNat, Int.reduceLT, Int.reduceLE, Int.reduceEq, Int.reduceAdd, Int.reduceSub, Int.reduceNeg, Int.reduceMul]
        exact ⟨hcur ▸ hRL, huF, hfrF⟩
      · obtain ⟨r', rfl⟩ : ∃ r', r = r' + 1 := ⟨r - 1, by omega⟩
        have hi : i < n := by omega
        rw [gSets_from, show n - (r' + 1) = i from by omega, ← List.append_assoc] at hcur
        have hl5 := hl.updF huF hlV
        have hlen5 : cur.length + (fromL n R r' (l ++ [i])).length ≤ 8192 := by
          have h1 := congrArg List.length hcur
          simp only [List.length_append] at h1 hlen ⊢
          omega
        simp (disch := omega) only [push_cast, Nat.reduceBEq, Nat.reduceEqDiff, Nat.reduceAdd, Nat.reduceMul, Nat.reduceSub, Nat.reduceLT, Int.reduceToNat, Int.reduceLT, Int.reduceLE, Int.reduceEq, Int.reduceAdd, Int.reduceSub, Int.reduceNeg, Int.reduceMul, bsl_int0]
        refine app_copy Blk.new (hl5.updF (F := fun _ => False) Upd.alloc (fun _ _ h => h)) (by omega) ?_
        intro v6 w6 hown6 hu6 hfr6
        simp (disch := omega) only [push_cast, Nat.reduceBEq, Nat.reduceEqDiff, Nat.reduceAdd, Nat.reduceMul, Nat.reduceSub, Nat.reduceLT, Int.reduceToNat, Int.reduceLT, Int.reduceLE, Int.reduceEq, Int.reduceAdd, Int.reduceSub, Int.reduceNeg, Int.reduceMul]
        refine app_int (hown6.alloc _) (by rw [toI_length]; omega) (x := (i : Int)) Blk.new ?_
        intro v7 w7 hown7 hu7 hfr7
        have hs5 := huF.size
        have hu56 : Upd (fun _ => False) w5 w6 := Upd.alloc.trans hu6 (fun b h1 h2 => by omega)
        have hs6 := hu56.size
        have hu67 : Upd (fun _ => False) w5 w7 := (hu56.alloc').trans hu7 (fun b h1 h2 => by rcases hfr6 b h2 with h | h <;> rw [size_alloc] at * <;> omega)
        have hs7 := hu67.size
        have hl7 : SlN w7 v7 (l ++ [i]) := SlN.of_own (by unfold toI at hown7 ⊢; rw [List.map_append]; exact hown7) (by simp)
        have hb7 : ∀ g, v7.ownBlock = some g → w5.heap.size ≤ g ∧ g < w7.heap.size := fun g hg => by
          refine ⟨?_, (hown7.lt _ hg).2⟩
          rcases hfr7 g hg with h | h
          · rcases hfr6 g h with h | h
            · omega
            · rw [size_alloc] at h; omega
          · rw [size_alloc] at h; omega
        obtain ⟨b7, o7, c7, rfl, _, _⟩ := id hl7
        simp (disch := omega) only [push_cast, Nat.reduceBEq, Nat.reduceEqDiff, Nat.reduceAdd, Nat.reduceMul, Nat.reduceSub, Nat.reduceLT, Int.reduceToNat, Int.reduceLT, Int.reduceLE, Int.reduceEq, Int.reduceAdd, Int.reduceSub, Int.reduceNeg, Int.reduceMul]
        refine Ok.use (ih r' (by omega) (l ++ [i]) _ _ cur w7 (hu0F.trans hu67 (fun _ _ h => h)) (hRL.upd hu67) hl7 (fun g hg h5 => by have := (hb7 g hg).1; have := (hRL.lt h5).2; omega) ?_ (by simp; omega) (.inr ⟨l, i, rfl, by omega⟩) hlen5) ?_
        · intro x hx
          rcases List.mem_append.1 hx with h | h
          · exact hlt x h
          · simp at h; omega
        rintro v8 w8 ⟨hRL8, hu8, hfr8⟩
        simp (disch := omega) only [push_cast, Nat.reduceBEq, Nat.reduceEqDiff, Nat.reduceAdd, Nat.reduceMul, Nat.reduceSub, Nat.reduceLT, Int.reduceToNat, Int.reduceLT, Int.reduceLE, Int.reduceEq, Int.reduceAdd, Int.reduceSub, Int.reduceNeg, Int.reduceMul]
        refine ⟨r', by omega, i + 1, v8, _, by omega, by omega, by simp, hRL8, ?_, ?_, ?_, fun g hg => ?_⟩
        · rw [← hcur]
        · exact (huF.trans (hu67.mono fun _ _ h => h.elim) (fun _ _ h => h)).trans hu8 (fun b h1 h2 => by
            rcases hfrF b h2 with h | h
            · exact h
            · omega)
        · exact (hu0F.trans hu67 (fun _ _ h => h)).trans hu8 (fun b h1 h2 => by have := (hRL.lt h2).1; omega)
        · rcases hfr8 g hg with h | h
          · exact hfrF g h
          · exact .inr (by omega)
  · have hl0 : l.length = l'.length + 1 := by rw [hle]; simp
    have hl0' : (0 : Int) < (l.length : Int) := by omega
    have hlx : l[l.length - 1]? = some x := by rw [hl0, hle]; simp
    cases hd : dnP n R l
    · have hl0i : ((l.length : Int) - 1).toNat = l.length - 1 := by omega
      have hRL := hV.upd hu1
      have huF : Upd (fun b => (Value.slice a0 css.length c0).ownBlock = some b) w w1 := hu1.mono fun _ _ h => h.elim
      have hu0F := hu.trans hu1 (fun _ _ h => h)
      have hfrF : ∀ g, (Value.slice a0 css.length c0).ownBlock = some g → (Value.slice a0 css.length c0).ownBlock = some g ∨ w.heap.size ≤ g := fun g hg => .inl hg
      have hcur : css ++ gSets n (dnP n R) k l = css ++ fromL n R k l := by rw [fromL, hd]; simp
      have hcx := hlc2 (w' := w1) (Upd.mono huF (fun _ _ h => h)) _ _ hlx
      simp (disch := omega) only [push_cast, Nat.reduceBEq, Nat.reduceEqDiff, Nat.reduceAdd, Nat.reduceMul, Nat.reduceSub, Nat.reduceLT, Int.reduceToNat, Int.reduceLT, Int.reduceLE, Int.reduceEq, Int.reduceAdd, Int.reduceSub, Int.reduceNeg, Int.reduceMul, hd, hl0', hcx, hl0i]
      refine loop_inv (I := fun r st w' => Bx (∃ (i : Nat) (V' : Value) (cur : List (List Nat)), r + i = n ∧ r ≤ k ∧ st = [V', .int .i64 (i : Int)] ∧ RL w0.heap.size w' V' cur ∧ cur ++ gSets n (dnP n R) r l = css ++ fromL n R k l ∧ Upd (fun b => (Value.slice a0 css.length c0).ownBlock = some b) w w' ∧ Upd (fun _ => False) w0 w' ∧
        (∀ g, V'.ownBlock = some g → (Value.slice a0 css.length c0).ownBlock = some g ∨ w.heap.size ≤ g)) ⟨⟩) ?_ k ⟨n - k, _, css, by omega, by omega, by rw [show n - k = x + 1 from by omega]; simp, hRL, hcur, huF, hu0F, hfrF⟩
      clear hRL hcur huF hu0F hfrF
      rintro r st w5 ⟨i, V', cur, hri, hrk, rfl, hRL, hcur, huF, hu0F, hfrF⟩
      obtain ⟨a5, c5, rfl⟩ : ∃ a c, V' = .slice a cur.length c := by
        obtain ⟨vs, h1, _, h3, _⟩ := id hRL
        obtain ⟨a, c, h⟩ := own_slice h1
        exact ⟨a, c, by rw [← h3]; exact h⟩
      by_cases hr0 : r = 0
      · subst hr0
        rw [gSets, List.append_nil] at hcur
        simp (disch := omega) only [push_cast, Nat.reduceBEq, Nat.reduceEqDiff, Nat.reduceAdd, Nat.reduceMul, Nat.reduceSub, Nat.reduceLT, Int.reduceToNat, Int.reduceLT, Int.reduceLE, Int.reduceEq, Int.reduceAdd, Int.reduceSub, Int.reduceNeg, Int.reduceMul]
        exact ⟨hcur ▸ hRL, huF, hfrF⟩
      · obtain ⟨r', rfl⟩ : ∃ r', r = r' + 1 := ⟨r - 1, by omega⟩
        have hi : i < n := by omega
        rw [gSets_from, show n - (r' + 1) = i from by omega, ← List.append_assoc] at hcur
        have hl5 := hl.updF huF hlV
        have hlen5 : cur.length + (fromL n R r' (l ++ [i])).length ≤ 8192 := by
          have h1 := congrArg List.length hcur
          simp only [List.length_append] at h1 hlen ⊢
          omega
        simp (disch := omega) only [push_cast, Nat.reduceBEq, Nat.reduceEqDiff, Nat.reduceAdd, Nat.reduceMul, Nat.reduceSub, Nat.reduceLT, Int.reduceToNat, Int.reduceLT, Int.reduceLE, Int.reduceEq, Int.reduceAdd, Int.reduceSub, Int.reduceNeg, Int.reduceMul, bsl_int0]
        refine app_copy Blk.new (hl5.updF (F := fun _ => False) Upd.alloc (fun _ _ h => h)) (by omega) ?_
        intro v6 w6 hown6 hu6 hfr6
        simp (disch := omega) only [push_cast, Nat.reduceBEq, Nat.reduceEqDiff, Nat.reduceAdd, Nat.reduceMul, Nat.reduceSub, Nat.reduceLT, Int.reduceToNat, Int.reduceLT, Int.reduceLE, Int.reduceEq, Int.reduceAdd, Int.reduceSub, Int.reduceNeg, Int.reduceMul]
        refine app_int (hown6.alloc _) (by rw [toI_length]; omega) (x := (i : Int)) Blk.new ?_
        intro v7 w7 hown7 hu7 hfr7
        have hs5 := huF.size
        have hu56 : Upd (fun _ => False) w5 w6 := Upd.alloc.trans hu6 (fun b h1 h2 => by omega)
        have hs6 := hu56.size
        have hu67 : Upd (fun _ => False) w5 w7 := (hu56.alloc').trans hu7 (fun b h1 h2 => by rcases hfr6 b h2 with h | h <;> rw [size_alloc] at * <;> omega)
        have hs7 := hu67.size
        have hl7 : SlN w7 v7 (l ++ [i]) := SlN.of_own (by unfold toI at hown7 ⊢; rw [List.map_append]; exact hown7) (by simp)
        have hb7 : ∀ g, v7.ownBlock = some g → w5.heap.size ≤ g ∧ g < w7.heap.size := fun g hg => by
          refine ⟨?_, (hown7.lt _ hg).2⟩
          rcases hfr7 g hg with h | h
          · rcases hfr6 g h with h | h
            · omega
            · rw [size_alloc] at h; omega
          · rw [size_alloc] at h; omega
        obtain ⟨b7, o7, c7, rfl, _, _⟩ := id hl7
        simp (disch := omega) only [push_cast, Nat.reduceBEq, Nat.reduceEqDiff, Nat.reduceAdd, Nat.reduceMul, Nat.reduceSub, Nat.reduceLT, Int.reduceToNat, Int.reduceLT, Int.reduceLE, Int.reduceEq, Int.reduceAdd, Int.reduceSub, Int.reduceNeg, Int.reduceMul]
        refine Ok.use (ih r' (by omega) (l ++ [i]) _ _ cur w7 (hu0F.trans hu67 (fun _ _ h => h)) (hRL.upd hu67) hl7 (fun g hg h5 => by have := (hb7 g hg).1; have := (hRL.lt h5).2; omega) ?_ (by simp; omega) (.inr ⟨l, i, rfl, by omega⟩) hlen5) ?_
        · intro x hx
          rcases List.mem_append.1 hx with h | h
          · exact hlt x h
          · simp at h; omega
        rintro v8 w8 ⟨hRL8, hu8, hfr8⟩
        simp (disch := omega) only [push_cast, Nat.reduceBEq, Nat.reduceEqDiff, Nat.reduceAdd, Nat.reduceMul, Nat.reduceSub, Nat.reduceLT, Int.reduceToNat, Int.reduceLT, Int.reduceLE, Int.reduceEq, Int.reduceAdd, Int.reduceSub, Int.reduceNeg, Int.reduceMul]
        refine ⟨r', by omega, i + 1, v8, _, by omega, by omega, by simp, hRL8, ?_, ?_, ?_, fun g hg => ?_⟩
        · rw [← hcur]
        · exact (huF.trans (hu67.mono fun _ _ h => h.elim) (fun _ _ h => h)).trans hu8 (fun b h1 h2 => by
            rcases hfrF b h2 with h | h
            · exact h
            · omega)
        · exact (hu0F.trans hu67 (fun _ _ h => h)).trans hu8 (fun b h1 h2 => by have := (hRL.lt h2).1; omega)
        · rcases hfr8 g hg with h | h
          · exact hfrF g h
          · exact .inr (by omega)
    · have hl0i : ((l.length : Int) - 1).toNat = l.length - 1 := by omega
      simp (disch := omega) only [push_cast, Nat.reduceBEq, Nat.reduceEqDiff, Nat.reduceAdd, Nat.reduceMul, Nat.reduceSub, Nat.reduceLT, Int.reduceToNat, Int.reduceLT, Int.reduceLE, Int.reduceEq, Int.reduceAdd, Int.reduceSub, Int.reduceNeg, Int.reduceMul, hd]
      refine app_copy Blk.new ((hl.updF hu1 (fun _ _ h => h)).updF (F := fun _ => False) Upd.alloc (fun _ _ h => h)) (by omega) ?_
      intro v2 w2 hown2 hu2 hfr2
      have hs1 := hu1.size
      have hs0 := hu.size
      have hu12 : Upd (fun _ => False) w1 w2 := Upd.alloc.trans hu2 (fun b h1 h2 => by omega)
      have hs2 := hu12.size
      have hx2 : v2.oneCell' = true := by obtain ⟨a, c, rfl⟩ := own_slice hown2; rfl
      have hb2 : ∀ g, v2.ownBlock = some g → w1.heap.size ≤ g ∧ g < w2.heap.size := fun g hg => by
        refine ⟨?_, (hown2.lt _ hg).2⟩
        rcases hfr2 g hg with h | h
        · omega
        · rw [size_alloc] at h; omega
      have hsl2 : SlI w2 v2 (toI l) := SlI.of_own hown2
      obtain ⟨a2, c2, rfl⟩ := own_slice hown2
      simp (disch := omega) only [push_cast, Nat.reduceBEq, Nat.reduceEqDiff, Nat.reduceAdd, Nat.reduceMul, Nat.reduceSub, Nat.reduceLT, Int.reduceToNat, Int.reduceLT, Int.reduceLE, Int.reduceEq, Int.reduceAdd, Int.reduceSub, Int.reduceNeg, Int.reduceMul, bsl_sli]
      refine RL.app (c := l) (((hV.upd hu1).upd hu12).upd Upd.alloc) (by omega) (hsl2.upd Upd.alloc) hx2 (by rw [size_alloc]; omega) (fun g hg => ?_) Blk.new ?_
      · have := hb2 g hg
        rw [size_alloc]
        exact ⟨by omega, by omega, fun h5 => by have := (hV.lt h5).2; omega⟩
      intro V3 w3 hRL hu3 hfr3
      have huF : Upd (fun b => (Value.slice a0 css.length c0).ownBlock = some b) w w3 := (((hu1.trans hu12 (fun _ _ h => h)).alloc').mono fun _ _ h => h.elim).trans hu3 (fun _ _ h => h)
      have hu0F : Upd (fun _ => False) w0 w3 := ((hu.trans hu1 (fun _ _ h => h)).trans hu12 (fun _ _ h => h)).alloc'.trans hu3 (fun b h1 h2 => by have := (hV.lt h2).1; omega)
      have hfrF : ∀ g, V3.ownBlock = some g → (Value.slice a0 css.length c0).ownBlock = some g ∨ w.heap.size ≤ g := fun g hg => by
        rcases hfr3 g hg with h | h
        · exact .inl h
        · rw [size_alloc] at h; exact .inr (by omega)
      have hcur : (css ++ [l]) ++ gSets n (dnP n R) k l = css ++ fromL n R k l := by rw [fromL, hd]; simp
      obtain ⟨a3, c3, rfl⟩ : ∃ a c, V3 = .slice a (css ++ [l]).length c := by
        obtain ⟨vs, h1, _, h3, _⟩ := id hRL
        obtain ⟨a, c, h⟩ := own_slice h1
        exact ⟨a, c, by rw [← h3]; exact h⟩
      have hcx := hlc2 (w' := w3) (Upd.mono huF (fun _ _ h => h)) _ _ hlx
      simp (disch := omega) only [push_cast, Nat.reduceBEq, Nat.reduceEqDiff, Nat.reduceAdd, Nat.reduceMul, Nat.reduceSub, Nat.reduceLT, Int.reduceToNat, Int.reduceLT, Int.reduceLE, Int.reduceEq, Int.reduceAdd, Int.reduceSub, Int.reduceNeg, Int.reduceMul, hl0', hcx, hl0i]
      refine loop_inv (I := fun r st w' => Bx (∃ (i : Nat) (V' : Value) (cur : List (List Nat)), r + i = n ∧ r ≤ k ∧ st = [V', .int .i64 (i : Int)] ∧ RL w0.heap.size w' V' cur ∧ cur ++ gSets n (dnP n R) r l = css ++ fromL n R k l ∧ Upd (fun b => (Value.slice a0 css.length c0).ownBlock = some b) w w' ∧ Upd (fun _ => False) w0 w' ∧
        (∀ g, V'.ownBlock = some g → (Value.slice a0 css.length c0).ownBlock = some g ∨ w.heap.size ≤ g)) ⟨⟩) ?_ k ⟨n - k, _, css ++ [l], by omega, by omega, by rw [show n - k = x + 1 from by omega]; simp, hRL, hcur, huF, hu0F, hfrF⟩
      clear hRL hcur huF hu0F hfrF
      rintro r st w5 ⟨i, V', cur, hri, hrk, rfl, hRL, hcur, huF, hu0F, hfrF⟩
      obtain ⟨a5, c5, rfl⟩ : ∃ a c, V' = .slice a cur.length c := by
        obtain ⟨vs, h1, _, h3, _⟩ := id hRL
        obtain ⟨a, c, h⟩ := own_slice h1
        exact ⟨a, c, by rw [← h3]; exact h⟩
      by_cases hr0 : r = 0
      · subst hr0
        rw [gSets, List.append_nil] at hcur
        simp (disch := omega) only [push_cast, Nat.reduceBEq, Nat.reduceEqDiff, Nat.reduceAdd, Nat.reduceMul, Nat.reduceSub, Nat.reduceLT, Int.reduceToNat, Int.reduceLT, Int.reduceLE, Int.reduceEq, Int.reduceAdd, Int.reduceSub, Int.reduceNeg, Int.reduceMul]
        exact ⟨hcur ▸ hRL, huF, hfrF⟩
      · obtain ⟨r', rfl⟩ : ∃ r', r = r' + 1 := ⟨r - 1, by omega⟩
        have hi : i < n := by omega
        rw [gSets_from, show n - (r' + 1) = i from by omega, ← List.append_assoc] at hcur
        have hl5 := hl.updF huF hlV
        have hlen5 : cur.length + (fromL n R r' (l ++ [i])).length ≤ 8192 := by
          have h1 := congrArg List.length hcur
          simp only [List.length_append] at h1 hlen ⊢
          omega
        simp (disch := omega) only [push_cast, Nat.reduceBEq, Nat.reduceEqDiff, Nat.reduceAdd, Nat.reduceMul, Nat.reduceSub, Nat.reduceLT, Int.reduceToNat, Int.reduceLT, Int.reduceLE, Int.reduceEq, Int.reduceAdd, Int.reduceSub, Int.reduceNeg, Int.reduceMul, bsl_int0]
        refine app_copy Blk.new (hl5.updF (F := fun _ => False) Upd.alloc (fun _ _ h => h)) (by omega) ?_
        intro v6 w6 hown6 hu6 hfr6
        simp (disch := omega) only [push_cast, Nat.reduceBEq, Nat.reduceEqDiff, Nat.reduceAdd, Nat.reduceMul, Nat.reduceSub, Nat.reduceLT, Int.reduceToNat, Int.reduceLT, Int.reduceLE, Int.reduceEq, Int.reduceAdd, Int.reduceSub, Int.reduceNeg, Int.reduceMul]
        refine app_int (hown6.alloc _) (by rw [toI_length]; omega) (x := (i : Int)) Blk.new ?_
        intro v7 w7 hown7 hu7 hfr7
        have hs5 := huF.size
        have hu56 : Upd (fun _ => False) w5 w6 := Upd.alloc.trans hu6 (fun b h1 h2 => by omega)
        have hs6 := hu56.size
        have hu67 : Upd (fun _ => False) w5 w7 := (hu56.alloc').trans hu7 (fun b h1 h2 => by rcases hfr6 b h2 with h | h <;> rw [size_alloc] at * <;> omega)
        have hs7 := hu67.size
        have hl7 : SlN w7 v7 (l ++ [i]) := SlN.of_own (by unfold toI at hown7 ⊢; rw [List.map_append]; exact hown7) (by simp)
        have hb7 : ∀ g, v7.ownBlock = some g → w5.heap.size ≤ g ∧ g < w7.heap.size := fun g hg => by
          refine ⟨?_, (hown7.lt _ hg).2⟩
          rcases hfr7 g hg with h | h
          · rcases hfr6 g h with h | h
            · omega
            · rw [size_alloc] at h; omega
          · rw [size_alloc] at h; omega
        obtain ⟨b7, o7, c7, rfl, _, _⟩ := id hl7
        simp (disch := omega) only [push_cast, Nat.reduceBEq, Nat.reduceEqDiff, Nat.reduceAdd, Nat.reduceMul, Nat.reduceSub, Nat.reduceLT, Int.reduceToNat, Int.reduceLT, Int.reduceLE, Int.reduceEq, Int.reduceAdd, Int.reduceSub, Int.reduceNeg, Int.reduceMul]
        refine Ok.use (ih r' (by omega) (l ++ [i]) _ _ cur w7 (hu0F.trans hu67 (fun _ _ h => h)) (hRL.upd hu67) hl7 (fun g hg h5 => by have := (hb7 g hg).1; have := (hRL.lt h5).2; omega) ?_ (by simp; omega) (.inr ⟨l, i, rfl, by omega⟩) hlen5) ?_
        · intro x hx
          rcases List.mem_append.1 hx with h | h
          · exact hlt x h
          · simp at h; omega
        rintro v8 w8 ⟨hRL8, hu8, hfr8⟩
        simp (disch := omega) only [push_cast, Nat.reduceBEq, Nat.reduceEqDiff, Nat.reduceAdd, Nat.reduceMul, Nat.reduceSub, Nat.reduceLT, Int.reduceToNat, Int.reduceLT, Int.reduceLE, Int.reduceEq, Int.reduceAdd, Int.reduceSub, Int.reduceNeg, Int.reduceMul]
        refine ⟨r', by omega, i + 1, v8, _, by omega, by omega, by simp, hRL8, ?_, ?_, ?_, fun g hg => ?_⟩
        · rw [← hcur]
        · exact (huF.trans (hu67.mono fun _ _ h => h.elim) (fun _ _ h => h)).trans hu8 (fun b h1 h2 => by
            rcases hfrF b h2 with h | h
            · exact h
            · omega)
        · exact (hu0F.trans hu67 (fun _ _ h => h)).trans hu8 (fun b h1 h2 => by have := (hRL.lt h2).1; omega)
        · rcases hfr8 g hg with h | h
          · exact hfrF g h
          · exact .inr (by omega)
end Go.Proofs.Ytfjccccfkpgmgaa.Fd
