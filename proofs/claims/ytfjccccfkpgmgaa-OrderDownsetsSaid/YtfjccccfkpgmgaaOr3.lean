/-
  The program's cyclic, list, acyclic, Closure, Acyclic; the laws' same, samePairs.
-/
import Derived.Test.YtfjccccfkpgmgaaOr2
namespace Go.Proofs.Ytfjccccfkpgmgaa.Fd
set_option linter.unusedSimpArgs false
set_option linter.unusedVariables false
open Go
set_option maxRecDepth 100000

theorem cyc_up {n i : Nat} {R : Rel} (hi : i < n) (h : R i i = true) : cyc n R = true := List.any_eq_true.2 ⟨i, List.mem_range.2 hi, h⟩
theorem cyc_no {n : Nat} {R : Rel} (h : ∀ i, i < n → R i i = false) : cyc n R = false := by
  unfold cyc
  rw [List.any_eq_false]
  intro i hi
  simp [h i (List.mem_range.1 hi)]
theorem cyc_congr {n : Nat} {R S : Rel} (h : ∀ i, i < n → R i i = S i i) : cyc n R = cyc n S := by
  rw [Bool.eq_iff_iff]
  simp only [cyc, List.any_eq_true, List.mem_range]
  constructor
  · rintro ⟨x, hx, h2⟩; exact ⟨x, hx, by rw [← h x hx]; exact h2⟩
  · rintro ⟨x, hx, h2⟩; exact ⟨x, hx, by rw [h x hx]; exact h2⟩
theorem cyclic_ok {w : World} {b n : Nat} {r : Nat → BitVec 64} {E : TypeId} (hb : Blk w b (tabL r) E) (hn : n ≤ 64) :
    Ok (den Try.prog 40 #[.pointer (some ⟨b, 0, none⟩), .int .i64 n] w) fun v w' => v = .bool (cyc n (rbit r)) ∧ w = w' := by
  refine den_ok (args := [.pointer (some ⟨b, 0, none⟩), .int .i64 n]) rs40 Try.func40 rfl mixed in40 ok40 rfl ?_
  simp (disch := omega) only [push_cast, Nat.reduceBEq, Nat.reduceEqDiff, Nat.reduceAdd, Nat.reduceMul, Nat.reduceSub, Nat.reduceLT, Int.reduceToNat, Int.reduceLT, Int.reduceLE, Int.reduceEq, Int.reduceAdd, Int.reduceSub, Int.reduceNeg, Int.reduceMul]
  refine loop_inv (I := fun k st w' => Bx (∃ i, k + i = n ∧ st = [.int .i64 (i : Int)] ∧ w = w' ∧ ∀ j, j < i → rbit r j j = false) ⟨⟩) ?_ n ⟨0, rfl, rfl, rfl, fun j hj => by omega⟩
  rintro k st w' ⟨i, hki, rfl, rfl, hin⟩
  by_cases hk0 : k = 0
  · simp (disch := omega) only [push_cast, Nat.reduceBEq, Nat.reduceEqDiff, Nat.reduceAdd, Nat.reduceMul, Nat.reduceSub, Nat.reduceLT, Int.reduceToNat, Int.reduceLT, Int.reduceLE, Int.reduceEq, Int.reduceAdd, Int.reduceSub, Int.reduceNeg, Int.reduceMul]
    rw [cyc_no (fun j hj => hin j (by omega))]
  · cases hbit : (r i).getLsbD i
    · simp (disch := omega) only [push_cast, Nat.reduceBEq, Nat.reduceEqDiff, Nat.reduceAdd, Nat.reduceMul, Nat.reduceSub, Nat.reduceLT, Int.reduceToNat, Int.reduceLT, Int.reduceLE, Int.reduceEq, Int.reduceAdd, Int.reduceSub, Int.reduceNeg, Int.reduceMul, hb.cell, hb.free, tabL_get, hbit]
      refine ⟨k - 1, by omega, i + 1, by omega, by simp, rfl, fun j hj => ?_⟩
      by_cases e : j = i
      · rw [e]; exact hbit
      · exact hin j (by omega)
    · simp (disch := omega) only [push_cast, Nat.reduceBEq, Nat.reduceEqDiff, Nat.reduceAdd, Nat.reduceMul, Nat.reduceSub, Nat.reduceLT, Int.reduceToNat, Int.reduceLT, Int.reduceLE, Int.reduceEq, Int.reduceAdd, Int.reduceSub, Int.reduceNeg, Int.reduceMul, hb.cell, hb.free, tabL_get, hbit]
      rw [cyc_up (i := i) (by omega) hbit]

theorem bld_pr (x y : Int) (w : World) : bldS Try.prog 29 #[(0, .int .i64 x), (1, .int .i64 y)] w = some (.agg #[.int .i64 x, .int .i64 y], w) := by kernel_rfl
theorem bsl_pr (x y : Int) (w : World) : bslS Try.prog 22 1 #[(0, .agg #[.int .i64 x, .int .i64 y])] w =
    some (.slice (some ⟨w.heap.size, 0, none⟩) 1 1, w.alloc (.cells [.int .i64 x, .int .i64 y].toArray 29 (0, 0))) := by kernel_rfl
attribute [push_cast] bld_pr bsl_pr
def prs (x y : Nat) : Pr := ((x : Int), (y : Int))
def rowOf (n a : Nat) (R : Rel) : List Pr := ((List.range n).filter (R a)).map (prs a)
def pairsOf (n m : Nat) (R : Rel) : List Pr := (List.range m).flatMap fun a => rowOf n a R
theorem rowOf_succ {n a : Nat} {R : Rel} : rowOf (n + 1) a R = rowOf n a R ++ (if R a n then [prs a n] else []) := by
  unfold rowOf
  rw [List.range_succ, List.filter_append, List.map_append]
  cases h : R a n <;> simp [h]
theorem pairsOf_succ {n m : Nat} {R : Rel} : pairsOf n (m + 1) R = pairsOf n m R ++ rowOf n m R := by
  unfold pairsOf
  rw [List.range_succ, List.flatMap_append]
  simp
theorem rowOf_le {n a : Nat} {R : Rel} : (rowOf n a R).length ≤ n := by
  unfold rowOf
  rw [List.length_map]
  exact Nat.le_trans (List.length_filter_le _ _) (by simp)
theorem pairsOf_le {n : Nat} {R : Rel} : ∀ {m : Nat}, (pairsOf n m R).length ≤ m * n := by
  intro m
  induction m with
  | zero => simp [pairsOf]
  | succ m ih =>
    rw [pairsOf_succ, List.length_append, Nat.succ_mul]
    have := rowOf_le (n := n) (a := m) (R := R)
    omega
theorem pairsOf_congr {n : Nat} {R S : Rel} (h : ∀ a b, a < n → b < n → R a b = S a b) : pairsOf n n R = pairsOf n n S := by
  have h2 : ∀ m, m ≤ n → pairsOf n m R = pairsOf n m S := by
    intro m
    induction m with
    | zero => intro _; rfl
    | succ m ih =>
      intro hm
      rw [pairsOf_succ, pairsOf_succ, ih (by omega)]
      congr 1
      unfold rowOf
      congr 1
      apply List.filter_congr
      intro x hx
      exact h m x (by omega) (List.mem_range.1 hx)
  exact h2 n (Nat.le_refl _)

/-- One more pair at the end of an owned row. -/
theorem app_pr {w : World} {v : Value} {l : List Pr} (hown : w.ownsRow 0 29 2 v l.length (l.flatMap pairRow)) (hlen : l.length < 1000000) {b c : Nat} {x : Pr} {ty : TypeId}
    (hb : Blk w b (pairRow x) 29) {K : Value × World → Prop} (hk : ∀ v' w', w'.ownsRow 0 29 2 v' (l ++ [x]).length ((l ++ [x]).flatMap pairRow) → Upd (fun b => v.ownBlock = some b) w w' → (∀ g, v'.ownBlock = some g → v.ownBlock = some g ∨ w.heap.size ≤ g) → K (v', w')) :
    Okk (appS Try.prog #[22, 22] ty v (.slice (some ⟨b, 0, none⟩) 1 c) w) K := by
  refine app_own (s := 2) (by_ := 16) (n := l.length) (m := 1) (news := pairRow x) t22_e t29_s t29_b t29_z rfl (by omega) hown rfl ?_ ?_ (by omega) (by unfold maxLen; omega) ?_
  · intro j hj
    rw [Nat.zero_add]
    exact hb.cell j
  · intro u hu
    simp [pairRow] at hu
    rcases hu with rfl | rfl <;> rfl
  intro v' w' h1 h2 h3
  refine hk v' w' ?_ (Upd.grown (F := fun b => v.ownBlock = some b) h2 (fun k hk => hk)) ?_
  · rw [List.length_append, List.flatMap_append]
    simpa using h1
  · intro g hg
    rcases h3 with h | ⟨g', h, hge⟩
    · rw [h] at hg; exact .inl hg
    · rw [h] at hg; injection hg with hg; subst hg; exact .inr hge

/-- The slice's length is within its capacity. -/
def capOk (v : Value) : Prop := ∃ a n c, v = .slice a n c ∧ n ≤ c
theorem capOk.of_own {w : World} {B E s n : Nat} {v : Value} {xs : List Value} (h : w.ownsRow B E s v n xs) : capOk v := by
  rcases h.2 with ⟨rfl, rfl⟩ | ⟨g, cap, cur, hv, _, _, hn, _⟩
  · exact ⟨none, 0, 0, rfl, Nat.le_refl _⟩
  · exact ⟨_, _, _, hv, hn⟩
set_option maxHeartbeats 1000000 in
theorem list_ok {w : World} {b n : Nat} {r : Nat → BitVec 64} {E : TypeId} (hb : Blk w b (tabL r) E) (hn : n ≤ 64) :
    Ok (den Try.prog 39 #[.pointer (some ⟨b, 0, none⟩), .int .i64 n] w) fun v w' => SlP w' v (pairsOf n n (rbit r)) ∧ Upd (fun _ => False) w w' ∧ capOk v := by
  refine den_ok (args := [.pointer (some ⟨b, 0, none⟩), .int .i64 n]) rs39 Try.func39 rfl mixed in39 ok39 rfl ?_
  simp (disch := omega) only [push_cast, Nat.reduceBEq, Nat.reduceEqDiff, Nat.reduceAdd, Nat.reduceMul, Nat.reduceSub, Nat.reduceLT, Int.reduceToNat, Int.reduceLT, Int.reduceLE, Int.reduceEq, Int.reduceAdd, Int.reduceSub, Int.reduceNeg, Int.reduceMul]
  refine loop_inv (I := fun k st w' => Bx (∃ i v, k + i = n ∧ st = [v, .int .i64 (i : Int)] ∧ Upd (fun _ => False) w w' ∧ w'.ownsRow 0 29 2 v (pairsOf n i (rbit r)).length ((pairsOf n i (rbit r)).flatMap pairRow) ∧ ∀ g, v.ownBlock = some g → w.heap.size ≤ g) ⟨⟩) ?_ n
    ⟨0, .slice none 0 0, rfl, rfl, Upd.refl, World.ownsRow_nil _ _ _ _, by simp [Value.ownBlock]⟩
  rintro k st w' ⟨i, v, hki, rfl, hu, hown, hfr⟩
  by_cases hk0 : k = 0
  · obtain rfl : i = n := by omega
    simp (disch := omega) only [push_cast, Nat.reduceBEq, Nat.reduceEqDiff, Nat.reduceAdd, Nat.reduceMul, Nat.reduceSub, Nat.reduceLT, Int.reduceToNat, Int.reduceLT, Int.reduceLE, Int.reduceEq, Int.reduceAdd, Int.reduceSub, Int.reduceNeg, Int.reduceMul]
    exact ⟨SlP.of_own hown, hu, capOk.of_own hown⟩
  · simp (disch := omega) only [push_cast, Nat.reduceBEq, Nat.reduceEqDiff, Nat.reduceAdd, Nat.reduceMul, Nat.reduceSub, Nat.reduceLT, Int.reduceToNat, Int.reduceLT, Int.reduceLE, Int.reduceEq, Int.reduceAdd, Int.reduceSub, Int.reduceNeg, Int.reduceMul]
    refine loop_inv (I := fun k2 st w' => Bx (∃ j v, k2 + j = n ∧ st = [v, .int .i64 (j : Int)] ∧ Upd (fun _ => False) w w' ∧ w'.ownsRow 0 29 2 v (pairsOf n i (rbit r) ++ rowOf j i (rbit r)).length ((pairsOf n i (rbit r) ++ rowOf j i (rbit r)).flatMap pairRow) ∧ ∀ g, v.ownBlock = some g → w.heap.size ≤ g) ⟨⟩) ?_ n
      ⟨0, v, rfl, rfl, hu, by simpa [rowOf] using hown, hfr⟩
    clear hu hown hfr
    rintro k2 st w' ⟨j, v, hkj, rfl, hu, hown, hfr⟩
    have hbw := hb.upd hu (fun h => h)
    by_cases hk2 : k2 = 0
    · obtain rfl : j = n := by omega
      simp (disch := omega) only [push_cast, Nat.reduceBEq, Nat.reduceEqDiff, Nat.reduceAdd, Nat.reduceMul, Nat.reduceSub, Nat.reduceLT, Int.reduceToNat, Int.reduceLT, Int.reduceLE, Int.reduceEq, Int.reduceAdd, Int.reduceSub, Int.reduceNeg, Int.reduceMul]
      exact ⟨k - 1, by omega, i + 1, v, by omega, by simp, hu, by rw [pairsOf_succ]; exact hown, hfr⟩
    · have hp := pairsOf_le (n := n) (m := i) (R := rbit r)
      have hr := rowOf_le (n := j) (a := i) (R := rbit r)
      have h64 : i * n ≤ 64 * 64 := Nat.mul_le_mul (by omega) hn
      cases hbit : (r i).getLsbD j
      · simp (disch := omega) only [push_cast, Nat.reduceBEq, Nat.reduceEqDiff, Nat.reduceAdd, Nat.reduceMul, Nat.reduceSub, Nat.reduceLT, Int.reduceToNat, Int.reduceLT, Int.reduceLE, Int.reduceEq, Int.reduceAdd, Int.reduceSub, Int.reduceNeg, Int.reduceMul, hbw.cell, hbw.free, tabL_get, hbit]
        refine ⟨k2 - 1, by omega, j + 1, v, by omega, by simp, hu, ?_, hfr⟩
        rw [rowOf_succ, if_neg (by rw [show rbit r i j = false from hbit]; decide), List.append_nil]
        exact hown
      · simp (disch := omega) only [push_cast, Nat.reduceBEq, Nat.reduceEqDiff, Nat.reduceAdd, Nat.reduceMul, Nat.reduceSub, Nat.reduceLT, Int.reduceToNat, Int.reduceLT, Int.reduceLE, Int.reduceEq, Int.reduceAdd, Int.reduceSub, Int.reduceNeg, Int.reduceMul, hbw.cell, hbw.free, tabL_get, hbit]
        refine app_pr (hown.alloc _) (by rw [List.length_append]; omega) (x := prs i j) (Blk.new (cs := pairRow (prs i j))) ?_
        intro v' w2 hown2 hu2 hfr2
        simp (disch := omega) only [push_cast, Nat.reduceBEq, Nat.reduceEqDiff, Nat.reduceAdd, Nat.reduceMul, Nat.reduceSub, Nat.reduceLT, Int.reduceToNat, Int.reduceLT, Int.reduceLE, Int.reduceEq, Int.reduceAdd, Int.reduceSub, Int.reduceNeg, Int.reduceMul]
        have hu3 : Upd (fun b => v.ownBlock = some b) w' w2 := Upd.alloc.trans hu2 (fun _ _ h => h)
        refine ⟨k2 - 1, by omega, j + 1, v', by omega, by simp, hu.trans hu3 (fun b h1 h2 => by have := hfr b h2; omega), ?_, ?_⟩
        · rw [rowOf_succ, if_pos (show rbit r i j = true from hbit), ← List.append_assoc]
          exact hown2
        · intro g hg
          have := hu.size
          rcases hfr2 g hg with h | h
          · exact hfr g h
          · rw [size_alloc] at h; omega
end Go.Proofs.Ytfjccccfkpgmgaa.Fd
