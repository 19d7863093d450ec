/-
  cmp.Compare and slices.Compare at ints; rows of lists of ints.
-/
import Derived.Test.YtfjccccfkpgmgaaOr8
import Derived.Test.YtfjccccfkpgmgaaFacts2
import Derived.Test.YtfjccccfkpgmgaaDs3
namespace Go.Proofs.Ytfjccccfkpgmgaa.Fd
set_option linter.unusedSimpArgs false
set_option linter.unusedVariables false
open Go
set_option maxRecDepth 100000

theorem isNaN_ok {w : World} (x : Int) : Ok (den Try.prog 71 #[.int .i64 x] w) fun v w' => v = .bool false ∧ w' = w := by
  refine den_ok (args := [.int .i64 x]) rs71 Try.func71 rfl mixed in71 ok71 rfl ?_
  simp (disch := omega) only [push_cast, Nat.reduceBEq, Nat.reduceEqDiff, Nat.reduceAdd, Nat.reduceMul, Nat.reduceSub, Nat.reduceLT, Int.reduceToNat, Int.reduceLT, Int.reduceLE, Int.reduceEq, Int.reduceAdd, Int.reduceSub, Int.reduceNeg, Int.reduceMul]
def cmpI (x y : Int) : Int := if x < y then -1 else if y < x then 1 else 0
theorem cmpC_ok {w : World} (x y : Int) : Ok (den Try.prog 60 #[.int .i64 x, .int .i64 y] w) fun v w' => v = .int .i64 (cmpI x y) ∧ w' = w := by
  refine den_ok (args := [.int .i64 x, .int .i64 y]) rs60 Try.func60 rfl mixed in60 ok60 rfl ?_
  simp (disch := omega) only [push_cast, Nat.reduceBEq, Nat.reduceEqDiff, Nat.reduceAdd, Nat.reduceMul, Nat.reduceSub, Nat.reduceLT, Int.reduceToNat, Int.reduceLT, Int.reduceLE, Int.reduceEq, Int.reduceAdd, Int.reduceSub, Int.reduceNeg, Int.reduceMul]
  refine Ok.use (isNaN_ok x) ?_
  rintro v w1 ⟨rfl, rfl⟩
  simp (disch := omega) only [push_cast, Nat.reduceBEq, Nat.reduceEqDiff, Nat.reduceAdd, Nat.reduceMul, Nat.reduceSub, Nat.reduceLT, Int.reduceToNat, Int.reduceLT, Int.reduceLE, Int.reduceEq, Int.reduceAdd, Int.reduceSub, Int.reduceNeg, Int.reduceMul]
  refine Ok.use (isNaN_ok y) ?_
  rintro v w1 ⟨rfl, rfl⟩
  unfold cmpI
  by_cases h1 : x < y
  · simp (disch := omega) only [push_cast, Nat.reduceBEq, Nat.reduceEqDiff, Nat.reduceAdd, Nat.reduceMul, Nat.reduceSub, Nat.reduceLT, Int.reduceToNat, Int.reduceLT, Int.reduceLE, Int.reduceEq, Int.reduceAdd, Int.reduceSub, Int.reduceNeg, Int.reduceMul, h1]
  · by_cases h2 : y < x
    · simp (disch := omega) only [push_cast, Nat.reduceBEq, Nat.reduceEqDiff, Nat.reduceAdd, Nat.reduceMul, Nat.reduceSub, Nat.reduceLT, Int.reduceToNat, Int.reduceLT, Int.reduceLE, Int.reduceEq, Int.reduceAdd, Int.reduceSub, Int.reduceNeg, Int.reduceMul, h1, h2]
    · simp (disch := omega) only [push_cast, Nat.reduceBEq, Nat.reduceEqDiff, Nat.reduceAdd, Nat.reduceMul, Nat.reduceSub, Nat.reduceLT, Int.reduceToNat, Int.reduceLT, Int.reduceLE, Int.reduceEq, Int.reduceAdd, Int.reduceSub, Int.reduceNeg, Int.reduceMul, h1, h2]
theorem cmpL_step {l m : List Nat} {i x y : Nat} (h : cmpL l m = cmpL (l.drop i) (m.drop i)) (hx : l[i]? = some x) (hy : m[i]? = some y) :
    cmpL l m = if x < y then -1 else if y < x then 1 else cmpL (l.drop (i + 1)) (m.drop (i + 1)) := by
  obtain ⟨h1, rfl⟩ := List.getElem?_eq_some_iff.1 hx
  obtain ⟨h2, rfl⟩ := List.getElem?_eq_some_iff.1 hy
  rw [h, List.drop_eq_getElem_cons h1, List.drop_eq_getElem_cons h2]
  rfl
theorem SlI.get {w : World} {a : Option Addr} {n c : Nat} {l : List Nat} (hl1 : toI l ≠ [] → ∃ b o, a = some ⟨b, o, none⟩ ∧ b < w.heap.size ∧ ∀ j x, (toI l)[j]? = some x → w.cell? ⟨b, o + j, none⟩ = some (.int .i64 x)) {i x : Nat} (hx : l[i]? = some x) :
    ∃ b o, a = some ⟨b, o, none⟩ ∧ w.cell? ⟨b, o + i, none⟩ = some (.int .i64 (x : Int)) := by
  have h : (toI l)[i]? = some (x : Int) := by unfold toI; rw [List.getElem?_map, hx]; rfl
  obtain ⟨b, o, h1, _, h2⟩ := hl1 (by intro e; rw [e] at h; simp at h)
  exact ⟨b, o, h1, h2 i _ h⟩
theorem scmp_ok {w : World} {v v2 : Value} {l m : List Nat} (hv : SlI w v (toI l)) (hv2 : SlI w v2 (toI m)) (hl : l.length < 1000000) :
    Ok (den Try.prog 53 #[v, v2] w) fun u w' => u = .int .i64 (cmpL l m) ∧ w' = w := by
  obtain ⟨a, c, rfl, hl1⟩ := hv
  obtain ⟨a2, c2, rfl, hl2⟩ := hv2
  rw [toI_length, toI_length]
  refine den_ok (args := [.slice a l.length c, .slice a2 m.length c2]) rs53 Try.func53 rfl mixed in53 ok53 rfl ?_
  simp (disch := omega) only [push_cast, Nat.reduceBEq, Nat.reduceEqDiff, Nat.reduceAdd, Nat.reduceMul, Nat.reduceSub, Nat.reduceLT, Int.reduceToNat, Int.reduceLT, Int.reduceLE, Int.reduceEq, Int.reduceAdd, Int.reduceSub, Int.reduceNeg, Int.reduceMul]
  refine loop_inv (I := fun k st w' => Bx (∃ i : Nat, k + i = l.length ∧ st = [.int .i64 (i : Int)] ∧ w' = w ∧ i ≤ m.length ∧ cmpL l m = cmpL (l.drop i) (m.drop i)) ⟨⟩) ?_ l.length ⟨0, rfl, rfl, rfl, Nat.zero_le _, by simp⟩
  rintro k st w' ⟨i, hki, rfl, rfl, him, hc⟩
  by_cases hk0 : k = 0
  · obtain rfl : i = l.length := by omega
    rw [List.drop_length] at hc
    by_cases h2 : l.length < m.length
    · simp (disch := omega) only [push_cast, Nat.reduceBEq, Nat.reduceEqDiff, Nat.reduceAdd, Nat.reduceMul, Nat.reduceSub, Nat.reduceLT, Int.reduceToNat, Int.reduceLT, Int.reduceLE, Int.reduceEq, Int.reduceAdd, Int.reduceSub, Int.reduceNeg, Int.reduceMul]
      rw [hc, List.drop_eq_getElem_cons h2]
      rfl
    · simp (disch := omega) only [push_cast, Nat.reduceBEq, Nat.reduceEqDiff, Nat.reduceAdd, Nat.reduceMul, Nat.reduceSub, Nat.reduceLT, Int.reduceToNat, Int.reduceLT, Int.reduceLE, Int.reduceEq, Int.reduceAdd, Int.reduceSub, Int.reduceNeg, Int.reduceMul]
      rw [hc, List.drop_of_length_le (by omega)]
      rfl
  · have hi : i < l.length := by omega
    have hx := List.getElem?_eq_getElem hi
    generalize l[i] = x at hx
    obtain ⟨b, o, rfl, q0⟩ := SlI.get (n := 0) (c := 0) hl1 hx
    by_cases hi2 : i < m.length
    rotate_left
    · obtain rfl : i = m.length := by omega
      simp (disch := omega) only [push_cast, Nat.reduceBEq, Nat.reduceEqDiff, Nat.reduceAdd, Nat.reduceMul, Nat.reduceSub, Nat.reduceLT, Int.reduceToNat, Int.reduceLT, Int.reduceLE, Int.reduceEq, Int.reduceAdd, Int.reduceSub, Int.reduceNeg, Int.reduceMul, q0]
      rw [hc, List.drop_length, List.drop_eq_getElem_cons hi]
      rfl
    have hy := List.getElem?_eq_getElem hi2
    generalize m[i] = y at hy
    obtain ⟨b2, o2, rfl, q2⟩ := SlI.get (n := 0) (c := 0) hl2 hy
    have hs := cmpL_step hc hx hy
    simp (disch := omega) only [push_cast, Nat.reduceBEq, Nat.reduceEqDiff, Nat.reduceAdd, Nat.reduceMul, Nat.reduceSub, Nat.reduceLT, Int.reduceToNat, Int.reduceLT, Int.reduceLE, Int.reduceEq, Int.reduceAdd, Int.reduceSub, Int.reduceNeg, Int.reduceMul, q0, q2]
    refine Ok.use (cmpC_ok (x : Int) (y : Int)) ?_
    rintro v w1 ⟨rfl, rfl⟩
    unfold cmpI
    by_cases h1 : x < y
    · rw [if_pos h1] at hs
      have h1' : (x : Int) < y := by omega
      simp (disch := omega) only [push_cast, Nat.reduceBEq, Nat.reduceEqDiff, Nat.reduceAdd, Nat.reduceMul, Nat.reduceSub, Nat.reduceLT, Int.reduceToNat, Int.reduceLT, Int.reduceLE, Int.reduceEq, Int.reduceAdd, Int.reduceSub, Int.reduceNeg, Int.reduceMul, h1']
      rw [hs]
    · rw [if_neg h1] at hs
      have h1' : ¬ (x : Int) < y := by omega
      by_cases h2 : y < x
      · rw [if_pos h2] at hs
        have h2' : (y : Int) < x := by omega
        simp (disch := omega) only [push_cast, Nat.reduceBEq, Nat.reduceEqDiff, Nat.reduceAdd, Nat.reduceMul, Nat.reduceSub, Nat.reduceLT, Int.reduceToNat, Int.reduceLT, Int.reduceLE, Int.reduceEq, Int.reduceAdd, Int.reduceSub, Int.reduceNeg, Int.reduceMul, h1', h2']
        rw [hs]
      · rw [if_neg h2] at hs
        have h2' : ¬ (y : Int) < x := by omega
        simp (disch := omega) only [push_cast, Nat.reduceBEq, Nat.reduceEqDiff, Nat.reduceAdd, Nat.reduceMul, Nat.reduceSub, Nat.reduceLT, Int.reduceToNat, Int.reduceLT, Int.reduceLE, Int.reduceEq, Int.reduceAdd, Int.reduceSub, Int.reduceNeg, Int.reduceMul, h1', h2']
        exact ⟨k - 1, by omega, i + 1, by omega, by simp, rfl, by omega, hs⟩

/-! rows of lists -/
def SlL (w : World) (v : Value) (css : List (List Nat)) : Prop :=
  ∃ a c, v = .slice a css.length c ∧ (css ≠ [] → ∃ b o, a = some ⟨b, o, none⟩ ∧ b < w.heap.size ∧ ∀ j ch, css[j]? = some ch → ∃ u, w.cell? ⟨b, o + j, none⟩ = some u ∧ SlI w u (toI ch))
theorem SlL.of_own {w : World} {v : Value} {vs : List Value} {css : List (List Nat)} (h : w.ownsRow 0 26 1 v vs.length vs) (hl : vs.length = css.length)
    (hs : ∀ (j : Nat) u c, vs[j]? = some u → css[j]? = some c → SlI w u (toI c)) : SlL w v css := by
  rcases id h.2 with ⟨rfl, h0⟩ | ⟨g, cap, cur, hv, _, hg, _⟩
  · have : css = [] := List.eq_nil_of_length_eq_zero (by omega)
    subst this
    exact ⟨none, 0, rfl, fun h => absurd rfl h⟩
  · refine ⟨_, cap, by rw [← hl]; exact hv, fun _ => ⟨g, 0, rfl, (Array.getElem?_eq_some_iff.1 hg).1, fun j c hj => ?_⟩⟩
    have hlt := (List.getElem?_eq_some_iff.1 hj).1
    have hu := List.getElem?_eq_getElem (l := vs) (i := j) (by omega)
    generalize vs[j]'(by omega) = u at hu
    obtain ⟨g', cap', hv', _, hc⟩ := own_cell (s := 1) (f := fun x : Value => [x]) (fun _ => rfl) (v := v) (E := 26) (by rw [flat_one (f := fun x : Value => x), List.map_id']; exact h) hu
    rw [hv] at hv'
    injection hv' with e1 _ _
    injection e1 with e1
    injection e1 with e1
    subst e1
    have h0 := hc 0 (by omega)
    simp only [List.getElem?_cons_zero, Nat.add_zero, Nat.mul_one] at h0
    exact ⟨u, by rw [Nat.zero_add]; exact h0, hs j u c hu hj⟩
theorem SlI.updF {w w' : World} {F : Nat → Prop} {v : Value} {l : List Int} (h : SlI w v l) (hu : Upd F w w') (hF : ∀ g, v.ownBlock = some g → ¬ F g) : SlI w' v l := by
  obtain ⟨a, c, hv, hl⟩ := h
  refine ⟨a, c, hv, fun h0 => ?_⟩
  obtain ⟨b, o, h1, h2, h3⟩ := hl h0
  have e := hu.block b h2 (hF b (by rw [hv, h1]; rfl))
  exact ⟨b, o, h1, Nat.lt_of_lt_of_le h2 hu.size, fun j x hj => by rw [World.cell?_of_block e]; exact h3 j x hj⟩
/-- One more slice of ints at the end of an owned row. -/
theorem app_sli {w : World} {v x : Value} {vs : List Value} (hown : w.ownsRow 0 26 1 v vs.length vs) (hlen : vs.length < 1000000) {b c : Nat} {ty : TypeId} (hx : x.oneCell' = true)
    (hb : Blk w b [x] 26) {K : Value × World → Prop} (hk : ∀ v' w', w'.ownsRow 0 26 1 v' (vs ++ [x]).length (vs ++ [x]) → Upd (fun b => v.ownBlock = some b) w w' → (∀ g, v'.ownBlock = some g → v.ownBlock = some g ∨ (w.heap.size ≤ g ∧ g < w'.heap.size)) → K (v', w')) :
    Okk (appS Try.prog #[43, 43] ty v (.slice (some ⟨b, 0, none⟩) 1 c) w) K := by
  refine app_own (s := 1) (by_ := 24) (n := vs.length) (m := 1) (news := [x]) t43_e t26_s t26_b t26_z rfl (by omega) hown rfl ?_ ?_ (by omega) (by unfold maxLen; omega) ?_
  · intro j hj
    rw [Nat.zero_add]
    exact hb.cell j
  · intro u hu
    simp at hu
    subst hu
    exact hx
  intro v' w' h1 h2 h3
  refine hk v' w' ?_ (Upd.grown (F := fun b => v.ownBlock = some b) h2 (fun k hk => hk)) ?_
  · rw [List.length_append]
    simpa using h1
  · intro g hg
    rcases h3 with h | ⟨g', h, hge⟩
    · rw [h] at hg; exact .inl hg
    · rw [h] at hg; injection hg with hg; subst hg; exact .inr ⟨hge, (h1.lt _ h).2⟩
theorem bsl_sli (a : Option Addr) (n c : Nat) (w : World) : bslS Try.prog 43 1 #[(0, .slice a n c)] w = some (.slice (some ⟨w.heap.size, 0, none⟩) 1 1, w.alloc (.cells [.slice a n c].toArray 26 (0, 0))) := by kernel_rfl
end Go.Proofs.Ytfjccccfkpgmgaa.Fd
