/-
  The law OrderDilworth, as a reading.
-/
import Derived.Test.YtfjccccfkpgmgaaOrS
namespace Go.Proofs.Ytfjccccfkpgmgaa.Fd
set_option linter.unusedSimpArgs false
set_option linter.unusedVariables false
open Go
set_option maxRecDepth 100000

theorem SlL.at_ {w w' : World} {a : Option Addr} {c n : Nat} {css : List (List Nat)} (h : SlL w (.slice a n c) css) (hu : Upd (fun _ => False) w w') (hn : 0 < n) :
    ∃ b o, a = some ⟨b, o, none⟩ ∧ ∀ j ch, css[j]? = some ch → ∃ u, w'.cell? ⟨b, o + j, none⟩ = some u ∧ SlI w' u (toI ch) := by
  obtain ⟨a', c', hv, hl⟩ := h
  injection hv with e1 e2 e3
  subst e1
  obtain ⟨b, o, h1, h2, h3⟩ := hl (by intro e; rw [e] at e2; simp at e2; omega)
  have e := hu.block b h2 (fun h => h)
  refine ⟨b, o, h1, fun j ch hj => ?_⟩
  obtain ⟨u, h4, h5⟩ := h3 j ch hj
  exact ⟨u, by rw [World.cell?_of_block e]; exact h4, h5.upd hu⟩
theorem SlL.upd {w w' : World} {v : Value} {css : List (List Nat)} (h : SlL w v css) (hu : Upd (fun _ => False) w w') : SlL w' v css := by
  obtain ⟨a, c, hv, hl⟩ := h
  refine ⟨a, c, hv, fun h0 => ?_⟩
  obtain ⟨b, o, h1, h2, h3⟩ := hl h0
  have e := hu.block b h2 (fun h => h)
  refine ⟨b, o, h1, Nat.lt_of_lt_of_le h2 hu.size, fun j ch hj => ?_⟩
  obtain ⟨u, h4, h5⟩ := h3 j ch hj
  exact ⟨u, by rw [World.cell?_of_block e]; exact h4, h5.upd hu⟩
theorem has_pairs {n : Nat} {R : Rel} {x y : Nat} (hx : x < n) (hy : y < n) : ((pairsOf n n R).any fun p => p.1 == (x : Int) && p.2 == (y : Int)) = R x y := by
  cases hR : R x y
  · rw [← Bool.not_eq_true, List.any_eq_true]
    rintro ⟨p, hp, h⟩
    obtain ⟨a, b, _, _, h1, rfl⟩ := mem_pairsOf.1 hp
    simp [prs] at h
    obtain ⟨h2, h3⟩ := h
    have e1 : a = x := by omega
    have e2 : b = y := by omega
    subst e1
    subst e2
    rw [hR] at h1
    cases h1
  · rw [List.any_eq_true]
    exact ⟨prs x y, mem_pairsOf.2 ⟨x, y, hx, hy, hR, rfl⟩, by simp [prs]⟩
theorem toI_get {c : List Nat} {i x : Nat} (hx : c[i]? = some x) : (toI c)[i]? = some (x : Int) := by
  unfold toI; rw [List.getElem?_map, hx]; rfl
def bL (n : Nat) (f : Nat → Bool) : List Value := (List.range n).map fun x => .bool (f x)
theorem bL_get {n b : Nat} {f : Nat → Bool} (h : b < n) : (bL n f)[b]? = some (.bool (f b)) := by simp [bL, h]
theorem bL_set {n b : Nat} {f : Nat → Bool} {x : Bool} : (bL n f).set b (.bool x) = bL n (fun i => if i = b then x else f i) := by
  apply List.ext_getElem?
  intro i
  rw [List.getElem?_set]
  unfold bL
  by_cases h : i < n
  · by_cases e : i = b
    · subst e; simp [h]
    · have e2 : ¬ b = i := fun e' => e e'.symm
      simp [h, e, e2]
  · by_cases e : i = b
    · subst e; simp [h]
    · have e2 : ¬ b = i := fun e' => e e'.symm
      simp [h, e2]
theorem bL_false {n : Nat} : List.replicate n (Value.bool false) = bL n fun _ => false := by
  rw [eq_comm, bL, List.eq_replicate_iff]
  refine ⟨by simp, ?_⟩
  intro v hv
  obtain ⟨_, _, rfl⟩ := List.mem_map.1 hv
  rfl
theorem flat_at {css : List (List Nat)} {i j x : Nat} {c : List Nat} (hi : css[i]? = some c) (hj : c[j]? = some x) : ∃ r, css.flatten = ((css.take i).flatten ++ c.take j) ++ x :: r := by
  obtain ⟨hi1, hi2⟩ := List.getElem?_eq_some_iff.1 hi
  obtain ⟨hj1, hj2⟩ := List.getElem?_eq_some_iff.1 hj
  have e1 : css = css.take i ++ c :: css.drop (i + 1) := by rw [← hi2, List.getElem_cons_drop, List.take_append_drop]
  have e2 : c = c.take j ++ x :: c.drop (j + 1) := by rw [← hj2, List.getElem_cons_drop, List.take_append_drop]
  refine ⟨c.drop (j + 1) ++ (css.drop (i + 1)).flatten, ?_⟩
  have e3 : css.flatten = (css.take i).flatten ++ (c ++ (css.drop (i + 1)).flatten) := by
    conv => lhs; rw [e1]
    rw [List.flatten_append, List.flatten_cons]
  have e4 : c ++ (css.drop (i + 1)).flatten = c.take j ++ (x :: c.drop (j + 1)) ++ (css.drop (i + 1)).flatten := by
    rw [← e2]
  rw [e3, e4]
  simp
theorem take_flat {css : List (List Nat)} {i : Nat} {c : List Nat} (hi : css[i]? = some c) : (css.take (i + 1)).flatten = (css.take i).flatten ++ c.take c.length := by
  obtain ⟨hi1, hi2⟩ := List.getElem?_eq_some_iff.1 hi
  rw [List.take_add_one, hi, List.flatten_append, List.take_length]
  simp
set_option maxHeartbeats 2000000 in
theorem orderDilworth_ok {w : World} (n : Int) {v : Value} {l : List Pr} (hv : SlP w v l) :
    Ok (den Try.prog 9 #[.int .i64 n, v] w) fun u w' => u = .bool true ∧ Upd (fun _ => False) w w' := by
  have t := fun {a b c : World} (x : Upd (fun _ => False) a b) (y : Upd (fun _ => False) b c) => x.trans y (F := fun _ => False) (fun _ _ h => h)
  refine den_ok (args := [.int .i64 n, v]) rs9 Try.func9 rfl mixed in9 ok9 rfl ?_
  simp (disch := omega) only [push_cast, Nat.reduceBEq, Nat.reduceEqDiff, Nat.reduceAdd, Nat.reduceMul, Nat.reduceSub, Nat.reduceLT, Int.reduceToNat, Int.reduceLT, Int.reduceLE, Int.reduceEq, Int.reduceAdd, Int.reduceSub, Int.reduceNeg, Int.reduceMul]
  refine Ok.use awake_ok ?_
  rintro v1 w1 ⟨rfl, hu1⟩
  simp (disch := omega) only [push_cast, Nat.reduceBEq, Nat.reduceEqDiff, Nat.reduceAdd, Nat.reduceMul, Nat.reduceSub, Nat.reduceLT, Int.reduceToNat, Int.reduceLT, Int.reduceLE, Int.reduceEq, Int.reduceAdd, Int.reduceSub, Int.reduceNeg, Int.reduceMul]
  refine Ok.use (fault_ok n (hv.upd hu1)) ?_
  rintro v1 w2 ⟨rfl, hu2⟩
  by_cases h0 : flt n l = 0
  rotate_left
  · simp (disch := omega) only [push_cast, Nat.reduceBEq, Nat.reduceEqDiff, Nat.reduceAdd, Nat.reduceMul, Nat.reduceSub, Nat.reduceLT, Int.reduceToNat, Int.reduceLT, Int.reduceLE, Int.reduceEq, Int.reduceAdd, Int.reduceSub, Int.reduceNeg, Int.reduceMul]
    exact t hu1 hu2
  obtain ⟨m, rfl, hm, hl4, hall, hchk, hcy⟩ := flt_zero h0
  rw [h0]
  simp (disch := omega) only [push_cast, Nat.reduceBEq, Nat.reduceEqDiff, Nat.reduceAdd, Nat.reduceMul, Nat.reduceSub, Nat.reduceLT, Int.reduceToNat, Int.reduceLT, Int.reduceLE, Int.reduceEq, Int.reduceAdd, Int.reduceSub, Int.reduceNeg, Int.reduceMul]
  have u2 := t hu1 hu2
  refine Ok.use (MaxAntichain_ok m (hv.upd u2)) ?_
  rintro v1 w3 ⟨av, rfl, ha, hu3⟩
  have u3 := t u2 hu3
  obtain ⟨W, c, S, left, hW, hA, hc⟩ := ha h0
  rw [Int.toNat_natCast] at hW hA
  rw [h0]
  simp (disch := omega) only [push_cast, Nat.reduceBEq, Nat.reduceEqDiff, Nat.reduceAdd, Nat.reduceMul, Nat.reduceSub, Nat.reduceLT, Int.reduceToNat, Int.reduceLT, Int.reduceLE, Int.reduceEq, Int.reduceAdd, Int.reduceSub, Int.reduceNeg, Int.reduceMul]
  refine Ok.use (ChainCover_ok m (hv.upd u3)) ?_
  rintro v1 w4 ⟨cv, rfl, hcc, hu4⟩
  have u4 := t u3 hu4
  obtain ⟨css, hW2, hcov, hcs⟩ := hcc h0
  rw [Int.toNat_natCast] at hW2 hcov
  rw [h0]
  simp (disch := omega) only [push_cast, Nat.reduceBEq, Nat.reduceEqDiff, Nat.reduceAdd, Nat.reduceMul, Nat.reduceSub, Nat.reduceLT, Int.reduceToNat, Int.reduceLT, Int.reduceLE, Int.reduceEq, Int.reduceAdd, Int.reduceSub, Int.reduceNeg, Int.reduceMul]
  refine Ok.use (Closure_ok m (hv.upd u4)) ?_
  rintro v1 w5 ⟨pv, rfl, hp, hu5⟩
  have u5 := t u4 hu5
  rw [if_pos hchk, Int.toNat_natCast] at hp
  rw [hchk]
  have hc5 := (hc.upd hu4).upd hu5
  have hcs5 := hcs.upd hu5
  have hlen : c.length = css.length := by rw [hA.done]; exact hW.unique hW2
  have hWm : c.length ≤ m := by
    refine nodup_le m c (hA.up.imp fun h => by omega) fun x hx => (hA.lt x hx).2
  have h64 : m * m ≤ 64 * 64 := Nat.mul_le_mul hm hm
  have hplen := pairsOf_le (n := m) (m := m) (R := less m l)
  clear hc hcs hu1 hu2 hu3 hu4 hu5 u2 u3 u4 hW hW2
  obtain ⟨ca, cc, rfl, _⟩ := id hc5
  obtain ⟨la, lc, rfl, _⟩ := id hcs5
  obtain ⟨pa, pc, rfl, _⟩ := id hp
  have hcl : (toI c).length = c.length := toI_length
  rw [hcl] at hc5 ⊢
  rw [hlen] at hc5 ⊢
  have hcn' : ¬ (m : Int) < (css.length : Int) := by omega
  simp (disch := omega) only [push_cast, Nat.reduceBEq, Nat.reduceEqDiff, Nat.reduceAdd, Nat.reduceMul, Nat.reduceSub, Nat.reduceLT, Int.reduceToNat, Int.reduceLT, Int.reduceLE, Int.reduceEq, Int.reduceAdd, Int.reduceSub, Int.reduceNeg, Int.reduceMul]
  refine loop_inv (I := fun k st w' => Bx (∃ i, k + i = css.length ∧ st = [.int .i64 (i : Int)] ∧ Upd (fun _ => False) w5 w') ⟨⟩) ?_ css.length ⟨0, rfl, rfl, Upd.refl⟩
  rintro k st w6 ⟨i, hki, rfl, hu6⟩
  by_cases hk0 : k = 0
  rotate_left
  · have hi : i < css.length := by omega
    have hci := List.getElem?_eq_getElem (l := c) (i := i) (by omega)
    have hmi := List.getElem_mem (l := c) (n := i) (by omega)
    generalize c[i]'(by omega) = x at hci hmi
    have hxm := (hA.lt x hmi).2
    obtain ⟨cb, co, rfl, hcc⟩ := hc5.at_ hu6 (by omega)
    have q0 := hcc i _ (toI_get hci)
    by_cases hi0 : i = 0
    case' pos => simp (config := { maxSteps := 3000000 }) (disch := omega) only [push_cast, Nat.reduceBEq, Nat.reduceEqDiff, Nat.reduceAdd, Nat.reduceMul, Nat.reduceSub, Nat.reduceLT, Int.reduceToNat, Int.reduceLT, Int.reduceLE, Int.reduceEq, Int.reduceAdd, Int.reduceSub, Int.reduceNeg, Int.reduceMul, q0]
    case' neg =>
      have hyi := List.getElem?_eq_getElem (l := c) (i := i - 1) (by omega)
      generalize c[i - 1]'(by omega) = y at hyi
      have hyx : y < x := by
        have h1 := List.pairwise_iff_getElem.1 hA.up (i - 1) i (by omega) (by omega) (by omega)
        rw [(List.getElem?_eq_some_iff.1 hyi).2, (List.getElem?_eq_some_iff.1 hci).2] at h1
        exact h1
      have q1 : w6.cell? ⟨cb, co + ((i : Int) - 1).toNat, none⟩ = some (.int .i64 (y : Int)) := by
        rw [show ((i : Int) - 1).toNat = i - 1 from by omega]
        exact hcc _ _ (toI_get hyi)
      simp (config := { maxSteps := 3000000 }) (disch := omega) only [push_cast, Nat.reduceBEq, Nat.reduceEqDiff, Nat.reduceAdd, Nat.reduceMul, Nat.reduceSub, Nat.reduceLT, Int.reduceToNat, Int.reduceLT, Int.reduceLE, Int.reduceEq, Int.reduceAdd, Int.reduceSub, Int.reduceNeg, Int.reduceMul, q0, q1]
    all_goals
      refine loop_inv (I := fun k st w' => Bx (∃ j, k + j = css.length ∧ st = [.int .i64 (j : Int)] ∧ Upd (fun _ => False) w5 w') ⟨⟩) ?_ css.length ⟨0, rfl, rfl, hu6.drew'⟩
      rintro k2 st w7 ⟨j, hkj, rfl, hu7⟩
      by_cases hk2 : k2 = 0
      · obtain rfl : j = css.length := by omega
        simp (disch := omega) only [push_cast, Nat.reduceBEq, Nat.reduceEqDiff, Nat.reduceAdd, Nat.reduceMul, Nat.reduceSub, Nat.reduceLT, Int.reduceToNat, Int.reduceLT, Int.reduceLE, Int.reduceEq, Int.reduceAdd, Int.reduceSub, Int.reduceNeg, Int.reduceMul]
        exact ⟨k - 1, by omega, i + 1, by omega, by simp, hu7⟩
      · have hj : j < css.length := by omega
        have hcj := List.getElem?_eq_getElem (l := c) (i := j) (by omega)
        have hmj := List.getElem_mem (l := c) (n := j) (by omega)
        generalize c[j]'(by omega) = z at hcj hmj
        have hzm := (hA.lt z hmj).2
        obtain ⟨cb2, co2, hcbe, hcc2⟩ := hc5.at_ hu7 (by omega)
        injection hcbe with hcbe
        injection hcbe with hcbe1 hcbe2
        subst hcbe1
        subst hcbe2
        have q2 := hcc2 i _ (toI_get hci)
        have q3 := hcc2 j _ (toI_get hcj)
        simp (config := { maxSteps := 3000000 }) (disch := omega) only [push_cast, Nat.reduceBEq, Nat.reduceEqDiff, Nat.reduceAdd, Nat.reduceMul, Nat.reduceSub, Nat.reduceLT, Int.reduceToNat, Int.reduceLT, Int.reduceLE, Int.reduceEq, Int.reduceAdd, Int.reduceSub, Int.reduceNeg, Int.reduceMul, q2, q3]
        refine Ok.use (has_ok x z ((hp.upd hu7).upd Upd.drew) (by omega)) ?_
        rintro v1 w8 ⟨rfl, hu8⟩
        rw [has_pairs hxm hzm, hA.anti x z hmi hmj]
        simp (disch := omega) only [push_cast, Nat.reduceBEq, Nat.reduceEqDiff, Nat.reduceAdd, Nat.reduceMul, Nat.reduceSub, Nat.reduceLT, Int.reduceToNat, Int.reduceLT, Int.reduceLE, Int.reduceEq, Int.reduceAdd, Int.reduceSub, Int.reduceNeg, Int.reduceMul]
        exact ⟨k2 - 1, by omega, j + 1, by omega, by simp, hu7.drew'.trans hu8 (fun _ _ h => h)⟩
  obtain rfl : i = css.length := by omega
  simp (disch := omega) only [push_cast, Nat.reduceBEq, Nat.reduceEqDiff, Nat.reduceAdd, Nat.reduceMul, Nat.reduceSub, Nat.reduceLT, Int.reduceToNat, Int.reduceLT, Int.reduceLE, Int.reduceEq, Int.reduceAdd, Int.reduceSub, Int.reduceNeg, Int.reduceMul]
  have hb7 : Blk (w6.alloc (.cells (List.replicate m (.bool false)).toArray 4 (0, 0))) w6.heap.size (List.replicate m (.bool false)) 4 := Blk.new
  rw [bL_false] at hb7 ⊢
  have hu7 : Upd (fun _ => False) w5 (w6.alloc (.cells (bL m fun _ => false).toArray 4 (0, 0))) := hu6.alloc'
  have hs6 := hu6.size
  generalize w6.alloc (.cells (bL m fun _ => false).toArray 4 (0, 0)) = w7 at *
  refine loop_inv (I := fun k st w' => Bx (∃ i L, k + i = css.length ∧ L = (css.take i).flatten ∧ st = [.int .i64 (L.length : Nat), .int .i64 (i : Int)] ∧ Upd (fun _ => False) w5 w' ∧ Blk w' w6.heap.size (bL m fun x => L.contains x) 4) ⟨⟩) ?_ css.length
    ⟨0, [], rfl, rfl, rfl, hu7, hb7⟩
  clear hu7 hb7
  rintro k st w8 ⟨i, L, hki, hL, rfl, hu8, hb8⟩
  by_cases hk0 : k = 0
  · obtain rfl : i = css.length := by omega
    have hLm : L.length = m := by rw [hL, List.take_length]; exact hcov.all
    simp (disch := omega) only [push_cast, Nat.reduceBEq, Nat.reduceEqDiff, Nat.reduceAdd, Nat.reduceMul, Nat.reduceSub, Nat.reduceLT, Int.reduceToNat, Int.reduceLT, Int.reduceLE, Int.reduceEq, Int.reduceAdd, Int.reduceSub, Int.reduceNeg, Int.reduceMul, hLm]
    exact t u5 hu8
  have hi : i < css.length := by omega
  have hci := List.getElem?_eq_getElem (l := css) (i := i) hi
  generalize css[i] = ch at hci
  have hne := hcov.ne i ch hci
  obtain ⟨lb, lo, rfl, hlc⟩ := hcs5.at_ hu8 (by omega)
  obtain ⟨u, q0, hu⟩ := hlc i ch hci
  obtain ⟨ua, uc, rfl, _⟩ := id hu
  rw [toI_length] at q0 hu
  obtain ⟨ub, uo, rfl, huc⟩ := hu.at_ Upd.refl (by omega)
  have hx0 := List.getElem?_eq_getElem (l := ch) (i := 0) (by omega)
  generalize ch[0]'(by omega) = x0 at hx0
  have q1 : w8.cell? ⟨ub, uo, none⟩ = some (.int .i64 (x0 : Int)) := huc 0 _ (toI_get hx0)
  by_cases hi0 : i = 0
  case' pos => simp (config := { maxSteps := 3000000 }) (disch := omega) only [push_cast, Nat.reduceBEq, Nat.reduceEqDiff, Nat.reduceAdd, Nat.reduceMul, Nat.reduceSub, Nat.reduceLT, Int.reduceToNat, Int.reduceLT, Int.reduceLE, Int.reduceEq, Int.reduceAdd, Int.reduceSub, Int.reduceNeg, Int.reduceMul, q0, q1]
  case' neg =>
    have hpi := List.getElem?_eq_getElem (l := css) (i := i - 1) (by omega)
    generalize css[i - 1]'(by omega) = ch1 at hpi
    have hne1 := hcov.ne (i - 1) ch1 hpi
    obtain ⟨u1, q2, hu1⟩ := hlc (i - 1) ch1 hpi
    obtain ⟨ua1, uc1, rfl, _⟩ := id hu1
    rw [toI_length] at q2 hu1
    obtain ⟨ub1, uo1, rfl, huc1⟩ := hu1.at_ Upd.refl (by omega)
    have hx1 := List.getElem?_eq_getElem (l := ch1) (i := 0) (by omega)
    generalize ch1[0]'(by omega) = x1 at hx1
    have q3 : w8.cell? ⟨ub1, uo1, none⟩ = some (.int .i64 (x1 : Int)) := huc1 0 _ (toI_get hx1)
    have hlt := hcov.up (i - 1) ch1 ch x1 x0 hpi (by rw [show i - 1 + 1 = i from by omega]; exact hci) hx1 hx0
    have q2 : w8.cell? ⟨lb, lo + ((i : Int) - 1).toNat, none⟩ = some (.slice (some ⟨ub1, uo1, none⟩) ch1.length uc1) := by
      rw [show ((i : Int) - 1).toNat = i - 1 from by omega]
      exact q2
    simp (config := { maxSteps := 3000000 }) (disch := omega) only [push_cast, Nat.reduceBEq, Nat.reduceEqDiff, Nat.reduceAdd, Nat.reduceMul, Nat.reduceSub, Nat.reduceLT, Int.reduceToNat, Int.reduceLT, Int.reduceLE, Int.reduceEq, Int.reduceAdd, Int.reduceSub, Int.reduceNeg, Int.reduceMul, q0, q1, q2, q3]
  all_goals
    clear q0 q1 huc hlc hu
    refine loop_inv (I := fun k st w' => Bx (∃ j L, k + j = ch.length ∧ L = (css.take i).flatten ++ ch.take j ∧ st = [.int .i64 (L.length : Nat), .int .i64 (j : Int)] ∧ Upd (fun _ => False) w5 w' ∧ Blk w' w6.heap.size (bL m fun x => L.contains x) 4) ⟨⟩) ?_ ch.length
      ⟨0, L, rfl, by simp [hL], rfl, hu8.drew', hb8.drew⟩
    rintro k2 st w9 ⟨j, L2, hkj, hL2, rfl, hu9, hb9⟩
    obtain ⟨lb2, lo2, hlbe, hlc⟩ := hcs5.at_ hu9 (by omega)
    injection hlbe with hlbe
    injection hlbe with hlbe1 hlbe2
    subst hlbe1
    subst hlbe2
    obtain ⟨u, q0, hu⟩ := hlc i ch hci
    obtain ⟨ua, uc, rfl, _⟩ := id hu
    rw [toI_length] at q0 hu
    by_cases hk2 : k2 = 0
    · obtain rfl : j = ch.length := by omega
      simp (disch := omega) only [push_cast, Nat.reduceBEq, Nat.reduceEqDiff, Nat.reduceAdd, Nat.reduceMul, Nat.reduceSub, Nat.reduceLT, Int.reduceToNat, Int.reduceLT, Int.reduceLE, Int.reduceEq, Int.reduceAdd, Int.reduceSub, Int.reduceNeg, Int.reduceMul, q0]
      exact ⟨k - 1, by omega, i + 1, L2, by omega, by rw [hL2]; exact (take_flat hci).symm, by simp, hu9, hb9⟩
    have hj : j < ch.length := by omega
    obtain ⟨ub, uo, rfl, huc⟩ := hu.at_ Upd.refl (by omega)
    have hxj := List.getElem?_eq_getElem (l := ch) (i := j) hj
    generalize ch[j] = x at hxj
    have hxm := hcov.lt i ch hci j x hxj
    have q1 := huc j _ (toI_get hxj)
    obtain ⟨rr, hr⟩ := flat_at hci hxj
    rw [← hL2] at hr
    have hnd := hcov.nodup
    have hall2 := hcov.all
    rw [hr] at hnd hall2
    have hLlt : L2.length < m := by
      rw [List.length_append, List.length_cons] at hall2
      omega
    have hj64 : j < 64 := by
      rw [hL2, List.length_append, List.length_take] at hLlt
      omega
    have hxL : L2.contains x = false := by
      rw [← Bool.not_eq_true, List.contains_iff_mem]
      intro hmem
      exact (List.nodup_append.1 hnd).2.2 x hmem x List.mem_cons_self rfl
    have c1 : (bL m fun x => L2.contains x)[x]? = some (.bool false) := by rw [bL_get hxm, hxL]
    have hset := hb9.set x (.bool true)
    rw [bL_set] at hset
    have hsete : (bL m fun y => if y = x then true else L2.contains y) = bL m fun y => (L2 ++ [x]).contains y := by
      congr 1
      funext y
      by_cases e : y = x
      · subst e; simp
      · rw [if_neg e]
        simp [e]
    rw [hsete] at hset
    have hend : L2 ++ [x] = (css.take i).flatten ++ ch.take (j + 1) := by
      rw [hL2, List.take_add_one, hxj]
      simp
    by_cases hj0 : j = 0
    · simp (config := { maxSteps := 3000000 }) (disch := omega) only [push_cast, Nat.reduceBEq, Nat.reduceEqDiff, Nat.reduceAdd, Nat.reduceMul, Nat.reduceSub, Nat.reduceLT, Int.reduceToNat, Int.reduceLT, Int.reduceLE, Int.reduceEq, Int.reduceAdd, Int.reduceSub, Int.reduceNeg, Int.reduceMul, q0, q1, hb9.cell, hb9.free, c1]
      exact ⟨k2 - 1, by omega, j + 1, L2 ++ [x], by omega, hend, by simp, hu9.setNew hs6, hset⟩
    · have hyj := List.getElem?_eq_getElem (l := ch) (i := j - 1) (by omega)
      generalize ch[j - 1]'(by omega) = y at hyj
      have hym := hcov.lt i ch hci _ y hyj
      have hR := hcov.step i ch hci (j - 1) y x hyj (by rw [show j - 1 + 1 = j from by omega]; exact hxj)
      have q4 : w9.cell? ⟨ub, uo + ((j : Int) - 1).toNat, none⟩ = some (.int .i64 (y : Int)) := by
        rw [show ((j : Int) - 1).toNat = j - 1 from by omega]
        exact huc _ _ (toI_get hyj)
      simp (config := { maxSteps := 3000000 }) (disch := omega) only [push_cast, Nat.reduceBEq, Nat.reduceEqDiff, Nat.reduceAdd, Nat.reduceMul, Nat.reduceSub, Nat.reduceLT, Int.reduceToNat, Int.reduceLT, Int.reduceLE, Int.reduceEq, Int.reduceAdd, Int.reduceSub, Int.reduceNeg, Int.reduceMul, q0, q1, hb9.cell, hb9.free, c1, q4]
      refine Ok.use (has_ok y x (hp.upd hu9) (by omega)) ?_
      rintro v1 w10 ⟨rfl, hu10⟩
      rw [has_pairs hym hxm, hR]
      have hb10 := hb9.upd hu10 (fun h => h)
      have hset10 := hset
      have hset := hb10.set x (.bool true)
      rw [bL_set, hsete] at hset
      simp (config := { maxSteps := 3000000 }) (disch := omega) only [push_cast, Nat.reduceBEq, Nat.reduceEqDiff, Nat.reduceAdd, Nat.reduceMul, Nat.reduceSub, Nat.reduceLT, Int.reduceToNat, Int.reduceLT, Int.reduceLE, Int.reduceEq, Int.reduceAdd, Int.reduceSub, Int.reduceNeg, Int.reduceMul, hb10.cell, hb10.free, c1]
      exact ⟨k2 - 1, by omega, j + 1, L2 ++ [x], by omega, hend, by simp, (hu9.trans hu10 (F := fun _ => False) (fun _ _ h => h)).setNew hs6, hset⟩
theorem orderDilworth_law {w : World} (n : Int) (_ : (Lit.int .i64 n).wf = true) {v : Value} (h : ∃ l, SlP w v l) :
    Ok (den Try.prog 9 #[.int .i64 n, v] w) fun u w' => u = .bool true ∧ Upd (fun _ => False) w w' := by
  obtain ⟨l, h⟩ := h
  exact orderDilworth_ok n h
end Go.Proofs.Ytfjccccfkpgmgaa.Fd
