/-
  The specification's pairwise and ascending.
-/
import Derived.Test.YtfjccccfkpgmgaaOrV
namespace Go.Proofs.Ytfjccccfkpgmgaa.Fd
set_option linter.unusedSimpArgs false
set_option linter.unusedVariables false
open Go
set_option maxRecDepth 100000

set_option maxHeartbeats 2000000 in
theorem pairwise_ok {w : World} {lo n : Nat} {v v2 : Value} {R : Rel} (hm : Mat lo w v n n R) (hn : n ≤ 64) {l : List Nat} (hl : SlI w v2 (toI l)) (hl12 : l.length ≤ 12) (hlt : ∀ x, x ∈ l → x < n) (wanted : Bool) :
    Ok (den Try.prog 47 #[v, v2, .bool wanted] w) fun u w' => (∃ q, u = .bool q ∧ (q = true ↔ l.Pairwise fun x y => (R x y || R y x) = wanted)) ∧ Upd (fun _ => False) w w' := by
  obtain ⟨av, cv, rfl⟩ := hm.form
  obtain ⟨la, lc, rfl, _⟩ := id hl
  rw [toI_length] at hl ⊢
  refine den_ok (args := [.slice av n cv, .slice la l.length lc, .bool wanted]) rs47 Try.func47 rfl mixed in47 ok47 rfl ?_
  simp (disch := omega) only [push_cast, Nat.reduceBEq, Nat.reduceEqDiff, Nat.reduceAdd, Nat.reduceMul, Nat.reduceSub, Nat.reduceLT, Int.reduceToNat, Int.reduceLT, Int.reduceLE, Int.reduceEq, Int.reduceAdd, Int.reduceSub, Int.reduceNeg, Int.reduceMul]
  refine loop_inv (I := fun k st w' => Bx (∃ i, k + i = l.length ∧ st = [.int .i64 (i : Int)] ∧ Upd (fun _ => False) w w' ∧ ∀ (p q x y : Nat), p < i → p < q → l[p]? = some x → l[q]? = some y → (R x y || R y x) = wanted) ⟨⟩) ?_ l.length ⟨0, rfl, rfl, Upd.refl, fun p q x y hp => by omega⟩
  rintro k st w' ⟨i, hki, rfl, hu, hin⟩
  by_cases hk0 : k = 0
  · simp (disch := omega) only [push_cast, Nat.reduceBEq, Nat.reduceEqDiff, Nat.reduceAdd, Nat.reduceMul, Nat.reduceSub, Nat.reduceLT, Int.reduceToNat, Int.reduceLT, Int.reduceLE, Int.reduceEq, Int.reduceAdd, Int.reduceSub, Int.reduceNeg, Int.reduceMul]
    refine ⟨⟨true, rfl, ?_⟩, hu⟩
    refine iff_of_true rfl ?_
    rw [List.pairwise_iff_getElem]
    intro p q hp hq hpq
    exact hin p q _ _ (by omega) hpq (List.getElem?_eq_getElem hp) (List.getElem?_eq_getElem hq)
  have hi : i < l.length := by omega
  have hx := List.getElem?_eq_getElem hi
  have hxm := List.getElem_mem hi
  generalize l[i] = x at hx hxm
  have hxn := hlt x hxm
  simp (disch := omega) only [push_cast, Nat.reduceBEq, Nat.reduceEqDiff, Nat.reduceAdd, Nat.reduceMul, Nat.reduceSub, Nat.reduceLT, Int.reduceToNat, Int.reduceLT, Int.reduceLE, Int.reduceEq, Int.reduceAdd, Int.reduceSub, Int.reduceNeg, Int.reduceMul]
  refine loop_inv (I := fun k2 st w' => Bx (∃ j, k2 + j = l.length ∧ i + 1 ≤ j ∧ st = [.int .i64 (j : Int)] ∧ Upd (fun _ => False) w w' ∧ ∀ (q y : Nat), i < q → q < j → l[q]? = some y → (R x y || R y x) = wanted) ⟨⟩) ?_ (l.length - i - 1)
    ⟨i + 1, by omega, Nat.le_refl _, by simp, hu, fun q y h1 h2 => by omega⟩
  clear hu
  rintro k2 st w' ⟨j, hkj, hij, rfl, hu, hin2⟩
  by_cases hk2 : k2 = 0
  · obtain rfl : j = l.length := by omega
    simp (disch := omega) only [push_cast, Nat.reduceBEq, Nat.reduceEqDiff, Nat.reduceAdd, Nat.reduceMul, Nat.reduceSub, Nat.reduceLT, Int.reduceToNat, Int.reduceLT, Int.reduceLE, Int.reduceEq, Int.reduceAdd, Int.reduceSub, Int.reduceNeg, Int.reduceMul]
    refine ⟨k - 1, by omega, i + 1, by omega, by simp, hu, fun p q y z hp hpq hy hz => ?_⟩
    by_cases e : p = i
    · subst e
      rw [hx] at hy
      cases hy
      exact hin2 q z hpq ((List.getElem?_eq_some_iff.1 hz).1) hz
    · exact hin p q y z (by omega) hpq hy hz
  have hj : j < l.length := by omega
  have hy := List.getElem?_eq_getElem hj
  have hym := List.getElem_mem hj
  generalize l[j] = y at hy hym
  have hyn := hlt y hym
  obtain ⟨g, cap, bk, hv, m1, m2, _, _, _⟩ := (hm.upd hu).opened (by omega)
  injection hv with e1 e2 e3
  subst e1
  obtain ⟨lb, lo', rfl, hll⟩ := hl.at_ hu (by omega)
  have q0 := hll i _ (toI_get hx)
  have q1 := hll j _ (toI_get hy)
  have c1 := m1 x hxn
  have c2 := m2 x y hxn hyn
  have c3 := m1 y hyn
  have c4 := m2 y x hyn hxn
  have key : ∀ q, (R x y || R y x) = q → (q = wanted → (∀ (q y : Nat), i < q → q < j + 1 → l[q]? = some y → (R x y || R y x) = wanted)) ∧ (q ≠ wanted → ¬ l.Pairwise fun x y => (R x y || R y x) = wanted) := by
    intro q hq
    refine ⟨fun hw p z h1 h2 hz => ?_, fun hw hp => ?_⟩
    · by_cases e : p = j
      · subst e
        rw [hy] at hz
        cases hz
        rw [hq]; exact hw
      · exact hin2 p z h1 (by omega) hz
    · have := List.pairwise_iff_getElem.1 hp i j hi hj (by omega)
      rw [(List.getElem?_eq_some_iff.1 hx).2, (List.getElem?_eq_some_iff.1 hy).2, hq] at this
      exact hw this
  cases h1 : R x y <;> cases h2 : R y x <;> cases wanted <;> rw [h1] at c2 <;> rw [h2] at c4 <;> rw [h1, h2] at key <;> simp only [Bool.or_false, Bool.or_true, Bool.or_self] at key <;> simp (config := { maxSteps := 3000000 }) (disch := omega) only [push_cast, Nat.reduceBEq, Nat.reduceEqDiff, Nat.reduceAdd, Nat.reduceMul, Nat.reduceSub, Nat.reduceLT, Int.reduceToNat, Int.reduceLT, Int.reduceLE, Int.reduceEq, Int.reduceAdd, Int.reduceSub, Int.reduceNeg, Int.reduceMul, q0, q1, c1, c2, c3, c4]
  all_goals first
    | exact ⟨⟨false, rfl, iff_of_false (by simp) ((key _ rfl).2 (by simp))⟩, hu⟩
    | exact ⟨k2 - 1, by omega, j + 1, by omega, by omega, by simp, hu, (key _ rfl).1 rfl⟩
    | exact ⟨k2 - 1, by omega, j + 1, by omega, by omega, by simp, hu.drew', (key _ rfl).1 rfl⟩
    | exact ⟨⟨false, rfl, iff_of_false (by simp) ((key _ rfl).2 (by simp))⟩, hu.drew'⟩

def posR (R : Rel) (l : List Nat) (x : Nat) : Nat := l.countP fun y => R y x
theorem countP_lt' {α : Type} {p q : α → Bool} : ∀ {l : List α} {x : α}, (∀ a, a ∈ l → p a = true → q a = true) → x ∈ l → p x = false → q x = true → l.countP p < l.countP q
  | a :: l, x, h, hx, h1, h2 => by
    rw [List.countP_cons, List.countP_cons]
    have hmono : l.countP p ≤ l.countP q := List.countP_mono_left fun a ha => h a (List.mem_cons_of_mem _ ha)
    rcases List.mem_cons.1 hx with rfl | hx
    · rw [h1, h2]
      simp
      omega
    · have := countP_lt' (l := l) (fun a ha => h a (List.mem_cons_of_mem _ ha)) hx h1 h2
      by_cases hp : p a = true
      · rw [hp, h a List.mem_cons_self hp]
        simp
        omega
      · have hp : p a = false := by simpa using hp
        rw [hp]
        simp
        split <;> omega
theorem posR_lt {R : Rel} {l : List Nat} {x : Nat} (hir : ∀ a, R a a = false) (hx : x ∈ l) : posR R l x < l.length := by
  have h1 : l.countP (fun _ => true) = l.length := by simp
  rw [← h1]
  exact countP_lt' (fun _ _ _ => rfl) hx (hir x) rfl
theorem posR_mono {R : Rel} {l : List Nat} {x y : Nat} (hir : ∀ a, R a a = false) (htr : ∀ a b c, R a c = true → R c b = true → R a b = true) (hx : x ∈ l) (h : R x y = true) : posR R l x < posR R l y :=
  countP_lt' (fun a _ ha => htr _ _ _ ha h) hx (hir x) h
/-- A list whose elements can be compared, laid out by their places. -/
theorem asc_list {n : Nat} {R : Rel} {l : List Nat} {g : Nat → Nat} (hir : ∀ a, R a a = false) (htr : ∀ a b c, R a c = true → R c b = true → R a b = true) (hnd : l.Nodup) (hlt : ∀ x, x ∈ l → x < n)
    (hp : l.Pairwise fun x y => (R x y || R y x) = true) (hg : ∀ x, x ∈ l → g (posR R l x) = x) : ∃ c, c = (List.range l.length).map g ∧ Good true n R c ∧ ∀ x, x ∈ c ↔ x ∈ l := by
  have hcmp : ∀ x y, x ∈ l → y ∈ l → x ≠ y → R x y = true ∨ R y x = true := by
    intro x y hx hy hne
    obtain ⟨i, hi⟩ := List.mem_iff_getElem?.1 hx
    obtain ⟨j, hj⟩ := List.mem_iff_getElem?.1 hy
    obtain ⟨h1, h2⟩ := List.getElem?_eq_some_iff.1 hi
    obtain ⟨h3, h4⟩ := List.getElem?_eq_some_iff.1 hj
    rcases Nat.lt_trichotomy i j with h | h | h
    · have := List.pairwise_iff_getElem.1 hp i j h1 h3 h
      rw [h2, h4, Bool.or_eq_true] at this
      exact this
    · subst h
      rw [hi] at hj
      cases hj
      exact absurd rfl hne
    · have := List.pairwise_iff_getElem.1 hp j i h3 h1 h
      rw [h2, h4, Bool.or_eq_true] at this
      exact this.symm
  have hinj : ∀ x y, x ∈ l → y ∈ l → posR R l x = posR R l y → x = y := by
    intro x y hx hy h
    rw [← hg x hx, h, hg y hy]
  have hsur : ∀ p, p < l.length → ∃ x, x ∈ l ∧ posR R l x = p := by
    intro p hpl
    refine Classical.byContradiction fun hno => ?_
    have h1 : (p :: l.map (posR R l)).Nodup := by
      rw [List.nodup_cons]
      refine ⟨fun h => ?_, ?_⟩
      · obtain ⟨x, hx, h⟩ := List.mem_map.1 h
        exact hno ⟨x, hx, h⟩
      · rw [List.Nodup, List.pairwise_map]
        refine hnd.imp_of_mem ?_
        intro a b ha hb hab h
        exact hab (hinj a b ha hb h)
    have h2 := nodup_sub h1 (m := List.range l.length) fun x hx => by
      rw [List.mem_range]
      rcases List.mem_cons.1 hx with rfl | hx
      · exact hpl
      · obtain ⟨y, hy, rfl⟩ := List.mem_map.1 hx
        exact posR_lt hir hy
    simp at h2
    omega
  have hmem : ∀ x, x ∈ (List.range l.length).map g ↔ x ∈ l := by
    intro x
    rw [List.mem_map]
    constructor
    · rintro ⟨p, hp2, rfl⟩
      obtain ⟨y, hy, rfl⟩ := hsur p (List.mem_range.1 hp2)
      rw [hg y hy]; exact hy
    · intro hx
      exact ⟨posR R l x, List.mem_range.2 (posR_lt hir hx), hg x hx⟩
  refine ⟨_, rfl, ⟨fun x hx => hlt x ((hmem x).1 hx), ?_, by simp⟩, hmem⟩
  rw [List.pairwise_map]
  refine List.pairwise_lt_range.imp_of_mem ?_
  intro p q hp2 hq hpq
  obtain ⟨x, hx, rfl⟩ := hsur p (List.mem_range.1 hp2)
  obtain ⟨y, hy, rfl⟩ := hsur q (List.mem_range.1 hq)
  simp only [if_true]
  rw [hg x hx, hg y hy]
  rcases hcmp x y hx hy (fun e => by subst e; omega) with h | h
  · exact h
  · have := posR_mono (l := l) hir htr hy h
    omega
theorem countP_take {p : Nat → Bool} {l : List Nat} {j x : Nat} (hx : l[j]? = some x) : (l.take (j + 1)).countP p = (l.take j).countP p + if p x then 1 else 0 := by
  rw [List.take_add_one, hx, List.countP_append]
  simp [List.countP_cons]
set_option maxHeartbeats 1000000 in
theorem ascending_ok {w : World} {lo n : Nat} {v v2 : Value} {R : Rel} (hm : Mat lo w v n n R) (hn : n ≤ 64) {l : List Nat} (hl : SlI w v2 (toI l)) (hl12 : l.length ≤ 12) (hlt : ∀ x, x ∈ l → x < n)
    (hir : ∀ a, R a a = false) (htr : ∀ a b c, R a c = true → R c b = true → R a b = true) (hnd : l.Nodup) (hp : l.Pairwise fun x y => (R x y || R y x) = true) :
    Ok (den Try.prog 48 #[v, v2] w) fun u w' => (∃ c, SlI w' u (toI c) ∧ Good true n R c ∧ ∀ x, x ∈ c ↔ x ∈ l) ∧ Upd (fun _ => False) w w' := by
  obtain ⟨av, cv, rfl⟩ := hm.form
  obtain ⟨la, lc, rfl, _⟩ := id hl
  rw [toI_length] at hl ⊢
  refine den_ok (args := [.slice av n cv, .slice la l.length lc]) rs48 Try.func48 rfl mixed in48 ok48 rfl ?_
  simp (disch := omega) only [push_cast, Nat.reduceBEq, Nat.reduceEqDiff, Nat.reduceAdd, Nat.reduceMul, Nat.reduceSub, Nat.reduceLT, Int.reduceToNat, Int.reduceLT, Int.reduceLE, Int.reduceEq, Int.reduceAdd, Int.reduceSub, Int.reduceNeg, Int.reduceMul, atL_zero]
  have hb0 : Blk (w.alloc (.cells (atL l.length fun _ => 0).toArray 3 (0, 0))) w.heap.size (atL l.length fun x => (((fun _ => 0 : Nat → Nat) x : Nat) : Int)) 3 := Blk.new
  have hu0 : Upd (fun _ => False) w (w.alloc (.cells (atL l.length fun _ => 0).toArray 3 (0, 0))) := Upd.alloc
  have hnd' : ∀ {i j x : Nat}, l[i]? = some x → l[j]? = some x → i = j := by
    intro i j x h1 h2
    obtain ⟨h3, h4⟩ := List.getElem?_eq_some_iff.1 h1
    obtain ⟨h5, h6⟩ := List.getElem?_eq_some_iff.1 h2
    rcases Nat.lt_trichotomy i j with g | g | g
    · exact absurd (h4.trans h6.symm) (List.pairwise_iff_getElem.1 hnd i j h3 h5 g)
    · exact g
    · exact absurd (h6.trans h4.symm) (List.pairwise_iff_getElem.1 hnd j i h5 h3 g)
  refine loop_inv (I := fun k st w' => Bx (∃ (i : Nat) (g : Nat → Nat), k + i = l.length ∧ st = [.int .i64 (i : Int)] ∧ Upd (fun _ => False) w w' ∧ Blk w' w.heap.size (atL l.length fun x => (g x : Int)) 3 ∧ ∀ p x, p < i → l[p]? = some x → g (posR R l x) = x) ⟨⟩) ?_ l.length
    ⟨0, fun _ => 0, rfl, rfl, hu0, hb0, fun p x hp => by omega⟩
  clear hu0 hb0
  rintro k st w' ⟨i, g, hki, rfl, hu, hb, hin⟩
  by_cases hk0 : k = 0
  · obtain rfl : i = l.length := by omega
    simp (disch := omega) only [push_cast, Nat.reduceBEq, Nat.reduceEqDiff, Nat.reduceAdd, Nat.reduceMul, Nat.reduceSub, Nat.reduceLT, Int.reduceToNat, Int.reduceLT, Int.reduceLE, Int.reduceEq, Int.reduceAdd, Int.reduceSub, Int.reduceNeg, Int.reduceMul]
    refine ⟨?_, hu⟩
    obtain ⟨c, hc, h1, h2⟩ := asc_list (n := n) (g := g) hir htr hnd hlt hp fun x hx => by
      obtain ⟨p, hp2⟩ := List.mem_iff_getElem?.1 hx
      exact hin p x (List.getElem?_eq_some_iff.1 hp2).1 hp2
    refine ⟨c, ?_, h1, h2⟩
    have hcl : c.length = l.length := by rw [hc]; simp
    refine ⟨some ⟨w.heap.size, 0, none⟩, l.length, by rw [toI_length, hcl], fun _ => ⟨_, 0, rfl, hb.lt, fun j x hx => ?_⟩⟩
    rw [hb.cell]
    have hj : j < l.length := by
      have := (List.getElem?_eq_some_iff.1 hx).1
      rw [toI_length, hcl] at this
      exact this
    rw [Nat.zero_add, atL_get hj]
    rw [hc] at hx
    unfold toI at hx
    rw [List.map_map, List.getElem?_map, List.getElem?_range hj] at hx
    simp at hx
    rw [hx]
  have hi : i < l.length := by omega
  have hx := List.getElem?_eq_getElem hi
  have hxm := List.getElem_mem hi
  generalize l[i] = x at hx hxm
  have hxn := hlt x hxm
  simp (disch := omega) only [push_cast, Nat.reduceBEq, Nat.reduceEqDiff, Nat.reduceAdd, Nat.reduceMul, Nat.reduceSub, Nat.reduceLT, Int.reduceToNat, Int.reduceLT, Int.reduceLE, Int.reduceEq, Int.reduceAdd, Int.reduceSub, Int.reduceNeg, Int.reduceMul]
  refine loop_inv (I := fun k2 st w' => Bx (∃ j, k2 + j = l.length ∧ st = [.int .i64 (((l.take j).countP fun y => R y x : Nat) : Int), .int .i64 (j : Int)] ∧ Upd (fun _ => False) w w' ∧ Blk w' w.heap.size (atL l.length fun x => (g x : Int)) 3) ⟨⟩) ?_ l.length
    ⟨0, rfl, by simp, hu, hb⟩
  clear hu hb
  rintro k2 st w' ⟨j, hkj, rfl, hu, hb⟩
  obtain ⟨lb, lo', rfl, hll⟩ := hl.at_ hu (by omega)
  have q0 := hll i _ (toI_get hx)
  by_cases hk2 : k2 = 0
  · obtain rfl : j = l.length := by omega
    rw [List.take_length]
    have hpl := posR_lt hir hxm
    have hset := hb.set (posR R l x) (.int .i64 (x : Int))
    rw [atL_set] at hset
    have hlb := hb.lt
    have hpe : posR R l x = l.countP fun y => R y x := rfl
    rw [← hpe]
    have c0 : (atL l.length fun x => (g x : Int))[posR R l x]? = some (.int .i64 (g (posR R l x) : Int)) := atL_get hpl
    simp (config := { maxSteps := 3000000 }) (disch := omega) only [push_cast, Nat.reduceBEq, Nat.reduceEqDiff, Nat.reduceAdd, Nat.reduceMul, Nat.reduceSub, Nat.reduceLT, Int.reduceToNat, Int.reduceLT, Int.reduceLE, Int.reduceEq, Int.reduceAdd, Int.reduceSub, Int.reduceNeg, Int.reduceMul, q0, hb.cell, hb.free, c0]
    refine ⟨k - 1, by omega, i + 1, fun y => if y = posR R l x then x else g y, by omega, by simp, hu.setNew (Nat.le_refl _), ?_, fun p y hp2 hy => ?_⟩
    · have e : (fun y => ((if y = posR R l x then x else g y : Nat) : Int)) = fun y => if y = posR R l x then (x : Int) else (g y : Int) := by
        funext y
        split <;> rfl
      rw [e]
      exact hset
    · dsimp only
      by_cases e : p = i
      · subst e
        rw [hx] at hy
        cases hy
        rw [if_pos rfl]
      · have hne : posR R l y ≠ posR R l x := by
          intro h
          have h1 := hin p y (by omega) hy
          have hcmp : y ≠ x := fun e2 => by subst e2; exact e (hnd' hy hx)
          obtain ⟨g1, g2⟩ := List.getElem?_eq_some_iff.1 hy
          obtain ⟨g3, g4⟩ := List.getElem?_eq_some_iff.1 hx
          have := List.pairwise_iff_getElem.1 hp p i g1 g3 (by omega)
          rw [g2, g4, Bool.or_eq_true] at this
          rcases this with h3 | h3
          · have := posR_mono (l := l) hir htr (List.mem_iff_getElem?.2 ⟨p, hy⟩) h3; omega
          · have := posR_mono (l := l) hir htr hxm h3; omega
        rw [if_neg hne]
        exact hin p y (by omega) hy
  have hj : j < l.length := by omega
  have hy := List.getElem?_eq_getElem hj
  have hym := List.getElem_mem hj
  generalize l[j] = y at hy hym
  have hyn := hlt y hym
  have q1 := hll j _ (toI_get hy)
  obtain ⟨gg, cap, bk, hv, m1, m2, _, _, _⟩ := (hm.upd hu).opened (by omega)
  injection hv with e1 e2 e3
  subst e1
  have c1 := m1 y hyn
  have c2 := m2 y x hyn hxn
  have hct := countP_take (p := fun y => R y x) hy
  have hcl : (l.take j).countP (fun y => R y x) ≤ j := by
    have h1 := List.countP_le_length (p := fun y => R y x) (l := l.take j)
    rw [List.length_take] at h1
    omega
  generalize (l.take j).countP (fun y => R y x) = q at *
  cases hR : R y x
  · rw [hR] at c2 hct
    simp (config := { maxSteps := 3000000 }) (disch := omega) only [push_cast, Nat.reduceBEq, Nat.reduceEqDiff, Nat.reduceAdd, Nat.reduceMul, Nat.reduceSub, Nat.reduceLT, Int.reduceToNat, Int.reduceLT, Int.reduceLE, Int.reduceEq, Int.reduceAdd, Int.reduceSub, Int.reduceNeg, Int.reduceMul, q0, q1, c1, c2]
    exact ⟨k2 - 1, by omega, j + 1, by omega, by rw [hct]; simp, hu.drew', hb.drew⟩
  · rw [hR] at c2 hct
    simp (config := { maxSteps := 3000000 }) (disch := omega) only [push_cast, Nat.reduceBEq, Nat.reduceEqDiff, Nat.reduceAdd, Nat.reduceMul, Nat.reduceSub, Nat.reduceLT, Int.reduceToNat, Int.reduceLT, Int.reduceLE, Int.reduceEq, Int.reduceAdd, Int.reduceSub, Int.reduceNeg, Int.reduceMul, q0, q1, c1, c2]
    exact ⟨k2 - 1, by omega, j + 1, by omega, by rw [hct]; simp, hu.drew', hb.drew⟩
end Go.Proofs.Ytfjccccfkpgmgaa.Fd
