/-
  The specification's Check, Less, Acyclic, Pairs; the laws' fault.
-/
import Derived.Test.YtfjccccfkpgmgaaOr4
namespace Go.Proofs.Ytfjccccfkpgmgaa.Fd
set_option linter.unusedSimpArgs false
set_option linter.unusedVariables false
open Go
set_option maxRecDepth 100000

set_option maxHeartbeats 1000000 in
theorem rcheck_ok {w : World} (n : Int) {v : Value} {l : List Pr} (hv : SlP w v l) :
    Ok (den Try.prog 16 #[.int .i64 n, v] w) fun u w' => u = .int .i64 (chk n l) ∧ Upd (fun _ => False) w w' := by
  obtain ⟨a, c, rfl, hl⟩ := hv
  refine den_ok (args := [.int .i64 n, .slice a l.length c]) rs16 Try.func16 rfl mixed in16 ok16 rfl ?_
  by_cases h1 : n < 0
  · simp (disch := omega) only [push_cast, Nat.reduceBEq, Nat.reduceEqDiff, Nat.reduceAdd, Nat.reduceMul, Nat.reduceSub, Nat.reduceLT, Int.reduceToNat, Int.reduceLT, Int.reduceLE, Int.reduceEq, Int.reduceAdd, Int.reduceSub, Int.reduceNeg, Int.reduceMul]
    rw [chk, if_pos (.inl h1)]
    exact ⟨rfl, Upd.refl⟩
  by_cases h2 : 64 < n
  · simp (disch := omega) only [push_cast, Nat.reduceBEq, Nat.reduceEqDiff, Nat.reduceAdd, Nat.reduceMul, Nat.reduceSub, Nat.reduceLT, Int.reduceToNat, Int.reduceLT, Int.reduceLE, Int.reduceEq, Int.reduceAdd, Int.reduceSub, Int.reduceNeg, Int.reduceMul]
    rw [chk, if_pos (.inr h2)]
    exact ⟨rfl, Upd.refl⟩
  by_cases h3 : (4096 : Int) < l.length
  · simp (disch := omega) only [push_cast, Nat.reduceBEq, Nat.reduceEqDiff, Nat.reduceAdd, Nat.reduceMul, Nat.reduceSub, Nat.reduceLT, Int.reduceToNat, Int.reduceLT, Int.reduceLE, Int.reduceEq, Int.reduceAdd, Int.reduceSub, Int.reduceNeg, Int.reduceMul]
    rw [chk, if_neg (by omega), if_pos (by omega)]
    exact ⟨rfl, Upd.refl⟩
  have hc : chk n l = if l.all (inR n) then 0 else 5 := by rw [chk, if_neg (by omega), if_neg (by omega)]
  rw [hc]
  simp (disch := omega) only [push_cast, Nat.reduceBEq, Nat.reduceEqDiff, Nat.reduceAdd, Nat.reduceMul, Nat.reduceSub, Nat.reduceLT, Int.reduceToNat, Int.reduceLT, Int.reduceLE, Int.reduceEq, Int.reduceAdd, Int.reduceSub, Int.reduceNeg, Int.reduceMul]
  refine loop_inv (I := fun k st w' => Bx (∃ i, k + i = l.length ∧ st = [.int .i64 (i : Int)] ∧ Upd (fun _ => False) w w' ∧ ∀ j x, j < i → l[j]? = some x → inR n x = true) ⟨⟩) ?_ l.length ⟨0, rfl, rfl, Upd.refl, fun j x hj => by omega⟩
  rintro k st w' ⟨i, hki, rfl, hu, hin⟩
  by_cases hk0 : k = 0
  · simp (disch := omega) only [push_cast, Nat.reduceBEq, Nat.reduceEqDiff, Nat.reduceAdd, Nat.reduceMul, Nat.reduceSub, Nat.reduceLT, Int.reduceToNat, Int.reduceLT, Int.reduceLE, Int.reduceEq, Int.reduceAdd, Int.reduceSub, Int.reduceNeg, Int.reduceMul]
    rw [all_take hin (by omega)]
    exact ⟨rfl, hu⟩
  · have hi : i < l.length := by omega
    obtain ⟨b, o, rfl, hb, hcl⟩ := hl (by intro e; rw [e] at hi; simp at hi)
    obtain ⟨q0, q1⟩ := hcl i _ (List.getElem?_eq_getElem hi)
    have hx := List.getElem?_eq_getElem hi
    generalize l[i] = x at *
    obtain ⟨x0, x1⟩ := x
    simp only at q0 q1
    have bad : inR n (x0, x1) = false → l.all (inR n) = false := all_bad hx
    simp (disch := omega) only [push_cast, Nat.reduceBEq, Nat.reduceEqDiff, Nat.reduceAdd, Nat.reduceMul, Nat.reduceSub, Nat.reduceLT, Int.reduceToNat, Int.reduceLT, Int.reduceLE, Int.reduceEq, Int.reduceAdd, Int.reduceSub, Int.reduceNeg, Int.reduceMul]
    refine loop_inv (I := fun k2 st w' => Bx (∃ j : Nat, k2 + j = 2 ∧ st = [.int .i64 (j : Int)] ∧ Upd (fun _ => False) w w' ∧ (0 < j → 0 ≤ x0 ∧ x0 < n) ∧ (1 < j → 0 ≤ x1 ∧ x1 < n)) ⟨⟩) ?_ 2 ⟨0, rfl, rfl, hu, fun h => by omega, fun h => by omega⟩
    clear hu
    rintro k2 st w' ⟨j, hkj, rfl, hu, g0, g1⟩
    rw [← World.cell?_of_block (hu.block b hb (fun h => h))] at q0 q1
    by_cases j0 : j = 0
    · subst j0
      by_cases e1 : x0 < 0
      · simp (disch := omega) only [push_cast, Nat.reduceBEq, Nat.reduceEqDiff, Nat.reduceAdd, Nat.reduceMul, Nat.reduceSub, Nat.reduceLT, Int.reduceToNat, Int.reduceLT, Int.reduceLE, Int.reduceEq, Int.reduceAdd, Int.reduceSub, Int.reduceNeg, Int.reduceMul, q0, q1]
        rw [bad (by simp [inR]; omega)]
        exact ⟨rfl, hu⟩
      by_cases e2 : n ≤ x0
      · simp (disch := omega) only [push_cast, Nat.reduceBEq, Nat.reduceEqDiff, Nat.reduceAdd, Nat.reduceMul, Nat.reduceSub, Nat.reduceLT, Int.reduceToNat, Int.reduceLT, Int.reduceLE, Int.reduceEq, Int.reduceAdd, Int.reduceSub, Int.reduceNeg, Int.reduceMul, q0, q1]
        rw [bad (by simp [inR]; omega)]
        exact ⟨rfl, hu⟩
      simp (disch := omega) only [push_cast, Nat.reduceBEq, Nat.reduceEqDiff, Nat.reduceAdd, Nat.reduceMul, Nat.reduceSub, Nat.reduceLT, Int.reduceToNat, Int.reduceLT, Int.reduceLE, Int.reduceEq, Int.reduceAdd, Int.reduceSub, Int.reduceNeg, Int.reduceMul, q0, q1]
      exact ⟨k2 - 1, by omega, 1, by omega, by simp, hu, fun _ => by omega, fun h => by omega⟩
    by_cases j1 : j = 1
    · subst j1
      by_cases e1 : x1 < 0
      · simp (disch := omega) only [push_cast, Nat.reduceBEq, Nat.reduceEqDiff, Nat.reduceAdd, Nat.reduceMul, Nat.reduceSub, Nat.reduceLT, Int.reduceToNat, Int.reduceLT, Int.reduceLE, Int.reduceEq, Int.reduceAdd, Int.reduceSub, Int.reduceNeg, Int.reduceMul, q0, q1]
        rw [bad (by simp [inR]; omega)]
        exact ⟨rfl, hu⟩
      by_cases e2 : n ≤ x1
      · simp (disch := omega) only [push_cast, Nat.reduceBEq, Nat.reduceEqDiff, Nat.reduceAdd, Nat.reduceMul, Nat.reduceSub, Nat.reduceLT, Int.reduceToNat, Int.reduceLT, Int.reduceLE, Int.reduceEq, Int.reduceAdd, Int.reduceSub, Int.reduceNeg, Int.reduceMul, q0, q1]
        rw [bad (by simp [inR]; omega)]
        exact ⟨rfl, hu⟩
      simp (disch := omega) only [push_cast, Nat.reduceBEq, Nat.reduceEqDiff, Nat.reduceAdd, Nat.reduceMul, Nat.reduceSub, Nat.reduceLT, Int.reduceToNat, Int.reduceLT, Int.reduceLE, Int.reduceEq, Int.reduceAdd, Int.reduceSub, Int.reduceNeg, Int.reduceMul, q0, q1]
      exact ⟨k2 - 1, by omega, 2, by omega, by simp, hu, fun _ => g0 (by omega), fun _ => by omega⟩
    have j2 : j = 2 := by omega
    subst j2
    simp (disch := omega) only [push_cast, Nat.reduceBEq, Nat.reduceEqDiff, Nat.reduceAdd, Nat.reduceMul, Nat.reduceSub, Nat.reduceLT, Int.reduceToNat, Int.reduceLT, Int.reduceLE, Int.reduceEq, Int.reduceAdd, Int.reduceSub, Int.reduceNeg, Int.reduceMul]
    refine ⟨k - 1, by omega, i + 1, by omega, by simp, hu, fun j y hj hy => ?_⟩
    by_cases e : j = i
    · subst e
      rw [hx] at hy
      cases hy
      have := g0 (by omega)
      have := g1 (by omega)
      simp [inR]
      omega
    · exact hin j y (by omega) hy

/-! matrices of bools -/
def rowB (n : Nat) (f : Nat → Bool) : List Value := (List.range n).map fun b => .bool (f b)
theorem rowB_length {n : Nat} {f : Nat → Bool} : (rowB n f).length = n := by simp [rowB]
theorem rowB_get {n b : Nat} {f : Nat → Bool} (h : b < n) : (rowB n f)[b]? = some (.bool (f b)) := by simp [rowB, h]
theorem rowB_set {n b : Nat} {f : Nat → Bool} {x : Bool} : (rowB n f).set b (.bool x) = rowB n (fun i => if i = b then x else f i) := by
  apply List.ext_getElem?
  intro i
  rw [List.getElem?_set]
  by_cases h : b = i
  · subst h
    by_cases ha : b < n
    · simp [rowB, ha]
    · simp [rowB, ha]
  · rw [if_neg h]
    by_cases hi : i < n
    · rw [rowB_get hi, rowB_get hi, if_neg (Ne.symm h)]
    · simp [rowB, hi]
def BV (b n : Nat) : Value := .slice (some ⟨b, 0, none⟩) n n
/-- m rows of n bools, each in a block of its own, all of it new since lo. -/
structure MatB (lo : Nat) (w : World) (v : Value) (m n : Nat) (R : Rel) (bk : Nat → Nat) : Prop where
  own : w.ownsRow 0 46 1 v m ((List.range m).map fun i => BV (bk i) n)
  row : ∀ i, i < m → Blk w (bk i) (rowB n (R i)) 4 ∧ v.ownBlock ≠ some (bk i) ∧ lo ≤ bk i
  inj : ∀ i j, i < m → j < m → bk i = bk j → i = j
  lo : ∀ g, v.ownBlock = some g → lo ≤ g
def Mat (lo : Nat) (w : World) (v : Value) (m n : Nat) (R : Rel) : Prop := ∃ bk, MatB lo w v m n R bk
theorem Mat.upd {lo : Nat} {w w' : World} {v : Value} {m n : Nat} {R : Rel} (h : Mat lo w v m n R) (hu : Upd (fun _ => False) w w') : Mat lo w' v m n R := by
  obtain ⟨bk, h⟩ := h
  exact ⟨bk, ownsRow_upd h.own hu (fun _ _ h => h), fun i hi => ⟨(h.row i hi).1.upd hu (fun h => h), (h.row i hi).2⟩, h.inj, h.lo⟩
theorem Mat.congr {lo : Nat} {w : World} {v : Value} {m n : Nat} {R S : Rel} (h : Mat lo w v m n R) (he : ∀ a b, a < m → b < n → R a b = S a b) : Mat lo w v m n S := by
  obtain ⟨bk, h⟩ := h
  refine ⟨bk, h.own, fun i hi => ?_, h.inj, h.lo⟩
  have : rowB n (S i) = rowB n (R i) := by
    apply List.ext_getElem?
    intro b
    by_cases hb : b < n
    · rw [rowB_get hb, rowB_get hb, he i b hi hb]
    · simp [rowB, hb]
  rw [this]
  exact h.row i hi
theorem Mat.form {lo : Nat} {w : World} {v : Value} {m n : Nat} {R : Rel} (h : Mat lo w v m n R) : ∃ a c, v = .slice a m c := by
  obtain ⟨bk, h⟩ := h
  exact own_slice h.own
/-- What a matrix offers to a reader and a writer. -/
theorem Mat.opened {lo : Nat} {w : World} {v : Value} {m n : Nat} {R : Rel} (h : Mat lo w v m n R) (hm : 0 < m) : ∃ (g cap : Nat) (bk : Nat → Nat), v = .slice (some ⟨g, 0, none⟩) m cap ∧ (∀ a, a < m → w.cell? ⟨g, a, none⟩ = some (.slice (some ⟨bk a, 0, none⟩) n n)) ∧
    (∀ a c, a < m → c < n → w.cell? ⟨bk a, c, none⟩ = some (.bool (R a c))) ∧ (∀ a o, a < m → w.frozen? ⟨bk a, o, none⟩ = false) ∧
    (∀ a c x, a < m → Mat lo (w.setCell ⟨bk a, c, none⟩ (.bool x)) v m n (fun i j => if i = a ∧ j = c then x else R i j)) ∧ ∀ a, a < m → lo ≤ bk a := by
  obtain ⟨bk, h⟩ := h
  have h0 := h.own
  obtain ⟨g, cap, hv, _, _⟩ := own_cell (s := 1) (f := fun i : Nat => [BV (bk i) n]) (fun _ => rfl) (l := List.range m) (E := 46) (v := v) (w := w) (by rw [flat_one, List.length_range]; exact h0) (j := 0) (x := 0) (by simp [hm])
  rw [List.length_range] at hv
  refine ⟨g, cap, bk, hv, fun a ha => ?_, fun a c ha hc => ?_, fun a o ha => (h.row a ha).1.free o, fun a c x ha => ⟨bk, ?_, ?_, h.inj, h.lo⟩, fun a ha => (h.row a ha).2.2⟩
  · obtain ⟨g', cap', hv', _, hc⟩ := own_cell (s := 1) (f := fun i : Nat => [BV (bk i) n]) (fun _ => rfl) (l := List.range m) (E := 46) (v := v) (w := w) (by rw [flat_one, List.length_range]; exact h0) (j := a) (x := a) (by simp [ha])
    rw [hv] at hv'
    injection hv' with e1 _ _
    injection e1 with e1
    injection e1 with e1
    subst e1
    have h1 := hc 0 (by omega)
    simpa [BV] using h1
  · rw [(h.row a ha).1.cell, rowB_get hc]
  · exact ownsRow_upd h.own (Upd.set (F := fun b => b = bk a) rfl) (fun g hg e => (h.row a ha).2.1 (by rw [← e]; exact hg))
  · intro i hi
    by_cases e : i = a
    · subst e
      refine ⟨?_, (h.row i hi).2⟩
      have := (h.row i hi).1.set c (.bool x)
      rw [rowB_set] at this
      simpa using this
    · refine ⟨?_, (h.row i hi).2⟩
      have := (h.row i hi).1.other (a := ⟨bk a, c, none⟩) (.bool x) (fun e2 => e (h.inj i a hi ha e2.symm))
      simpa [e] using this
theorem bsl_mat0 (w : World) : bslS Try.prog 35 0 #[] w = some (.slice (some ⟨w.heap.size, 0, none⟩) 0 0, w.alloc (.cells #[] 46 (0, 0))) := by kernel_rfl
theorem bsl_mat1 (b n : Nat) (w : World) : bslS Try.prog 35 1 #[(0, .slice (some ⟨b, 0, none⟩) n n)] w = some (.slice (some ⟨w.heap.size, 0, none⟩) 1 1, w.alloc (.cells [.slice (some ⟨b, 0, none⟩) n n].toArray 46 (0, 0))) := by kernel_rfl
attribute [push_cast] bsl_mat0 bsl_mat1

theorem rowB_false {n : Nat} : List.replicate n (Value.bool false) = rowB n fun _ => false := by
  rw [eq_comm, rowB, List.eq_replicate_iff]
  refine ⟨by simp, ?_⟩
  intro x hx
  obtain ⟨a, _, rfl⟩ := List.mem_map.1 hx
  rfl
/-- One more row of falses. -/
theorem app_row {lo : Nat} {w : World} {v : Value} {i n : Nat} (h : Mat lo w v i n (fun _ _ => false)) (hlo : lo ≤ w.heap.size) (hi : i < 1000) {ty : TypeId} {K : Value × World → Prop}
    (hk : ∀ v' w', Mat lo w' v' (i + 1) n (fun _ _ => false) → Upd (fun b => v.ownBlock = some b) w w' → K (v', w')) :
    Okk (appS Try.prog #[35, 35] ty v (.slice (some ⟨w.heap.size + 1, 0, none⟩) 1 1)
      ((w.alloc (.cells (List.replicate n (Value.bool false)).toArray 4 (0, 0))).alloc (.cells #[Value.slice (some ⟨w.heap.size, 0, none⟩) n n] 46 (0, 0)))) K := by
  obtain ⟨bk, h⟩ := h
  have hnew : Blk ((w.alloc (.cells (List.replicate n (Value.bool false)).toArray 4 (0, 0))).alloc (.cells #[Value.slice (some ⟨w.heap.size, 0, none⟩) n n] 46 (0, 0))) w.heap.size (rowB n fun _ => false) 4 := by
    rw [rowB_false]; exact Blk.new.alloc _
  have hn2 : ∀ {w1 : World}, w1.heap.size = w.heap.size + 1 → Blk (w1.alloc (.cells #[Value.slice (some ⟨w.heap.size, 0, none⟩) n n] 46 (0, 0))) (w.heap.size + 1) [Value.slice (some ⟨w.heap.size, 0, none⟩) n n] 46 := by
    intro w1 h; rw [← h]; exact Blk.new
  replace hn2 := hn2 (w1 := w.alloc (.cells (List.replicate n (Value.bool false)).toArray 4 (0, 0))) size_alloc
  have hu2 : Upd (fun _ => False) w ((w.alloc (.cells (List.replicate n (Value.bool false)).toArray 4 (0, 0))).alloc (.cells #[Value.slice (some ⟨w.heap.size, 0, none⟩) n n] 46 (0, 0))) := Upd.refl.alloc'.alloc'
  have hs2 : ((w.alloc (.cells (List.replicate n (Value.bool false)).toArray 4 (0, 0))).alloc (.cells #[Value.slice (some ⟨w.heap.size, 0, none⟩) n n] 46 (0, 0))).heap.size = w.heap.size + 2 := by rw [size_alloc, size_alloc]
  generalize (w.alloc (.cells (List.replicate n (Value.bool false)).toArray 4 (0, 0))).alloc (.cells #[Value.slice (some ⟨w.heap.size, 0, none⟩) n n] 46 (0, 0)) = w2 at *
  refine app_own (s := 1) (by_ := 24) (n := i) (m := 1) (news := [.slice (some ⟨w.heap.size, 0, none⟩) n n]) t35_e t46_s t46_b t46_z rfl (by omega) (ownsRow_upd h.own hu2 (fun _ _ h => h)) rfl ?_ ?_ (by omega) (by unfold maxLen; omega) ?_
  · intro q hq
    rw [Nat.zero_add]
    exact hn2.cell q
  · intro u hu
    simp at hu
    subst hu
    rfl
  intro v' w4 hown4 hg4 hfr
  have hu24 := Upd.grown (F := fun b => v.ownBlock = some b) hg4 (fun k hk => hk)
  have hold : ∀ g, v.ownBlock = some g → g < w.heap.size := fun g hg => (h.own.lt g hg).2
  refine hk v' w4 ⟨fun j => if j = i then w.heap.size else bk j, ?_, ?_, ?_, ?_⟩ ((hu2.mono (fun _ _ h => h.elim)).trans hu24 (fun _ _ h => h))
  · rw [List.range_succ, List.map_append]
    have e : (List.range i).map (fun j => BV (if j = i then w.heap.size else bk j) n) = (List.range i).map fun j => BV (bk j) n := by
      apply List.map_congr_left
      intro j hj
      have := List.mem_range.1 hj
      rw [if_neg (by omega)]
    rw [e]
    simpa [BV] using hown4
  · intro j hj
    by_cases e : j = i
    · subst e
      rw [if_pos rfl]
      refine ⟨hnew.upd hu24 (fun h => by have := hold _ h; omega), ?_, hlo⟩
      intro hv'
      rcases hfr with h | ⟨g', h, hge⟩
      · rw [h] at hv'; have := hold _ hv'; omega
      · rw [h] at hv'; injection hv' with hv'; omega
    · rw [if_neg e]
      obtain ⟨g1, g2, g3⟩ := h.row j (by omega)
      have hlt := g1.lt
      refine ⟨(g1.upd hu2 (fun h => h)).upd hu24 g2, ?_, g3⟩
      intro hv'
      rcases hfr with h | ⟨g', h, hge⟩
      · rw [h] at hv'; exact g2 hv'
      · rw [h] at hv'; injection hv' with hv'; omega
  · intro j1 j2 h1 h2 he
    by_cases e1 : j1 = i
    · by_cases e2 : j2 = i
      · omega
      · rw [if_pos e1, if_neg e2] at he
        have := (h.row j2 (by omega)).1.lt
        omega
    · by_cases e2 : j2 = i
      · rw [if_neg e1, if_pos e2] at he
        have := (h.row j1 (by omega)).1.lt
        omega
      · rw [if_neg e1, if_neg e2] at he
        exact h.inj j1 j2 (by omega) (by omega) he
  · intro g hg
    rcases hfr with h' | ⟨g', h', hge⟩
    · rw [h'] at hg; exact h.lo g hg
    · rw [h'] at hg; injection hg with hg; omega

set_option maxHeartbeats 4000000 in
theorem less_ok {w : World} {n : Nat} (hn : n ≤ 64) {v : Value} {l : List Pr} (hv : SlP w v l) (hall : l.all (inR n) = true) (h4 : l.length ≤ 4096) :
    Ok (den Try.prog 20 #[.int .i64 n, v] w) fun u w' => Mat w.heap.size w' u n n (less n l) ∧ Upd (fun _ => False) w w' := by
  obtain ⟨a, c, rfl, hl⟩ := hv
  refine den_ok (args := [.int .i64 n, .slice a l.length c]) rs20 Try.func20 rfl mixed in20 ok20 rfl ?_
  simp (disch := omega) only [push_cast, Nat.reduceBEq, Nat.reduceEqDiff, Nat.reduceAdd, Nat.reduceMul, Nat.reduceSub, Nat.reduceLT, Int.reduceToNat, Int.reduceLT, Int.reduceLE, Int.reduceEq, Int.reduceAdd, Int.reduceSub, Int.reduceNeg, Int.reduceMul]
  have hm0 : Mat w.heap.size (w.alloc (.cells #[] 46 (0, 0))) (.slice (some ⟨w.heap.size, 0, none⟩) 0 0) 0 n (fun _ _ => false) :=
    ⟨fun _ => 0, ⟨rfl, .inr ⟨w.heap.size, 0, #[], rfl, Nat.zero_le _, Blk.new (cs := []), Nat.le_refl _, Nat.zero_le _, rfl, rfl⟩⟩, fun i hi => by omega, fun i j hi => by omega, fun g hg => by simp [Value.ownBlock] at hg; omega⟩
  have hu0 : Upd (fun _ => False) w (w.alloc (.cells #[] 46 (0, 0))) := Upd.alloc
  refine loop_inv (I := fun k st w' => Bx (∃ i v, k + i = n ∧ st = [v, .int .i64 (i : Int)] ∧ Upd (fun _ => False) w w' ∧ Mat w.heap.size w' v i n (fun _ _ => false)) ⟨⟩) ?_ n ⟨0, _, rfl, rfl, hu0, hm0⟩
  clear hm0 hu0
  rintro k st w' ⟨i, v, hki, rfl, hu, hm⟩
  by_cases hk0 : k = 0
  rotate_left
  · obtain ⟨av, cv, rfl⟩ := hm.form
    have hlo : ∀ g, (Value.slice av i cv).ownBlock = some g → w.heap.size ≤ g := by obtain ⟨bk, hm⟩ := hm; exact hm.lo
    simp (disch := omega) only [push_cast, Nat.reduceBEq, Nat.reduceEqDiff, Nat.reduceAdd, Nat.reduceMul, Nat.reduceSub, Nat.reduceLT, Int.reduceToNat, Int.reduceLT, Int.reduceLE, Int.reduceEq, Int.reduceAdd, Int.reduceSub, Int.reduceNeg, Int.reduceMul]
    refine app_row hm hu.size (by omega) ?_
    intro v' w2 hm2 hu2
    simp (disch := omega) only [push_cast, Nat.reduceBEq, Nat.reduceEqDiff, Nat.reduceAdd, Nat.reduceMul, Nat.reduceSub, Nat.reduceLT, Int.reduceToNat, Int.reduceLT, Int.reduceLE, Int.reduceEq, Int.reduceAdd, Int.reduceSub, Int.reduceNeg, Int.reduceMul]
    exact ⟨k - 1, by omega, i + 1, v', by omega, by simp, hu.trans hu2 (fun b h1 h2 => by have := hlo b h2; omega), hm2⟩
  obtain rfl : i = n := by omega
  clear hki hk0
  simp (disch := omega) only [push_cast, Nat.reduceBEq, Nat.reduceEqDiff, Nat.reduceAdd, Nat.reduceMul, Nat.reduceSub, Nat.reduceLT, Int.reduceToNat, Int.reduceLT, Int.reduceLE, Int.reduceEq, Int.reduceAdd, Int.reduceSub, Int.reduceNeg, Int.reduceMul]
  refine loop_inv (I := fun k st w' => Bx (∃ j, k + j = l.length ∧ st = [.int .i64 (j : Int)] ∧ Upd (fun _ => False) w w' ∧ Mat w.heap.size w' v i i (relOf (l.take j))) ⟨⟩) ?_ l.length ⟨0, rfl, rfl, hu, hm.congr (fun a b _ _ => by simp [relOf])⟩
  clear hm hu
  rintro k1 st w' ⟨j, hkj, rfl, hu, hm⟩
  obtain ⟨av, cv, rfl⟩ := hm.form
  by_cases hk1 : k1 = 0
  rotate_left
  · have hi : j < l.length := by omega
    obtain ⟨b, o, rfl, hb, hcl⟩ := hl (by intro e; rw [e] at hi; simp at hi)
    obtain ⟨q0, q1⟩ := hcl j _ (List.getElem?_eq_getElem hi)
    rw [← World.cell?_of_block (hu.block b hb (fun h => h))] at q0 q1
    have hx := List.getElem?_eq_getElem hi
    have hxr : inR i l[j] = true := List.all_eq_true.1 hall _ (List.getElem_mem hi)
    generalize l[j] = x at *
    obtain ⟨p, q, rfl, hp, hq⟩ := inR_nat hxr
    simp only at q0 q1
    obtain ⟨g, cap, bk, hv, m1, m2, m3, m4, m5⟩ := hm.opened (by omega)
    injection hv with e1 e2 e3
    subst e1
    have c1 := m1 p hp
    have c2 := m2 p q hp hq
    have c3 := m3 p q hp
    simp (disch := omega) only [push_cast, Nat.reduceBEq, Nat.reduceEqDiff, Nat.reduceAdd, Nat.reduceMul, Nat.reduceSub, Nat.reduceLT, Int.reduceToNat, Int.reduceLT, Int.reduceLE, Int.reduceEq, Int.reduceAdd, Int.reduceSub, Int.reduceNeg, Int.reduceMul, q0, q1, c1, c2, c3]
    refine ⟨k1 - 1, by omega, j + 1, by omega, by simp, (hu.setNew (m5 p hp)).drew', ((m4 p q true hp).congr ?_).upd Upd.drew⟩
    intro a b _ _
    rw [relOf_take hx]
    by_cases e : a = p ∧ b = q
    · rw [if_pos e, e.1, e.2]; simp
    · rw [if_neg e, eq_comm, Bool.or_eq_left_iff_imp]
      simp
      omega
  obtain rfl : j = l.length := by omega
  rw [List.take_length] at hm
  clear hkj hk1
  simp (disch := omega) only [push_cast, Nat.reduceBEq, Nat.reduceEqDiff, Nat.reduceAdd, Nat.reduceMul, Nat.reduceSub, Nat.reduceLT, Int.reduceToNat, Int.reduceLT, Int.reduceLE, Int.reduceEq, Int.reduceAdd, Int.reduceSub, Int.reduceNeg, Int.reduceMul]
  refine loop_inv (I := fun k st w' => Bx (∃ x, k + x = i ∧ st = [.int .i64 (x : Int)] ∧ Upd (fun _ => False) w w' ∧ Mat w.heap.size w' (.slice av i cv) i i (clos x (relOf l))) ⟨⟩) ?_ i ⟨0, rfl, rfl, hu, hm⟩
  clear hm hu
  rintro k1 st w' ⟨x, hkx, rfl, hu, hm⟩
  by_cases hk1 : k1 = 0
  · obtain rfl : x = i := by omega
    simp (disch := omega) only [push_cast, Nat.reduceBEq, Nat.reduceEqDiff, Nat.reduceAdd, Nat.reduceMul, Nat.reduceSub, Nat.reduceLT, Int.reduceToNat, Int.reduceLT, Int.reduceLE, Int.reduceEq, Int.reduceAdd, Int.reduceSub, Int.reduceNeg, Int.reduceMul]
    exact ⟨hm, hu⟩
  have hx : x < i := by omega
  simp (disch := omega) only [push_cast, Nat.reduceBEq, Nat.reduceEqDiff, Nat.reduceAdd, Nat.reduceMul, Nat.reduceSub, Nat.reduceLT, Int.reduceToNat, Int.reduceLT, Int.reduceLE, Int.reduceEq, Int.reduceAdd, Int.reduceSub, Int.reduceNeg, Int.reduceMul]
  refine loop_inv (I := fun k st w' => Bx (∃ y, k + y = i ∧ st = [.int .i64 (y : Int)] ∧ Upd (fun _ => False) w w' ∧ Mat w.heap.size w' (.slice av i cv) i i (fun a b => if a < y then clos (x + 1) (relOf l) a b else clos x (relOf l) a b)) ⟨⟩) ?_ i ⟨0, rfl, rfl, hu, hm.congr (fun a b _ _ => by simp)⟩
  clear hm hu
  rintro k2 st w' ⟨y, hky, rfl, hu, hm⟩
  by_cases hk2 : k2 = 0
  · obtain rfl : y = i := by omega
    simp (disch := omega) only [push_cast, Nat.reduceBEq, Nat.reduceEqDiff, Nat.reduceAdd, Nat.reduceMul, Nat.reduceSub, Nat.reduceLT, Int.reduceToNat, Int.reduceLT, Int.reduceLE, Int.reduceEq, Int.reduceAdd, Int.reduceSub, Int.reduceNeg, Int.reduceMul]
    exact ⟨k1 - 1, by omega, x + 1, by omega, by simp, hu, hm.congr (fun a b ha _ => by rw [if_pos ha])⟩
  have hy : y < i := by omega
  simp (disch := omega) only [push_cast, Nat.reduceBEq, Nat.reduceEqDiff, Nat.reduceAdd, Nat.reduceMul, Nat.reduceSub, Nat.reduceLT, Int.reduceToNat, Int.reduceLT, Int.reduceLE, Int.reduceEq, Int.reduceAdd, Int.reduceSub, Int.reduceNeg, Int.reduceMul]
  refine loop_inv (I := fun k st w' => Bx (∃ z, k + z = i ∧ st = [.int .i64 (z : Int)] ∧ Upd (fun _ => False) w w' ∧ Mat w.heap.size w' (.slice av i cv) i i (fun a b => if a < y ∨ (a = y ∧ b < z) then clos (x + 1) (relOf l) a b else clos x (relOf l) a b)) ⟨⟩) ?_ i ⟨0, rfl, rfl, hu, hm.congr (fun a b _ _ => by simp)⟩
  clear hm hu
  rintro k3 st w' ⟨z, hkz, rfl, hu, hm⟩
  by_cases hk3 : k3 = 0
  · obtain rfl : z = i := by omega
    simp (disch := omega) only [push_cast, Nat.reduceBEq, Nat.reduceEqDiff, Nat.reduceAdd, Nat.reduceMul, Nat.reduceSub, Nat.reduceLT, Int.reduceToNat, Int.reduceLT, Int.reduceLE, Int.reduceEq, Int.reduceAdd, Int.reduceSub, Int.reduceNeg, Int.reduceMul]
    refine ⟨k2 - 1, by omega, y + 1, by omega, by simp, hu, hm.congr (fun a b ha hb => ?_)⟩
    by_cases e : a < y + 1
    · rw [if_pos e, if_pos (by omega)]
    · rw [if_neg e, if_neg (by omega)]
  have hz : z < i := by omega
  obtain ⟨g, cap, bk, hv, m1, m2, m3, m4, m5⟩ := hm.opened (by omega)
  injection hv with e1 e2 e3
  subst e1
  have c1 := m1 y hy
  have c2 := m1 x hx
  have c3 := m2 y x hy hx
  have c4 := m2 x z hx hz
  have c5 := m2 y z hy hz
  have c6 := m3 y z hy
  have h3 : (if y < y ∨ (y = y ∧ x < z) then clos (x + 1) (relOf l) y x else clos x (relOf l) y x) = clos x (relOf l) y x := by
    split
    · show (clos x (relOf l) y x || (clos x (relOf l) y x && clos x (relOf l) x x)) = _
      cases clos x (relOf l) y x <;> rfl
    · rfl
  have h5 : (if x < y ∨ (x = y ∧ z < z) then clos (x + 1) (relOf l) x z else clos x (relOf l) x z) = clos x (relOf l) x z := by
    split
    · exact wstep_row
    · rfl
  rw [h3] at c3
  rw [h5] at c4
  have hs : clos (x + 1) (relOf l) y z = (clos x (relOf l) y z || (clos x (relOf l) y x && clos x (relOf l) x z)) := rfl
  have keep : (clos x (relOf l) y x && clos x (relOf l) x z) = false → Mat w.heap.size w' (.slice (some ⟨g, 0, none⟩) i cv) i i (fun a b => if a < y ∨ (a = y ∧ b < z + 1) then clos (x + 1) (relOf l) a b else clos x (relOf l) a b) := by
    intro h0
    refine hm.congr fun a b _ _ => ?_
    by_cases e : a = y ∧ b = z
    · obtain ⟨rfl, rfl⟩ := e
      rw [if_neg (by omega), if_pos (by omega), hs, h0, Bool.or_false]
    · by_cases e2 : a < y ∨ (a = y ∧ b < z)
      · rw [if_pos e2, if_pos (by omega)]
      · rw [if_neg e2, if_neg (by omega)]
  cases d1 : clos x (relOf l) y x
  · rw [d1] at c3 keep
    simp (disch := omega) only [push_cast, Nat.reduceBEq, Nat.reduceEqDiff, Nat.reduceAdd, Nat.reduceMul, Nat.reduceSub, Nat.reduceLT, Int.reduceToNat, Int.reduceLT, Int.reduceLE, Int.reduceEq, Int.reduceAdd, Int.reduceSub, Int.reduceNeg, Int.reduceMul, c1, c2, c3, c4, c5, c6]
    exact ⟨k3 - 1, by omega, z + 1, by omega, by simp, hu, keep rfl⟩
  cases d2 : clos x (relOf l) x z
  · rw [d1] at c3 keep
    rw [d2] at c4 keep
    simp (disch := omega) only [push_cast, Nat.reduceBEq, Nat.reduceEqDiff, Nat.reduceAdd, Nat.reduceMul, Nat.reduceSub, Nat.reduceLT, Int.reduceToNat, Int.reduceLT, Int.reduceLE, Int.reduceEq, Int.reduceAdd, Int.reduceSub, Int.reduceNeg, Int.reduceMul, c1, c2, c3, c4, c5, c6]
    exact ⟨k3 - 1, by omega, z + 1, by omega, by simp, hu, keep rfl⟩
  rw [d1] at c3
  rw [d2] at c4
  simp (disch := omega) only [push_cast, Nat.reduceBEq, Nat.reduceEqDiff, Nat.reduceAdd, Nat.reduceMul, Nat.reduceSub, Nat.reduceLT, Int.reduceToNat, Int.reduceLT, Int.reduceLE, Int.reduceEq, Int.reduceAdd, Int.reduceSub, Int.reduceNeg, Int.reduceMul, c1, c2, c3, c4, c5, c6]
  refine ⟨k3 - 1, by omega, z + 1, by omega, by simp, hu.setNew (m5 y hy), (m4 y z true hy).congr fun a b _ _ => ?_⟩
  by_cases e : a = y ∧ b = z
  · obtain ⟨rfl, rfl⟩ := e
    rw [if_pos ⟨rfl, rfl⟩, if_pos (by omega), hs, d1, d2]
    simp
  · rw [if_neg e]
    by_cases e2 : a < y ∨ (a = y ∧ b < z)
    · rw [if_pos e2, if_pos (by omega)]
    · rw [if_neg e2, if_neg (by omega)]
end Go.Proofs.Ytfjccccfkpgmgaa.Fd
