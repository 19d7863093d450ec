/-
  A law's list of operations; what the operations do to a disk's sizes.
-/
import Derived.Test.YtdekhojafpkgfaaDk9
namespace Go.Proofs.Ytdekhojafpkgfaa.Fd
set_option linter.unusedSimpArgs false
set_option linter.unusedVariables false
open Go Go.ChangeMaps Go.ChangeShapes Go.WideShapes
set_option maxRecDepth 100000

/-- An operation at a place. -/
def OpAt (w : World) (b o : Nat) (x : OpS) : Prop := ∃ vb vk, w.cell? ⟨b, o, none⟩ = some (.int .i64 x.kind) ∧ w.cell? ⟨b, o + 1, none⟩ = some (.int .i64 x.at_) ∧ w.cell? ⟨b, o + 2, none⟩ = some vb ∧ w.cell? ⟨b, o + 3, none⟩ = some vk ∧
  SlB w (fun b => w.heap.size ≤ b) vb x.b ∧ SlT w (fun b => w.heap.size ≤ b) vk x.keep ∧ (Lit.int .i64 x.at_).wf = true
def SlO (w : World) (v : Value) (l : List OpS) : Prop := ∃ a c, v = .slice a l.length c ∧ (l ≠ [] → ∃ b o, a = some ⟨b, o, none⟩ ∧ b < w.heap.size ∧ ∀ j x, l[j]? = some x → OpAt w b (o + j * 4) x)

theorem choose_ops {n : Nat} {p : Nat → OpS → Prop} (h : ∀ i, i < n → ∃ x, p i x) : ∃ l : List OpS, l.length = n ∧ ∀ i x, l[i]? = some x → p i x := by
  induction n with
  | zero => exact ⟨[], rfl, by simp⟩
  | succ n ih =>
    obtain ⟨l, h1, h2⟩ := ih (fun i hi => h i (by omega))
    obtain ⟨x, hx⟩ := h n (by omega)
    refine ⟨l ++ [x], by simp [h1], fun i y hy => ?_⟩
    rcases Nat.lt_or_ge i n with hi | hi
    · rw [List.getElem?_append_left (by omega)] at hy
      exact h2 i y hy
    · rw [List.getElem?_append_right (by omega)] at hy
      have e : i = n := by
        have := (List.getElem?_eq_some_iff.1 hy).1
        simp at this
        omega
      subst e
      simp [h1] at hy
      subst hy
      exact hx

theorem open_ops {H : Type} {enc : TypeId × Value → H} {w : World} {v : Value} {r : Reach} {b0 : Nat} {d : DataW H} {ps : List MemPlace}
    (hval : Value.okWide Try.prog w r b0 22 v) (h : DataW.Trod enc Try.prog w 0 (fun _ => true) true 22 v d ps) : ∃ l, SlO w v l := by
  obtain ⟨a', l', c', rfl⟩ := Go.WideShapes.okWide_slice Try.underlying22 hval
  obtain ⟨n, h⟩ := h
  have c1 : Try.prog.cellsOf 37 = 4 := by kernel_rfl
  rcases Go.Deep.open_slice Try.underlying22 h with ⟨h1, _⟩ | ⟨a, len, cap, m, n', D, Pl, h1, _, hl, _, hm, _, hx⟩
  · have h1 : Value.slice a' l' c' = _ := (List.cons.inj (show [Value.slice a' l' c'] = _ from h1)).1
    exact ⟨[], none, 0, h1, fun h => absurd rfl h⟩
  · have h1 : Value.slice a' l' c' = _ := (List.cons.inj (show [Value.slice a' l' c'] = _ from h1)).1
    simp only [if_true] at hm
    subst hm
    rw [c1] at hx
    rcases Nat.eq_zero_or_pos len with h0 | h0
    · subst h0
      exact ⟨[], some a, m, h1, fun h => absurd rfl h⟩
    have ha : ∃ b o, a = ⟨b, o, none⟩ ∧ b < w.heap.size := by
      obtain ⟨cs, h2, _⟩ := hx 0 (by omega)
      obtain ⟨_, h3, h4⟩ := World.cells?_some h2
      have h5 := h4 0 (by omega)
      obtain ⟨b, o, e, hb, _⟩ := cells_add (n := 1) (a := a) (V := fun _ => cs[0]) (fun i hi => by
        obtain rfl : i = 0 := by omega
        have : (a.add (0 * 4)).add 0 = a.add 0 := rfl
        rw [← this, h5, List.getElem?_eq_getElem]) (by omega)
      exact ⟨b, o, e, hb⟩
    obtain ⟨b, o, rfl, hb⟩ := ha
    obtain ⟨l, hl1, hl2⟩ := choose_ops (n := len) (p := fun j x => OpAt w b (o + j * 4) x) (by
      intro j hj
      obtain ⟨cs, h2, h3⟩ := hx j (by omega)
      obtain ⟨_, h4, h5⟩ := World.cells?_some h2
      obtain ⟨y0, y1, y2, y3, n2, _, _, t0, t1, t2, t3⟩ := Go.Joins.trod_struct4 Try.underlying37 h3
      match cs, h4 with
      | [c0, c1, c2, c3], _ =>
        have e0 : Try.prog.cellsOf 3 = 1 := by kernel_rfl
        have e2 : Try.prog.cellsOf 32 = 1 := by kernel_rfl
        have e3 : Try.prog.cellsOf 35 = 1 := by kernel_rfl
        simp only [e0, e2, e3] at t0 t1 t2 t3
        obtain ⟨kind, g0, _, _⟩ := DataW.trod_int Try.underlying3 t0
        obtain ⟨at_, g1, _, g1w⟩ := DataW.trod_int Try.underlying3 t1
        have g0 : c0 = _ := (List.cons.inj (show [c0] = _ from g0)).1
        have g1 : c1 = _ := (List.cons.inj (show [c1] = _ from g1)).1
        obtain ⟨bs, hbs, _⟩ := bytes_at (v := c2) Try.underlying32 Try.underlying5 (by kernel_rfl) t2
        obtain ⟨ks, hks⟩ := bools_at (v := c3) Try.underlying35 Try.underlying4 (by kernel_rfl) t3
        have hc : ∀ i, i < 4 → w.cell? ⟨b, o + j * 4 + i, none⟩ = [c0, c1, c2, c3][i]? := by
          intro i hi
          rw [← h5 i hi]
          congr 1
          unfold Addr.add
          by_cases hj0 : j * 4 = 0
          · by_cases hi0 : i = 0
            · simp [hj0, hi0]
            · simp [hj0, hi0]
          · by_cases hi0 : i = 0
            · simp [hj0, hi0]
            · simp [hj0, hi0]
        exact ⟨⟨kind, at_, bs, ks⟩, c2, c3, by rw [← g0]; exact hc 0 (by omega), by rw [← g1]; exact hc 1 (by omega), hc 2 (by omega), hc 3 (by omega), hbs, hks, g1w⟩)
    exact ⟨l, _, _, by rw [hl1]; exact h1, fun _ => ⟨b, o, rfl, hb, fun j x hj => hl2 j x hj⟩⟩

theorem small_ok {w : World} (x y : Int) {a : Option Addr} {n c : Nat} :
    Ok (den Try.prog 10 #[.int .i64 x, .int .i64 y, .slice a n c] w) fun v w' => v = .bool (decide (1 ≤ x ∧ x ≤ 8 ∧ 16 ≤ y ∧ y ≤ 40 ∧ n ≤ 60)) ∧ w = w' := by
  refine den_ok (args := [.int .i64 x, .int .i64 y, .slice a n c]) rs10 Try.func10 rfl mixed in10 ok10 rfl ?_
  by_cases h1 : 1 ≤ x
  · by_cases h2 : x ≤ 8
    · by_cases h3 : 16 ≤ y
      · by_cases h4 : y ≤ 40
        · by_cases h5 : (n : Int) ≤ 60
          · simp (disch := omega) only [push_cast, Nat.reduceBEq, Nat.reduceEqDiff, Nat.reduceAdd, Nat.reduceMul, Nat.reduceSub, Nat.reduceLT, Int.reduceToNat, Int.reduceLT, Int.reduceLE, Int.reduceEq, Int.reduceAdd, Int.reduceSub, Int.reduceNeg, Int.reduceMul]
          · simp (disch := omega) only [push_cast, Nat.reduceBEq, Nat.reduceEqDiff, Nat.reduceAdd, Nat.reduceMul, Nat.reduceSub, Nat.reduceLT, Int.reduceToNat, Int.reduceLT, Int.reduceLE, Int.reduceEq, Int.reduceAdd, Int.reduceSub, Int.reduceNeg, Int.reduceMul]
        · simp (disch := omega) only [push_cast, Nat.reduceBEq, Nat.reduceEqDiff, Nat.reduceAdd, Nat.reduceMul, Nat.reduceSub, Nat.reduceLT, Int.reduceToNat, Int.reduceLT, Int.reduceLE, Int.reduceEq, Int.reduceAdd, Int.reduceSub, Int.reduceNeg, Int.reduceMul]
      · simp (disch := omega) only [push_cast, Nat.reduceBEq, Nat.reduceEqDiff, Nat.reduceAdd, Nat.reduceMul, Nat.reduceSub, Nat.reduceLT, Int.reduceToNat, Int.reduceLT, Int.reduceLE, Int.reduceEq, Int.reduceAdd, Int.reduceSub, Int.reduceNeg, Int.reduceMul]
    · simp (disch := omega) only [push_cast, Nat.reduceBEq, Nat.reduceEqDiff, Nat.reduceAdd, Nat.reduceMul, Nat.reduceSub, Nat.reduceLT, Int.reduceToNat, Int.reduceLT, Int.reduceLE, Int.reduceEq, Int.reduceAdd, Int.reduceSub, Int.reduceNeg, Int.reduceMul]
  · simp (disch := omega) only [push_cast, Nat.reduceBEq, Nat.reduceEqDiff, Nat.reduceAdd, Nat.reduceMul, Nat.reduceSub, Nat.reduceLT, Int.reduceToNat, Int.reduceLT, Int.reduceLE, Int.reduceEq, Int.reduceAdd, Int.reduceSub, Int.reduceNeg, Int.reduceMul]

/-- The sizes of a disk after i operations. -/
structure Sz (n s i : Nat) (d : DS) : Prop where
  dur : d.dur.length = n
  size : d.size = s
  few : d.cache.length ≤ i
  cnt : ∀ k, d.cnt = some k → k < 9223372036854775808
theorem Sz.step {n s i : Nat} {d : DS} (h : Sz n s i d) : Sz n s i d.step.2 := by
  unfold DS.step
  split
  · exact h
  · split
    · exact h
    · exact ⟨h.dur, h.size, h.few, h.cnt⟩
    · rename_i k hk
      exact ⟨h.dur, h.size, h.few, fun j hj => by cases hj; have := h.cnt _ hk; omega⟩
theorem Sz.mono {n s i j : Nat} {d : DS} (h : Sz n s i d) (hij : i ≤ j) : Sz n s j d := ⟨h.dur, h.size, Nat.le_trans h.few hij, h.cnt⟩
theorem Sz.write {n s i : Nat} {d : DS} (h : Sz n s i d) (x : Int) (l : List Int) : Sz n s (i + 1) (d.write x l).1 := by
  have h' := h.step
  unfold DS.write
  split
  · split
    · exact ⟨h'.dur, h'.size, by have := h'.few; simp; exact this, h'.cnt⟩
    · exact h'.mono (by omega)
  · exact h.mono (by omega)
theorem Sz.sync {n s i : Nat} {d : DS} (h : Sz n s i d) : Sz n s i d.sync.1 := by
  have h' := h.step
  unfold DS.sync
  split
  · refine ⟨?_, h'.size, Nat.zero_le _, h'.cnt⟩
    show (settled _ _ _ _).length = n
    rw [settled_length]
    exact h'.dur
  · exact h'
theorem Sz.fail {n s i : Nat} {d : DS} (h : Sz n s i d) {x : Int} (hx : (Lit.int .i64 x).wf = true) : Sz n s i (d.fail x) := by
  have hx' : x < 9223372036854775808 := by
    have h2 : x ≤ IntKind.i64.max := by
      simp only [Lit.wf, Bool.and_eq_true, decide_eq_true_eq] at hx
      exact hx.2
    have h3 : IntKind.i64.max = 9223372036854775807 := by decide
    omega
  unfold DS.fail
  split
  · exact h
  · exact ⟨h.dur, h.size, h.few, fun j hj => by
      have : (max x 0).toNat = j := by simpa using hj
      omega⟩
theorem Sz.crash {n s i : Nat} {d : DS} (h : Sz n s i d) (l : List Bool) : Sz n s 0 (d.crash l) := by
  refine ⟨?_, h.size, Nat.le_refl _, fun j hj => by cases hj⟩
  show (settled _ _ _ _).length = n
  rw [settled_length]
  exact h.dur
theorem Sz.play {n s i : Nat} {d : DS} (h : Sz n s i d) {x : OpS} (hx : (Lit.int .i64 x.at_).wf = true) : Sz n s (i + 1) (d.play x).1 := by
  unfold DS.play
  split
  · exact h.write _ _
  · split
    · exact h.sync.mono (by omega)
    · split
      · exact (h.fail hx).mono (by omega)
      · split
        · exact (h.crash _).mono (by omega)
        · exact h.mono (by omega)
/-- The sector 'at' bears b, and nothing else is written to it. -/
structure Kept (a : Nat) (b : List Int) (d : DS) : Prop where
  dur : d.dur[a]? = some b
  free : ∀ y ∈ d.cache, y.1 ≠ a
theorem settled_other {a : Nat} {ch : Nat → Bool} {c : List (Nat × List Int)} {dur : List (List Int)} (h : ∀ y ∈ c, y.1 ≠ a) : ∀ {i : Nat}, (settled ch c dur i)[a]? = dur[a]? := by
  intro i
  induction i with
  | zero => rfl
  | succ i ih =>
    simp only [settled]
    split
    · rename_i x hx
      split
      · rw [List.getElem?_set_ne (h x (List.mem_of_getElem? hx))]
        exact ih
      · exact ih
    · exact ih
theorem Kept.step {a : Nat} {b : List Int} {d : DS} (h : Kept a b d) : Kept a b d.step.2 := by
  unfold DS.step
  split
  · exact h
  · split <;> exact ⟨h.dur, h.free⟩
theorem Kept.settle {a : Nat} {b : List Int} {d : DS} (h : Kept a b d) (ch : Nat → Bool) : Kept a b (d.settle ch) :=
  ⟨by show (settled _ _ _ _)[a]? = _; rw [settled_other h.free]; exact h.dur, by intro y hy; cases hy⟩
theorem Kept.play {a : Nat} {b : List Int} {d : DS} (h : Kept a b d) {x : OpS} (hx : ¬ (x.kind = 0 ∧ x.at_ = (a : Int))) : Kept a b (d.play x).1 := by
  unfold DS.play
  split
  · rename_i h0
    have h' := h.step
    show Kept a b (d.write x.at_ x.b).1
    unfold DS.write
    split
    · rename_i h1
      split
      · refine ⟨h'.dur, fun y hy => ?_⟩
        rcases List.mem_append.1 hy with hy | hy
        · exact h'.free y hy
        · simp only [List.mem_singleton] at hy
          subst hy
          show x.at_.toNat ≠ a
          intro e
          exact hx ⟨h0, by omega⟩
      · exact h'
    · exact h
  · split
    · have h' := h.step
      show Kept a b d.sync.1
      unfold DS.sync
      split
      · exact h'.settle _
      · exact h'
    · split
      · show Kept a b (d.fail _)
        unfold DS.fail
        split
        · exact h
        · exact ⟨h.dur, h.free⟩
      · split
        · have q := h.settle (fun i => x.keep.getD i false)
          exact ⟨q.dur, q.free⟩
        · exact h
end Go.Proofs.Ytdekhojafpkgfaa.Fd
