/-
  The program's sorted and Sort.
-/
import Derived.Test.YtfjccccfkpgmgaaOr6
namespace Go.Proofs.Ytfjccccfkpgmgaa.Fd
set_option linter.unusedSimpArgs false
set_option linter.unusedVariables false
open Go
set_option maxRecDepth 100000

theorem Blk.newAt {w : World} {k : Nat} {cs : List Value} {E : TypeId} (h : w.heap.size = k) : Blk (w.alloc (.cells cs.toArray E (0, 0))) k cs E := by rw [← h]; exact Blk.new
/-- b has nothing left before it. -/
def isFree (n : Nat) (R : Rel) (out : List Nat) (b : Nat) : Bool := (List.range n).all fun a => out.contains a || !R a b
def canGo (n : Nat) (R : Rel) (out : List Nat) (b : Nat) : Bool := !out.contains b && isFree n R out b
def nextOf (n : Nat) (R : Rel) (out : List Nat) : Option Nat := (List.range n).find? (canGo n R out)
def sortL (n : Nat) (R : Rel) : Nat → List Nat
  | 0 => []
  | k + 1 => match nextOf n R (sortL n R k) with
    | some b => sortL n R k ++ [b]
    | none => sortL n R k
theorem nextOf_some {n : Nat} {R : Rel} {out : List Nat} {b : Nat} (hb : b < n) (h : canGo n R out b = true) (h2 : ∀ c, c < b → canGo n R out c = false) : nextOf n R out = some b := by
  unfold nextOf
  rw [List.find?_eq_some_iff_getElem]
  refine ⟨h, b, by simpa using hb, by simp, fun j hj => ?_⟩
  simp [h2 j hj]
theorem nextOf_spec {n : Nat} {R : Rel} {out : List Nat} {b : Nat} (h : nextOf n R out = some b) : b < n ∧ canGo n R out b = true ∧ ∀ c, c < b → canGo n R out c = false := by
  unfold nextOf at h
  rw [List.find?_eq_some_iff_getElem] at h
  obtain ⟨h1, i, hi, h2, h3⟩ := h
  have hi' : i < n := by simpa using hi
  rw [List.getElem_range] at h2
  subst h2
  refine ⟨hi', h1, fun c hc => ?_⟩
  have := h3 c hc
  simpa using this
/-- While something is left, something can go. -/
theorem next_any {n : Nat} {R : Rel} (ht : ∀ a b c, R a c = true → R c b = true → R a b = true) (hi : ∀ a, R a a = false) {out : List Nat} {x : Nat} (hx : x < n) (hxo : out.contains x = false) :
    ∃ b, b < n ∧ canGo n R out b = true := by
  have key : ∀ m x, x < n → out.contains x = false → ((List.range n).filter fun a => !out.contains a && R a x).length ≤ m → ∃ b, b < n ∧ canGo n R out b = true := by
    intro m
    induction m with
    | zero =>
      intro x hx hxo hl
      refine ⟨x, hx, ?_⟩
      have he := List.eq_nil_of_length_eq_zero (Nat.le_zero.1 hl)
      unfold canGo isFree
      rw [hxo, Bool.not_false, Bool.true_and, List.all_eq_true]
      intro a ha
      have := List.filter_eq_nil_iff.1 he a ha
      cases h1 : out.contains a <;> cases h2 : R a x <;> simp_all
    | succ m ih =>
      intro x hx hxo hl
      by_cases hg : canGo n R out x = true
      · exact ⟨x, hx, hg⟩
      · have : isFree n R out x = false := by
          cases h : isFree n R out x
          · rfl
          · exact absurd (by unfold canGo; rw [hxo, h]; rfl) hg
        unfold isFree at this
        rw [List.all_eq_false] at this
        obtain ⟨a, ha, h2⟩ := this
        have ha' := List.mem_range.1 ha
        have hao : out.contains a = false := by cases h : out.contains a <;> simp_all
        have haR : R a x = true := by cases h : R a x <;> simp_all
        refine ih a ha' hao ?_
        have hsub : ((List.range n).filter fun y => !out.contains y && R y a).length < ((List.range n).filter fun y => !out.contains y && R y x).length := by
          have h3 : ((List.range n).filter fun y => !out.contains y && R y a) = (((List.range n).filter fun y => !out.contains y && R y x).filter fun y => !out.contains y && R y a) := by
            rw [List.filter_filter]
            apply List.filter_congr
            intro y _
            cases h4 : R y a
            · simp
            · rw [ht y x a h4 haR]; cases out.contains y <;> rfl
          rw [h3]
          have hmem : a ∈ (List.range n).filter fun y => !out.contains y && R y x := by
            rw [List.mem_filter]
            exact ⟨ha, by rw [hao, haR]; rfl⟩
          refine Nat.lt_of_le_of_ne (List.length_filter_le _ _) fun he => ?_
          have := List.length_filter_eq_length_iff.1 he a hmem
          rw [hi a] at this
          simp at this
        omega
  exact key _ x hx hxo (Nat.le_refl _)

theorem free_ok {w : World} {bn bd bt b n : Nat} {E1 E2 E3 E4 : TypeId} {r : Nat → BitVec 64} {D : BitVec 64} {out : List Nat} (h1 : Blk w bn [.int .i64 n] E1) (h2 : Blk w bd [U D] E2) (h3 : Blk w bt [.pointer (some ⟨b, 0, none⟩)] E3) (h4 : Blk w b (tabL r) E4)
    (hn : n ≤ 64) (hD : ∀ a, a < 64 → D.getLsbD a = out.contains a) {x : Nat} (hx : x < 64) :
    Ok (den Try.prog 54 #[.int .i64 x, .pointer (some ⟨bn, 0, none⟩), .pointer (some ⟨bd, 0, none⟩), .pointer (some ⟨bt, 0, none⟩)] w) fun v w' => v = .bool (isFree n (rbit r) out x) ∧ Upd (fun _ => False) w w' := by
  refine den_ok (args := [.int .i64 x, .pointer (some ⟨bn, 0, none⟩), .pointer (some ⟨bd, 0, none⟩), .pointer (some ⟨bt, 0, none⟩)]) rs54 Try.func54 rfl mixed in54 ok54 rfl ?_
  simp (disch := omega) only [push_cast, Nat.reduceBEq, Nat.reduceEqDiff, Nat.reduceAdd, Nat.reduceMul, Nat.reduceSub, Nat.reduceLT, Int.reduceToNat, Int.reduceLT, Int.reduceLE, Int.reduceEq, Int.reduceAdd, Int.reduceSub, Int.reduceNeg, Int.reduceMul, h1.cell]
  refine loop_inv (I := fun k st w' => Bx (∃ i, k + i = n ∧ st = [.int .i64 (i : Int)] ∧ Upd (fun _ => False) w w' ∧ ∀ j, j < i → (out.contains j || !rbit r j x) = true) ⟨⟩) ?_ n ⟨0, rfl, rfl, Upd.refl, fun j hj => by omega⟩
  rintro k st w' ⟨i, hki, rfl, hu, hin⟩
  have g2 := h2.upd hu (fun h => h)
  have g3 := h3.upd hu (fun h => h)
  have g4 := h4.upd hu (fun h => h)
  by_cases hk0 : k = 0
  · obtain rfl : i = n := by omega
    simp (disch := omega) only [push_cast, Nat.reduceBEq, Nat.reduceEqDiff, Nat.reduceAdd, Nat.reduceMul, Nat.reduceSub, Nat.reduceLT, Int.reduceToNat, Int.reduceLT, Int.reduceLE, Int.reduceEq, Int.reduceAdd, Int.reduceSub, Int.reduceNeg, Int.reduceMul]
    have : isFree i (rbit r) out x = true := by
      unfold isFree
      rw [List.all_eq_true]
      intro a ha
      exact hin a (List.mem_range.1 ha)
    rw [this]
    exact ⟨rfl, hu⟩
  · have hi : i < n := by omega
    have hDi := hD i (by omega)
    have step : (out.contains i || !rbit r i x) = true → ∀ j, j < i + 1 → (out.contains j || !rbit r j x) = true := by
      intro h j hj
      by_cases e : j = i
      · rw [e]; exact h
      · exact hin j (by omega)
    cases hd : D.getLsbD i
    · cases hb : (r i).getLsbD x
      · simp (disch := omega) only [push_cast, Nat.reduceBEq, Nat.reduceEqDiff, Nat.reduceAdd, Nat.reduceMul, Nat.reduceSub, Nat.reduceLT, Int.reduceToNat, Int.reduceLT, Int.reduceLE, Int.reduceEq, Int.reduceAdd, Int.reduceSub, Int.reduceNeg, Int.reduceMul, g2.cell, g3.cell, g4.cell, tabL_get, hd, hb]
        exact ⟨k - 1, by omega, i + 1, by omega, by simp, hu, step (by rw [show rbit r i x = false from hb]; simp)⟩
      · simp (disch := omega) only [push_cast, Nat.reduceBEq, Nat.reduceEqDiff, Nat.reduceAdd, Nat.reduceMul, Nat.reduceSub, Nat.reduceLT, Int.reduceToNat, Int.reduceLT, Int.reduceLE, Int.reduceEq, Int.reduceAdd, Int.reduceSub, Int.reduceNeg, Int.reduceMul, g2.cell, g3.cell, g4.cell, tabL_get, hd, hb]
        have : isFree n (rbit r) out x = false := by
          unfold isFree
          rw [List.all_eq_false]
          exact ⟨i, List.mem_range.2 hi, by rw [show rbit r i x = true from hb, ← hDi, hd]; decide⟩
        rw [this]
        exact ⟨rfl, hu⟩
    · simp (disch := omega) only [push_cast, Nat.reduceBEq, Nat.reduceEqDiff, Nat.reduceAdd, Nat.reduceMul, Nat.reduceSub, Nat.reduceLT, Int.reduceToNat, Int.reduceLT, Int.reduceLE, Int.reduceEq, Int.reduceAdd, Int.reduceSub, Int.reduceNeg, Int.reduceMul, g2.cell, g3.cell, g4.cell, tabL_get, hd]
      exact ⟨k - 1, by omega, i + 1, by omega, by simp, hu, step (by rw [← hDi, hd]; rfl)⟩

theorem cover_le : ∀ (n : Nat) (out : List Nat), (∀ x, x < n → x ∈ out) → n ≤ out.length := by
  intro n
  induction n with
  | zero => intro out _; exact Nat.zero_le _
  | succ n ih =>
    intro out h
    have h1 := ih (out.filter fun x => x != n) fun x hx => by
      rw [List.mem_filter]
      exact ⟨h x (by omega), by simp; omega⟩
    have h2 : (out.filter fun x => x != n).length < out.length := by
      rw [List.length_filter_lt_length_iff_exists]
      exact ⟨n, h n (by omega), by simp⟩
    omega
theorem left_over {n : Nat} {out : List Nat} (h : out.length < n) : ∃ x, x < n ∧ out.contains x = false := by
  apply Classical.byContradiction
  intro hc
  have := cover_le n out fun x hx => by
    cases h2 : out.contains x
    · exact absurd ⟨x, hx, h2⟩ hc
    · simpa using h2
  omega
theorem sortL_length {n : Nat} {R : Rel} (ht : ∀ a b c, R a c = true → R c b = true → R a b = true) (hi : ∀ a, R a a = false) : ∀ k, k ≤ n → (sortL n R k).length = k := by
  intro k
  induction k with
  | zero => intro _; rfl
  | succ k ih =>
    intro hk
    have h1 := ih (by omega)
    obtain ⟨x, hx, hxo⟩ := left_over (n := n) (out := sortL n R k) (by omega)
    obtain ⟨b, hb, hg⟩ := next_any ht hi hx hxo
    simp only [sortL]
    cases h2 : nextOf n R (sortL n R k) with
    | some c => simp [h1]
    | none =>
      exfalso
      unfold nextOf at h2
      have := List.find?_eq_none.1 h2 b (List.mem_range.2 hb)
      exact this hg
/-- One more int at the end of an owned row. -/
theorem app_int {w : World} {v : Value} {l : List Int} (hown : w.ownsRow 0 3 1 v l.length (l.map (Value.int .i64))) (hlen : l.length < 1000000) {b c : Nat} {x : Int} {ty : TypeId}
    (hb : Blk w b [Value.int .i64 x] 3) {K : Value × World → Prop} (hk : ∀ v' w', w'.ownsRow 0 3 1 v' (l ++ [x]).length ((l ++ [x]).map (Value.int .i64)) → Upd (fun b => v.ownBlock = some b) w w' → (∀ g, v'.ownBlock = some g → v.ownBlock = some g ∨ (w.heap.size ≤ g ∧ g < w'.heap.size)) → K (v', w')) :
    Okk (appS Try.prog #[26, 26] ty v (.slice (some ⟨b, 0, none⟩) 1 c) w) K := by
  refine app_own (s := 1) (by_ := 8) (n := l.length) (m := 1) (news := [Value.int .i64 x]) t26_e t3_s t3_b t3_z rfl (by omega) hown rfl ?_ ?_ (by omega) (by unfold maxLen; omega) ?_
  · intro j hj
    rw [Nat.zero_add]
    exact hb.cell j
  · intro u hu
    simp at hu
    subst hu
    rfl
  intro v' w' h1 h2 h3
  refine hk v' w' ?_ (Upd.grown (F := fun b => v.ownBlock = some b) h2 (fun k hk => hk)) ?_
  · rw [List.length_append, List.map_append]
    simpa using h1
  · intro g hg
    rcases h3 with h | ⟨g', h, hge⟩
    · rw [h] at hg; exact .inl hg
    · rw [h] at hg; injection hg with hg; subst hg; exact .inr ⟨hge, (h1.lt _ h).2⟩
def toI (l : List Nat) : List Int := l.map fun x : Nat => (x : Int)
theorem toI_length {l : List Nat} : (toI l).length = l.length := by simp [toI]
theorem rbit_twoPow {D : BitVec 64} {x a : Nat} {out : List Nat} (h : D.getLsbD a = out.contains a) (ha : a < 64) : (D ||| BitVec.twoPow 64 x).getLsbD a = (out ++ [x]).contains a := by
  rw [BitVec.getLsbD_or, h, BitVec.getLsbD_twoPow]
  by_cases e : x = a
  · subst e; simp [ha]
  · have : ¬ a = x := fun h => e h.symm
    simp [e, this]

set_option maxHeartbeats 4000000 in
theorem sorted_ok {w : World} {b n : Nat} {r : Nat → BitVec 64} {E : TypeId} (hb : Blk w b (tabL r) E) (hn : n ≤ 64) (ht : ∀ a b c, rbit r a c = true → rbit r c b = true → rbit r a b = true) (hir : ∀ a, rbit r a a = false) :
    Ok (den Try.prog 37 #[.pointer (some ⟨b, 0, none⟩), .int .i64 n] w) fun v w' => SlI w' v (toI (sortL n (rbit r) n)) ∧ Upd (fun _ => False) w w' ∧ ∀ g, v.ownBlock = some g → w.heap.size ≤ g := by
  refine den_ok (args := [.pointer (some ⟨b, 0, none⟩), .int .i64 n]) rs37 Try.func37 rfl mixed in37 ok37 rfl ?_
  have g1 : Blk (((w.alloc (.cells #[Value.pointer (some ⟨b, 0, none⟩)] 73 (0, 0))).alloc (.cells #[Value.int .i64 n] 3 (0, 0))).alloc (.cells #[Value.int .u64 0] 51 (0, 0))) w.heap.size [.pointer (some ⟨b, 0, none⟩)] 73 := (Blk.new.alloc _).alloc _
  have g2 : Blk (((w.alloc (.cells #[Value.pointer (some ⟨b, 0, none⟩)] 73 (0, 0))).alloc (.cells #[Value.int .i64 n] 3 (0, 0))).alloc (.cells #[Value.int .u64 0] 51 (0, 0))) (w.heap.size + 1) [.int .i64 n] 3 := (Blk.newAt size_alloc).alloc _
  have g3 : Blk (((w.alloc (.cells #[Value.pointer (some ⟨b, 0, none⟩)] 73 (0, 0))).alloc (.cells #[Value.int .i64 n] 3 (0, 0))).alloc (.cells #[Value.int .u64 0] 51 (0, 0))) (w.heap.size + 1 + 1) [.int .u64 0] 51 := Blk.newAt (by rw [size_alloc, size_alloc])
  have hu0 : Upd (fun _ => False) w (((w.alloc (.cells #[Value.pointer (some ⟨b, 0, none⟩)] 73 (0, 0))).alloc (.cells #[Value.int .i64 n] 3 (0, 0))).alloc (.cells #[Value.int .u64 0] 51 (0, 0))) := Upd.refl.alloc'.alloc'.alloc'
  simp (disch := omega) only [push_cast, Nat.reduceBEq, Nat.reduceEqDiff, Nat.reduceAdd, Nat.reduceMul, Nat.reduceSub, Nat.reduceLT, Int.reduceToNat, Int.reduceLT, Int.reduceLE, Int.reduceEq, Int.reduceAdd, Int.reduceSub, Int.reduceNeg, Int.reduceMul, g3.cell, g3.free]
  generalize ((w.alloc (.cells #[Value.pointer (some ⟨b, 0, none⟩)] 73 (0, 0))).alloc (.cells #[Value.int .i64 n] 3 (0, 0))).alloc (.cells #[Value.int .u64 0] 51 (0, 0)) = w3 at *
  have hu1 : Upd (fun b => b = w.heap.size + 1 + 1) w3 (w3.setCell ⟨w.heap.size + 1 + 1, 0, none⟩ (.int .u64 0)) := (Upd.refl (F := fun b => b = w.heap.size + 1 + 1)).setIn rfl
  refine loop_inv (I := fun k st w' => Bx (∃ i v D, k + i = n ∧ st = [v] ∧ Upd (fun _ => False) w w' ∧ Blk w' w.heap.size [.pointer (some ⟨b, 0, none⟩)] 73 ∧ Blk w' (w.heap.size + 1) [.int .i64 n] 3 ∧ Blk w' (w.heap.size + 1 + 1) [U D] 51 ∧
    (∀ a, a < 64 → D.getLsbD a = (sortL n (rbit r) i).contains a) ∧ w'.ownsRow 0 3 1 v (toI (sortL n (rbit r) i)).length ((toI (sortL n (rbit r) i)).map (Value.int .i64)) ∧ ∀ g, v.ownBlock = some g → w.heap.size + 3 ≤ g) ⟨⟩) ?_ n
    ⟨0, .slice none 0 0, 0#64, rfl, rfl, hu0.trans hu1 (fun b h1 h2 => by omega), g1.upd hu1 (by omega), g2.upd hu1 (by omega), g3.set 0 _, fun a _ => by simp [sortL], World.ownsRow_nil _ _ _ _, by simp [Value.ownBlock]⟩
  clear g1 g2 g3 hu0 hu1
  rintro k st w' ⟨i, v, D, hki, rfl, hu, g1, g2, g3, hD, hown, hfr⟩
  obtain ⟨av, cv, rfl⟩ := own_slice hown
  have hsl := sortL_length (n := n) ht hir i (by omega)
  rw [toI_length, hsl] at hown hfr
  rw [toI_length, hsl]
  by_cases hk0 : k = 0
  · obtain rfl : i = n := by omega
    simp (disch := omega) only [push_cast, Nat.reduceBEq, Nat.reduceEqDiff, Nat.reduceAdd, Nat.reduceMul, Nat.reduceSub, Nat.reduceLT, Int.reduceToNat, Int.reduceLT, Int.reduceLE, Int.reduceEq, Int.reduceAdd, Int.reduceSub, Int.reduceNeg, Int.reduceMul, g2.cell]
    refine ⟨SlI.of_own ?_, hu, fun g hg => by have := hfr g hg; omega⟩
    rw [toI_length, hsl]
    exact hown
  have hi : i < n := by omega
  simp (disch := omega) only [push_cast, Nat.reduceBEq, Nat.reduceEqDiff, Nat.reduceAdd, Nat.reduceMul, Nat.reduceSub, Nat.reduceLT, Int.reduceToNat, Int.reduceLT, Int.reduceLE, Int.reduceEq, Int.reduceAdd, Int.reduceSub, Int.reduceNeg, Int.reduceMul, g2.cell]
  refine loop_inv (I := fun k2 st w' => Bx (∃ j, k2 + j = n ∧ st = [.slice av i cv, .int .i64 (j : Int)] ∧ Upd (fun _ => False) w w' ∧ Blk w' w.heap.size [.pointer (some ⟨b, 0, none⟩)] 73 ∧ Blk w' (w.heap.size + 1) [.int .i64 n] 3 ∧ Blk w' (w.heap.size + 1 + 1) [U D] 51 ∧
    w'.ownsRow 0 3 1 (.slice av i cv) i ((toI (sortL n (rbit r) i)).map (Value.int .i64)) ∧ ∀ c, c < j → canGo n (rbit r) (sortL n (rbit r) i) c = false) ⟨⟩) ?_ n
    ⟨0, rfl, rfl, hu, g1, g2, g3, hown, fun c hc => by omega⟩
  clear hu g1 g2 g3 hown
  rintro k2 st w' ⟨j, hkj, rfl, hu, g1, g2, g3, hown, hno⟩
  by_cases hk2 : k2 = 0
  · exfalso
    obtain ⟨x, hx, hxo⟩ := left_over (n := n) (out := sortL n (rbit r) i) (by omega)
    obtain ⟨y, hy, hg⟩ := next_any ht hir hx hxo
    rw [hno y (by omega)] at hg
    cases hg
  have hj : j < n := by omega
  have hbw := hb.upd hu (fun h => h)
  have hsz := hu.size
  have hl3 := g3.lt
  have hDj := hD j (by omega)
  have next : ∀ {w2 : World}, Upd (fun _ => False) w' w2 → canGo n (rbit r) (sortL n (rbit r) i) j = false → (∃ k', k' < k2 ∧ (∃ j, k' + j = n ∧ [Value.slice av i cv, .int .i64 (((j : Nat) : Int))] = [Value.slice av i cv, .int .i64 (j : Int)] ∧ Upd (fun _ => False) w w2)) := by
    intro w2 h1 h2
    exact ⟨k2 - 1, by omega, j + 1, by omega, rfl, hu.trans h1 (fun _ _ h => h)⟩
  clear next
  cases hd : D.getLsbD j
  rotate_left
  · simp (disch := omega) only [push_cast, Nat.reduceBEq, Nat.reduceEqDiff, Nat.reduceAdd, Nat.reduceMul, Nat.reduceSub, Nat.reduceLT, Int.reduceToNat, Int.reduceLT, Int.reduceLE, Int.reduceEq, Int.reduceAdd, Int.reduceSub, Int.reduceNeg, Int.reduceMul, g3.cell, hd]
    refine ⟨k2 - 1, by omega, j + 1, by omega, by simp, hu, g1, g2, g3, hown, fun c hc => ?_⟩
    by_cases e : c = j
    · subst e
      unfold canGo
      rw [← hDj, hd]
      rfl
    · exact hno c (by omega)
  simp (disch := omega) only [push_cast, Nat.reduceBEq, Nat.reduceEqDiff, Nat.reduceAdd, Nat.reduceMul, Nat.reduceSub, Nat.reduceLT, Int.reduceToNat, Int.reduceLT, Int.reduceLE, Int.reduceEq, Int.reduceAdd, Int.reduceSub, Int.reduceNeg, Int.reduceMul, g3.cell, hd]
  refine Ok.use (free_ok g2 g3 g1 hbw hn hD (by omega)) ?_
  rintro v w4 ⟨rfl, hu4⟩
  have hu' := hu.trans hu4 (fun _ _ h => h)
  replace g1 := g1.upd hu4 (fun h => h)
  replace g2 := g2.upd hu4 (fun h => h)
  replace g3 := g3.upd hu4 (fun h => h)
  replace hown := ownsRow_upd hown hu4 (fun _ _ h => h)
  clear hbw hl3 hsz hu
  have hcan : canGo n (rbit r) (sortL n (rbit r) i) j = isFree n (rbit r) (sortL n (rbit r) i) j := by
    unfold canGo
    rw [← hDj, hd]
    rfl
  have hsz := hu'.size
  have hl3 := g3.lt
  cases hf : isFree n (rbit r) (sortL n (rbit r) i) j
  · simp (disch := omega) only [push_cast, Nat.reduceBEq, Nat.reduceEqDiff, Nat.reduceAdd, Nat.reduceMul, Nat.reduceSub, Nat.reduceLT, Int.reduceToNat, Int.reduceLT, Int.reduceLE, Int.reduceEq, Int.reduceAdd, Int.reduceSub, Int.reduceNeg, Int.reduceMul, g3.cell]
    refine ⟨k2 - 1, by omega, j + 1, by omega, by simp, hu', g1, g2, g3, hown, fun c hc => ?_⟩
    by_cases e : c = j
    · subst e
      rw [hcan, hf]
    · exact hno c (by omega)
  · simp (disch := omega) only [push_cast, Nat.reduceBEq, Nat.reduceEqDiff, Nat.reduceAdd, Nat.reduceMul, Nat.reduceSub, Nat.reduceLT, Int.reduceToNat, Int.reduceLT, Int.reduceLE, Int.reduceEq, Int.reduceAdd, Int.reduceSub, Int.reduceNeg, Int.reduceMul, g3.cell]
    have hl : (toI (sortL n (rbit r) i)).length = i := by rw [toI_length, hsl]
    have hown5 := hown.alloc (.cells #[Value.int .i64 j] 3 (0, 0))
    rw [show w4.ownsRow 0 3 1 (.slice av i cv) i = w4.ownsRow 0 3 1 (.slice av i cv) (toI (sortL n (rbit r) i)).length from by rw [hl]] at hown
    refine app_int (hown.alloc _) (by omega) (x := (j : Int)) Blk.new ?_
    intro v' w6 hown6 hu6 hfr6
    have hu46 : Upd (fun b => (Value.slice av i cv).ownBlock = some b) w4 w6 := Upd.alloc.trans hu6 (fun _ _ h => h)
    have k1 := g1.upd hu46 (fun h => by have := hfr _ h; omega)
    have k2' := g2.upd hu46 (fun h => by have := hfr _ h; omega)
    have k3 := g3.upd hu46 (fun h => by have := hfr _ h; omega)
    have hl6 := k3.lt
    have hs6 := hu46.size
    have hown7 := ownsRow_upd hown6 (Upd.set (F := fun b => b = w.heap.size + 1 + 1) (a := ⟨w.heap.size + 1 + 1, 0, none⟩) (v := U (D ||| BitVec.twoPow 64 j)) rfl) (fun g hg e => by
      rcases hfr6 g hg with h | h
      · have := hfr g h; omega
      · rw [size_alloc] at h; omega)
    simp (disch := omega) only [push_cast, Nat.reduceBEq, Nat.reduceEqDiff, Nat.reduceAdd, Nat.reduceMul, Nat.reduceSub, Nat.reduceLT, Int.reduceToNat, Int.reduceLT, Int.reduceLE, Int.reduceEq, Int.reduceAdd, Int.reduceSub, Int.reduceNeg, Int.reduceMul, k3.cell, k3.free]
    have hu67 : Upd (fun b => b = w.heap.size + 1 + 1) w6 (w6.setCell ⟨w.heap.size + 1 + 1, 0, none⟩ (U (D ||| BitVec.twoPow 64 j))).drew := ((Upd.refl (F := fun b => b = w.heap.size + 1 + 1)).setIn rfl).drew'
    have hnext := nextOf_some hj (by rw [hcan, hf]) hno
    have hsucc : sortL n (rbit r) (i + 1) = sortL n (rbit r) i ++ [j] := by
      show (match nextOf n (rbit r) (sortL n (rbit r) i) with | some b => sortL n (rbit r) i ++ [b] | none => sortL n (rbit r) i) = _
      rw [hnext]
    have hI : toI (sortL n (rbit r) (i + 1)) = toI (sortL n (rbit r) i) ++ [(j : Int)] := by rw [hsucc]; simp [toI]
    refine ⟨k - 1, by omega, i + 1, v', D ||| BitVec.twoPow 64 j, by omega, rfl, (hu'.trans hu46 (fun b h1 h2 => by have := hfr b h2; omega)).trans hu67 (fun b h1 h2 => by omega), k1.upd hu67 (by omega), k2'.upd hu67 (by omega), ?_, ?_, ?_, ?_⟩
    · exact (k3.set 0 (U (D ||| BitVec.twoPow 64 j))).drew
    · intro a ha
      rw [hsucc]
      exact rbit_twoPow (hD a ha) ha
    · rw [hI]
      exact hown7
    · intro g hg
      rcases hfr6 g hg with h | h
      · exact hfr g h
      · rw [size_alloc] at h; omega

theorem tab_norm {r : Nat → BitVec 64} {R : Rel} (h : ∀ a b, a < 64 → b < 64 → rbit r a b = R a b) (hR : ∀ a b, R a b = true → a < 64 ∧ b < 64) : ∃ r', tabL r' = tabL r ∧ rbit r' = R := by
  refine ⟨fun a => if a < 64 then r a else 0#64, ?_, ?_⟩
  · unfold tabL
    apply List.map_congr_left
    intro a ha
    dsimp only
    rw [if_pos (List.mem_range.1 ha)]
  · funext a b
    unfold rbit
    dsimp only
    by_cases ha : a < 64
    · rw [if_pos ha]
      by_cases hb : b < 64
      · exact h a b ha hb
      · rw [BitVec.getLsbD_of_ge _ _ (by omega)]
        cases h2 : R a b
        · rfl
        · exact absurd (hR a b h2).2 hb
    · rw [if_neg ha]
      cases h2 : R a b
      · simp
      · exact absurd (hR a b h2).1 ha
theorem flt_zero {n : Int} {l : List Pr} (h : flt n l = 0) : ∃ m : Nat, n = (m : Int) ∧ m ≤ 64 ∧ l.length ≤ 4096 ∧ l.all (inR m) = true ∧ chk n l = 0 ∧ cyc m (less n l) = false := by
  have hc : chk n l = 0 := by
    unfold flt at h
    split at h
    · assumption
    · rename_i h2; exact absurd h h2
  obtain ⟨m, rfl, h1, h2, h3⟩ := chk_zero hc
  refine ⟨m, rfl, h1, h2, h3, hc, ?_⟩
  rw [flt, if_pos hc, Int.toNat_natCast] at h
  cases h4 : cyc m (less m l)
  · rfl
  · rw [h4] at h; simp at h
theorem less_lt {m : Nat} {l : List Pr} (hall : l.all (inR m) = true) {a b : Nat} (h : less m l a b = true) : a < m ∧ b < m := by
  have := clos_lt (n := m) (fun a b h => relOf_lt hall h) h
  exact this
theorem less_trans {m : Nat} {l : List Pr} (hall : l.all (inR m) = true) (a b c : Nat) (h1 : less m l a c = true) (h2 : less m l c b = true) : less m l a b = true := by
  unfold less at *
  rw [Int.toNat_natCast] at *
  have := (less_lt hall (a := a) (b := c) (by unfold less; rw [Int.toNat_natCast]; exact h1)).2
  exact clos_trans this h1 h2
theorem less_irr {m : Nat} {l : List Pr} (hall : l.all (inR m) = true) (hc : cyc m (less m l) = false) (a : Nat) : less m l a a = false := by
  cases h : less m l a a
  · rfl
  · have := cyc_up (less_lt hall h).1 h
    rw [hc] at this
    cases this

set_option maxHeartbeats 1000000 in
theorem Sort_ok {w : World} (n : Int) {v : Value} {l : List Pr} (hv : SlP w v l) :
    Ok (den Try.prog 15 #[.int .i64 n, v] w) fun u w' => ∃ u0, u = .tuple #[u0, .int .i64 (flt n l)] ∧ SlI w' u0 (if flt n l = 0 then toI (sortL n.toNat (less n l) n.toNat) else []) ∧ Upd (fun _ => False) w w' := by
  refine den_ok (args := [.int .i64 n, v]) rs15 Try.func15 rfl mixed in15 ok15 rfl ?_
  simp (disch := omega) only [push_cast, Nat.reduceBEq, Nat.reduceEqDiff, Nat.reduceAdd, Nat.reduceMul, Nat.reduceSub, Nat.reduceLT, Int.reduceToNat, Int.reduceLT, Int.reduceLE, Int.reduceEq, Int.reduceAdd, Int.reduceSub, Int.reduceNeg, Int.reduceMul]
  refine Ok.use (acyclic_ok n hv) ?_
  rintro v w1 ⟨r, rfl, hr, hu1⟩
  have hb2 : Blk (w1.alloc (.cells (tabL fun _ => 0#64).toArray 53 (0, 0))) w1.heap.size (tabL fun _ => 0#64) 53 := Blk.new
  by_cases hc : flt n l = 0
  rotate_left
  · obtain ⟨hb3, hu3⟩ := new_tab (w := w1) (r := r)
    simp (disch := omega) only [push_cast, Nat.reduceBEq, Nat.reduceEqDiff, Nat.reduceAdd, Nat.reduceMul, Nat.reduceSub, Nat.reduceLT, Int.reduceToNat, Int.reduceLT, Int.reduceLE, Int.reduceEq, Int.reduceAdd, Int.reduceSub, Int.reduceNeg, Int.reduceMul, st_tab hb2]
    rw [if_neg hc]
    exact ⟨_, rfl, ⟨none, 0, rfl, fun h => absurd rfl h⟩, hu1.trans hu3 (fun _ _ h => h)⟩
  · obtain ⟨m, rfl, hm, hl4, hall, _, hcy⟩ := flt_zero hc
    obtain ⟨r', e1, e2⟩ := tab_norm (hr hc) (fun a b h => by have := less_lt hall h; omega)
    rw [← e1, hc]
    obtain ⟨hb3, hu3⟩ := new_tab (w := w1) (r := r')
    simp (disch := omega) only [push_cast, Nat.reduceBEq, Nat.reduceEqDiff, Nat.reduceAdd, Nat.reduceMul, Nat.reduceSub, Nat.reduceLT, Int.reduceToNat, Int.reduceLT, Int.reduceLE, Int.reduceEq, Int.reduceAdd, Int.reduceSub, Int.reduceNeg, Int.reduceMul, st_tab hb2]
    generalize (w1.alloc (.cells (tabL fun _ => 0#64).toArray 53 (0, 0))).setRow w1.heap.size (tabL r').toArray = w3 at *
    refine Ok.use (sorted_ok hb3 hm (by rw [e2]; exact less_trans hall) (by rw [e2]; exact less_irr hall hcy)) ?_
    rintro v w4 ⟨hs, hu4, _⟩
    rw [e2] at hs
    simp (disch := omega) only [push_cast, Nat.reduceBEq, Nat.reduceEqDiff, Nat.reduceAdd, Nat.reduceMul, Nat.reduceSub, Nat.reduceLT, Int.reduceToNat, Int.reduceLT, Int.reduceLE, Int.reduceEq, Int.reduceAdd, Int.reduceSub, Int.reduceNeg, Int.reduceMul]
    exact ⟨_, rfl, hs, (hu1.trans hu3 (fun _ _ h => h)).trans hu4 (fun _ _ h => h)⟩
end Go.Proofs.Ytfjccccfkpgmgaa.Fd
