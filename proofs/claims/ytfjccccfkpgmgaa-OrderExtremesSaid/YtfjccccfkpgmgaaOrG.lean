/-
  slices.Max, has, LongestChain.
-/
import Derived.Test.YtfjccccfkpgmgaaOrF
namespace Go.Proofs.Ytfjccccfkpgmgaa.Fd
set_option linter.unusedSimpArgs false
set_option linter.unusedVariables false
open Go
set_option maxRecDepth 100000

section
variable {P : Program} {D : Den} {w : World} {ty : TypeId} {e : Operand → Value} {t : TypeId}
theorem opX_sliceA {x : Operand} : opX P D (.slice t x none none none) ty e w = slcS P t (e x) none none w := by
  simp only [opX, opS, execOp, slcS, lift]
  simp
  generalize Instr.sliceAt t (e x) none none none = s
  cases s.run P w <;> simp
theorem slc_arr {b o : Nat} : slcS P t (.pointer (some ⟨b, o, none⟩)) none none w =
    orK (arrOf P t) (fun p => orK (siz P p.2) (fun _ => some (.slice (some ⟨b, o, none⟩) p.1 p.1, w)) (slcFar P t (.pointer (some ⟨b, o, none⟩)) none none w)) (slcFar P t (.pointer (some ⟨b, o, none⟩)) none none w) := by
  cases h : arrOf P t with
  | none => rfl
  | some p =>
    obtain ⟨n, el⟩ := p
    simp only [orK]
    cases hs : siz P el with
    | none => rfl
    | some s =>
      dsimp only
      have hu : P.underlying t = some (.array n el) := by
        unfold arrOf at h
        split at h
        · rename_i h2; cases h; exact h2
        · cases h
      have he : P.elem t = el := by simp [Program.elem, hu]
      have hn : P.arrayLen t = n := by simp [Program.arrayLen, hu]
      have hu' : P.underlying t = some (.array (P.arrayLen t) (P.elem t)) := by rw [he, hn]; exact hu
      unfold slcS lift
      rw [run_sliceAt_array_all w t _ hu', he, size_of hs, hn]
      have ha : (⟨b, o, none⟩ : Addr).add 0 = ⟨b, o, none⟩ := rfl
      simp [slicedAt, ha]
end
attribute [push_cast] opX_sliceA slc_arr
/-- The greatest of a list of naturals lying in a block. -/
theorem max_ok {w : World} {b k c : Nat} {f : Nat → Nat} {E : TypeId} (hb : Blk w b (atL k fun x => (f x : Int)) E) (hk : 0 < k) (hk2 : k < 1000) :
    Ok (den Try.prog 42 #[.slice (some ⟨b, 0, none⟩) k c] w) fun u w' => ∃ K : Nat, u = .int .i64 K ∧ (∀ x, x < k → f x ≤ K) ∧ (∃ x, x < k ∧ f x = K) ∧ w = w' := by
  refine den_ok (args := [.slice (some ⟨b, 0, none⟩) k c]) rs42 Try.func42 rfl mixed in42 ok42 rfl ?_
  have c0 : (atL k fun x => (f x : Int))[0]? = some (.int .i64 (f 0 : Int)) := atL_get hk
  simp (disch := omega) only [push_cast, Nat.reduceBEq, Nat.reduceEqDiff, Nat.reduceAdd, Nat.reduceMul, Nat.reduceSub, Nat.reduceLT, Int.reduceToNat, Int.reduceLT, Int.reduceLE, Int.reduceEq, Int.reduceAdd, Int.reduceSub, Int.reduceNeg, Int.reduceMul, hb.cell, c0]
  refine loop_inv (I := fun m st w' => Bx (∃ (i K : Nat), m + i = k ∧ 1 ≤ i ∧ st = [.int .i64 (K : Int), .int .i64 (i : Int)] ∧ w = w' ∧ (∀ x, x < i → f x ≤ K) ∧ ∃ x, x < i ∧ f x = K) ⟨⟩) ?_ (k - 1)
    ⟨1, f 0, by omega, Nat.le_refl _, rfl, rfl, fun x hx => by rw [show x = 0 from by omega]; exact Nat.le_refl _, 0, by omega, rfl⟩
  rintro m st w' ⟨i, K, hmi, hi1, rfl, rfl, hle, hex⟩
  by_cases hm0 : m = 0
  · obtain rfl : i = k := by omega
    simp (disch := omega) only [push_cast, Nat.reduceBEq, Nat.reduceEqDiff, Nat.reduceAdd, Nat.reduceMul, Nat.reduceSub, Nat.reduceLT, Int.reduceToNat, Int.reduceLT, Int.reduceLE, Int.reduceEq, Int.reduceAdd, Int.reduceSub, Int.reduceNeg, Int.reduceMul]
    exact ⟨K, rfl, hle, hex⟩
  have hi : i < k := by omega
  have c1 : (atL k fun x => (f x : Int))[i]? = some (.int .i64 (f i : Int)) := atL_get hi
  simp (disch := omega) only [push_cast, Nat.reduceBEq, Nat.reduceEqDiff, Nat.reduceAdd, Nat.reduceMul, Nat.reduceSub, Nat.reduceLT, Int.reduceToNat, Int.reduceLT, Int.reduceLE, Int.reduceEq, Int.reduceAdd, Int.reduceSub, Int.reduceNeg, Int.reduceMul, hb.cell, c1]
  refine ⟨m - 1, by omega, i + 1, max K (f i), by omega, by omega, ?_, rfl, fun x hx => ?_, ?_⟩
  · rw [show ((max K (f i) : Nat) : Int) = max (K : Int) (f i : Int) from by omega]
    rfl
  · by_cases e : x = i
    · subst e; omega
    · have := hle x (by omega); omega
  · by_cases h : K ≤ f i
    · exact ⟨i, by omega, by omega⟩
    · obtain ⟨x, hx, hf⟩ := hex
      exact ⟨x, by omega, by omega⟩
theorem has_ok {w : World} (x y : Int) {v : Value} {l : List Pr} (hv : SlP w v l) (hl : l.length < 1000000) :
    Ok (den Try.prog 30 #[v, .int .i64 x, .int .i64 y] w) fun u w' => u = .bool (l.any fun p => p.1 == x && p.2 == y) ∧ Upd (fun _ => False) w w' := by
  obtain ⟨a, c, rfl, hl1⟩ := hv
  refine den_ok (args := [.slice a l.length c, .int .i64 x, .int .i64 y]) rs30 Try.func30 rfl mixed in30 ok30 rfl ?_
  simp (disch := omega) only [push_cast, Nat.reduceBEq, Nat.reduceEqDiff, Nat.reduceAdd, Nat.reduceMul, Nat.reduceSub, Nat.reduceLT, Int.reduceToNat, Int.reduceLT, Int.reduceLE, Int.reduceEq, Int.reduceAdd, Int.reduceSub, Int.reduceNeg, Int.reduceMul]
  refine loop_inv (I := fun k st w' => Bx (∃ i, k + i = l.length ∧ st = [.int .i64 (i : Int)] ∧ Upd (fun _ => False) w w' ∧ (l.take i).any (fun p => p.1 == x && p.2 == y) = false) ⟨⟩) ?_ l.length ⟨0, rfl, rfl, Upd.refl, by simp⟩
  rintro k st w' ⟨i, hki, rfl, hu, hin⟩
  by_cases hk0 : k = 0
  · obtain rfl : i = l.length := by omega
    rw [List.take_length] at hin
    simp (disch := omega) only [push_cast, Nat.reduceBEq, Nat.reduceEqDiff, Nat.reduceAdd, Nat.reduceMul, Nat.reduceSub, Nat.reduceLT, Int.reduceToNat, Int.reduceLT, Int.reduceLE, Int.reduceEq, Int.reduceAdd, Int.reduceSub, Int.reduceNeg, Int.reduceMul]
    exact ⟨by rw [hin], hu⟩
  have hi : i < l.length := by omega
  obtain ⟨b, o, rfl, hb, hcl⟩ := hl1 (by intro e; rw [e] at hi; simp at hi)
  obtain ⟨q0, q1⟩ := hcl i _ (List.getElem?_eq_getElem hi)
  rw [← World.cell?_of_block (hu.block b hb (fun h => h))] at q0 q1
  have hx := List.getElem?_eq_getElem hi
  have htk := any_take hx (p := fun p => p.1 == x && p.2 == y)
  generalize l[i] = z at *
  obtain ⟨x0, x1⟩ := z
  simp only at q0 q1
  cases he : (x0 == x && x1 == y)
  · simp (disch := omega) only [push_cast, Nat.reduceBEq, Nat.reduceEqDiff, Nat.reduceAdd, Nat.reduceMul, Nat.reduceSub, Nat.reduceLT, Int.reduceToNat, Int.reduceLT, Int.reduceLE, Int.reduceEq, Int.reduceAdd, Int.reduceSub, Int.reduceNeg, Int.reduceMul, q0, q1, he]
    refine ⟨k - 1, by omega, i + 1, by omega, by simp, hu, ?_⟩
    rw [htk, hin]
    exact he
  · simp (disch := omega) only [push_cast, Nat.reduceBEq, Nat.reduceEqDiff, Nat.reduceAdd, Nat.reduceMul, Nat.reduceSub, Nat.reduceLT, Int.reduceToNat, Int.reduceLT, Int.reduceLE, Int.reduceEq, Int.reduceAdd, Int.reduceSub, Int.reduceNeg, Int.reduceMul, q0, q1, he]
    refine ⟨?_, hu⟩
    have : l.any (fun p => p.1 == x && p.2 == y) = true := List.any_eq_true.2 ⟨_, List.mem_of_getElem? hx, he⟩
    rw [this]

/-! the number of elements of the longest chain that begins with an element -/
structure IsUp (n : Nat) (R : Rel) (f : Nat → Nat) : Prop where
  le : ∀ x b, x < n → b < n → R x b = true → f b + 1 ≤ f x
  eq : ∀ x, x < n → f x = 1 ∨ ∃ b, b < n ∧ R x b = true ∧ f b + 1 = f x
  pos : ∀ x, x < n → 1 ≤ f x
  zero : ∀ x, n ≤ x → f x = 0
structure UInv (n : Nat) (R : Rel) (s : Nat → Nat) (i : Nat) (f : Nat → Nat) : Prop where
  le : ∀ j, i ≤ j → j < n → ∀ b, b < n → R (s j) b = true → f b + 1 ≤ f (s j)
  eq : ∀ j, i ≤ j → j < n → f (s j) = 1 ∨ ∃ b, b < n ∧ R (s j) b = true ∧ f b + 1 = f (s j)
  pos : ∀ j, i ≤ j → j < n → 1 ≤ f (s j)
  zero : ∀ x, n ≤ x → f x = 0
  few : ∀ x, f x + i ≤ n
theorem UInv.step {n : Nat} {R : Rel} {s : Nat → Nat} (topo : Topo n R s) (hir : ∀ a, R a a = false) {i v : Nat} {f : Nat → Nat} (h : UInv n R s (i + 1) f) (hi : i < n)
    (h1 : ∀ b, b < n → R (s i) b = true → f b + 1 ≤ v) (h2 : v = 1 ∨ ∃ b, b < n ∧ R (s i) b = true ∧ f b + 1 = v) (h3 : 1 ≤ v) : UInv n R s i (fun x => if x = s i then v else f x) := by
  have hsi := topo.lt i hi
  have hne : ∀ j, i < j → j < n → s j ≠ s i := fun j hj hjn e => by have := topo.inj j i hjn hi e; omega
  have hpr : ∀ j, i ≤ j → j < n → ∀ b, R (s j) b = true → b ≠ s i := by
    intro j hj hjn b hR e
    subst e
    rw [topo.later hjn hi hj] at hR
    cases hR
  refine ⟨fun j hj hjn b hb hR => ?_, fun j hj hjn => ?_, fun j hj hjn => ?_, fun x hx => ?_, fun x => ?_⟩
  · rw [if_neg (hpr j hj hjn b hR)]
    by_cases e : j = i
    · subst e
      rw [if_pos rfl]
      exact h1 b hb hR
    · rw [if_neg (hne j (by omega) hjn)]
      exact h.le j (by omega) hjn b hb hR
  · by_cases e : j = i
    · subst e
      rw [if_pos rfl]
      rcases h2 with h2 | ⟨b, hb, hR, h2⟩
      · exact .inl h2
      · exact .inr ⟨b, hb, hR, by rw [if_neg (hpr j hj hjn b hR)]; exact h2⟩
    · rw [if_neg (hne j (by omega) hjn)]
      rcases h.eq j (by omega) hjn with h2 | ⟨b, hb, hR, h2⟩
      · exact .inl h2
      · exact .inr ⟨b, hb, hR, by rw [if_neg (hpr j hj hjn b hR)]; exact h2⟩
  · by_cases e : j = i
    · subst e; rw [if_pos rfl]; exact h3
    · rw [if_neg (hne j (by omega) hjn)]; exact h.pos j (by omega) hjn
  · rw [if_neg (by omega)]; exact h.zero x hx
  · have := h.few x
    split
    · rcases h2 with h2 | ⟨b, hb, hR, h2⟩
      · omega
      · have := h.few b; omega
    · omega
theorem UInv.done {n : Nat} {R : Rel} {s : Nat → Nat} (topo : Topo n R s) {f : Nat → Nat} (h : UInv n R s 0 f) : IsUp n R f := by
  refine ⟨fun x b hx hb hR => ?_, fun x hx => ?_, fun x hx => ?_, h.zero⟩
  · obtain ⟨j, hj, rfl⟩ := topo.surj x hx
    exact h.le j (Nat.zero_le _) hj b hb hR
  · obtain ⟨j, hj, rfl⟩ := topo.surj x hx
    exact h.eq j (Nat.zero_le _) hj
  · obtain ⟨j, hj, rfl⟩ := topo.surj x hx
    exact h.pos j (Nat.zero_le _) hj
/-- The beginning of a longest chain: K elements in all. -/
structure Chain (n : Nat) (R : Rel) (f : Nat → Nat) (K : Nat) (c : List Nat) : Prop where
  lt : ∀ (i x : Nat), c[i]? = some x → x < n
  up : ∀ (i x : Nat), c[i]? = some x → f x + i = K
  step : ∀ (i x y : Nat), c[i]? = some x → c[i + 1]? = some y → R x y = true
  min : ∀ (i x b : Nat), c[i]? = some x → b < n → f b + i = K → (0 < i → ∀ y, c[i - 1]? = some y → R y b = true) → x ≤ b
theorem Chain.snoc {n : Nat} {R : Rel} {f : Nat → Nat} {K : Nat} {c : List Nat} {b : Nat} (h : Chain n R f K c) (hb : b < n) (hf : f b + c.length = K) (hR : ∀ x, c[c.length - 1]? = some x → R x b = true)
    (hmin : ∀ y, y < n → f y + c.length = K → (∀ x, c[c.length - 1]? = some x → R x y = true) → b ≤ y) : Chain n R f K (c ++ [b]) := by
  have hg : ∀ i x, (c ++ [b])[i]? = some x → c[i]? = some x ∨ (i = c.length ∧ x = b) := by
    intro i x hi
    rcases Nat.lt_or_ge i c.length with h1 | h1
    · rw [List.getElem?_append_left h1] at hi; exact .inl hi
    · rw [List.getElem?_append_right h1] at hi
      have : i - c.length < 1 := by have := (List.getElem?_eq_some_iff.1 hi).1; simpa using this
      have e : i = c.length := by omega
      subst e
      simp at hi
      exact .inr ⟨rfl, hi.symm⟩
  refine ⟨fun i x hi => ?_, fun i x hi => ?_, fun i x y hx hy => ?_, fun i x y hx hy hfy hR => ?_⟩
  rotate_right
  · rcases hg i x hx with h1 | ⟨rfl, rfl⟩
    · have hlt := (List.getElem?_eq_some_iff.1 h1).1
      exact h.min i x y h1 hy hfy fun h0 z hz => hR h0 z (by rw [List.getElem?_append_left (by omega)]; exact hz)
    · refine hmin y hy hfy fun z hz => ?_
      have hlt := (List.getElem?_eq_some_iff.1 hz).1
      exact hR (by omega) z (by rw [List.getElem?_append_left (by omega)]; exact hz)
  · rcases hg i x hi with h1 | ⟨_, rfl⟩
    · exact h.lt i x h1
    · exact hb
  · rcases hg i x hi with h1 | ⟨rfl, rfl⟩
    · exact h.up i x h1
    · exact hf
  · rcases hg (i + 1) y hy with h1 | ⟨h1, rfl⟩
    · rcases hg i x hx with h2 | ⟨rfl, _⟩
      · exact h.step i x y h2 h1
      · have := (List.getElem?_eq_some_iff.1 h1).1; omega
    · rcases hg i x hx with h2 | ⟨rfl, _⟩
      · exact hR x (by rw [show c.length - 1 = i from by omega]; exact h2)
      · omega
end Go.Proofs.Ytfjccccfkpgmgaa.Fd
