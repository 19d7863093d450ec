/-
  width; the least largest antichain.
-/
import Derived.Test.YtfjccccfkpgmgaaOrO
namespace Go.Proofs.Ytfjccccfkpgmgaa.Fd
set_option linter.unusedSimpArgs false
set_option linter.unusedVariables false
open Go
set_option maxRecDepth 100000

set_option maxHeartbeats 1000000 in
theorem width_ok {w : World} {b : Nat} {r : Nat → BitVec 64} {set : BitVec 64} (hb : Blk w b (tabL r) 53)
    (htr : ∀ a b c, rbit r a c = true → rbit r c b = true → rbit r a b = true) (hir : ∀ a, rbit r a a = false) :
    Ok (den Try.prog 44 #[.pointer (some ⟨b, 0, none⟩), U set] w) fun u w' => ∃ k : Nat, u = .int .i64 k ∧ IsWd (rbit r) (fun x => set.getLsbD x) k ∧ Upd (fun _ => False) w w' := by
  refine den_ok (args := [.pointer (some ⟨b, 0, none⟩), U set]) rs44 Try.func44 rfl mixed in44 ok44 rfl ?_
  simp (disch := omega) only [push_cast, Nat.reduceBEq, Nat.reduceEqDiff, Nat.reduceAdd, Nat.reduceMul, Nat.reduceSub, Nat.reduceLT, Int.reduceToNat, Int.reduceLT, Int.reduceLE, Int.reduceEq, Int.reduceAdd, Int.reduceSub, Int.reduceNeg, Int.reduceMul]
  refine Ok.use (match_ok hb) ?_
  rintro v w1 ⟨P, Q, C, rfl, hI, hu⟩
  have hb1 : Blk (w1.alloc (.cells (List.replicate 64 (.int .i64 0)).toArray 60 (0, 0))) w1.heap.size (List.replicate 64 (.int .i64 0)) 60 := Blk.new
  have l1 := st_mt (P := Q) hb1 (by simp)
  simp (disch := omega) only [push_cast, Nat.reduceBEq, Nat.reduceEqDiff, Nat.reduceAdd, Nat.reduceMul, Nat.reduceSub, Nat.reduceLT, Int.reduceToNat, Int.reduceLT, Int.reduceLE, Int.reduceEq, Int.reduceAdd, Int.reduceSub, Int.reduceNeg, Int.reduceMul, l1]
  refine Ok.use pop_ok ?_
  rintro v w2 ⟨rfl, rfl⟩
  obtain ⟨h1, h2⟩ := konig (R := rbit r) (fun a b => by unfold edg rbit; rw [BitVec.getLsbD_and]) (fun x hx => by
    apply Classical.byContradiction
    intro e
    rw [BitVec.getLsbD_of_ge _ _ (by omega)] at hx
    cases hx) htr hir hI
  simp (disch := omega) only [push_cast, Nat.reduceBEq, Nat.reduceEqDiff, Nat.reduceAdd, Nat.reduceMul, Nat.reduceSub, Nat.reduceLT, Int.reduceToNat, Int.reduceLT, Int.reduceLE, Int.reduceEq, Int.reduceAdd, Int.reduceSub, Int.reduceNeg, Int.reduceMul]
  refine ⟨_, ?_, h2, (hu.alloc'.trans (Upd.setRow (F := fun b => b = w1.heap.size) rfl) (fun b h1 h2 => by have := hu.size; omega))⟩
  have h3 : (cnt fun x => set.getLsbD x) ≤ 64 := List.length_filter_le _ _
  rw [wrap_ok (by omega) (by omega)]
  congr 1
  omega
structure AInv (n : Nat) (R : Rel) (W i : Nat) (S : Nat → Bool) (left : Nat) (out : List Nat) : Prop where
  wd : IsWd R S left
  sub : ∀ x, S x = true → x < n ∧ i ≤ x
  lt : ∀ a, a ∈ out → a < i ∧ a < n
  up : out.Pairwise (· < ·)
  len : out.length + left = W
  apart : ∀ a x, a ∈ out → S x = true → R a x = false ∧ R x a = false
  anti : ∀ a b, a ∈ out → b ∈ out → R a b = false
  full : ∀ x, i ≤ x → x < n → (∀ a, a ∈ out → R a x = false ∧ R x a = false) → S x = true
  least : ∀ B : Nat → Bool, (∀ x, B x = true → x < n) → Anti R B → cnt B = W →
    (∀ x, x < i → B x = out.contains x) ∨ ∃ d, d < i ∧ (∀ x, x < d → B x = out.contains x) ∧ d ∈ out ∧ B d = false
theorem AInv.start {n W : Nat} {R : Rel} {S : Nat → Bool} (hS : ∀ x, S x = decide (x < n)) (h : IsWd R S W) : AInv n R W 0 S W [] :=
  ⟨h, fun x hx => by rw [hS, decide_eq_true_eq] at hx; exact ⟨hx, Nat.zero_le _⟩, fun a ha => by simp at ha, List.Pairwise.nil, by simp, fun a x ha => by simp at ha, fun a b ha => by simp at ha,
    fun x _ hx _ => by rw [hS]; simpa using hx, fun B _ _ _ => .inl fun x hx => by omega⟩
theorem AInv.skip {n W i left : Nat} {R : Rel} {S : Nat → Bool} {out : List Nat} (h : AInv n R W i S left out) (hi : i < n) (hS : S i = false) : AInv n R W (i + 1) S left out := by
  refine ⟨h.wd, fun x hx => ?_, fun a ha => ⟨by have := (h.lt a ha).1; omega, (h.lt a ha).2⟩, h.up, h.len, h.apart, h.anti, fun x hx => h.full x (by omega), fun B h1 h2 h3 => ?_⟩
  · have h1 := h.sub x hx
    have : x ≠ i := fun e => by rw [e, hS] at hx; cases hx
    omega
  · rcases h.least B h1 h2 h3 with h4 | ⟨d, h4, h5⟩
    · left
      intro x hx
      by_cases e : x = i
      · rw [e]
        have hno : out.contains i = false := by
          rw [← Bool.not_eq_true, List.contains_iff_mem]
          intro hm
          have := (h.lt i hm).1
          omega
        rw [hno]
        cases hB : B i
        · rfl
        · exfalso
          have : S i = true := by
            refine h.full i (Nat.le_refl i) hi fun a ha => ?_
            have hBa : B a = true := by
              rw [h4 a (h.lt a ha).1, List.contains_iff_mem]
              exact ha
            exact ⟨h2 a i hBa hB, h2 i a hB hBa⟩
          rw [hS] at this
          cases this
      · exact h4 x (by omega)
    · exact .inr ⟨d, by omega, h5⟩
def minus (S : Nat → Bool) (i : Nat) : Nat → Bool := fun x => S x && !(x == i)
def away (S : Nat → Bool) (R : Rel) (i : Nat) : Nat → Bool := fun x => minus S i x && !R i x && !R x i
theorem minus_true {S : Nat → Bool} {i x : Nat} : minus S i x = true ↔ S x = true ∧ x ≠ i := by simp [minus]
theorem away_true {S : Nat → Bool} {R : Rel} {i x : Nat} : away S R i x = true ↔ S x = true ∧ x ≠ i ∧ R i x = false ∧ R x i = false := by
  simp [away, minus, and_assoc]
theorem cnt_add {A : Nat → Bool} {i : Nat} (hi : i < 64) (h : A i = false) : cnt (fun x => x == i || A x) = cnt A + 1 := by
  have h1 := cnt_split (f := fun x => x == i || A x) (g := A)
  have h2 : (cnt fun x => (x == i || A x) && A x) = cnt A := cnt_congr fun x _ => by cases A x <;> simp
  have h3 : (cnt fun x => (x == i || A x) && !A x) = cnt fun x => x == i := cnt_congr fun x _ => by
    by_cases e : x = i
    · subst e; simp [h]
    · have : (x == i) = false := by simpa using e
      rw [this]; cases A x <;> rfl
  have h4 : (cnt fun x => x == i) = 1 := by
    unfold cnt
    rw [← List.countP_eq_length_filter]
    have : List.countP (fun x => x == i) (List.range 64) = (List.range 64).count i := rfl
    rw [this, List.nodup_range.count]
    rw [if_pos (List.mem_range.2 hi)]
  omega
theorem IsWd.away_le {R : Rel} {S : Nat → Bool} {i k k2 : Nat} (hir : ∀ a, R a a = false) (hi : i < 64) (hS : S i = true) (h : IsWd R S k) (h2 : IsWd R (away S R i) k2) : k2 + 1 ≤ k := by
  obtain ⟨A, a1, a2, a3⟩ := h2.ex
  have hAi : A i = false := by
    cases e : A i
    · rfl
    · exact absurd rfl (away_true.1 (a1 i e)).2.1
  rw [← a3, ← cnt_add hi hAi]
  refine h.le _ (fun x hx => ?_) (fun a b ha hb => ?_)
  · rw [Bool.or_eq_true, beq_iff_eq] at hx
    rcases hx with rfl | hx
    · exact hS
    · exact (away_true.1 (a1 x hx)).1
  · rw [Bool.or_eq_true, beq_iff_eq] at ha hb
    rcases ha with rfl | ha <;> rcases hb with rfl | hb
    · exact hir _
    · exact (away_true.1 (a1 b hb)).2.2.1
    · exact (away_true.1 (a1 a ha)).2.2.2
    · exact a2 a b ha hb
/-- What an antichain with i has besides i. -/
theorem IsWd.take {R : Rel} {S B : Nat → Bool} {i k2 : Nat} (hi : i < 64) (hB : B i = true) (hBS : ∀ x, B x = true → x ≠ i → R i x = false → R x i = false → S x = true) (hA : Anti R B) (h2 : IsWd R (away S R i) k2) : cnt B ≤ k2 + 1 := by
  have h1 := h2.le (minus B i) (fun x hx => ?_) (fun a b ha hb => hA a b (minus_true.1 ha).1 (minus_true.1 hb).1)
  · have h3 := cnt_add (A := minus B i) hi (by simp [minus])
    have h4 : (cnt fun x => x == i || minus B i x) = cnt B := cnt_congr fun x _ => by
      by_cases e : x = i
      · subst e; simp [hB]
      · have : (x == i) = false := by simpa using e
        simp [minus, this]
    omega
  · obtain ⟨h3, h4⟩ := minus_true.1 hx
    exact away_true.2 ⟨hBS x h3 h4 (hA i x hB h3) (hA x i h3 hB), h4, hA i x hB h3, hA x i h3 hB⟩
theorem AInv.pass {n W i left k2 : Nat} {R : Rel} {S : Nat → Bool} {out : List Nat} (hir : ∀ a, R a a = false) (h : AInv n R W i S left out) (hi : i < n) (hn : n ≤ 64) (hS : S i = true) (h2 : IsWd R (away S R i) k2) (hk : k2 + 1 ≠ left) :
    AInv n R W (i + 1) (minus S i) left out := by
  have hle := h.wd.away_le hir (by omega) hS h2
  have hno : out.contains i = false := by
    rw [← Bool.not_eq_true, List.contains_iff_mem]
    intro hm
    have := (h.lt i hm).1
    omega
  refine ⟨⟨?_, fun A a1 a2 => h.wd.le A (fun x hx => (minus_true.1 (a1 x hx)).1) a2⟩, fun x hx => ?_, fun a ha => ⟨by have := (h.lt a ha).1; omega, (h.lt a ha).2⟩, h.up, h.len, fun a x ha hx => h.apart a x ha (minus_true.1 hx).1, h.anti,
    fun x hx hx2 hx3 => minus_true.2 ⟨h.full x (by omega) hx2 hx3, by omega⟩, fun B h1 h3 h4 => ?_⟩
  · obtain ⟨A, a1, a2, a3⟩ := h.wd.ex
    refine ⟨A, fun x hx => minus_true.2 ⟨a1 x hx, fun e => ?_⟩, a2, a3⟩
    subst e
    have := IsWd.take (S := S) (by omega) hx (fun y hy _ _ _ => a1 y hy) a2 h2
    omega
  · obtain ⟨h1, h2⟩ := minus_true.1 hx
    have := h.sub x h1
    omega
  · rcases h.least B h1 h3 h4 with h5 | ⟨d, h5, h6⟩
    · left
      intro x hx
      by_cases e : x = i
      · rw [e, hno]
        cases hB : B i
        · rfl
        · exfalso
          -- B beyond i and without the chosen ones
          let B' : Nat → Bool := fun x => B x && !decide (x < i)
          have hb : cnt B' ≤ k2 + 1 := by
            refine IsWd.take (S := S) (i := i) (by omega) (by simp [B', hB]) (fun y hy hyi hy2 hy3 => ?_) (fun a b ha hb => ?_) h2
            · have hy' : B y = true ∧ i ≤ y := by simpa [B'] using hy
              refine h.full y hy'.2 (h1 y hy'.1) fun a ha => ?_
              have hBa : B a = true := by
                rw [h5 a (h.lt a ha).1, List.contains_iff_mem]
                exact ha
              exact ⟨h3 a y hBa hy'.1, h3 y a hy'.1 hBa⟩
            · have ha' : B a = true ∧ i ≤ a := by simpa [B'] using ha
              have hb' : B b = true ∧ i ≤ b := by simpa [B'] using hb
              exact h3 a b ha'.1 hb'.1
          have hsp := cnt_split (f := B) (g := fun x => decide (x < i))
          have hlo : (cnt fun x => B x && decide (x < i)) ≤ out.length := by
            unfold cnt
            refine nodup_sub (List.nodup_range.filter _) fun x hx => ?_
            have hx := (List.mem_filter.1 hx).2
            rw [Bool.and_eq_true, decide_eq_true_eq] at hx
            have := h5 x hx.2
            rw [hx.1] at this
            exact List.contains_iff_mem.1 this.symm
          have hlen := h.len
          have hB' : (cnt fun x => B x && !decide (x < i)) = cnt B' := rfl
          omega
      · exact h5 x (by omega)
    · exact .inr ⟨d, by omega, h6⟩
theorem AInv.pick {n W i left k2 : Nat} {R : Rel} {S : Nat → Bool} {out : List Nat} (hir : ∀ a, R a a = false) (h : AInv n R W i S left out) (hi : i < n) (hS : S i = true) (h2 : IsWd R (away S R i) k2) (hk : k2 + 1 = left) :
    AInv n R W (i + 1) (away S R i) k2 (out ++ [i]) := by
  have hmem : ∀ {a}, a ∈ out ++ [i] ↔ a ∈ out ∨ a = i := by intro a; simp
  have hcon : ∀ x, x < i → (out ++ [i]).contains x = out.contains x := by
    intro x hx
    have e : ¬ x = i := by omega
    have : ((out ++ [i]).contains x = true) ↔ (out.contains x = true) := by
      rw [List.contains_iff_mem, List.contains_iff_mem, hmem]
      exact ⟨fun h => h.resolve_right e, .inl⟩
    exact Bool.eq_iff_iff.2 this
  refine ⟨h2, fun x hx => ?_, fun a ha => ?_, ?_, ?_, fun a x ha hx => ?_, fun a b ha hb => ?_, fun x hx hx2 hx3 => ?_, fun B h1 h3 h4 => ?_⟩
  · obtain ⟨h1, h2, _⟩ := away_true.1 hx
    have := h.sub x h1
    omega
  · rcases hmem.1 ha with ha | rfl
    · have := h.lt a ha
      omega
    · omega
  · rw [List.pairwise_append]
    refine ⟨h.up, by simp, fun a ha b hb => ?_⟩
    have := (h.lt a ha).1
    simp at hb
    omega
  · have := h.len
    simp
    omega
  · obtain ⟨h1, h2, h3, h4⟩ := away_true.1 hx
    rcases hmem.1 ha with ha | rfl
    · exact h.apart a x ha h1
    · exact ⟨h3, h4⟩
  · rcases hmem.1 ha with ha1 | ha1 <;> rcases hmem.1 hb with hb1 | hb1
    · exact h.anti a b ha1 hb1
    · rw [hb1]; exact (h.apart a _ ha1 hS).1
    · rw [ha1]; exact (h.apart b _ hb1 hS).2
    · rw [ha1, hb1]; exact hir _
  · have h5 := hx3 i (hmem.2 (.inr rfl))
    exact away_true.2 ⟨h.full x (by omega) hx2 fun a ha => hx3 a (hmem.2 (.inl ha)), by omega, h5.1, h5.2⟩
  · rcases h.least B h1 h3 h4 with h5 | ⟨d, h5, h6, h7, h8⟩
    · cases hB : B i
      · exact .inr ⟨i, by omega, fun x hx => by rw [hcon x hx]; exact h5 x hx, hmem.2 (.inr rfl), hB⟩
      · left
        intro x hx
        by_cases e : x = i
        · rw [e, hB]
          exact (List.contains_iff_mem.2 (hmem.2 (.inr rfl))).symm
        · rw [hcon x (by omega)]
          exact h5 x (by omega)
    · exact .inr ⟨d, by omega, fun x hx => by rw [hcon x (by omega)]; exact h6 x hx, hmem.2 (.inl h7), h8⟩
theorem AInv.done {n W left : Nat} {R : Rel} {S : Nat → Bool} {out : List Nat} (h : AInv n R W n S left out) : out.length = W := by
  obtain ⟨A, a1, _, a3⟩ := h.wd.ex
  have h0 : cnt A = 0 := by
    unfold cnt
    rw [List.length_eq_zero_iff, List.filter_eq_nil_iff]
    intro x _ hx
    have := h.sub x (a1 x hx)
    omega
  have := h.len
  omega
end Go.Proofs.Ytfjccccfkpgmgaa.Fd
