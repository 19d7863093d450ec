/-
  Relations as plain data: pairs in memory, the closure by Warshall's steps, tables of bits.
-/
import Derived.Test.YtfjccccfkpgmgaaFdE
import Derived.Test.YtfjccccfkpgmgaaFacts
import Derived.OpenShut
import Derived.Laws.OwnMore
namespace Go.Proofs.Ytfjccccfkpgmgaa.Fd
set_option linter.unusedSimpArgs false
set_option linter.unusedVariables false
open Go
set_option maxRecDepth 100000

abbrev Pr := Int × Int
def pairRow (x : Pr) : List Value := [.int .i64 x.1, .int .i64 x.2]
/-- A slice of pairs that can be read. -/
def SlP (w : World) (v : Value) (l : List Pr) : Prop := ∃ a c, v = .slice a l.length c ∧ (l ≠ [] → ∃ b o, a = some ⟨b, o, none⟩ ∧ b < w.heap.size ∧ ∀ j x, l[j]? = some x → w.cell? ⟨b, o + j * 2, none⟩ = some (.int .i64 x.1) ∧ w.cell? ⟨b, o + j * 2 + 1, none⟩ = some (.int .i64 x.2))
theorem SlP.upd {w w' : World} {v : Value} {l : List Pr} (h : SlP w v l) (hu : Upd (fun _ => False) w w') : SlP w' v l := by
  obtain ⟨a, c, hv, hl⟩ := h
  refine ⟨a, c, hv, fun h0 => ?_⟩
  obtain ⟨b, o, h1, h2, h3⟩ := hl h0
  have e := hu.block b h2 (fun h => h)
  exact ⟨b, o, h1, Nat.lt_of_lt_of_le h2 hu.size, fun j x hj => ⟨by rw [World.cell?_of_block e]; exact (h3 j x hj).1, by rw [World.cell?_of_block e]; exact (h3 j x hj).2⟩⟩
theorem SlP.of_own {w : World} {v : Value} {l : List Pr} (h : w.ownsRow 0 29 2 v l.length (l.flatMap pairRow)) : SlP w v l := by
  rcases h.2 with ⟨rfl, h0⟩ | ⟨g, cap, cur, hv, _, hg, _⟩
  · have : l = [] := List.eq_nil_of_length_eq_zero h0
    subst this
    exact ⟨none, 0, rfl, fun h => absurd rfl h⟩
  · refine ⟨_, cap, hv, fun _ => ⟨g, 0, rfl, (Array.getElem?_eq_some_iff.1 hg).1, fun j x hj => ?_⟩⟩
    obtain ⟨g', cap', hv', _, hc⟩ := own_cell (f := pairRow) (fun _ => rfl) h hj
    rw [hv] at hv'
    injection hv' with e1 _ _
    injection e1 with e1
    injection e1 with e1
    subst e1
    have h0 := hc 0 (by omega)
    have h1 := hc 1 (by omega)
    simp only [pairRow, List.getElem?_cons_zero, List.getElem?_cons_succ, Nat.add_zero] at h0 h1
    exact ⟨by rw [Nat.zero_add]; exact h0, by rw [Nat.zero_add]; exact h1⟩
/-- A slice of ints that can be read. -/
def SlI (w : World) (v : Value) (l : List Int) : Prop := ∃ a c, v = .slice a l.length c ∧ (l ≠ [] → ∃ b o, a = some ⟨b, o, none⟩ ∧ b < w.heap.size ∧ ∀ j x, l[j]? = some x → w.cell? ⟨b, o + j, none⟩ = some (.int .i64 x))
theorem SlI.upd {w w' : World} {v : Value} {l : List Int} (h : SlI w v l) (hu : Upd (fun _ => False) w w') : SlI w' v l := by
  obtain ⟨a, c, hv, hl⟩ := h
  refine ⟨a, c, hv, fun h0 => ?_⟩
  obtain ⟨b, o, h1, h2, h3⟩ := hl h0
  have e := hu.block b h2 (fun h => h)
  exact ⟨b, o, h1, Nat.lt_of_lt_of_le h2 hu.size, fun j x hj => by rw [World.cell?_of_block e]; exact h3 j x hj⟩
theorem flat_one {α β : Type} {f : α → β} {l : List α} : l.flatMap (fun x => [f x]) = l.map f := by
  induction l with
  | nil => rfl
  | cons x r ih => simp [ih]
theorem SlI.of_own {w : World} {v : Value} {l : List Int} (h : w.ownsRow 0 3 1 v l.length (l.map (Value.int .i64))) : SlI w v l := by
  rcases h.2 with ⟨rfl, h0⟩ | ⟨g, cap, cur, hv, _, hg, _⟩
  · have : l = [] := List.eq_nil_of_length_eq_zero h0
    subst this
    exact ⟨none, 0, rfl, fun h => absurd rfl h⟩
  · refine ⟨_, cap, hv, fun _ => ⟨g, 0, rfl, (Array.getElem?_eq_some_iff.1 hg).1, fun j x hj => ?_⟩⟩
    obtain ⟨g', cap', hv', _, hc⟩ := own_cell (s := 1) (f := fun x : Int => [Value.int .i64 x]) (fun _ => rfl) (v := v) (E := 3) (by rw [flat_one]; exact h) hj
    rw [hv] at hv'
    injection hv' with e1 _ _
    injection e1 with e1
    injection e1 with e1
    subst e1
    have h0 := hc 0 (by omega)
    simp only [List.getElem?_cons_zero, Nat.add_zero, Nat.mul_one] at h0
    rw [Nat.zero_add]; exact h0
theorem choose_prs {n : Nat} {p : Nat → Pr → Prop} (h : ∀ i, i < n → ∃ x, p i x) : ∃ l : List Pr, l.length = n ∧ ∀ i x, l[i]? = some x → p i x := by
  induction n with
  | zero => exact ⟨[], rfl, by simp⟩
  | succ n ih =>
    obtain ⟨l, h1, h2⟩ := ih (fun i hi => h i (by omega))
    obtain ⟨x, hx⟩ := h n (by omega)
    refine ⟨l ++ [x], by simp [h1], fun i y hy => ?_⟩
    rcases Nat.lt_or_ge i n with hi | hi
    · rw [List.getElem?_append_left (by omega)] at hy
      exact h2 i y hy
    · rw [List.getElem?_append_right (by omega)] at hy
      have e : i = n := by
        have := (List.getElem?_eq_some_iff.1 hy).1
        simp at this
        omega
      subst e
      simp [h1] at hy
      subst hy
      exact hx
theorem open_pairs {H : Type} {enc : TypeId × Value → H} {w : World} {v : Value} {r : Reach} {b0 : Nat} {d : DataW H} {ps : List MemPlace}
    (hval : Value.okWide Try.prog w r b0 22 v) (h : DataW.Trod enc Try.prog w 0 (fun _ => true) true 22 v d ps) : ∃ l, SlP w v l := by
  obtain ⟨a', l', c', rfl⟩ := Go.WideShapes.okWide_slice Try.underlying22 hval
  obtain ⟨n, h⟩ := h
  have c1 : Try.prog.cellsOf 29 = 2 := by kernel_rfl
  have c0 : Try.prog.cellsOf 3 = 1 := by kernel_rfl
  rcases Go.Deep.open_slice Try.underlying22 h with ⟨h1, _⟩ | ⟨a, len, cap, m, n', D, Pl, h1, _, hl, _, hm, _, hx⟩
  · have h1 : Value.slice a' l' c' = _ := (List.cons.inj (show [Value.slice a' l' c'] = _ from h1)).1
    exact ⟨[], none, 0, h1, fun h => absurd rfl h⟩
  · have h1 : Value.slice a' l' c' = _ := (List.cons.inj (show [Value.slice a' l' c'] = _ from h1)).1
    simp only [if_true] at hm
    subst hm
    rw [c1] at hx
    rcases Nat.eq_zero_or_pos len with h0 | h0
    · subst h0
      exact ⟨[], some a, m, h1, fun h => absurd rfl h⟩
    have ha : ∃ b o, a = ⟨b, o, none⟩ ∧ b < w.heap.size := by
      obtain ⟨cs, h2, _⟩ := hx 0 (by omega)
      obtain ⟨_, h3, h4⟩ := World.cells?_some h2
      have h5 := h4 0 (by omega)
      obtain ⟨b, o, e, hb, _⟩ := cells_add (n := 1) (a := a) (V := fun _ => cs[0]) (fun i hi => by
        obtain rfl : i = 0 := by omega
        have : (a.add (0 * 2)).add 0 = a.add 0 := rfl
        rw [← this, h5, List.getElem?_eq_getElem]) (by omega)
      exact ⟨b, o, e, hb⟩
    obtain ⟨b, o, rfl, hb⟩ := ha
    obtain ⟨l, hl1, hl2⟩ := choose_prs (n := len) (p := fun j x => w.cell? ⟨b, o + j * 2, none⟩ = some (.int .i64 x.1) ∧ w.cell? ⟨b, o + j * 2 + 1, none⟩ = some (.int .i64 x.2)) (by
      intro j hj
      obtain ⟨cs, h2, h3⟩ := hx j (by omega)
      obtain ⟨_, h4, h5⟩ := World.cells?_some h2
      obtain ⟨xs, m', _, _, _, hxl, hxs⟩ := DataW.trod_array Try.underlying29 h3
      match cs, h4 with
      | [e0, e1], _ =>
        have t0 := hxs 0 (by omega)
        have t1 := hxs 1 (by omega)
        rw [List.getElem?_eq_getElem (by omega)] at t0 t1
        simp only [c0] at t0 t1
        obtain ⟨x0, g0, _, _⟩ := DataW.trod_int Try.underlying3 t0
        obtain ⟨x1, g1, _, _⟩ := DataW.trod_int Try.underlying3 t1
        have g0 : e0 = _ := (List.cons.inj (show [e0] = _ from g0)).1
        have g1 : e1 = _ := (List.cons.inj (show [e1] = _ from g1)).1
        have hc : ∀ i, i < 2 → w.cell? ⟨b, o + j * 2 + i, none⟩ = [e0, e1][i]? := by
          intro i hi
          rw [← h5 i hi]
          congr 1
          unfold Addr.add
          by_cases hj0 : j * 2 = 0
          · by_cases hi0 : i = 0
            · simp [hj0, hi0]
            · simp [hj0, hi0]
          · by_cases hi0 : i = 0
            · simp [hj0, hi0]
            · simp [hj0, hi0]
        exact ⟨(x0, x1), by rw [← g0]; exact hc 0 (by omega), by rw [← g1]; exact hc 1 (by omega)⟩)
    exact ⟨l, _, _, by rw [hl1]; exact h1, fun _ => ⟨b, o, rfl, hb, fun j x hj => hl2 j x hj⟩⟩

/-! relations -/
abbrev Rel := Nat → Nat → Bool
def relOf (l : List Pr) : Rel := fun a b => l.any fun p => p.1 == (a : Int) && p.2 == (b : Int)
def inR (n : Int) (p : Pr) : Bool := decide (0 ≤ p.1 ∧ p.1 < n ∧ 0 ≤ p.2 ∧ p.2 < n)
def chk (n : Int) (l : List Pr) : Int := if n < 0 ∨ 64 < n then 1 else if 4096 < l.length then 6 else if l.all (inR n) then 0 else 5
def wstep (k : Nat) (R : Rel) : Rel := fun a b => R a b || (R a k && R k b)
def clos : Nat → Rel → Rel
  | 0, R => R
  | k + 1, R => wstep k (clos k R)
def cyc (n : Nat) (R : Rel) : Bool := (List.range n).any fun a => R a a
/-- The table's rows in memory: 64 words, the bits of a relation. -/
def tabL (r : Nat → BitVec 64) : List Value := (List.range 64).map fun a => U (r a)
def rbit (r : Nat → BitVec 64) : Rel := fun a b => (r a).getLsbD b
theorem tabL_length {r : Nat → BitVec 64} : (tabL r).length = 64 := by simp [tabL]
theorem tabL_get {r : Nat → BitVec 64} {a : Nat} (h : a < 64) : (tabL r)[a]? = some (U (r a)) := by simp [tabL, h]
theorem tabL_set {r : Nat → BitVec 64} {a : Nat} {x : BitVec 64} : (tabL r).set a (U x) = tabL (fun i => if i = a then x else r i) := by
  apply List.ext_getElem?
  intro i
  rw [List.getElem?_set]
  by_cases h : a = i
  · subst h
    by_cases ha : a < 64
    · simp [tabL, ha]
    · simp [tabL, ha]
  · rw [if_neg h]
    by_cases hi : i < 64
    · rw [tabL_get hi, tabL_get hi, if_neg (Ne.symm h)]
    · simp [tabL, hi]
theorem tabL_one {r : Nat → BitVec 64} : ∀ u ∈ tabL r, u.oneCell' = true := by
  intro u hu
  obtain ⟨a, _, rfl⟩ := List.mem_map.1 hu
  rfl
theorem clos_mono {R : Rel} {k a b : Nat} (h : clos k R a b = true) : clos (k + 1) R a b = true := by
  simp only [clos, wstep, h, Bool.true_or]
theorem clos_base {R : Rel} : ∀ {k a b : Nat}, R a b = true → clos k R a b = true := by
  intro k
  induction k with
  | zero => intro a b h; exact h
  | succ k ih => intro a b h; exact clos_mono (ih h)
theorem clos_trans {R : Rel} : ∀ {k a b c : Nat}, c < k → clos k R a c = true → clos k R c b = true → clos k R a b = true := by
  intro k
  induction k with
  | zero => intro a b c h; omega
  | succ k ih =>
    intro a b c hc h1 h2
    simp only [clos, wstep, Bool.or_eq_true, Bool.and_eq_true] at h1 h2 ⊢
    by_cases e : c = k
    · subst e
      have g1 : clos c R a c = true := h1.elim id fun h => h.1
      have g2 : clos c R c b = true := h2.elim id fun h => h.2
      exact .inr ⟨g1, g2⟩
    · have hc' : c < k := by omega
      rcases h1 with h1 | ⟨h1, h1'⟩
      · rcases h2 with h2 | ⟨h2, h2'⟩
        · exact .inl (ih hc' h1 h2)
        · exact .inr ⟨ih hc' h1 h2, h2'⟩
      · rcases h2 with h2 | ⟨h2, h2'⟩
        · exact .inr ⟨h1, ih hc' h1' h2⟩
        · exact .inr ⟨h1, h2'⟩
/-- What is in the closure ends with a pair of the relation. -/
theorem clos_last {R : Rel} : ∀ {k a b : Nat}, clos k R a b = true → ∃ c, R c b = true ∧ (a = c ∨ clos k R a c = true) := by
  intro k
  induction k with
  | zero => intro a b h; exact ⟨a, h, .inl rfl⟩
  | succ k ih =>
    intro a b h
    simp only [clos, wstep, Bool.or_eq_true, Bool.and_eq_true] at h
    rcases h with h | ⟨h1, h2⟩
    · obtain ⟨c, e1, e2⟩ := ih h
      exact ⟨c, e1, e2.imp id clos_mono⟩
    · obtain ⟨c, e1, e2⟩ := ih h2
      refine ⟨c, e1, .inr ?_⟩
      rcases e2 with rfl | e2
      · exact clos_mono h1
      · simp only [clos, wstep, h1, e2, Bool.and_self, Bool.or_true]
theorem clos_sub {R S : Rel} (h : ∀ a b, R a b = true → S a b = true) (ht : ∀ a b c, S a c = true → S c b = true → S a b = true) : ∀ {k a b : Nat}, clos k R a b = true → S a b = true := by
  intro k
  induction k with
  | zero => intro a b h'; exact h a b h'
  | succ k ih =>
    intro a b h'
    simp only [clos, wstep, Bool.or_eq_true, Bool.and_eq_true] at h'
    rcases h' with h' | ⟨h1, h2⟩
    · exact ih h'
    · exact ht _ _ _ (ih h1) (ih h2)
end Go.Proofs.Ytfjccccfkpgmgaa.Fd
