/-
  What a sector may bear: plain facts of the law DiskAtomic; the rows of contents in memory.
-/
import Derived.Test.YtdekhojafpkgfaaDkB
import Derived.Test.YtdekhojafpkgfaaFdG
namespace Go.Proofs.Ytdekhojafpkgfaa.Fd
set_option linter.unusedSimpArgs false
set_option linter.unusedVariables false
open Go Go.ChangeMaps
set_option maxRecDepth 100000

/-- The writes to a sector. -/
def wrTo (c : List (Nat × List Int)) (k : Nat) : List (List Int) := (c.filter fun x => x.1 == k).map (·.2)
/-- What the sector k may bear after a crash. -/
def mayBe (d : DS) (k : Nat) : List (List Int) := d.dur.getD k [] :: wrTo d.cache k
theorem wrTo_snoc {c : List (Nat × List Int)} {k s : Nat} {b : List Int} : wrTo (c ++ [(s, b)]) k = wrTo c k ++ (if s = k then [b] else []) := by
  unfold wrTo
  rw [List.filter_append, List.map_append]
  by_cases h : s = k
  · simp [h]
  · simp [h]
theorem settled_in {ch : Nat → Bool} {c : List (Nat × List Int)} {dur : List (List Int)} {k : Nat} (hk : k < dur.length) : ∀ i, i ≤ c.length → (settled ch c dur i).getD k [] ∈ dur.getD k [] :: wrTo (c.take i) k := by
  intro i
  induction i with
  | zero => intro _; exact List.mem_cons_self
  | succ i ih =>
    intro hi
    have h := ih (by omega)
    have hx := List.getElem?_eq_getElem (l := c) (i := i) (by omega)
    generalize c[i]'(by omega) = x at hx
    have ht : c.take (i + 1) = c.take i ++ [x] := by rw [List.take_add_one, hx]; rfl
    have up : ∀ y, y ∈ dur.getD k [] :: wrTo (c.take i) k → y ∈ dur.getD k [] :: wrTo (c.take (i + 1)) k := by
      intro y hy
      obtain ⟨s, b⟩ := x
      rw [ht, wrTo_snoc]
      rcases List.mem_cons.1 hy with h | h
      · exact h ▸ List.mem_cons_self
      · exact List.mem_cons_of_mem _ (List.mem_append_left _ h)
    simp only [settled, hx]
    split
    · by_cases e : x.1 = k
      · have : ((settled ch c dur i).set x.1 x.2).getD k [] = x.2 := by
          rw [List.getD_eq_getElem?_getD, e, List.getElem?_set_self (by rw [settled_length]; exact hk)]
          rfl
        rw [this]
        obtain ⟨s, b⟩ := x
        rw [ht, wrTo_snoc, if_pos e]
        exact List.mem_cons_of_mem _ (List.mem_append_right _ List.mem_cons_self)
      · have : ((settled ch c dur i).set x.1 x.2).getD k [] = (settled ch c dur i).getD k [] := by
          rw [List.getD_eq_getElem?_getD, List.getElem?_set_ne e, List.getD_eq_getElem?_getD]
        rw [this]
        exact up _ h
    · exact up _ h
theorem settled_last {c : List (Nat × List Int)} {dur : List (List Int)} {k : Nat} (hk : k < dur.length) : ∀ i, i ≤ c.length → [(settled (fun _ => true) c dur i).getD k []] = (dur.getD k [] :: wrTo (c.take i) k).drop (wrTo (c.take i) k).length := by
  intro i
  induction i with
  | zero => intro _; rfl
  | succ i ih =>
    intro hi
    have h := ih (by omega)
    have hx := List.getElem?_eq_getElem (l := c) (i := i) (by omega)
    generalize c[i]'(by omega) = x at hx
    have ht : c.take (i + 1) = c.take i ++ [x] := by rw [List.take_add_one, hx]; rfl
    simp only [settled, hx, if_true]
    obtain ⟨s, b⟩ := x
    rw [ht, wrTo_snoc]
    by_cases e : s = k
    · have : ((settled (fun _ => true) c dur i).set s b).getD k [] = b := by
        rw [List.getD_eq_getElem?_getD, e, List.getElem?_set_self (by rw [settled_length]; exact hk)]
        rfl
      rw [this, if_pos e, List.length_append, ← List.cons_append, List.drop_append_of_le_length (by simp)]
      have h2 : (dur.getD k [] :: wrTo (c.take i) k).drop ((wrTo (c.take i) k).length + [b].length) = [] := List.drop_eq_nil_of_le (by simp)
      rw [h2]
      rfl
    · have : ((settled (fun _ => true) c dur i).set s b).getD k [] = (settled (fun _ => true) c dur i).getD k [] := by
        rw [List.getD_eq_getElem?_getD, List.getElem?_set_ne e, List.getD_eq_getElem?_getD]
      rw [this, if_neg e, List.append_nil]
      exact h
theorem mayBe_step {d : DS} {k : Nat} : mayBe d.step.2 k = mayBe d k := by
  unfold DS.step
  split
  · rfl
  · split <;> rfl
theorem mayBe_fail {d : DS} {x : Int} {k : Nat} : mayBe (d.fail x) k = mayBe d k := by
  unfold DS.fail
  split <;> rfl
theorem mayBe_write {d : DS} {x : Int} {l : List Int} {k : Nat} : mayBe (d.write x l).1 k = if (d.write x l).2 = 0 ∧ x = (k : Int) then mayBe d k ++ [l] else mayBe d k := by
  unfold DS.write
  split
  · rename_i h1
    split
    · show mayBe { d.step.2 with cache := d.step.2.cache ++ [(x.toNat, l)] } k = _
      have hs := mayBe_step (d := d) (k := k)
      unfold mayBe at hs ⊢
      dsimp only
      rw [wrTo_snoc]
      by_cases e : x = (k : Int)
      · rw [if_pos (show x.toNat = k by omega), if_pos ⟨rfl, e⟩, ← List.cons_append, hs]
      · rw [if_neg (show ¬ x.toNat = k by omega), List.append_nil, if_neg (fun h => e h.2), hs]
    · rw [if_neg (fun h => (show (8 : Int) = 0 → False by decide) h.1)]
      exact mayBe_step
  · rw [if_neg (fun h => (show (1 : Int) = 0 → False by decide) h.1)]
theorem mayBe_sync {d : DS} {k : Nat} (hk : k < d.dur.length) : mayBe d.sync.1 k = if d.sync.2 = 0 then (mayBe d k).drop ((mayBe d k).length - 1) else mayBe d k := by
  unfold DS.sync
  split
  · rw [if_pos rfl]
    have hs := mayBe_step (d := d) (k := k)
    rw [← hs]
    have hl : d.step.2.dur.length = d.dur.length := by
      unfold DS.step
      split
      · rfl
      · split <;> rfl
    have h := settled_last (c := d.step.2.cache) (dur := d.step.2.dur) (k := k) (by omega) d.step.2.cache.length (Nat.le_refl _)
    rw [List.take_length] at h
    show [(settled (fun _ => true) d.step.2.cache d.step.2.dur d.step.2.cache.length).getD k []] = _
    rw [h]
    rfl
  · rw [if_neg (fun h => (show (8 : Int) = 0 → False by decide) h)]
    exact mayBe_step
theorem mayBe_crash {d : DS} {keep : List Bool} {k : Nat} (hk : k < d.dur.length) : (d.crash keep).dur.getD k [] ∈ mayBe d k := by
  have h := settled_in (ch := fun i => keep.getD i false) (c := d.cache) (dur := d.dur) (k := k) hk d.cache.length (Nat.le_refl _)
  rw [List.take_length] at h
  exact h
end Go.Proofs.Ytdekhojafpkgfaa.Fd
