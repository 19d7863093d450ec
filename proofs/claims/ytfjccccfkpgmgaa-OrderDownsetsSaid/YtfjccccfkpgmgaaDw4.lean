/-
  The sort of the sets: slices.SortFunc with slices.Compare at a row of lists of ints.
-/
import Derived.Test.YtfjccccfkpgmgaaDw1
import Derived.Test.YtfjccccfkpgmgaaDw3
import Derived.Shelf.SlSortCmp.Whole1
namespace Go.Proofs.Ytfjccccfkpgmgaa.Fd
set_option linter.unusedSimpArgs false
set_option linter.unusedVariables false
open Go
set_option maxRecDepth 100000

def cfS (css : List (List Nat)) (i j : Nat) : Int := cmpL (css.getD i []) (css.getD j [])
theorem ltOf_cf {css : List (List Nat)} {i j : Nat} : ltOf (cfS css) i j = lexL (css.getD i []) (css.getD j []) := cmpL_neg
theorem swoS {css : List (List Nat)} : Sort.SWO (ltOf (cfS css)) where
  irrefl x := by rw [ltOf_cf]; exact lexL_irrefl _
  trans x y z h1 h2 := by rw [ltOf_cf] at *; exact lexL_trans h1 h2
  ntrans x y z h1 h2 := by rw [ltOf_cf] at *; exact lexL_ntrans h1 h2
def encS (vs : List Value) (i : Nat) : Value := vs.getD i (.slice none 0 0)

theorem sortWorld_upd {α : Type} [Inhabited α] {enc : α → Value} {w : World} {blk off m : Nat} {dk : Array α} {os : Array Obj} : Upd (fun b => b = blk) w (sortWorld enc w blk off m dk os) := by
  unfold sortWorld
  refine ⟨rfl, rfl, rfl, by simp, fun k hk hne => ?_⟩
  have h : blk ≠ k := fun e => hne e.symm
  simp only [Sort.grow]
  rw [Array.getElem?_append_left (by simpa using hk)]
  simp [Sort.putRow, Sort.mapBlock, Sort.ahead, Array.getElem?_modify, h]

theorem sort_calls {w : World} {blk cap : Nat} {vs : List Value} {css : List (List Nat)} (hown : w.ownsRow 0 26 1 (.slice (some ⟨blk, 0, none⟩) css.length cap) vs.length vs) (hl : vs.length = css.length)
    (hcs : ∀ (j : Nat) u c, vs[j]? = some u → css[j]? = some c → u.oneCell' = true ∧ SlI w u (toI c) ∧ ∀ g, u.ownBlock = some g → g ≠ blk) (hlen : ∀ c ∈ css, c.length ≤ 64) (hn : css.length ≤ 4096) :
    Calls Try.prog 52 #[.slice (some ⟨blk, 0, none⟩) css.length cap, .func (.func 53) #[] #[]] w fun e w' => e = .returned (.tuple #[]) ∧
      ∃ d', d'.Perm css ∧ d'.Pairwise (fun a b => lexL b a = false) ∧ SlL w' (.slice (some ⟨blk, 0, none⟩) css.length cap) d' ∧ Upd (fun b => b = blk) w w' := by
  have hS : ∀ x : Nat, (encS vs x).oneCell' = true ∧ SlI w (encS vs x) (toI (css.getD x [])) ∧ (∀ g, (encS vs x).ownBlock = some g → g ≠ blk) ∧ (css.getD x []).length ≤ 64 := by
    intro x
    by_cases h : x < css.length
    · have h1 : vs[x]? = some (encS vs x) := by
        unfold encS
        rw [List.getD_eq_getElem?_getD, List.getElem?_eq_getElem (by omega)]; rfl
      have h2 : css[x]? = some (css.getD x []) := by
        rw [List.getD_eq_getElem?_getD, List.getElem?_eq_getElem h]; rfl
      obtain ⟨k0, k1, k2⟩ := hcs x _ _ h1 h2
      exact ⟨k0, k1, k2, hlen _ (List.mem_of_getElem? h2)⟩
    · have h1 : encS vs x = .slice none 0 0 := by
        unfold encS
        rw [List.getD_eq_getElem?_getD, List.getElem?_eq_none (by omega)]; rfl
      have h2 : css.getD x [] = [] := by
        rw [List.getD_eq_getElem?_getD, List.getElem?_eq_none (by omega)]; rfl
      rw [h1, h2]
      exact ⟨rfl, ⟨none, 0, rfl, fun h => absurd rfl h⟩, (fun g hg => by cases hg), by simp⟩
  have hrow : ∀ j, j < css.length → w.cell? ⟨blk, 0 + j, none⟩ = some (encS vs j) := by
    intro j hj
    have hu : vs[j]? = some (encS vs j) := by
      unfold encS
      rw [List.getD_eq_getElem?_getD, List.getElem?_eq_getElem (by omega)]; rfl
    obtain ⟨g', cap', hv', _, hc⟩ := own_cell (s := 1) (f := fun x : Value => [x]) (fun _ => rfl) (E := 26) (by rw [flat_one (f := fun x : Value => x), List.map_id']; exact hown) hu
    injection hv' with e1 _ _
    injection e1 with e1
    injection e1 with e1
    subst e1
    have h0 := hc 0 (by omega)
    simp only [List.getElem?_cons_zero, Nat.add_zero, Nat.mul_one] at h0
    rw [Nat.zero_add]; exact h0
  have hblk : blk < w.heap.size := hown.lt _ rfl |>.2
  have hfree : ∀ j, w.frozen? ⟨blk, j, none⟩ = false := by
    rcases hown.2 with ⟨h, _⟩ | ⟨g, c, cur, hv, _, hg, _⟩
    · cases h
    · injection hv with e1 _ _
      injection e1 with e1
      injection e1 with e1
      subst e1
      intro j
      simp [World.frozen?, hg]
  have hH : Sort.Holds (encS vs) w blk 0 (Array.range css.length) := by
    intro j hj
    rw [Array.size_range] at hj
    rw [getElem!_pos _ j (by simpa using hj), Array.getElem_range]
    exact ⟨hrow j hj, hfree _⟩
  have hsz : (Array.range css.length).size = css.length := Array.size_range
  have hcmp : CmpReads Try.prog 53 #[] (encS vs) (cfS css) blk 0 (Array.range css.length).size w := by
    intro m os dk hdk x y
    have hu : Upd (fun b => b = blk) w (sortWorld (encS vs) w blk 0 m dk os) := sortWorld_upd
    have h1 := (hS x).2.1.updF hu (hS x).2.2.1
    have h2 := (hS y).2.1.updF hu (hS y).2.2.1
    obtain ⟨v, w1, h3, rfl, rfl⟩ := Ok_iff.1 (scmp_ok h1 h2 (by have := (hS x).2.2.2; omega))
    refine (den_sound _ _ _ _ _ _ h3).mono ?_
    rintro e w' ⟨rfl, rfl⟩
    exact ⟨rfl, 0, rfl⟩
  have h := Any.slices_SortFunc layS (encS vs) (fun x => (hS x).1) (cfS css) swoS 53 #[] blk 0 cap (Array.range css.length) w (enters_of Try.func53 (by kernel_rfl) rfl) hcmp.lays hH hblk (by rw [hsz]; omega)
  rw [hsz] at h
  refine h.mono ?_
  rintro e w' ⟨rfl, d, n, os, hp, hs, rfl⟩
  have hd : d.size = css.length := by rw [hp.1, hsz]
  have hu : Upd (fun b => b = blk) w (sortWorld (encS vs) w blk 0 n d os) := sortWorld_upd
  refine ⟨rfl, d.toList.map fun i => css.getD i [], ?_, ?_, ⟨some ⟨blk, 0, none⟩, cap, by simp [hd], fun _ => ⟨blk, 0, rfl, Nat.lt_of_lt_of_le hblk hu.size, fun j c hj => ?_⟩⟩, hu⟩
  · have h2 := hp.2.2
    have e1 : d.extract 0 css.length = d := by rw [← hd]; simp
    have e2 : (Array.range css.length).extract 0 css.length = Array.range css.length := by simp
    rw [e1, e2, Array.toList_range] at h2
    have h3 := h2.map fun i => css.getD i []
    have e3 : (List.range css.length).map (fun i => css.getD i []) = css := by
      apply List.ext_getElem?
      intro j
      rw [List.getElem?_map]
      by_cases hj : j < css.length
      · rw [List.getElem?_range hj, Option.map_some, List.getD_eq_getElem?_getD, List.getElem?_eq_getElem hj]; rfl
      · rw [List.getElem?_eq_none (by simpa using hj), List.getElem?_eq_none (by omega)]; rfl
    rwa [e3] at h3
  · rw [List.pairwise_map, List.pairwise_iff_getElem]
    intro i j hi hj hij
    have := hs i j (Nat.zero_le _) hij (by rw [Array.length_toList] at hj; omega)
    rw [ltOf_cf] at this
    rw [getElem!_pos d i (by simpa using hi), getElem!_pos d j (by simpa using hj)] at this
    simpa using this
  · rw [List.getElem?_map, Array.getElem?_toList] at hj
    have hjd : j < d.size := by
      by_cases h : j < d.size
      · exact h
      · rw [Array.getElem?_eq_none (by omega)] at hj; cases hj
    rw [Array.getElem?_eq_getElem hjd, Option.map_some, Option.some.injEq] at hj
    subst hj
    refine ⟨encS vs d[j], ?_, (hS d[j]).2.1.updF hu (hS d[j]).2.2.1⟩
    have hh := (Sort.holds_putRow (encS vs) (Sort.ahead w n) blk 0 (Array.range css.length) d hH (by rw [hd, hsz])) j hjd
    have h1 := hh.1
    rw [getElem!_pos d j hjd] at h1
    rw [← h1]
    unfold sortWorld
    refine World.cell?_of_block ?_
    simp only [Sort.grow]
    rw [Array.getElem?_append_left (by simpa using hblk)]
end Go.Proofs.Ytfjccccfkpgmgaa.Fd
