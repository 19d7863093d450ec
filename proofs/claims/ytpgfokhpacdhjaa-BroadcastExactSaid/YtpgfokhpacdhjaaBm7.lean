/-
  slices.SortFunc, slices.SortedFunc at names; names.
-/
import Derived.Test.YtpgfokhpacdhjaaBm6
import Derived.Test.YtpgfokhpacdhjaaBm5
import Derived.Test.YtpgfokhpacdhjaaFdR
import Derived.Shelf.SlSortCmp.NoneTotal
namespace Go.Proofs.Ytpgfokhpacdhjaa.Fd
set_option linter.unusedSimpArgs false
set_option linter.unusedVariables false
open Go Go.Sort
set_option maxRecDepth 100000

theorem own_base {w : World} {B E s n : Nat} {v : Value} {xs : List Value} (h : w.ownsRow B E s v n xs) : w.ownsRow 0 E s v n xs := by
  refine ⟨h.1, ?_⟩
  rcases h.2 with h | ⟨g, cap, cur, hv, _, rest⟩
  · exact .inl h
  · exact .inr ⟨g, cap, cur, hv, Nat.zero_le _, rest⟩
/-- A row of names. -/
def SlQ (w : World) (v : Value) (l : List NP) : Prop := ∃ a c, v = .slice a l.length c ∧ (l ≠ [] → ∃ b o, a = some ⟨b, o, none⟩ ∧ b < w.heap.size ∧ ∀ j x, l[j]? = some x → w.cell? ⟨b, o + j * 2, none⟩ = some (.int .i64 x.1) ∧ w.cell? ⟨b, o + j * 2 + 1, none⟩ = some (.int .i64 x.2))
theorem SlQ.upd {w w' : World} {v : Value} {l : List NP} (h : SlQ w v l) (hu : Upd (fun _ => False) w w') : SlQ w' v l := by
  obtain ⟨a, c, hv, hl⟩ := h
  refine ⟨a, c, hv, fun h0 => ?_⟩
  obtain ⟨b, o, h1, h2, h3⟩ := hl h0
  have e : ∀ o, w'.cell? ⟨b, o, none⟩ = w.cell? ⟨b, o, none⟩ := fun o => World.cell?_of_block (hu.block b h2 (fun h => h))
  exact ⟨b, o, h1, Nat.lt_of_lt_of_le h2 hu.size, fun j x hj => by rw [e, e]; exact h3 j x hj⟩
def ltN (a b : NP) : Bool := decide (a.1 < b.1) || (decide (a.1 = b.1) && decide (a.2 < b.2))
theorem cmpI_neg {x y : Int} : cmpI x y < 0 ↔ x < y := by
  unfold cmpI
  split
  · simp; omega
  · split
    · simp; omega
    · simp; omega
theorem cmpI_zero {x y : Int} : cmpI x y = 0 ↔ x = y := by
  unfold cmpI
  split
  · simp; omega
  · split
    · simp; omega
    · simp; omega
theorem ltOf_cmpN {a b : NP} : ltOf cmpN a b = ltN a b := by
  unfold ltOf ltN cmpN
  rw [Bool.eq_iff_iff]
  simp only [decide_eq_true_eq, Bool.or_eq_true, Bool.and_eq_true]
  by_cases h : a = b
  · rw [if_pos h, h]; simp
  · rw [if_neg h]
    by_cases h2 : cmpI a.1 b.1 = 0
    · rw [if_pos h2, cmpI_neg]
      rw [cmpI_zero] at h2
      omega
    · rw [if_neg h2, cmpI_neg]
      rw [cmpI_zero] at h2
      omega
theorem ltN_iff {a b : NP} : ltN a b = true ↔ a.1 < b.1 ∨ (a.1 = b.1 ∧ a.2 < b.2) := by
  unfold ltN
  simp only [Bool.or_eq_true, Bool.and_eq_true, decide_eq_true_eq]
theorem ltN_false {a b : NP} : ltN a b = false ↔ ¬ (a.1 < b.1 ∨ (a.1 = b.1 ∧ a.2 < b.2)) := by
  rw [← ltN_iff, Bool.not_eq_true]
theorem swoN : Go.Sort.SWO (ltOf cmpN) where
  irrefl x := by rw [ltOf_cmpN, ltN_false]; omega
  trans x y z h1 h2 := by rw [ltOf_cmpN, ltN_iff] at *; omega
  ntrans x y z h1 h2 := by rw [ltOf_cmpN, ltN_false] at *; omega
theorem sortWorldK_upd {α : Type} [Inhabited α] {enc : α → List Value} {k : Nat} {w : World} {blk off m : Nat} {dk : Array α} {os : Array Obj} : Upd (fun b => b = blk) w (sortWorldK enc k w blk off m dk os) := by
  unfold sortWorldK putRowK
  refine ⟨rfl, rfl, rfl, by simp, fun k hk hne => ?_⟩
  have h : blk ≠ k := fun e => hne e.symm
  simp only [Go.Sort.grow]
  rw [Array.getElem?_append_left (by simpa using hk)]
  simp [Go.Sort.putRow, Go.Sort.mapBlock, Go.Sort.ahead, Array.getElem?_modify, h]
theorem sortN_calls {w : World} {lo : Nat} {v : Value} {ss : List NP} (hown : w.ownsRow lo 76 2 v ss.length (ss.flatMap keyC)) (hnil : v = .slice none 0 0 ↔ ss = []) (hn : ss.length ≤ 1000000) :
    Calls Try.prog 51 #[v, .func (.func 46) #[] #[]] w fun e w' => e = .returned (.tuple #[]) ∧
      ∃ d : List NP, d.Perm ss ∧ d.Pairwise (fun a b => ltN b a = false) ∧ SlQ w' v d ∧ Upd (fun b => v.ownBlock = some b) w w' := by
  by_cases h0 : ss = []
  · have hv := hnil.2 h0
    subst h0 hv
    refine (AnyF.slices_SortFunc_none layQ none 0 _ w).mono ?_
    rintro e w' ⟨rfl, rfl⟩
    exact ⟨rfl, [], List.Perm.refl _, List.Pairwise.nil, ⟨none, 0, rfl, fun h => absurd rfl h⟩, Upd.refl⟩
  obtain ⟨blk, cap, cur, rfl, hlo, hblkc, h1, h2, h3, h4⟩ : ∃ g cap cur, v = .slice (some ⟨g, 0, none⟩) ss.length cap ∧ lo ≤ g ∧ w.heap[g]? = some (.cells cur 76 (0, 0)) ∧ ss.length ≤ cap ∧ cap ≤ maxLen ∧ cur.size = cap * 2 ∧ cur.toList.take (ss.length * 2) = ss.flatMap keyC := by
    rcases hown.2 with ⟨h, _⟩ | h
    · exact absurd (hnil.1 h) h0
    · exact h
  have hblk : blk < w.heap.size := (Array.getElem?_eq_some_iff.1 hblkc).1
  have hcell : ∀ (j : Nat) (x : NP), ss[j]? = some x → ∀ r, r < 2 → w.cell? ⟨blk, j * 2 + r, none⟩ = (keyC x)[r]? := by
    intro j x hj r hr
    obtain ⟨g', cap', hv', _, hc⟩ := own_cell (f := keyC) (fun _ => rfl) (own_base hown) hj
    injection hv' with e1 _ _
    injection e1 with e1
    injection e1 with e1
    subst e1
    exact hc r hr
  have hfree : ∀ j, w.frozen? ⟨blk, j, none⟩ = false := fun j => by simp [World.frozen?, hblkc]
  have hd : ∀ (d : List NP) (w2 : World), d.length = ss.length → (∀ t, t < d.length * 2 → w2.cell? ⟨blk, t, none⟩ = some (((keyC (d.getD (t / 2) (0, 0)))[t % 2]!))) → ∀ j x, d[j]? = some x → w2.cell? ⟨blk, 0 + j * 2, none⟩ = some (.int .i64 x.1) ∧ w2.cell? ⟨blk, 0 + j * 2 + 1, none⟩ = some (.int .i64 x.2) := by
    intro d w2 hl h j x hj
    have hlt := (List.getElem?_eq_some_iff.1 hj).1
    have e0 := h (j * 2) (by omega)
    have e1 := h (j * 2 + 1) (by omega)
    rw [show j * 2 / 2 = j from by omega, show j * 2 % 2 = 0 from by omega, List.getD_eq_getElem?_getD, hj] at e0
    rw [show (j * 2 + 1) / 2 = j from by omega, show (j * 2 + 1) % 2 = 1 from by omega, List.getD_eq_getElem?_getD, hj] at e1
    rw [Nat.zero_add]
    exact ⟨e0, e1⟩
  have hH : HoldsK keyC 2 w blk 0 ss.toArray := by
    intro t ht
    rw [size_flatK] at ht
    rw [get_flatK _ _ _ _ ht, Nat.zero_add]
    refine ⟨?_, hfree t⟩
    have htl : t / 2 < ss.length := by simp at ht; omega
    have hc := hcell (t / 2) ss[t / 2] (List.getElem?_eq_getElem htl) (t % 2) (by omega)
    rw [show t / 2 * 2 + t % 2 = t from by omega] at hc
    rw [hc]
    have e : ss.toArray[t / 2]! = ss[t / 2] := by rw [getElem!_pos _ _ (by simpa using htl)]; simp
    rw [e]
    rcases (by omega : t % 2 = 0 ∨ t % 2 = 1) with h | h <;> rw [h] <;> rfl
  have hcmp : CmpLays Try.prog 46 #[] keyC 2 cmpN blk 0 ss.toArray.size w := by
    intro m os dk hdk x y
    obtain ⟨v, w1, h3, rfl, q, os', rfl⟩ := Ok_iff.1 (names1_ok (w := sortWorldK keyC 2 w blk 0 m dk os) x y)
    refine (den_sound _ _ _ _ _ _ h3).mono ?_
    rintro e w' ⟨rfl, rfl⟩
    exact ⟨rfl, q, os', rfl⟩
  have h := AnyQ.slices_SortFunc layQ 2 Try.isAgg76 Try.sizeOf76 keyC (fun _ => rfl) (fun x v hv => by simp [keyC] at hv; rcases hv with rfl | rfl <;> rfl) cmpN swoN 46 #[] blk 0 cap ss.toArray w (enters_of Try.func46 (by kernel_rfl) rfl) hcmp hH hblk (by simp; omega)
  rw [show ss.toArray.size = ss.length from rfl] at h
  refine h.mono ?_
  rintro e w' ⟨rfl, d, n, os, hp, hs, rfl⟩
  have hds : d.size = ss.length := by rw [hp.1]; rfl
  have hu : Upd (fun b => b = blk) w (sortWorldK keyC 2 w blk 0 n d os) := sortWorldK_upd
  refine ⟨rfl, d.toList, ?_, ?_, ⟨some ⟨blk, 0, none⟩, cap, by simp [hds], fun _ => ⟨blk, 0, rfl, Nat.lt_of_lt_of_le hblk hu.size, hd d.toList _ (by simp [hds]) ?_⟩⟩, hu.mono fun b _ hb => by rw [hb]; rfl⟩
  · have h2 := hp.2.2
    have e1 : d.extract 0 ss.length = d := by rw [← hds]; simp
    rw [e1] at h2
    simpa using h2
  · rw [List.pairwise_iff_getElem]
    intro i j hi hj hij
    have := hs i j (Nat.zero_le _) hij (by rw [Array.length_toList] at hj; omega)
    rw [ltOf_cmpN, getElem!_pos d i (by simpa using hi), getElem!_pos d j (by simpa using hj)] at this
    simpa using this
  · intro t ht
    rw [Array.length_toList] at ht
    have hh := (holdsK_putRowK (enc := keyC) (k := 2) (Go.Sort.ahead w n) blk 0 ss.toArray d hH (by rw [hds]; rfl)) t (by rw [size_flatK]; exact ht)
    have e1 := hh.1
    rw [get_flatK _ _ _ _ ht, Nat.zero_add] at e1
    have e2 : d[t / 2]! = d.toList.getD (t / 2) (0, 0) := by
      rw [getElem!_pos d _ (by omega), List.getD_eq_getElem?_getD, List.getElem?_eq_getElem (by rw [Array.length_toList]; omega)]
      simp
    rw [← e2]
    refine Eq.trans ?_ e1
    unfold sortWorldK
    refine World.cell?_of_block ?_
    simp only [Go.Sort.grow]
    rw [Array.getElem?_append_left (by simpa [putRowK] using hblk)]
end Go.Proofs.Ytpgfokhpacdhjaa.Fd
