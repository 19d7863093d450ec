/-
  append, one element of one cell, to a slice that begins anywhere in its row.
-/
import Derived.Test.YtpgfokhpacdhjaaFdF
import Derived.ArgAppend
namespace Go.Proofs.Ytpgfokhpacdhjaa.Fd
set_option linter.unusedSimpArgs false
set_option linter.unusedVariables false
open Go
set_option maxRecDepth 100000

/-- A slice of one-cell elements, from its cell o on in a block of its own. -/
structure Row1 (w : World) (E : TypeId) (v : Value) (g o n cap : Nat) (xs : List Value) : Prop where
  val : v = .slice (some ⟨g, o, none⟩) n cap
  le : n ≤ cap
  len : xs.length = n
  blk : ∃ cur, Blk w g cur E ∧ o + cap ≤ cur.length ∧ ∀ j, j < n → cur[o + j]? = xs[j]?
theorem Row1.cell {w : World} {E : TypeId} {v : Value} {g o n cap : Nat} {xs : List Value} (h : Row1 w E v g o n cap xs) {j : Nat} (hj : j < n) : w.cell? ⟨g, o + j, none⟩ = xs[j]? := by
  obtain ⟨cur, h1, _, h2⟩ := h.blk
  rw [h1.cell, h2 j hj]
theorem Row1.upd {w w' : World} {F : Nat → Prop} {E : TypeId} {v : Value} {g o n cap : Nat} {xs : List Value} (h : Row1 w E v g o n cap xs) (hu : Upd F w w') (hF : ¬ F g) : Row1 w' E v g o n cap xs := by
  obtain ⟨cur, h1, h2, h3⟩ := h.blk
  exact ⟨h.val, h.le, h.len, cur, h1.upd hu hF, h2, h3⟩
theorem Row1.lt {w : World} {E : TypeId} {v : Value} {g o n cap : Nat} {xs : List Value} (h : Row1 w E v g o n cap xs) : g < w.heap.size := by
  obtain ⟨cur, h1, _⟩ := h.blk
  exact h1.lt
/-- The last element alone. -/
theorem Row1.last {w : World} {E : TypeId} {v : Value} {g o n cap : Nat} {xs : List Value} (h : Row1 w E v g o (n + 1) cap xs) :
    Row1 w E (.slice (some ⟨g, o + n, none⟩) 1 (cap - n)) g (o + n) 1 (cap - n) (xs.drop n) := by
  obtain ⟨cur, h1, h2, h3⟩ := h.blk
  have := h.le
  have := h.len
  refine ⟨rfl, by omega, by rw [List.length_drop]; omega, cur, h1, by omega, fun j hj => ?_⟩
  obtain rfl : j = 0 := by omega
  rw [List.getElem?_drop, Nat.add_zero, Nat.add_zero, h3 n (by omega)]
theorem app_at {P : Program} {w : World} {t ty el : TypeId} {by_ : Nat} {z : Value} (ht : elt P t = some el) (hs : siz P el = some 1) (hb : byt P el = some by_) (hz : zer P el = some z) (hzs : z.cells.size = 1)
    {v : Value} {g o n cap : Nat} {xs : List Value} (h : Row1 w el v g o n cap xs) (hn : n < 1000000) (hby : by_ ≤ 1000) {b so c : Nat} {u : Value} (hsrc : w.cell? ⟨b, so, none⟩ = some u) (h1 : u.oneCell' = true)
    {K : Value × World → Prop} (hk : ∀ v' w' g' o' cap', Row1 w' el v' g' o' (n + 1) cap' (xs ++ [u]) → Upd (fun b => b = g) w w' → (g' = g ∨ (w.heap.size ≤ g' ∧ g' < w'.heap.size)) → K (v', w')) :
    Okk (appS P #[t, t] ty v (.slice (some ⟨b, so, none⟩) 1 c) w) K := by
  obtain ⟨cur, hcur, hfit, hget⟩ := h.blk
  have hle := h.le
  have hlen := h.len
  have hv := h.val
  subst hv
  have hu := elt_elem ht
  unfold siz at hs
  unfold byt at hb
  unfold zer at hz
  cases hi : P.info? el with
  | none => rw [hi] at hs; cases hs
  | some i =>
    rw [hi] at hb hz hs
    simp only [Option.map_some, Option.some.injEq, Option.bind_some] at hb hz hs
    have hnews : ∀ j v, [u][j]? = some v → w.cell? ((⟨b, so, none⟩ : Addr).add j) = some v := by
      intro j v hj
      have : j < 1 := by have := (List.getElem?_eq_some_iff.1 hj).1; simpa using this
      obtain rfl : j = 0 := by omega
      simp at hj
      subst hj
      exact hsrc
    by_cases hroom : n + 1 ≤ cap
    · have hc : ∀ j, j < [u].length → (w.cell? ⟨g, o + n * i.size + j, none⟩).isSome = true := by
        intro j hj
        have : j = 0 := by simpa using hj
        subst this
        rw [hcur.cell, hs, List.getElem?_eq_getElem (by omega)]
        rfl
      have hr := run_append_room_cells (P := P) w t ty el i hu hi g o n cap ⟨b, so, none⟩ 1 c [u] (by rw [hs]; rfl) hnews (by intro x hx; simp at hx; subst hx; exact h1) hroom hc (fun j _ => hcur.free _)
      have hw : w.setCells g (o + n * i.size) [u] = w.setCell ⟨g, o + n, none⟩ u := by rw [hs, Nat.mul_one]; rfl
      rw [hw] at hr
      refine ⟨_, by unfold appS lift; rw [hr], hk _ _ g o cap ⟨rfl, hroom, by rw [List.length_append, hlen]; rfl, cur.set (o + n) u, hcur.set _ _, by rw [List.length_set]; exact hfit, fun j hj => ?_⟩ (Upd.set rfl) (.inl rfl)⟩
      rw [List.getElem?_set]
      by_cases e : j = n
      · subst e
        rw [if_pos rfl, if_pos (by omega), List.getElem?_append_right (by omega), hlen, Nat.sub_self]
        rfl
      · rw [if_neg (by omega), hget j (by omega), List.getElem?_append_left (by omega)]
    · have hholds : ∀ j v, xs[j]? = some v → w.cell? ((⟨g, o, none⟩ : Addr).add j) = some v := by
        intro j v hj
        have hlt : j < n := by rw [← hlen]; exact (List.getElem?_eq_some_iff.1 hj).1
        have ha : (⟨g, o, none⟩ : Addr).add j = ⟨g, o + j, none⟩ := by
          unfold Addr.add
          by_cases h0 : j = 0
          · subst h0; rfl
          · simp [h0]
        rw [ha, hcur.cell, hget j hlt]
        exact hj
      have hbyt : (n + 1) * i.bytes ≤ 140737488355328 := by
        rw [hb]
        have : (n + 1) * by_ ≤ 1000000 * 1000 := Nat.mul_le_mul (by omega) hby
        omega
      have hr := run_append_grow (P := P) w t ty el i z hu hi hz ⟨g, o, none⟩ n cap xs (by rw [hs, hlen, Nat.mul_one]) hholds ⟨b, so, none⟩ 1 c [u] (by rw [hs]; rfl) hnews (by omega) (by omega) (growslice_fits (by omega) hbyt)
      have hge := grownCap_ge w (n + 1) cap el
      refine ⟨_, by unfold appS lift; rw [hr], hk _ _ w.heap.size 0 (grownCap w (n + 1) cap el) ⟨rfl, hge, by rw [List.length_append, hlen]; rfl, _, (show (w.drew.alloc _).heap[w.heap.size]? = some (.cells (xs ++ [u] ++ (Builtin.zeroCells z.cells (grownCap w (n + 1) cap el - (n + 1))).toList).toArray el (0, 0)) from ?_), ?_, fun j hj => ?_⟩ ?_ (.inr ⟨Nat.le_refl _, ?_⟩)⟩
      · show (w.heap.push _)[w.heap.size]? = _
        rw [Array.getElem?_push, if_pos rfl]
        simp
      · simp [size_zeroCells, hzs, hlen]
        omega
      · rw [Nat.zero_add, List.getElem?_append_left (by rw [List.length_append, hlen]; simp; omega)]
      · exact Upd.drew.trans Upd.alloc (fun _ _ h => h)
      · show w.heap.size < (w.heap.push _).size
        simp
end Go.Proofs.Ytpgfokhpacdhjaa.Fd
