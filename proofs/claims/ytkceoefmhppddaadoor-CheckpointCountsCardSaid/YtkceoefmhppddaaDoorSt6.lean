/-
  Load, bytes.Equal, read.
-/
import Derived.Test.YtkceoefmhppddaaDoorSt5
namespace Go.Proofs.YtkceoefmhppddaaDoor.Fd
set_option linter.unusedSimpArgs false
set_option linter.unusedVariables false
open Go
set_option maxRecDepth 100000
def cload (c : CS) : List Int × Nat := if c.gen = 0 then ([], 0) else (c.newest, c.gen)
theorem load_ok {w : World} {D J : Nat → Prop} {p cb : Nat} {s : DS × CS} (h : CW w D J p cb s) (hl : s.2.newest.length ≤ 900000000) (hg : s.2.gen ≤ 4611686018427387904) :
    Ok (den Tryd.prog 16 #[.pointer (some ⟨cb, 0, none⟩)] w) fun v w' => ∃ u, v = .tuple #[u, .int .i64 ((cload s.2).2 : Int)] ∧ Fr w w' u (cload s.2).1 := by
  obtain ⟨d, c⟩ := s
  obtain ⟨first, n, slot, newest, gen, down⟩ := c
  obtain ⟨sa, sc, hb1, hn1, _⟩ := h.at_
  dsimp only at hb1 hn1 hl hg
  refine den_ok (args := [.pointer (some ⟨cb, 0, none⟩)]) rs16 Tryd.func16 rfl mixed in16 ok16 rfl ?_
  unfold cload
  by_cases hg0 : gen = 0
  · subst hg0
    simp (config := { maxSteps := 3000000 }) (disch := omega) only [push_cast, Nat.reduceBEq, Nat.reduceEqDiff, Nat.reduceAdd, Nat.reduceMul, Nat.reduceSub, Nat.reduceLT, Int.reduceToNat, Int.reduceLT, Int.reduceLE, Int.reduceEq, Int.reduceAdd, Int.reduceSub, Int.reduceNeg, Int.reduceMul, hb1.cell]
    exact ⟨_, rfl, Fr.nil⟩
  · have hgi : ¬ (gen : Int) = 0 := by omega
    dsimp only
    rw [if_neg hg0]
    have hlt := hb1.lt
    have hbd := hb1.drew
    have hua : Upd (fun _ => False) w (w.alloc (.cells #[] 5 (0, 0))).drew := (Upd.alloc (F := fun _ => False)).drew'
    have hba := hb1.upd hua fun h => h
    have hba2 := hba.drew
    have h6 := (Fr.empty (w := w)).quiet (Upd.drew (F := fun _ => False))
    simp (config := { maxSteps := 3000000 }) (disch := omega) only [push_cast, Nat.reduceBEq, Nat.reduceEqDiff, Nat.reduceAdd, Nat.reduceMul, Nat.reduceSub, Nat.reduceLT, Int.reduceToNat, Int.reduceLT, Int.reduceLE, Int.reduceEq, Int.reduceAdd, Int.reduceSub, Int.reduceNeg, Int.reduceMul, hb1.cell, hgi, hbd.cell, hba.cell]
    generalize (w.alloc (.cells #[] 5 (0, 0))).drew = w6 at *
    refine h6.app (h6.old hn1.1) (by rw [List.length_nil]; omega) ?_
    intro v7 w7 h7 _
    rw [List.nil_append] at h7
    obtain ⟨va7, vc7, rfl, _⟩ := h7.own.form
    have hb7 := hb1.upd h7.upd fun h => h
    simp (config := { maxSteps := 3000000 }) (disch := omega) only [push_cast, Nat.reduceBEq, Nat.reduceEqDiff, Nat.reduceAdd, Nat.reduceMul, Nat.reduceSub, Nat.reduceLT, Int.reduceToNat, Int.reduceLT, Int.reduceLE, Int.reduceEq, Int.reduceAdd, Int.reduceSub, Int.reduceNeg, Int.reduceMul, hb7.cell, hba.cell, hb1.cell, hbd.cell]
    exact ⟨_, rfl, h7⟩
theorem equal_ok {w : World} {F G : Nat → Prop} {u v : Value} {l m : List Int} (hu : SlB w F u l) (hv : SlB w G v m) (h1 : Rng l) (h2 : Rng m) :
    Ok (den Tryd.prog 46 #[u, v] w) fun r w' => r = .bool (decide (l = m)) ∧ Upd (fun _ => False) w w' := by
  obtain ⟨a1, c1, rfl, _⟩ := id hu
  obtain ⟨a2, c2, rfl, _⟩ := id hv
  refine den_ok (args := [.slice a1 l.length c1, .slice a2 m.length c2]) rs46 Tryd.func46 rfl mixed in46 ok46 rfl ?_
  have e1 := cnv_str hu
  have e2 := cnv_str hv
  have e3 := str_eq h1 h2
  simp (config := { maxSteps := 3000000 }) (disch := omega) only [push_cast, Nat.reduceBEq, Nat.reduceEqDiff, Nat.reduceAdd, Nat.reduceMul, Nat.reduceSub, Nat.reduceLT, Int.reduceToNat, Int.reduceLT, Int.reduceLE, Int.reduceEq, Int.reduceAdd, Int.reduceSub, Int.reduceNeg, Int.reduceMul, e1, e2, e3]
  exact Upd.refl
/-- The number of some bytes, the highest first. -/
def numL (l : List Int) : Nat := l.foldl (fun n x => n * 256 + x.toNat) 0
theorem slc_hiA {P : Program} {w : World} {t el : TypeId} {s : Nat} {a : Option Addr} {n c : Nat} {k : IntKind} {h : Int} (ht : elt P t = some el) (hs : siz P el = some s) (h0 : 0 ≤ h) (h1 : h ≤ c) : slcS P t (.slice a n c) none (some (.int k h)) w = some (.slice a h.toNat c, w) := by
  have hu := elt_elem ht
  have he : P.elem t = el := by simp [Program.elem, hu]
  have hu' : P.underlying t = some (.slice (P.elem t)) := by rw [he]; exact hu
  unfold slcS lift
  rw [run_sliceAt_slice w t _ _ _ _ hu', run_slice_h w t _ _ _ hu' _ _ h0 h1, he, size_of hs]
  cases a with
  | none => simp [sliced]
  | some a =>
    have ha : a.add 0 = a := rfl
    simp [sliced, ha]
theorem slc_takeA {w : World} {F : Nat → Prop} {a : Option Addr} {c : Nat} {d : List Int} (h : SlC w F (.slice a d.length c) d) {n : Nat} (hn : n ≤ d.length) : SlC w F (.slice a n c) (d.take n) := by
  have hl : (d.take n).length = n := by rw [List.length_take]; omega
  obtain ⟨a', c', e, hc⟩ := h.2
  injection e with e1 e2 e3
  subst e1 e3
  by_cases h0 : d = []
  · subst h0
    have hn0 : n = 0 := by simpa using hn
    subst hn0
    exact ⟨⟨a, c, rfl, fun h => absurd rfl h⟩, a, c, rfl, by simp⟩
  · obtain ⟨_, _, e, hli⟩ := id h.1
    injection e with e1 e2 e3
    obtain ⟨b, o, e4, _⟩ := hli h0
    rw [← e1] at e4
    subst e4
    exact slc_take h.1 hn hc
theorem i64_app {m y : Nat} (hm : m < 2 ^ 54) (hy : y < 256) : IntKind.i64.wrap ((BitVec.ofInt IntKind.i64.bits (IntKind.i64.wrap ((m : Int) * 2 ^ min 8 IntKind.i64.bits)) ||| BitVec.ofInt IntKind.i64.bits (y : Int)).toNat : Int) = ((m * 256 + y : Nat) : Int) := by
  have e1 : IntKind.i64.wrap ((m : Int) * 2 ^ min 8 IntKind.i64.bits) = (m : Int) * 256 := by
    show IntKind.i64.wrap ((m : Int) * 2 ^ 8) = _
    rw [IntKind.wrap_i64]; omega
  rw [e1]
  have e3 : (BitVec.ofInt 64 ((m : Int) * 256) ||| BitVec.ofInt 64 (y : Int)).toNat = m * 256 + y := by
    have e : (m : Int) * 256 = ((m * 256 : Nat) : Int) := by omega
    rw [e, ofInt_nat, ofInt_nat, BitVec.toNat_or, BitVec.toNat_ofNat, BitVec.toNat_ofNat, Nat.mod_eq_of_lt (by omega), Nat.mod_eq_of_lt (by omega)]
    have := Nat.two_pow_add_eq_or_of_lt (i := 8) (b := y) (by omega) m
    rw [Nat.mul_comm m 256]
    exact this.symm
  show IntKind.i64.wrap ((BitVec.ofInt 64 ((m : Int) * 256) ||| BitVec.ofInt 64 (y : Int)).toNat : Int) = _
  rw [e3, IntKind.wrap_i64]
  omega
theorem u64_app {m y : Nat} (hm : m < 2 ^ 56) (hy : y < 256) : IntKind.u64.wrap ((BitVec.ofInt IntKind.u64.bits (IntKind.u64.wrap ((m : Int) * 2 ^ min 8 IntKind.u64.bits)) ||| BitVec.ofInt IntKind.u64.bits (IntKind.u64.wrap (y : Int))).toNat : Int) = ((m * 256 + y : Nat) : Int) := by
  have e1 : IntKind.u64.wrap ((m : Int) * 2 ^ min 8 IntKind.u64.bits) = (m : Int) * 256 := by
    show IntKind.u64.wrap ((m : Int) * 2 ^ 8) = _
    rw [IntKind.wrap_u64]; omega
  have e2 : IntKind.u64.wrap (y : Int) = (y : Int) := by rw [IntKind.wrap_u64]; omega
  rw [e1, e2]
  have e3 : (BitVec.ofInt 64 ((m : Int) * 256) ||| BitVec.ofInt 64 (y : Int)).toNat = m * 256 + y := by
    have e : (m : Int) * 256 = ((m * 256 : Nat) : Int) := by omega
    rw [e, ofInt_nat, ofInt_nat, BitVec.toNat_or, BitVec.toNat_ofNat, BitVec.toNat_ofNat, Nat.mod_eq_of_lt (by omega), Nat.mod_eq_of_lt (by omega)]
    have := Nat.two_pow_add_eq_or_of_lt (i := 8) (b := y) (by omega) m
    rw [Nat.mul_comm m 256]
    exact this.symm
  show IntKind.u64.wrap ((BitVec.ofInt 64 ((m : Int) * 256) ||| BitVec.ofInt 64 (y : Int)).toNat : Int) = _
  rw [e3, IntKind.wrap_u64]
  omega
theorem numL_snoc {l : List Int} {x : Int} : numL (l ++ [x]) = numL l * 256 + x.toNat := by simp [numL, List.foldl_append]
theorem numL_take {l : List Int} {t : Nat} {x : Int} (h : l[t]? = some x) : numL (l.take (t + 1)) = numL (l.take t) * 256 + x.toNat := by
  obtain ⟨h1, h2⟩ := List.getElem?_eq_some_iff.1 h
  rw [List.take_succ_eq_append_getElem h1, h2, numL_snoc]
theorem numL_lt {l : List Int} (h : Rng l) : ∀ t, t ≤ l.length → numL (l.take t) < 256 ^ t := by
  intro t
  induction t with
  | zero => intro _; simp [numL]
  | succ t ih =>
    intro ht
    have hx : l[t]? = some (l[t]'(by omega)) := List.getElem?_eq_getElem _
    rw [numL_take hx]
    have h1 := ih (by omega)
    have h2 := h _ (List.getElem_mem (h := by omega) (l := l) (n := t))
    rw [Nat.pow_succ]
    omega
def secAt (d : DS) (x : Nat) : List Int := d.content x
/-- What a slot holds, from its sectors. -/
def slotP (ss : List (List Int)) : Option (List Int × Nat) :=
  let h := ss.headD []
  let body := ss.tail.flatten
  let g := numL (h.take 8)
  let n := numL ((h.drop 8).take 4)
  if 1 ≤ g ∧ g ≤ 4611686018427387904 ∧ n ≤ body.length ∧ h = hdrP h.length (body.take n) g then some (body.take n, g) else none
def slotS (d : DS) (x n : Nat) : List (List Int) := (List.range n).map fun i => d.content (x + i)
def bodyU (d : DS) (x t : Nat) : List Int := ((List.range t).map fun i => d.content (x + 1 + i)).flatten
theorem bodyU_succ {d : DS} {x t : Nat} : bodyU d x (t + 1) = bodyU d x t ++ d.content (x + 1 + t) := by
  simp [bodyU, List.range_succ]
theorem bodyU_length {d : DS} {x sz : Nat} : ∀ {t : Nat}, (∀ i, i < t → (d.content (x + 1 + i)).length = sz) → (bodyU d x t).length = t * sz
  | 0, _ => by simp [bodyU]
  | t + 1, h => by rw [bodyU_succ, List.length_append, bodyU_length (t := t) fun i hi => h i (by omega), h t (by omega), Nat.succ_mul]
theorem bodyU_pre {d : DS} {x t : Nat} : ∀ {m : Nat}, t ≤ m → ∃ r, bodyU d x m = bodyU d x t ++ r
  | 0, h => ⟨[], by rw [show t = 0 by omega, List.append_nil]⟩
  | m + 1, h => by
    by_cases e : t = m + 1
    · exact ⟨[], by rw [e, List.append_nil]⟩
    · obtain ⟨r, hr⟩ := bodyU_pre (d := d) (x := x) (t := t) (m := m) (by omega)
      exact ⟨r ++ d.content (x + 1 + m), by rw [bodyU_succ, hr, List.append_assoc]⟩
theorem slotS_eq {d : DS} {x n : Nat} (h : 1 ≤ n) : slotS d x n = d.content x :: (List.range (n - 1)).map fun i => d.content (x + 1 + i) := by
  obtain ⟨m, rfl⟩ : ∃ m, n = m + 1 := ⟨n - 1, by omega⟩
  rw [slotS, List.range_succ_eq_map, Nat.add_sub_cancel]
  simp only [List.map_cons, List.map_map, Nat.add_zero, List.cons.injEq, true_and]
  apply List.map_congr_left
  intro i _
  show d.content (x + (i + 1)) = _
  rw [show x + (i + 1) = x + 1 + i by omega]
theorem slotP_eq {d : DS} {x n : Nat} (h : 1 ≤ n) {H : List Int} (hH : H = d.content x) : slotP (slotS d x n) =
    if 1 ≤ numL (H.take 8) ∧ numL (H.take 8) ≤ 4611686018427387904 ∧ numL ((H.drop 8).take 4) ≤ (bodyU d x (n - 1)).length ∧ H = hdrP H.length ((bodyU d x (n - 1)).take (numL ((H.drop 8).take 4))) (numL (H.take 8)) then some ((bodyU d x (n - 1)).take (numL ((H.drop 8).take 4)), numL (H.take 8)) else none := by
  subst hH
  rw [slotS_eq h]
  rfl
theorem cnv_u64_i64 {k : IntKind} {n : Int} {w : World} : cnvS Tryd.prog 75 2 (.int k n) w = some (.int .i64 (IntKind.i64.wrap n), w) := cnv_int (by kernel_rfl) (by kernel_rfl)
attribute [push_cast] cnv_u64_i64
set_option maxHeartbeats 2000000 in
theorem cread_ok {w : World} {D J : Nat → Prop} {p cb : Nat} {s : DS × CS} (h : CW w D J p cb s) {N sz i : Nat} (hs : Sz N sz i s.1) (hi : i ≤ 900000) (hz : 44 ≤ sz) (hz2 : sz ≤ 4096) (h1 : s.2.first ≤ 60000) (h2 : s.2.n ≤ 60000) (h3 : 1 ≤ s.2.n) {x : Nat} (hx : x ≤ 1) (hN : s.2.first + x * s.2.n + s.2.n ≤ N) (hoff : s.1.off = false)
    (hsec : ∀ y, y < N → (s.1.content y).length = sz ∧ Rng (s.1.content y)) :
    Ok (den Tryd.prog 33 #[.pointer (some ⟨cb, 0, none⟩), .int .i64 (x : Int)] w) fun v w' => (∃ u g hd, v = .tuple #[u, .int .i64 g, .bool hd, .int .i64 0] ∧ match slotP (slotS s.1 (s.2.first + x * s.2.n) s.2.n) with
      | none => hd = false
      | some (b, g') => hd = true ∧ g = (g' : Int) ∧ SlC w' (fun b => b < w.heap.size) u b) ∧ Upd (fun _ => False) w w' := by
  obtain ⟨d, c⟩ := s
  obtain ⟨first, n, slot, newest, gen, down⟩ := c
  obtain ⟨sa, sc, hb1, hn1, _⟩ := h.at_
  dsimp only at hs h1 h2 h3 hN hoff hsec hb1
  have hsz := hs.size
  have hrd : ∀ y, y < N → d.read (y : Int) = (some (d.content y), 0) := fun y hy => by
    unfold DS.read
    rw [if_pos ⟨by omega, by rw [hs.dur]; omega⟩, hoff]
    simp
  refine den_ok (args := [.pointer (some ⟨cb, 0, none⟩), .int .i64 (x : Int)]) rs33 Tryd.func33 rfl mixed in33 ok33 rfl ?_
  have hud : Upd (fun _ => False) w w.drew := Upd.drew
  have hwd := h.quiet hud
  have hbd := hb1.drew
  simp (config := { maxSteps := 3000000 }) (disch := omega) only [push_cast, Nat.reduceBEq, Nat.reduceEqDiff, Nat.reduceAdd, Nat.reduceMul, Nat.reduceSub, Nat.reduceLT, Int.reduceToNat, Int.reduceLT, Int.reduceLE, Int.reduceEq, Int.reduceAdd, Int.reduceSub, Int.reduceNeg, Int.reduceMul, hb1.cell]
  generalize w.drew = wd at *
  refine Ok.use (start_ok hwd hx (by show first ≤ _; omega) (by show n ≤ _; omega)) ?_
  rintro v w1 ⟨rfl, hu1⟩
  dsimp only
  obtain ⟨X, hX⟩ : ∃ X, X = first + x * n := ⟨_, rfl⟩
  have hXb : X ≤ 120000 := by
    have : x * n ≤ 1 * n := Nat.mul_le_mul_right n hx
    omega
  rw [← hX] at hN ⊢
  have hb2 := hbd.upd hu1 fun h => h
  have hw1 := hwd.quiet hu1
  have hread := read_ok hw1.disk (by show 0 < d.size; omega) (by have := hs.few; show d.cache.length < _; omega) (X : Int)
  rw [show (d, (⟨first, n, slot, newest, gen, down⟩ : CS)).1.read (X : Int) = (some (d.content X), 0) from hrd X (by omega)] at hread
  simp (config := { maxSteps := 3000000 }) (disch := omega) only [push_cast, Nat.reduceBEq, Nat.reduceEqDiff, Nat.reduceAdd, Nat.reduceMul, Nat.reduceSub, Nat.reduceLT, Int.reduceToNat, Int.reduceLT, Int.reduceLE, Int.reduceEq, Int.reduceAdd, Int.reduceSub, Int.reduceNeg, Int.reduceMul, hb1.cell, hbd.cell, hb2.cell]
  refine Ok.use hread ?_
  rintro v w2 ⟨u, rfl, ⟨hb, rfl, hbge, hbh⟩, hu2⟩
  dsimp only at hbh ⊢
  have hc0 := hsec X (by omega)
  unfold CV
  rw [hc0.1]
  have hb3 := hb2.upd hu2 fun h => h
  simp (config := { maxSteps := 3000000 }) (disch := omega) only [push_cast, Nat.reduceBEq, Nat.reduceEqDiff, Nat.reduceAdd, Nat.reduceMul, Nat.reduceSub, Nat.reduceLT, Int.reduceToNat, Int.reduceLT, Int.reduceLE, Int.reduceEq, Int.reduceAdd, Int.reduceSub, Int.reduceNeg, Int.reduceMul, hb1.cell, hbd.cell, hb2.cell, hb3.cell]
  obtain ⟨H, hH⟩ : ∃ H, H = d.content X := ⟨_, rfl⟩
  rw [← hH] at hbh hc0
  have hcell : ∀ t, t < sz → ∃ x : Nat, H[t]? = some (x : Int) ∧ x < 256 ∧ (by8 H)[t]? = some (.int .u8 (x : Int)) := fun t ht => by
    have e : H[t]? = some (H[t]'(by omega)) := List.getElem?_eq_getElem _
    obtain ⟨y, hy, hy2⟩ := hc0.2.nat e
    exact ⟨y, by rw [e, hy], hy2, by rw [by8, List.getElem?_map, e, hy]; rfl⟩
  refine loop_inv (I := fun k st w' => Bx (∃ t, k + t = 8 ∧ st = [.int .u64 ((numL (H.take t) : Nat) : Int), .int .i64 ((t : Nat) : Int)] ∧ w2 = w') ⟨⟩) ?_ 8
    ⟨0, by omega, rfl, rfl⟩
  rintro k st _ ⟨t, hk, rfl, rfl⟩
  by_cases hk0 : k = 0
  · obtain rfl : t = 8 := by omega
    have e8 : (if sz = 8 then 0 else 8) = 8 := if_neg (by omega)
    simp (config := { maxSteps := 3000000 }) (disch := omega) only [push_cast, Nat.reduceBEq, Nat.reduceEqDiff, Nat.reduceAdd, Nat.reduceMul, Nat.reduceSub, Nat.reduceLT, Int.reduceToNat, Int.reduceLT, Int.reduceLE, Int.reduceEq, Int.reduceAdd, Int.reduceSub, Int.reduceNeg, Int.reduceMul, e8]
    refine loop_inv (I := fun k st w' => Bx (∃ t, k + t = 4 ∧ st = [.int .i64 ((numL ((H.drop 8).take t) : Nat) : Int), .int .i64 ((t : Nat) : Int)] ∧ w2 = w') ⟨⟩) ?_ 4
      ⟨0, by omega, rfl, rfl⟩
    rintro k st _ ⟨t, hk, rfl, rfl⟩
    by_cases hk0 : k = 0
    · obtain rfl : t = 4 := by omega
      rw [slotP_eq h3 hH]
      have hbl : (bodyU d X (n - 1)).length = (n - 1) * sz := bodyU_length fun i hi => (hsec (X + 1 + i) (by omega)).1
      have hlim := numL_lt (hc0.2.drop 8) 4 (by rw [List.length_drop]; omega)
      obtain ⟨B, hB⟩ : ∃ B, B = bodyU d X (n - 1) := ⟨_, rfl⟩
      rw [← hB] at hbl ⊢
      have hG0 := numL_lt hc0.2 8 (by omega)
      generalize numL ((H.drop 8).take 4) = L at *
      generalize numL (H.take 8) = G at *
      by_cases hg1 : G < 1
      · have hgi : (G : Int) < 1 := by omega
        rw [if_neg (by omega)]
        simp (config := { maxSteps := 3000000 }) (disch := omega) only [push_cast, Nat.reduceBEq, Nat.reduceEqDiff, Nat.reduceAdd, Nat.reduceMul, Nat.reduceSub, Nat.reduceLT, Int.reduceToNat, Int.reduceLT, Int.reduceLE, Int.reduceEq, Int.reduceAdd, Int.reduceSub, Int.reduceNeg, Int.reduceMul, e8, hgi]
        exact ⟨⟨_, _, _, rfl, rfl⟩, (hud.trans hu1 fun _ _ h => h).trans hu2 fun _ _ h => h⟩
      have hgi : ¬ (G : Int) < 1 := by omega
      by_cases hg2 : 4611686018427387904 < G
      · have hgj : (4611686018427387904 : Int) < G := by omega
        rw [if_neg (by omega)]
        simp (config := { maxSteps := 3000000 }) (disch := omega) only [push_cast, Nat.reduceBEq, Nat.reduceEqDiff, Nat.reduceAdd, Nat.reduceMul, Nat.reduceSub, Nat.reduceLT, Int.reduceToNat, Int.reduceLT, Int.reduceLE, Int.reduceEq, Int.reduceAdd, Int.reduceSub, Int.reduceNeg, Int.reduceMul, e8, hgi, hgj]
        exact ⟨⟨_, _, _, rfl, rfl⟩, (hud.trans hu1 fun _ _ h => h).trans hu2 fun _ _ h => h⟩
      have hgj : ¬ (4611686018427387904 : Int) < G := by omega
      simp (config := { maxSteps := 3000000 }) (disch := omega) only [push_cast, Nat.reduceBEq, Nat.reduceEqDiff, Nat.reduceAdd, Nat.reduceMul, Nat.reduceSub, Nat.reduceLT, Int.reduceToNat, Int.reduceLT, Int.reduceLE, Int.reduceEq, Int.reduceAdd, Int.reduceSub, Int.reduceNeg, Int.reduceMul, e8, hgi, hgj]
      have hw2 := hw1.quiet hu2
      refine Ok.use (Room_ok hw2 (by show 1 ≤ n; omega) (by show n ≤ _; omega) (by show d.size ≤ _; omega)) ?_
      rintro v w3 ⟨rfl, hu3⟩
      dsimp only
      rw [hsz]
      have hroomb : (n - 1) * sz ≤ 60000 * 4096 := Nat.mul_le_mul (by omega) (by omega)
      obtain ⟨R, hR⟩ : ∃ R, R = (n - 1) * sz := ⟨_, rfl⟩
      rw [← hR] at hroomb hbl ⊢
      have hb4 := hb3.upd hu3 fun h => h
      have hu03 : Upd (fun _ => False) w w3 := ((hud.trans hu1 fun _ _ h => h).trans hu2 fun _ _ h => h).trans hu3 fun _ _ h => h
      by_cases hLR : R < L
      · have hli : (R : Int) < (L : Int) := by omega
        rw [if_neg (by omega)]
        simp (config := { maxSteps := 3000000 }) (disch := omega) only [push_cast, Nat.reduceBEq, Nat.reduceEqDiff, Nat.reduceAdd, Nat.reduceMul, Nat.reduceSub, Nat.reduceLT, Int.reduceToNat, Int.reduceLT, Int.reduceLE, Int.reduceEq, Int.reduceAdd, Int.reduceSub, Int.reduceNeg, Int.reduceMul, hli]
        exact ⟨⟨_, _, _, rfl, rfl⟩, hu03⟩
      have hli : ¬ (R : Int) < (L : Int) := by omega
      simp (config := { maxSteps := 3000000 }) (disch := omega) only [push_cast, Nat.reduceBEq, Nat.reduceEqDiff, Nat.reduceAdd, Nat.reduceMul, Nat.reduceSub, Nat.reduceLT, Int.reduceToNat, Int.reduceLT, Int.reduceLE, Int.reduceEq, Int.reduceAdd, Int.reduceSub, Int.reduceNeg, Int.reduceMul, hli]
      have hbh3 := hbh.upd hu3 fun h => h
      have hw3 := hw2.quiet hu3
      refine loop_inv (I := fun k st w' => Bx (∃ t v, k + t = n - 1 ∧ st = [v, .int .i64 ((t : Nat) + 1 : Int)] ∧ Fr w3 w' v (bodyU d X t)) ⟨⟩) ?_ (n - 1)
        ⟨0, _, by omega, rfl, Fr.nil⟩
      rintro k st w4 ⟨t, v, hk, rfl, h4⟩
      obtain ⟨va4, vc4, rfl, hc4⟩ := h4.own.form
      have hbt : (bodyU d X t).length = t * sz := bodyU_length fun i hi => (hsec (X + 1 + i) (by omega)).1
      have hw4 := hw3.quiet h4.upd
      have hb5 := hb4.upd h4.upd fun h => h
      have hbh4 := hbh3.upd h4.upd fun h => h
      have hts : t * sz ≤ R := by rw [hR]; exact Nat.mul_le_mul_right sz (by omega)
      by_cases hbL : t * sz < L
      · have htn : t < n - 1 := by
          rcases Nat.lt_or_ge t (n - 1) with hh | hh
          · exact hh
          · have : (n - 1) * sz ≤ t * sz := Nat.mul_le_mul_right sz hh
            omega
        have hbi : ((bodyU d X t).length : Int) < (L : Int) := by omega
        have hbt2 : (bodyU d X t).length ≤ 60000 * 4096 := by omega
        have hud4 : Upd (fun _ => False) w4 w4.drew := Upd.drew
        have hw4d := hw4.quiet hud4
        have hb5d := hb5.drew
        have h4d := h4.quiet hud4
        simp (config := { maxSteps := 3000000 }) (disch := omega) only [push_cast, Nat.reduceBEq, Nat.reduceEqDiff, Nat.reduceAdd, Nat.reduceMul, Nat.reduceSub, Nat.reduceLT, Int.reduceToNat, Int.reduceLT, Int.reduceLE, Int.reduceEq, Int.reduceAdd, Int.reduceSub, Int.reduceNeg, Int.reduceMul, hbi, hb5.cell]
        generalize w4.drew = w4d at *
        refine Ok.use (start_ok hw4d hx (by show first ≤ _; omega) (by show n ≤ _; omega)) ?_
        rintro v w5 ⟨rfl, hu5⟩
        dsimp only
        rw [← hX]
        have hb6 := hb5d.upd hu5 fun h => h
        have hw5 := hw4d.quiet hu5
        have h5 := h4d.quiet hu5
        have eX : (X : Int) + ((t : Int) + 1) = ((X + 1 + t : Nat) : Int) := by omega
        obtain ⟨Y, hY⟩ : ∃ Y, Y = X + 1 + t := ⟨_, rfl⟩
        rw [← hY] at eX
        have hread := read_ok hw5.disk (by show 0 < d.size; omega) (by have := hs.few; show d.cache.length < _; omega) (Y : Int)
        rw [show (d, (⟨first, n, slot, newest, gen, down⟩ : CS)).1.read (Y : Int) = (some (d.content Y), 0) from hrd Y (by omega)] at hread
        simp (config := { maxSteps := 3000000 }) (disch := omega) only [push_cast, Nat.reduceBEq, Nat.reduceEqDiff, Nat.reduceAdd, Nat.reduceMul, Nat.reduceSub, Nat.reduceLT, Int.reduceToNat, Int.reduceLT, Int.reduceLE, Int.reduceEq, Int.reduceAdd, Int.reduceSub, Int.reduceNeg, Int.reduceMul, hbi, hb5.cell, hb5d.cell, hb6.cell, eX]
        refine Ok.use hread ?_
        rintro v w6 ⟨u, rfl, ⟨nb, rfl, hnbge, hnb⟩, hu6⟩
        dsimp only at hnb ⊢
        have hcY := hsec Y (by omega)
        unfold CV
        have hb7 := hb6.upd hu6 fun h => h
        have h6 := h5.quiet hu6
        rw [hcY.1]
        simp (config := { maxSteps := 3000000 }) (disch := omega) only [push_cast, Nat.reduceBEq, Nat.reduceEqDiff, Nat.reduceAdd, Nat.reduceMul, Nat.reduceSub, Nat.reduceLT, Int.reduceToNat, Int.reduceLT, Int.reduceLE, Int.reduceEq, Int.reduceAdd, Int.reduceSub, Int.reduceNeg, Int.reduceMul, hbi, hb5.cell, hb5d.cell, hb6.cell, hb7.cell, eX]
        have hsrc : SlB w6 (fun _ => False) (.slice (some ⟨nb, 0, none⟩) sz sz) (d.content Y) := by
          have := slb_new hnb (c := sz) (F := fun _ => False) fun h => h
          rw [hcY.1] at this
          exact this
        refine h6.app hsrc (by rw [hcY.1]; omega) ?_
        intro v7 w7 h7 hu7
        simp (config := { maxSteps := 3000000 }) (disch := omega) only [push_cast, Nat.reduceBEq, Nat.reduceEqDiff, Nat.reduceAdd, Nat.reduceMul, Nat.reduceSub, Nat.reduceLT, Int.reduceToNat, Int.reduceLT, Int.reduceLE, Int.reduceEq, Int.reduceAdd, Int.reduceSub, Int.reduceNeg, Int.reduceMul]
        exact ⟨k - 1, by omega, t + 1, v7, by omega, by simp, by rw [bodyU_succ, ← hY]; exact h7⟩
      have hbi : ¬ ((bodyU d X t).length : Int) < (L : Int) := by omega
      have hLl : L ≤ (bodyU d X t).length := by omega
      have hpre : (bodyU d X t).take L = B.take L := by
        obtain ⟨r, hr⟩ := bodyU_pre (d := d) (x := X) (t := t) (m := n - 1) (by omega)
        rw [hB, hr, List.take_append_of_le_length hLl]
      have htk := slc_takeA h4.slc hLl
      have hLb : L ≤ 60000 * 4096 := by omega
      rw [hpre] at htk
      have hTl : (B.take L).length = L := by rw [List.length_take]; omega
      rw [← hTl] at htk
      have hsx := slc_hiA (P := Tryd.prog) (t := 31) (w := w4) (a := va4) (n := (bodyU d X t).length) (c := vc4) (k := .i64) (h := (L : Int)) t31_e t5_s (by omega) (by omega)
      rw [Int.toNat_natCast] at hsx
      have hhd := header_ok hw4 htk (by rw [hTl]; omega) (g := G) (by omega) (by show 44 ≤ d.size; omega) (by show d.size ≤ _; omega)
      rw [hTl] at hhd
      have eG : IntKind.i64.wrap (G : Int) = (G : Int) := by rw [IntKind.wrap_i64]; omega
      rw [hTl] at htk
      generalize B.take L = T at *
      simp (config := { maxSteps := 3000000 }) (disch := omega) only [push_cast, Nat.reduceBEq, Nat.reduceEqDiff, Nat.reduceAdd, Nat.reduceMul, Nat.reduceSub, Nat.reduceLT, Int.reduceToNat, Int.reduceLT, Int.reduceLE, Int.reduceEq, Int.reduceAdd, Int.reduceSub, Int.reduceNeg, Int.reduceMul, hbi, hsx, eG]
      refine Ok.use hhd ?_
      rintro v w5 ⟨nb, rfl, hnb, hnge, hu5⟩
      dsimp only at hnb ⊢
      rw [hsz] at hnb ⊢
      have hhl : (hdrP sz T G).length = sz := hdrP_length (by omega)
      unfold CV
      rw [hhl]
      have s1 : SlB w5 (fun _ => False) (.slice (some ⟨hb, 0, none⟩) H.length sz) H := slb_new (hbh4.upd hu5 fun h => h) fun h => h
      have s2 : SlB w5 (fun _ => False) (.slice (some ⟨nb, 0, none⟩) (hdrP sz T G).length sz) (hdrP sz T G) := slb_new hnb fun h => h
      have heq := equal_ok s1 s2 hc0.2 hdrP_rng
      rw [hhl, hc0.1] at heq
      simp (config := { maxSteps := 3000000 }) (disch := omega) only [push_cast, Nat.reduceBEq, Nat.reduceEqDiff, Nat.reduceAdd, Nat.reduceMul, Nat.reduceSub, Nat.reduceLT, Int.reduceToNat, Int.reduceLT, Int.reduceLE, Int.reduceEq, Int.reduceAdd, Int.reduceSub, Int.reduceNeg, Int.reduceMul, eG]
      refine Ok.use heq ?_
      rintro v w6 ⟨rfl, hu6⟩
      have hu46 : Upd (fun _ => False) w4 w6 := hu5.trans hu6 fun _ _ h => h
      have hu06 : Upd (fun _ => False) w w6 := (hu03.trans h4.upd fun _ _ h => h).trans hu46 fun _ _ h => h
      have hs03 := hu03.size
      have htk6 : SlC w6 (fun b => b < w.heap.size) (.slice va4 L vc4) T := (htk.upd hu46 fun _ h => h.elim).mono fun b _ hb => by omega
      by_cases hh : H = hdrP sz T G
      · rw [if_pos ⟨by omega, by omega, by omega, by rw [hc0.1]; exact hh⟩]
        simp (config := { maxSteps := 3000000 }) (disch := omega) only [push_cast, Nat.reduceBEq, Nat.reduceEqDiff, Nat.reduceAdd, Nat.reduceMul, Nat.reduceSub, Nat.reduceLT, Int.reduceToNat, Int.reduceLT, Int.reduceLE, Int.reduceEq, Int.reduceAdd, Int.reduceSub, Int.reduceNeg, Int.reduceMul, eG]
        refine ⟨⟨_, _, _, rfl, ?_⟩, hu06⟩
        exact ⟨rfl, rfl, htk6⟩
      · rw [if_neg (by rintro ⟨_, _, _, h4⟩; rw [hc0.1] at h4; exact hh h4)]
        simp (config := { maxSteps := 3000000 }) (disch := omega) only [push_cast, Nat.reduceBEq, Nat.reduceEqDiff, Nat.reduceAdd, Nat.reduceMul, Nat.reduceSub, Nat.reduceLT, Int.reduceToNat, Int.reduceLT, Int.reduceLE, Int.reduceEq, Int.reduceAdd, Int.reduceSub, Int.reduceNeg, Int.reduceMul, eG]
        exact ⟨⟨_, _, _, rfl, rfl⟩, hu06⟩
    obtain ⟨y, hy, hy2, hyc⟩ := hcell (8 + t) (by omega)
    rw [← List.getElem?_drop] at hy
    have hnx := numL_take hy
    have hlt := numL_lt (hc0.2.drop 8) t (by rw [List.length_drop]; omega)
    have hp : (256 : Nat) ^ t ≤ 256 ^ 3 := Nat.pow_le_pow_right (by omega) (by omega)
    have hle : (t : Int) < 4 := by omega
    obtain ⟨j, hj⟩ : ∃ j, j = 8 + t := ⟨_, rfl⟩
    rw [← hj] at hyc
    have ej : (8 : Int) + (t : Int) = (j : Int) := by omega
    have ej2 : 8 + t = j := hj.symm
    generalize numL ((H.drop 8).take t) = m at *
    have eu := i64_app (m := m) (by omega) hy2
    simp (config := { maxSteps := 3000000 }) (disch := omega) only [push_cast, Nat.reduceBEq, Nat.reduceEqDiff, Nat.reduceAdd, Nat.reduceMul, Nat.reduceSub, Nat.reduceLT, Int.reduceToNat, Int.reduceLT, Int.reduceLE, Int.reduceEq, Int.reduceAdd, Int.reduceSub, Int.reduceNeg, Int.reduceMul, hle, hbh.cell, hyc, e8, ej, ej2]
    exact ⟨k - 1, by omega, t + 1, by omega, by rw [eu, hnx]; simp, rfl⟩
  obtain ⟨y, hy, hy2, hyc⟩ := hcell t (by omega)
  have hnx := numL_take hy
  have hlt := numL_lt hc0.2 t (by omega)
  have hp : (256 : Nat) ^ t ≤ 256 ^ 7 := Nat.pow_le_pow_right (by omega) (by omega)
  have hle : (t : Int) < 8 := by omega
  generalize numL (H.take t) = m at *
  have eu := u64_app (m := m) (by omega) hy2
  simp (config := { maxSteps := 3000000 }) (disch := omega) only [push_cast, Nat.reduceBEq, Nat.reduceEqDiff, Nat.reduceAdd, Nat.reduceMul, Nat.reduceSub, Nat.reduceLT, Int.reduceToNat, Int.reduceLT, Int.reduceLE, Int.reduceEq, Int.reduceAdd, Int.reduceSub, Int.reduceNeg, Int.reduceMul, hle, hbh.cell, hyc]
  exact ⟨k - 1, by omega, t + 1, by omega, by rw [eu, hnx]; simp, rfl⟩
end Go.Proofs.YtkceoefmhppddaaDoor.Fd
