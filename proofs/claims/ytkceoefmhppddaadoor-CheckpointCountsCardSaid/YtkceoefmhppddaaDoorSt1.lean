/-
  Slices of arrays, copies of strings; the head of a checkpoint.
-/
import Derived.Test.YtkceoefmhppddaaDoorSh8
import Derived.Laws.Slices
import Derived.Lib.BufferWrite
namespace Go.Proofs.YtkceoefmhppddaaDoor.Fd
set_option linter.unusedSimpArgs false
set_option linter.unusedVariables false
open Go Go.Lib
set_option maxRecDepth 100000
theorem strOfNums_eq {l : List Int} : strOfNums l = ⟨(l.map fun n => UInt8.ofNat n.toNat).toArray⟩ := by
  unfold strOfNums
  simp
theorem strL_nums {l : List Int} (h : Rng l) : strL (strOfNums l) = l := by
  rw [strOfNums_eq, strL]
  simp only [List.map_map]
  rw [List.map_congr_left (g := id), List.map_id]
  intro x hx
  have := h x hx
  simp
  omega
theorem strOfNums_size {l : List Int} : (strOfNums l).size = l.length := by
  rw [strOfNums_eq]
  simp [ByteArray.size]
section
variable {P : Program} {D : Den} {w : World} {ty : TypeId} {e : Operand → Value} {t : TypeId}
theorem opX_sliceA {x : Operand} : opX P D (.slice t x none none none) ty e w = slcS P t (e x) none none w := by
  simp only [opX, opS, execOp, slcS, lift]
  simp
  generalize Instr.sliceAt t (e x) none none none = s
  cases s.run P w <;> simp
theorem arr_under {n : Nat} {el : TypeId} (h : arrOf P t = some (n, el)) : P.underlying t = some (.array (P.arrayLen t) (P.elem t)) ∧ P.elem t = el ∧ P.arrayLen t = n := by
  have hu : P.underlying t = some (.array n el) := by
    unfold arrOf at h
    split at h
    · rename_i h2; cases h; exact h2
    · cases h
  have he : P.elem t = el := by simp [Program.elem, hu]
  have hn : P.arrayLen t = n := by simp [Program.arrayLen, hu]
  exact ⟨by rw [he, hn]; exact hu, he, hn⟩
theorem slc_arrA {b o n s : Nat} {el : TypeId} (h : arrOf P t = some (n, el)) (hs : siz P el = some s) : slcS P t (.pointer (some ⟨b, o, none⟩)) none none w = some (.slice (some ⟨b, o, none⟩) n n, w) := by
  obtain ⟨hu, he, hn⟩ := arr_under h
  unfold slcS lift
  rw [run_sliceAt_array_all w t _ hu, he, size_of hs, hn]
  have ha : (⟨b, o, none⟩ : Addr).add 0 = ⟨b, o, none⟩ := rfl
  simp [slicedAt, ha]
theorem slc_arrH {b o n s : Nat} {el : TypeId} {k : IntKind} {j : Int} (h : arrOf P t = some (n, el)) (hs : siz P el = some s) (h0 : 0 ≤ j) (h1 : j ≤ n) : slcS P t (.pointer (some ⟨b, o, none⟩)) none (some (.int k j)) w = some (.slice (some ⟨b, o, none⟩) j.toNat n, w) := by
  obtain ⟨hu, he, hn⟩ := arr_under h
  unfold slcS lift
  rw [run_sliceAt_array_h w t _ hu _ _ h0 (by rw [hn]; exact h1), he, size_of hs, hn]
  have ha : (⟨b, o, none⟩ : Addr).add 0 = ⟨b, o, none⟩ := rfl
  simp [slicedAt, ha]
theorem slc_arrL {b o n s : Nat} {el : TypeId} {k : IntKind} {j : Int} (h : arrOf P t = some (n, el)) (hs : siz P el = some s) (h0 : 0 ≤ j) (h1 : j < n) : slcS P t (.pointer (some ⟨b, o, none⟩)) (some (.int k j)) none w = some (.slice (some ⟨b, o + j.toNat * s, none⟩) (n - j.toNat) (n - j.toNat), w) := by
  obtain ⟨hu, he, hn⟩ := arr_under h
  unfold slcS lift
  rw [run_sliceAt_array_l w t _ hu _ _ h0 (by rw [hn]; omega), he, size_of hs, hn]
  have h2 : ¬ n = j.toNat := by omega
  have ha : (⟨b, o, none⟩ : Addr).add (j.toNat * s) = ⟨b, o + j.toNat * s, none⟩ := by
    unfold Addr.add
    split
    · rename_i h0; rw [h0]; rfl
    · rfl
  simp [slicedAt, ha, h2]
theorem cpy_str {t2 el E : TypeId} (ht : elt P t = some el) (hs : siz P el = some 1) {g o dl dc : Nat} {s : ByteArray} {cur : List Value} (hg : Blk w g cur E) (hle : s.size ≤ dl) (hfit : o + s.size ≤ cur.length) :
    cpyS P #[t, t2] ty (.slice (some ⟨g, o, none⟩) dl dc) (.string s) w = some (.int .i64 s.size, w.setRow g (cur.take o ++ by8 (strL s) ++ cur.drop (o + s.size)).toArray) := by
  unfold elt at ht
  split at ht
  · rename_i el' hu
    simp only [Option.some.injEq] at ht
    subst ht
    have := run_copy_row_string (P := P) (ty := ty) w t t2 el' g o dl dc s cur.toArray E hu hs hg hle (by simpa using hfit)
    unfold cpyS lift
    rw [this, show Lib.byteCells s.data.toList = by8 (strL s) by simp [Lib.byteCells, by8, strL]]
    rfl
  · cases ht
end
attribute [push_cast] opX_sliceA
def headP (b : List Int) (g : Nat) : List Int := beL 8 g ++ beL 4 b.length ++ sumP (beL 8 g ++ beL 4 b.length ++ b)
theorem headP_length {b : List Int} {g : Nat} : (headP b g).length = 44 := by simp [headP, beL_length, sumP_length]
theorem headP_rng {b : List Int} {g : Nat} : Rng (headP b g) := (beL_rng.append beL_rng).append sumP_rng
theorem slb_blk {w : World} {b : Nat} {l : List Int} {E : TypeId} (h : Blk w b (by8 l) E) {c : Nat} {F : Nat → Prop} (hF : ¬ F b) : SlB w F (.slice (some ⟨b, 0, none⟩) l.length c) l :=
  ⟨_, c, rfl, fun _ => ⟨b, 0, rfl, fun j _ => by have := h.cell j; simpa using this, hF⟩⟩
theorem beL_get {n k : Nat} : ∀ {j : Nat}, j < k → (beL k n)[j]? = some (((n / 256 ^ (k - 1 - j)) % 256 : Nat) : Int) := by
  induction k with
  | zero => intro j h; omega
  | succ k ih =>
    intro j h
    cases j with
    | zero => rfl
    | succ j =>
      rw [beL, List.getElem?_cons_succ, ih (by omega), show k + 1 - 1 - (j + 1) = k - 1 - j by omega]
theorem cnv_i64_u8 {k : IntKind} {n : Int} {w : World} : cnvS Tryd.prog 2 5 (.int k n) w = some (.int .u8 (IntKind.u8.wrap n), w) := cnv_int (by kernel_rfl) (by kernel_rfl)
theorem cnv_i_u8 {k : IntKind} {n : Int} {w : World} : cnvS Tryd.prog 3 5 (.int k n) w = some (.int .u8 (IntKind.u8.wrap n), w) := cnv_int (by kernel_rfl) (by kernel_rfl)
attribute [push_cast] cnv_i64_u8 cnv_i_u8
theorem shr_i64 {n k : Nat} (hk : k < 8) : IntKind.u8.wrap ((n : Int).fdiv (2 ^ (min (8 * k) IntKind.i64.bits))) = (((n / 256 ^ k) % 256 : Nat) : Int) := by
  rw [show min (8 * k) IntKind.i64.bits = 8 * k from Nat.min_eq_left (by show _ ≤ 64; omega), Int.fdiv_eq_ediv_of_nonneg _ (Int.le_of_lt (Int.pow_pos (by decide)))]
  have e : (2 : Int) ^ (8 * k) = ((256 ^ k : Nat) : Int) := by rw [Int.pow_mul]; rfl
  rw [e, ← Int.natCast_ediv, u8_wrap_nat]
/-- The first t bytes of m, and zeros. -/
def hRow (m : List Int) (t : Nat) : List Value := by8 (m.take t ++ List.replicate (44 - t) 0)
theorem hRow_zero {m : List Int} : hRow m 0 = List.replicate 44 (.int .u8 0) := by simp [hRow, by8]
theorem hRow_at {m : List Int} {t : Nat} (h : t < 44) (hm : t ≤ m.length) : (hRow m t)[t]? = some (.int .u8 0) := by
  rw [hRow, by8, List.getElem?_map, List.getElem?_append_right (by rw [List.length_take]; omega), List.length_take, Nat.min_eq_left hm, Nat.sub_self, List.getElem?_replicate, if_pos (by omega)]
  rfl
theorem hRow_set {m : List Int} {t : Nat} {x : Int} (h : t < 44) (hx : m[t]? = some x) : (hRow m t).set t (.int .u8 x) = hRow m (t + 1) := by
  obtain ⟨hm, hx⟩ := List.getElem?_eq_some_iff.1 hx
  have ht : (m.take t).length = t := by rw [List.length_take]; omega
  rw [hRow, by8_append, List.set_append_right _ _ (by rw [by8_length, ht]; exact Nat.le_refl _), by8_length, ht, Nat.sub_self]
  rw [show 44 - t = (44 - (t + 1)) + 1 by omega, List.replicate_succ, hRow, List.take_succ_eq_append_getElem hm, hx, by8_append, by8_append, List.append_assoc]
  rfl
set_option maxHeartbeats 4000000 in
theorem headOf_ok {w : World} (hK : KT w) {F : Nat → Prop} {y : Value} {b : List Int} (hy : SlC w F y b) (hl : b.length ≤ 800000000) {g : Nat} (hg : g < 2 ^ 63) :
    Ok (den Tryd.prog 47 #[y, .int .i64 (g : Int)] w) fun v w' => v = .agg (by8 (headP b g)).toArray ∧ Upd (fun _ => False) w w' := by
  obtain ⟨ya, yc, rfl, hyc⟩ := id hy.2
  refine den_okC1 (args := [.slice ya b.length yc, .int .i64 (g : Int)]) 4 87 Tryd.func47 rfl mixed in47 ok47 rfl ?_
  simp (config := { maxSteps := 3000000 }) (disch := omega) only [push_cast, Nat.reduceBEq, Nat.reduceEqDiff, Nat.reduceAdd, Nat.reduceMul, Nat.reduceSub, Nat.reduceLT, Int.reduceToNat, Int.reduceLT, Int.reduceLE, Int.reduceEq, Int.reduceAdd, Int.reduceSub, Int.reduceNeg, Int.reduceMul]
  obtain ⟨M, hM⟩ : ∃ M, M = beL 8 g ++ beL 4 b.length := ⟨_, rfl⟩
  have hMl : M.length = 12 := by rw [hM, List.length_append, beL_length, beL_length]
  have hb0 : Blk ((w.alloc (.cells (List.replicate 44 (Value.int .u8 0)).toArray 87 (0, 0))).alloc (.cells (List.replicate 44 (Value.int .u8 0)).toArray 87 (0, 0))) (w.heap.size + 1) (hRow M 0) 87 := by
    rw [hRow_zero]
    have := Blk.new (w := w.alloc (.cells (List.replicate 44 (Value.int .u8 0)).toArray 87 (0, 0))) (cs := List.replicate 44 (Value.int .u8 0)) (E := 87)
    rw [size_alloc] at this
    exact this
  have hr0 : Blk ((w.alloc (.cells (List.replicate 44 (Value.int .u8 0)).toArray 87 (0, 0))).alloc (.cells (List.replicate 44 (Value.int .u8 0)).toArray 87 (0, 0))) w.heap.size (List.replicate 44 (.int .u8 0)) 87 := Blk.new.alloc _
  have hu0 : Upd (fun _ => False) w ((w.alloc (.cells (List.replicate 44 (Value.int .u8 0)).toArray 87 (0, 0))).alloc (.cells (List.replicate 44 (Value.int .u8 0)).toArray 87 (0, 0))) := Upd.alloc.alloc'
  generalize ((w.alloc (.cells (List.replicate 44 (Value.int .u8 0)).toArray 87 (0, 0))).alloc (.cells (List.replicate 44 (Value.int .u8 0)).toArray 87 (0, 0))) = w1 at *
  refine loop_inv (I := fun k st w' => Bx (∃ t, k + t = 8 ∧ st = [.int .i64 ((t : Nat) : Int)] ∧ Blk w' (w.heap.size + 1) (hRow M t) 87 ∧ Upd (fun x => x = w.heap.size + 1) w1 w') ⟨⟩) ?_ 8
    ⟨0, by omega, rfl, hb0, Upd.refl⟩
  clear hb0
  rintro k st w2 ⟨t, hk, rfl, hb2, hu2⟩
  have hu02 : Upd (fun _ => False) w w2 := hu0.trans hu2 fun x hx e => by omega
  by_cases hk0 : k = 0
  · obtain rfl : t = 8 := by omega
    simp (config := { maxSteps := 3000000 }) (disch := omega) only [push_cast, Nat.reduceBEq, Nat.reduceEqDiff, Nat.reduceAdd, Nat.reduceMul, Nat.reduceSub, Nat.reduceLT, Int.reduceToNat, Int.reduceLT, Int.reduceLE, Int.reduceEq, Int.reduceAdd, Int.reduceSub, Int.reduceNeg, Int.reduceMul]
    refine loop_inv (I := fun k st w' => Bx (∃ t, k + t = 4 ∧ st = [.int .i64 ((t : Nat) : Int)] ∧ Blk w' (w.heap.size + 1) (hRow M (8 + t)) 87 ∧ Upd (fun x => x = w.heap.size + 1) w1 w') ⟨⟩) ?_ 4
      ⟨0, by omega, rfl, hb2, hu2⟩
    clear hb2 hu2 hu02
    rintro k st w3 ⟨t, hk, rfl, hb3, hu3⟩
    have hu03 : Upd (fun _ => False) w w3 := hu0.trans hu3 fun x hx e => by omega
    by_cases hk0 : k = 0
    · obtain rfl : t = 4 := by omega
      have hL : ∀ w' : World, slcS Tryd.prog 87 (.pointer (some ⟨w.heap.size + 1, 0, none⟩)) (some (.int .i64 12)) none w' = some (.slice (some ⟨w.heap.size + 1, 12, none⟩) 32 32, w') := fun w' => slc_arrL (w := w') (b := w.heap.size + 1) (o := 0) (k := .i64) (j := 12) t87_a t5_s (by omega) (by omega)
      have hH : ∀ w' : World, slcS Tryd.prog 87 (.pointer (some ⟨w.heap.size + 1, 0, none⟩)) none (some (.int .i64 12)) w' = some (.slice (some ⟨w.heap.size + 1, 0, none⟩) 12 44, w') := fun w' => slc_arrH (w := w') (b := w.heap.size + 1) (o := 0) (k := .i64) (j := 12) t87_a t5_s (by omega) (by omega)
      have hM12 : hRow M (8 + 4) = by8 (M ++ List.replicate 32 0) := by rw [hRow, List.take_of_length_le (by omega)]
      rw [hM12] at hb3
      have hblt := hb3.lt
      simp (config := { maxSteps := 3000000 }) (disch := omega) only [push_cast, Nat.reduceBEq, Nat.reduceEqDiff, Nat.reduceAdd, Nat.reduceMul, Nat.reduceSub, Nat.reduceLT, Int.reduceToNat, Int.reduceLT, Int.reduceLE, Int.reduceEq, Int.reduceAdd, Int.reduceSub, Int.reduceNeg, Int.reduceMul, hL, hH]
      have h4 := (Fr.empty (w := w3)).quiet (Upd.drew (F := fun _ => False))
      have hu34 : Upd (fun _ => False) w3 (w3.alloc (.cells #[] 5 (0, 0))).drew := (Upd.alloc (F := fun _ => False)).drew'
      generalize (w3.alloc (.cells #[] 5 (0, 0))).drew = w4 at *
      have hb4 := hb3.upd hu34 fun h => h
      have hsrc : SlB w4 (fun _ => False) (.slice (some ⟨w.heap.size + 1, 0, none⟩) 12 44) M := by
        have h1 := slb_blk hb4 (c := 44) (F := fun _ => False) fun h => h
        have h2 := slc_take h1 (n := 12) (by rw [List.length_append]; omega) (by rw [List.length_append, List.length_replicate]; omega)
        rw [List.take_left' hMl] at h2
        exact h2.1
      refine h4.app hsrc (by rw [List.length_nil]; omega) ?_
      intro v5 w5 h5 hu5
      rw [List.nil_append] at h5
      obtain ⟨va5, vc5, rfl, hc5⟩ := h5.own.form
      have hb5 := hb3.upd h5.upd fun h => h
      simp (config := { maxSteps := 3000000 }) (disch := omega) only [push_cast, Nat.reduceBEq, Nat.reduceEqDiff, Nat.reduceAdd, Nat.reduceMul, Nat.reduceSub, Nat.reduceLT, Int.reduceToNat, Int.reduceLT, Int.reduceLE, Int.reduceEq, Int.reduceAdd, Int.reduceSub, Int.reduceNeg, Int.reduceMul, hL, hH]
      have hu05 : Upd (fun _ => False) w w5 := hu03.trans h5.upd fun _ _ h => h
      refine h5.app (hy.1.upd hu05 fun _ h => h.elim) (by omega) ?_
      intro v6 w6 h6 hu6
      obtain ⟨va6, vc6, rfl, hc6⟩ := h6.own.form
      have hu06 : Upd (fun _ => False) w w6 := hu03.trans h6.upd fun _ _ h => h
      have hb6 := hb3.upd h6.upd fun h => h
      obtain ⟨MB, hMB⟩ : ∃ MB, MB = M ++ b := ⟨_, rfl⟩
      rw [← hMB] at h6 ⊢
      have hMBl : MB.length ≤ 900000000 := by rw [hMB, List.length_append]; omega
      simp (config := { maxSteps := 3000000 }) (disch := omega) only [push_cast, Nat.reduceBEq, Nat.reduceEqDiff, Nat.reduceAdd, Nat.reduceMul, Nat.reduceSub, Nat.reduceLT, Int.reduceToNat, Int.reduceLT, Int.reduceLE, Int.reduceEq, Int.reduceAdd, Int.reduceSub, Int.reduceNeg, Int.reduceMul, hL, hH]
      refine Ok.use (sum_ok (hK.upd hu06 fun h => h) h6.slc hMBl) ?_
      rintro v w7 ⟨rfl, hu7⟩
      have hb7 := hb6.upd hu7 fun h => h
      have hcpy := cpy_str (P := Tryd.prog) (t := 31) (t2 := 9) (ty := 3) (s := strOfNums (sumP MB)) (dl := 32) (dc := 32) t31_e t5_s hb7 (o := 12) (by rw [strOfNums_size, sumP_length]; omega) (by rw [strOfNums_size, sumP_length, by8_length, List.length_append, List.length_replicate]; omega)
      have erow : (by8 (M ++ List.replicate 32 0)).take 12 ++ by8 (strL (strOfNums (sumP MB))) ++ (by8 (M ++ List.replicate 32 0)).drop (12 + (strOfNums (sumP MB)).size) = by8 (headP b g) := by
        rw [strL_nums sumP_rng, strOfNums_size, sumP_length, by8_append, List.take_left' (by rw [by8_length, hMl]), List.drop_of_length_le (by rw [List.length_append, by8_length, by8_length, List.length_replicate]; omega), List.append_nil, ← by8_append, hMB, hM]
        rfl
      rw [erow] at hcpy
      have hss : ((strOfNums (sumP MB)).size : Int) = 32 := by rw [strOfNums_size, sumP_length]; rfl
      rw [hss] at hcpy
      generalize strOfNums (sumP MB) = str at *
      have hgo := hb7.setRow (cs' := by8 (headP b g))
      have hup := (hu7.mono (G := fun x => x = w.heap.size + 1) fun _ _ h => h.elim).trans (Upd.setRow (w := w7) (g := w.heap.size + 1) (cs := (by8 (headP b g)).toArray) (F := fun x => x = w.heap.size + 1) rfl) fun x _ h => h
      generalize w7.setRow (w.heap.size + 1) (by8 (headP b g)).toArray = w8 at *
      have hr8 := ((hr0.upd hu3 fun e => by omega).upd (h6.upd.mono (G := fun x => x = w.heap.size + 1) fun _ _ h => h.elim) fun e => by omega).upd hup fun e => by omega
      have h44 : (by8 (headP b g)).length = 44 := by rw [by8_length, headP_length]
      have hld1 := ld_blk (t := 87) hgo t87_k (by rw [h44]; exact t87_s)
      have hst := st_blk (t := 87) (cs' := by8 (headP b g)) hr8 (by rw [h44]; exact t87_s) (by rw [h44, List.length_replicate]) by8_one
      have hld2 := ld_blk (t := 87) (hr8.setRow (cs' := by8 (headP b g))) t87_k (by rw [h44]; exact t87_s)
      have hfin : Upd (fun _ => False) w (w8.setRow w.heap.size (by8 (headP b g)).toArray) := ((hu03.trans h6.upd fun _ _ h => h).trans hup fun x hx e => by omega).trans (Upd.setRow (F := fun x => x = w.heap.size) rfl) fun x hx e => by omega
      simp (config := { maxSteps := 3000000 }) (disch := omega) only [push_cast, Nat.reduceBEq, Nat.reduceEqDiff, Nat.reduceAdd, Nat.reduceMul, Nat.reduceSub, Nat.reduceLT, Int.reduceToNat, Int.reduceLT, Int.reduceLE, Int.reduceEq, Int.reduceAdd, Int.reduceSub, Int.reduceNeg, Int.reduceMul, hL, hH, hcpy, hld1, hst, hld2]
      exact hfin
    have hle : (t : Int) < 4 := by omega
    have hx : M[8 + t]? = some (((b.length / 256 ^ (3 - t)) % 256 : Nat) : Int) := by rw [hM, List.getElem?_append_right (by rw [beL_length]; omega), beL_length, show 8 + t - 8 = t by omega, beL_get (by omega), show 4 - 1 - t = 3 - t by omega]
    have hat := hRow_at (m := M) (t := 8 + t) (by omega) (by omega)
    have hset := hRow_set (t := 8 + t) (by omega) hx
    have esh := shr_i64 (n := b.length) (k := 3 - t) (by omega)
    obtain ⟨Q, hQ⟩ : ∃ Q, Q = 8 * (3 - t) := ⟨_, rfl⟩
    obtain ⟨q, hq⟩ : ∃ q, q = 3 - t := ⟨_, rfl⟩
    rw [← hQ, ← hq] at esh
    rw [← hq] at hset
    generalize b.length / 256 ^ q % 256 = x at *
    have et : ((24 : Int) - 8 * (t : Int)).toNat = Q := by omega
    obtain ⟨j, hj⟩ : ∃ j, j = 8 + t := ⟨_, rfl⟩
    have ej : (8 : Int) + (t : Int) = (j : Int) := by omega
    rw [← hj] at hb3 hat hset
    have hj44 : (j : Int) < 44 := by omega
    simp (config := { maxSteps := 3000000 }) (disch := omega) only [push_cast, Nat.reduceBEq, Nat.reduceEqDiff, Nat.reduceAdd, Nat.reduceMul, Nat.reduceSub, Nat.reduceLT, Int.reduceToNat, Int.reduceLT, Int.reduceLE, Int.reduceEq, Int.reduceAdd, Int.reduceSub, Int.reduceNeg, Int.reduceMul, hle, hb3.cell, hb3.free, hat, et, esh, ej]
    exact ⟨k - 1, by omega, t + 1, by omega, by simp, by rw [show 8 + (t + 1) = j + 1 by omega, ← hset]; exact hb3.set j _, hu3.setIn rfl⟩
  have hle : (t : Int) < 8 := by omega
  have hx : M[t]? = some (((g / 256 ^ (7 - t)) % 256 : Nat) : Int) := by rw [hM, List.getElem?_append_left (by rw [beL_length]; omega), beL_get (by omega), show 8 - 1 - t = 7 - t by omega]
  have hat := hRow_at (m := M) (t := t) (by omega) (by omega)
  have hset := hRow_set (t := t) (by omega) hx
  have esh := shr_i64 (n := g) (k := 7 - t) (by omega)
  obtain ⟨Q, hQ⟩ : ∃ Q, Q = 8 * (7 - t) := ⟨_, rfl⟩
  obtain ⟨q, hq⟩ : ∃ q, q = 7 - t := ⟨_, rfl⟩
  rw [← hQ, ← hq] at esh
  rw [← hq] at hset
  generalize g / 256 ^ q % 256 = x at *
  have et : ((56 : Int) - 8 * (t : Int)).toNat = Q := by omega
  simp (config := { maxSteps := 3000000 }) (disch := omega) only [push_cast, Nat.reduceBEq, Nat.reduceEqDiff, Nat.reduceAdd, Nat.reduceMul, Nat.reduceSub, Nat.reduceLT, Int.reduceToNat, Int.reduceLT, Int.reduceLE, Int.reduceEq, Int.reduceAdd, Int.reduceSub, Int.reduceNeg, Int.reduceMul, hle, hb2.cell, hb2.free, hat, et, esh]
  exact ⟨k - 1, by omega, t + 1, by omega, by simp, by rw [← hset]; exact hb2.set t _, hu2.setIn rfl⟩
end Go.Proofs.YtkceoefmhppddaaDoor.Fd
