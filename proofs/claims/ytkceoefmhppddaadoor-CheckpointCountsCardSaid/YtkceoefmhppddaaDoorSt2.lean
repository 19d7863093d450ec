/-
  The store as plain data and in memory; Room, start, header.
-/
import Derived.Test.YtkceoefmhppddaaDoorSt1
import Derived.Test.YtkceoefmhppddaaDoorFdJ
import Derived.Test.YtkceoefmhppddaaDoorDk4
namespace Go.Proofs.YtkceoefmhppddaaDoor.Fd
set_option linter.unusedSimpArgs false
set_option linter.unusedVariables false
open Go
set_option maxRecDepth 100000
def pad (s : Nat) (l : List Int) : List Int := l ++ List.replicate (s - l.length) 0
theorem pad_length {s : Nat} {l : List Int} (h : l.length ≤ s) : (pad s l).length = s := by simp [pad]; omega
theorem pad_rng {s : Nat} {l : List Int} (h : Rng l) : Rng (pad s l) := h.append Rng.zeros
def hdrP (size : Nat) (b : List Int) (g : Nat) : List Int := pad size (headP b g)
theorem hdrP_length {size : Nat} {b : List Int} {g : Nat} (h : 44 ≤ size) : (hdrP size b g).length = size := pad_length (by rw [headP_length]; exact h)
theorem hdrP_rng {size : Nat} {b : List Int} {g : Nat} : Rng (hdrP size b g) := pad_rng headP_rng

/-- The sizes of a disk after i operations. -/
structure Sz (n s i : Nat) (d : DS) : Prop where
  dur : d.dur.length = n
  size : d.size = s
  few : d.cache.length ≤ i
  cnt : ∀ k, d.cnt = some k → k < 9223372036854775808
theorem Sz.step {n s i : Nat} {d : DS} (h : Sz n s i d) : Sz n s i d.step.2 := by
  unfold DS.step
  split
  · exact h
  · split
    · exact h
    · exact ⟨h.dur, h.size, h.few, h.cnt⟩
    · rename_i k hk
      exact ⟨h.dur, h.size, h.few, fun j hj => by cases hj; have := h.cnt _ hk; omega⟩
theorem Sz.mono {n s i j : Nat} {d : DS} (h : Sz n s i d) (hij : i ≤ j) : Sz n s j d := ⟨h.dur, h.size, Nat.le_trans h.few hij, h.cnt⟩
theorem Sz.write {n s i : Nat} {d : DS} (h : Sz n s i d) (x : Int) (l : List Int) : Sz n s (i + 1) (d.write x l).1 := by
  have h' := h.step
  unfold DS.write
  split
  · split
    · exact ⟨h'.dur, h'.size, by have := h'.few; simp; exact this, h'.cnt⟩
    · exact h'.mono (by omega)
  · exact h.mono (by omega)
theorem Sz.sync {n s i : Nat} {d : DS} (h : Sz n s i d) : Sz n s i d.sync.1 := by
  have h' := h.step
  unfold DS.sync
  split
  · refine ⟨?_, h'.size, Nat.zero_le _, h'.cnt⟩
    show (settled _ _ _ _).length = n
    rw [settled_length]
    exact h'.dur
  · exact h'
theorem Sz.fail {n s i : Nat} {d : DS} (h : Sz n s i d) {x : Int} (hx : x < 9223372036854775808) : Sz n s i (d.fail x) := by
  unfold DS.fail
  split
  · exact h
  · exact ⟨h.dur, h.size, h.few, fun j hj => by
      have : (max x 0).toNat = j := by simpa using hj
      omega⟩
theorem Sz.crash {n s i : Nat} {d : DS} (h : Sz n s i d) (l : List Bool) : Sz n s 0 (d.crash l) := by
  refine ⟨?_, h.size, Nat.le_refl _, fun j hj => by cases hj⟩
  show (settled _ _ _ _).length = n
  rw [settled_length]
  exact h.dur
theorem Sz.new {n s : Nat} : Sz n s 0 (DS.new n s) := ⟨by simp [DS.new], rfl, Nat.le_refl _, fun k h => by cases h⟩

/-- A store as plain data. -/
structure CS where
  first : Nat
  n : Nat
  slot : Nat
  newest : List Int
  gen : Nat
  down : Bool
/-- The store's object at block cb; F: the blocks that may change. -/
def CO (w : World) (F : Nat → Prop) (p cb : Nat) (c : CS) : Prop := ∃ nv, Blk w cb [.pointer (some ⟨p, 0, none⟩), .int .i64 c.first, .int .i64 c.n, .int .i64 c.slot, nv, .int .i64 c.gen, .bool c.down] 68 ∧ SlC w F nv c.newest ∧ Rng c.newest
def FF (D J : Nat → Prop) (b : Nat) : Prop := D b ∨ J b
/-- The disk, the store, and their blocks. -/
structure CW (w : World) (D J : Nat → Prop) (p cb : Nat) (s : DS × CS) : Prop where
  disk : IsDisk w D p s.1
  obj : CO w (FF D J) p cb s.2
  jj : J cb
  sep : ∀ b, J b → ¬ D b ∧ b < w.heap.size
  kt : KT w
  k0 : ¬ D 0 ∧ ¬ J 0
/-- What an operation on one store may change. -/
structure JT (w w' : World) (D D' : Nat → Prop) (jb : Nat) : Prop where
  new : ∀ b, D' b → gr D w w' b
  old : ∀ b, D b → D' b
  upd : Upd (fun b => D b ∨ b = jb) w w'
theorem JT.refl {w : World} {D : Nat → Prop} {jb : Nat} : JT w w D D jb := ⟨fun _ h => .inl h, fun _ h => h, Upd.refl⟩
theorem JT.trans {w w' w'' : World} {D D' D'' : Nat → Prop} {jb : Nat} (h1 : JT w w' D D' jb) (h2 : JT w' w'' D' D'' jb) : JT w w'' D D'' jb := by
  have s1 := h1.upd.size
  have s2 := h2.upd.size
  refine ⟨fun b hb => ?_, fun b hb => h2.old b (h1.old b hb), h1.upd.trans h2.upd fun b hb h => ?_⟩
  · rcases h2.new b hb with h | h
    · rcases h1.new b h with h | h
      · exact .inl h
      · exact .inr ⟨h.1, by omega⟩
    · exact .inr ⟨by omega, h.2⟩
  · rcases h with h | h
    · rcases h1.new b h with h | h
      · exact .inl h
      · omega
    · exact .inr h
theorem JT.quiet {w w' : World} {D : Nat → Prop} {jb : Nat} (hu : Upd (fun _ => False) w w') : JT w w' D D jb := ⟨fun _ h => .inl h, fun _ h => h, hu.mono fun _ _ h => h.elim⟩
theorem JT.slb {w w' : World} {D D' J : Nat → Prop} {jb : Nat} (h : JT w w' D D' jb) (hj : J jb) {v : Value} {l : List Int} (hs : SlB w (FF D J) v l) : SlB w' (FF D' J) v l := by
  refine hs.go h.upd fun b hb hh => ?_
  rcases hh with (hh | hh) | (hh | hh)
  · exact .inl hh
  · exact .inr (by rw [hh]; exact hj)
  · rcases h.new b hh with hh | hh
    · exact .inl hh
    · omega
  · exact .inr hh
theorem JT.slc {w w' : World} {D D' J : Nat → Prop} {jb : Nat} (h : JT w w' D D' jb) (hj : J jb) {v : Value} {l : List Int} (hs : SlC w (FF D J) v l) : SlC w' (FF D' J) v l := ⟨h.slb hj hs.1, hs.2⟩
theorem JT.slr {w w' : World} {D D' J : Nat → Prop} {jb : Nat} (h : JT w w' D D' jb) (hj : J jb) {v : Value} {ls : List (List Int)} (hs : SlR w (FF D J) v ls) : SlR w' (FF D' J) v ls := by
  refine hs.go h.upd fun b hb hh => ?_
  rcases hh with (hh | hh) | (hh | hh)
  · exact .inl hh
  · exact .inr (by rw [hh]; exact hj)
  · rcases h.new b hh with hh | hh
    · exact .inl hh
    · omega
  · exact .inr hh
theorem CW.cb0 {w : World} {D J : Nat → Prop} {p cb : Nat} {s : DS × CS} (h : CW w D J p cb s) : cb ≠ 0 := fun e => h.k0.2 (by rw [← e]; exact h.jj)
theorem CW.quiet {w w' : World} {D J : Nat → Prop} {p cb : Nat} {s : DS × CS} (h : CW w D J p cb s) (hu : Upd (fun _ => False) w w') : CW w' D J p cb s := by
  obtain ⟨sv, h1, h2, h3⟩ := h.obj
  exact ⟨h.disk.upd hu (fun _ _ h => h), ⟨sv, h1.upd hu (fun h => h), h2.upd hu (fun _ h => h.elim), h3⟩, h.jj, fun b hb => ⟨(h.sep b hb).1, Nat.lt_of_lt_of_le (h.sep b hb).2 hu.size⟩, h.kt.upd hu (fun h => h), h.k0⟩
/-- The disk has changed. -/
theorem CW.disked {w w' : World} {D D' J : Nat → Prop} {p cb : Nat} {s : DS × CS} {d' : DS} (h : CW w D J p cb s) (hd : IsDisk w' D' p d') (ht : JT w w' D D' cb) (hu : Upd D w w') : CW w' D' J p cb (d', s.2) := by
  obtain ⟨sv, h1, h2, h3⟩ := h.obj
  have hD : ∀ b, b < w.heap.size → D' b → D b := fun b hb hb2 => (ht.new b hb2).elim (fun h => h) fun h => by omega
  refine ⟨hd, ⟨sv, h1.upd hu (h.sep cb h.jj).1, ht.slc h.jj h2, h3⟩, h.jj, fun b hb => ⟨fun hb2 => ?_, Nat.lt_of_lt_of_le (h.sep b hb).2 hu.size⟩, h.kt.upd hu h.k0.1, fun h0 => h.k0.1 (hD 0 h.kt.1 h0), h.k0.2⟩
  exact (h.sep b hb).1 (hD b (h.sep b hb).2 hb2)
/-- A field of the object has changed. -/
theorem CW.set {w w' : World} {D J : Nat → Prop} {p cb : Nat} {s : DS × CS} {c' : CS} (h : CW w D J p cb s) (hu : Upd (fun b => b = cb) w w') (ho : CO w' (FF D J) p cb c') : CW w' D J p cb (s.1, c') ∧ JT w w' D D cb := by
  refine ⟨⟨h.disk.upd hu fun b hb e => (h.sep cb h.jj).1 (by rw [← e]; exact hb), ho, h.jj, fun b hb => ⟨(h.sep b hb).1, Nat.lt_of_lt_of_le (h.sep b hb).2 hu.size⟩, h.kt.upd hu (fun e => h.cb0 e.symm), h.k0⟩, ⟨fun b hb => .inl hb, fun b hb => hb, hu.mono fun b _ e => .inr e⟩⟩
theorem CW.at_ {w : World} {D J : Nat → Prop} {p cb : Nat} {s : DS × CS} (h : CW w D J p cb s) : ∃ sa sc, Blk w cb [.pointer (some ⟨p, 0, none⟩), .int .i64 s.2.first, .int .i64 s.2.n, .int .i64 s.2.slot, .slice sa s.2.newest.length sc, .int .i64 s.2.gen, .bool s.2.down] 68 ∧ SlC w (FF D J) (.slice sa s.2.newest.length sc) s.2.newest ∧ Rng s.2.newest := by
  obtain ⟨sv, h1, h2, h3⟩ := h.obj
  obtain ⟨sa, sc, rfl, hc⟩ := id h2.2
  exact ⟨sa, sc, h1, h2, h3⟩
theorem start_ok {w : World} {D J : Nat → Prop} {p cb : Nat} {s : DS × CS} (h : CW w D J p cb s) {x : Nat} (hx : x ≤ 1) (h1 : s.2.first ≤ 100000) (h2 : s.2.n ≤ 100000) :
    Ok (den Tryd.prog 34 #[.pointer (some ⟨cb, 0, none⟩), .int .i64 (x : Int)] w) fun v w' => v = .int .i64 ((s.2.first + x * s.2.n : Nat) : Int) ∧ Upd (fun _ => False) w w' := by
  obtain ⟨sa, sc, hb, _⟩ := h.at_
  refine den_ok (args := [.pointer (some ⟨cb, 0, none⟩), .int .i64 (x : Int)]) rs34 Tryd.func34 rfl mixed in34 ok34 rfl ?_
  have hx2 : x = 0 ∨ x = 1 := by omega
  rcases hx2 with rfl | rfl
  · simp (config := { maxSteps := 3000000 }) (disch := omega) only [push_cast, Nat.reduceBEq, Nat.reduceEqDiff, Nat.reduceAdd, Nat.reduceMul, Nat.reduceSub, Nat.reduceLT, Int.reduceToNat, Int.reduceLT, Int.reduceLE, Int.reduceEq, Int.reduceAdd, Int.reduceSub, Int.reduceNeg, Int.reduceMul, hb.cell]
    exact Upd.drew
  · simp (config := { maxSteps := 3000000 }) (disch := omega) only [push_cast, Nat.reduceBEq, Nat.reduceEqDiff, Nat.reduceAdd, Nat.reduceMul, Nat.reduceSub, Nat.reduceLT, Int.reduceToNat, Int.reduceLT, Int.reduceLE, Int.reduceEq, Int.reduceAdd, Int.reduceSub, Int.reduceNeg, Int.reduceMul, hb.cell]
    exact Upd.drew
theorem Down_ok2 {w : World} {D J : Nat → Prop} {p cb : Nat} {s : DS × CS} (h : CW w D J p cb s) :
    Ok (den Tryd.prog 23 #[.pointer (some ⟨cb, 0, none⟩)] w) fun v w' => v = .bool s.2.down ∧ w = w' := by
  obtain ⟨sa, sc, hb, _⟩ := h.at_
  refine den_ok (args := [.pointer (some ⟨cb, 0, none⟩)]) rs23 Tryd.func23 rfl mixed in23 ok23 rfl ?_
  simp (config := { maxSteps := 3000000 }) (disch := omega) only [push_cast, Nat.reduceBEq, Nat.reduceEqDiff, Nat.reduceAdd, Nat.reduceMul, Nat.reduceSub, Nat.reduceLT, Int.reduceToNat, Int.reduceLT, Int.reduceLE, Int.reduceEq, Int.reduceAdd, Int.reduceSub, Int.reduceNeg, Int.reduceMul, hb.cell]
theorem Room_ok {w : World} {D J : Nat → Prop} {p cb : Nat} {s : DS × CS} (h : CW w D J p cb s) (h1 : 1 ≤ s.2.n) (h2 : s.2.n ≤ 100000) (h3 : s.1.size ≤ 4096) :
    Ok (den Tryd.prog 14 #[.pointer (some ⟨cb, 0, none⟩)] w) fun v w' => v = .int .i64 (((s.2.n - 1) * s.1.size : Nat) : Int) ∧ Upd (fun _ => False) w w' := by
  obtain ⟨sa, sc, hb, _⟩ := h.at_
  obtain ⟨m, hm⟩ : ∃ m, m = s.2.n - 1 := ⟨_, rfl⟩
  have em : (s.2.n : Int) - 1 = (m : Int) := by omega
  rw [← hm]
  have hb1 : m * s.1.size ≤ 100000 * 4096 := Nat.mul_le_mul (by omega) h3
  obtain ⟨q, hq⟩ : ∃ q, q = m * s.1.size := ⟨_, rfl⟩
  have eq : (m : Int) * (s.1.size : Int) = (q : Int) := by rw [hq, Int.natCast_mul]
  rw [← hq] at hb1 ⊢
  refine den_ok (args := [.pointer (some ⟨cb, 0, none⟩)]) rs14 Tryd.func14 rfl mixed in14 ok14 rfl ?_
  have hbd := hb.drew
  have hud : Upd (fun _ => False) w w.drew := Upd.drew
  have hd := (h.quiet hud).disk
  simp (config := { maxSteps := 3000000 }) (disch := omega) only [push_cast, Nat.reduceBEq, Nat.reduceEqDiff, Nat.reduceAdd, Nat.reduceMul, Nat.reduceSub, Nat.reduceLT, Int.reduceToNat, Int.reduceLT, Int.reduceLE, Int.reduceEq, Int.reduceAdd, Int.reduceSub, Int.reduceNeg, Int.reduceMul, hb.cell, em]
  generalize w.drew = w1 at *
  refine Ok.use (Size_ok hd) ?_
  rintro u w2 ⟨rfl, rfl⟩
  generalize s.1.size = z at *
  simp (config := { maxSteps := 3000000 }) (disch := omega) only [push_cast, Nat.reduceBEq, Nat.reduceEqDiff, Nat.reduceAdd, Nat.reduceMul, Nat.reduceSub, Nat.reduceLT, Int.reduceToNat, Int.reduceLT, Int.reduceLE, Int.reduceEq, Int.reduceAdd, Int.reduceSub, Int.reduceNeg, Int.reduceMul, hb.cell, hbd.cell, em, eq]
  exact hud
set_option maxHeartbeats 2000000 in
theorem header_ok {w : World} {D J : Nat → Prop} {p cb : Nat} {s : DS × CS} (h : CW w D J p cb s) {F : Nat → Prop} {y : Value} {b : List Int} (hy : SlC w F y b) (hl : b.length ≤ 800000000) {g : Nat} (hg : g < 2 ^ 63) (h3 : 44 ≤ s.1.size) (h4 : s.1.size ≤ 4096) :
    Ok (den Tryd.prog 35 #[.pointer (some ⟨cb, 0, none⟩), y, .int .i64 (g : Int)] w) fun v w' => ∃ nb, v = CV nb (hdrP s.1.size b g) ∧ Blk w' nb (by8 (hdrP s.1.size b g)) 5 ∧ w.heap.size ≤ nb ∧ Upd (fun _ => False) w w' := by
  obtain ⟨sa, sc, hb, _⟩ := h.at_
  obtain ⟨ya, yc, rfl, hyc⟩ := id hy.2
  refine den_ok (args := [.pointer (some ⟨cb, 0, none⟩), .slice ya b.length yc, .int .i64 (g : Int)]) rs35 Tryd.func35 rfl mixed in35 ok35 rfl ?_
  simp (config := { maxSteps := 3000000 }) (disch := omega) only [push_cast, Nat.reduceBEq, Nat.reduceEqDiff, Nat.reduceAdd, Nat.reduceMul, Nat.reduceSub, Nat.reduceLT, Int.reduceToNat, Int.reduceLT, Int.reduceLE, Int.reduceEq, Int.reduceAdd, Int.reduceSub, Int.reduceNeg, Int.reduceMul, hb.cell]
  refine Ok.use (Size_ok h.disk) ?_
  rintro u w1 ⟨rfl, rfl⟩
  obtain ⟨z, hz⟩ : ∃ z, z = s.1.size := ⟨_, rfl⟩
  rw [← hz] at h3 h4 ⊢
  have hnew : Blk (w.alloc (.cells (List.replicate z (Value.int .u8 0)).toArray 5 (0, 0))) w.heap.size (List.replicate z (Value.int .u8 0)) 5 := Blk.new
  have hal : Upd (fun _ => False) w (w.alloc (.cells (List.replicate z (Value.int .u8 0)).toArray 5 (0, 0))) := Upd.alloc
  simp (config := { maxSteps := 3000000 }) (disch := omega) only [push_cast, Nat.reduceBEq, Nat.reduceEqDiff, Nat.reduceAdd, Nat.reduceMul, Nat.reduceSub, Nat.reduceLT, Int.reduceToNat, Int.reduceLT, Int.reduceLE, Int.reduceEq, Int.reduceAdd, Int.reduceSub, Int.reduceNeg, Int.reduceMul, hb.cell]
  have hw1 := h.quiet hal
  have hy1 := hy.upd hal fun _ h => h.elim
  generalize (w.alloc (.cells (List.replicate z (Value.int .u8 0)).toArray 5 (0, 0))) = w1 at *
  refine Ok.use (headOf_ok hw1.kt hy1 hl hg) ?_
  rintro v w2 ⟨rfl, hu2⟩
  have hnew2 := hnew.upd hu2 fun h => h
  have hz0 : Blk (w2.alloc (.cells (List.replicate 44 (Value.int .u8 0)).toArray 87 (0, 0))) w2.heap.size (List.replicate 44 (.int .u8 0)) 87 := Blk.new
  have h44 : (by8 (headP b g)).length = 44 := by rw [by8_length, headP_length]
  have hst := st_blk (t := 87) (cs' := by8 (headP b g)) hz0 (by rw [h44]; exact t87_s) (by rw [h44, List.length_replicate]) by8_one
  have hset := hz0.setRow (cs' := by8 (headP b g))
  have hu3 : Upd (fun _ => False) w2 ((w2.alloc (.cells (List.replicate 44 (Value.int .u8 0)).toArray 87 (0, 0))).setRow w2.heap.size (by8 (headP b g)).toArray) := Upd.alloc.trans (Upd.setRow (F := fun x => x = w2.heap.size) rfl) fun x hx e => by omega
  have hnew3 := hnew2.upd hu3 fun h => h
  simp (config := { maxSteps := 3000000 }) (disch := omega) only [push_cast, Nat.reduceBEq, Nat.reduceEqDiff, Nat.reduceAdd, Nat.reduceMul, Nat.reduceSub, Nat.reduceLT, Int.reduceToNat, Int.reduceLT, Int.reduceLE, Int.reduceEq, Int.reduceAdd, Int.reduceSub, Int.reduceNeg, Int.reduceMul, hst]
  have hA : ∀ w' : World, slcS Tryd.prog 87 (.pointer (some ⟨w2.heap.size, 0, none⟩)) none none w' = some (.slice (some ⟨w2.heap.size, 0, none⟩) 44 44, w') := fun w' => slc_arrA (w := w') (b := w2.heap.size) (o := 0) t87_a t5_s
  generalize ((w2.alloc (.cells (List.replicate 44 (Value.int .u8 0)).toArray 87 (0, 0))).setRow w2.heap.size (by8 (headP b g)).toArray) = w3 at *
  have hcp := cpy_row (P := Tryd.prog) (t2 := 31) (ty := 3) t31_e t5_s hnew3 (o := 0) (dl := z) (dc := z) (b := w2.heap.size) (so := 0) (sl := 44) (sc := 44) (cs := by8 (headP b g)) (by rw [h44]; omega) (fun j hj => by have := hset.cell j; simpa using this) (by rw [h44, List.length_replicate]; omega) by8_one
  have e : (List.replicate z (Value.int IntKind.u8 0)).take 0 ++ by8 (headP b g) ++ (List.replicate z (Value.int IntKind.u8 0)).drop (0 + (by8 (headP b g)).length) = by8 (hdrP z b g) := by
    rw [List.take_zero, List.nil_append, List.drop_replicate, by8_length, Nat.zero_add, hdrP, pad, by8_append]
    simp [by8]
  rw [e] at hcp
  have hfin := hnew3.setRow (cs' := by8 (hdrP z b g))
  have hu4 : Upd (fun _ => False) w (w3.setRow w.heap.size (by8 (hdrP z b g)).toArray) := (((hal.trans hu2 fun _ _ h => h).trans hu3 fun _ _ h => h).trans (Upd.setRow (F := fun x => x = w.heap.size) rfl) fun x hx e => by omega)
  have hlen : (hdrP z b g).length = z := hdrP_length h3
  simp (config := { maxSteps := 3000000 }) (disch := omega) only [push_cast, Nat.reduceBEq, Nat.reduceEqDiff, Nat.reduceAdd, Nat.reduceMul, Nat.reduceSub, Nat.reduceLT, Int.reduceToNat, Int.reduceLT, Int.reduceLE, Int.reduceEq, Int.reduceAdd, Int.reduceSub, Int.reduceNeg, Int.reduceMul, hA, hcp]
  exact ⟨w.heap.size, by rw [CV, hlen], hfin, Nat.le_refl _, hu4⟩
end Go.Proofs.YtkceoefmhppddaaDoor.Fd
