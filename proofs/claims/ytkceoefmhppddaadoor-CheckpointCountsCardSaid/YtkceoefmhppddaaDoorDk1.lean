/-
  The disk of the program: how it lies in memory; its small functions.
-/
import Derived.Test.YtkceoefmhppddaaDoorFacts
import Derived.Test.YtkceoefmhppddaaDoorFdB
namespace Go.Proofs.YtkceoefmhppddaaDoor.Fd
set_option linter.unusedSimpArgs false
set_option linter.unusedVariables false
open Go
set_option maxRecDepth 100000

/-- A disk as plain data: the sectors' bytes, the cached writes, the power, the countdown. -/
structure DS where
  size : Nat
  dur : List (List Int)
  cache : List (Nat × List Int)
  off : Bool
  cnt : Option Nat

def CV (b : Nat) (l : List Int) : Value := .slice (some ⟨b, 0, none⟩) l.length l.length
def cacheRow (x : Nat × Nat × List Int) : List Value := [.int .i64 x.1, CV x.2.1 x.2.2]
/-- The disk at block p, all of it in the blocks F. -/
structure Disk (w : World) (F : Nat → Prop) (p : Nat) (d : DS) (q : Nat) (durs : List (Nat × List Int)) (cv : Value) (cachs : List (Nat × Nat × List Int)) (armed : Bool) (left : Nat) : Prop where
  head : Blk w p [.int .i64 d.size, .slice (some ⟨q, 0, none⟩) durs.length durs.length, cv, .bool d.off, .bool armed, .int .i64 left] 66
  row : Blk w q (durs.map fun x => CV x.1 x.2) 31
  own : w.ownsRow 0 80 2 cv cachs.length (cachs.flatMap cacheRow)
  dur : d.dur = durs.map (·.2)
  cache : d.cache = cachs.map fun x => (x.1, x.2.2)
  durc : ∀ x ∈ durs, Blk w x.1 (by8 x.2) 5 ∧ x.2.length = d.size ∧ F x.1 ∧ x.1 ≠ p ∧ x.1 ≠ q ∧ cv.ownBlock ≠ some x.1
  cachc : ∀ x ∈ cachs, Blk w x.2.1 (by8 x.2.2) 5 ∧ x.2.2.length = d.size ∧ x.1 < durs.length ∧ F x.2.1 ∧ x.2.1 ≠ p ∧ x.2.1 ≠ q ∧ cv.ownBlock ≠ some x.2.1
  cvc : ∀ g, cv.ownBlock = some g → F g ∧ g ≠ p ∧ g ≠ q
  fp : F p
  fq : F q
  pq : p ≠ q
  arm : d.cnt = if armed then some left else none
  small : d.size ≤ 4096 ∧ durs.length ≤ 65536
  bd : ∀ b, F b → b < w.heap.size
def IsDisk (w : World) (F : Nat → Prop) (p : Nat) (d : DS) : Prop := ∃ q durs cv cachs armed left, Disk w F p d q durs cv cachs armed left

/-- What leaves the disk's blocks alone leaves the disk alone. -/
theorem Disk.upd {w w' : World} {F G : Nat → Prop} {p : Nat} {d : DS} {q : Nat} {durs : List (Nat × List Int)} {cv : Value} {cachs : List (Nat × Nat × List Int)} {armed : Bool} {left : Nat}
    (h : Disk w F p d q durs cv cachs armed left) (hu : Upd G w w') (hG : ∀ b, F b → ¬ G b) : Disk w' F p d q durs cv cachs armed left :=
  ⟨h.head.upd hu (hG _ h.fp), h.row.upd hu (hG _ h.fq), ownsRow_upd h.own hu fun g hg => hG g (h.cvc g hg).1, h.dur, h.cache,
    fun x hx => ⟨(h.durc x hx).1.upd hu (hG _ (h.durc x hx).2.2.1), (h.durc x hx).2⟩, fun x hx => ⟨(h.cachc x hx).1.upd hu (hG _ (h.cachc x hx).2.2.2.1), (h.cachc x hx).2⟩,
    h.cvc, h.fp, h.fq, h.pq, h.arm, h.small, fun b hb => Nat.lt_of_lt_of_le (h.bd b hb) hu.size⟩
theorem IsDisk.upd {w w' : World} {F G : Nat → Prop} {p : Nat} {d : DS} (h : IsDisk w F p d) (hu : Upd G w w') (hG : ∀ b, F b → ¬ G b) : IsDisk w' F p d := by
  obtain ⟨q, durs, cv, cachs, armed, left, h⟩ := h
  exact ⟨q, durs, cv, cachs, armed, left, h.upd hu hG⟩

theorem IsDisk.mono {w : World} {F G : Nat → Prop} {p : Nat} {d : DS} (h : IsDisk w F p d) (hG : ∀ b, F b → G b) (hb : ∀ b, G b → b < w.heap.size) : IsDisk w G p d := by
  obtain ⟨q, durs, cv, cachs, armed, left, h⟩ := h
  exact ⟨q, durs, cv, cachs, armed, left, h.head, h.row, h.own, h.dur, h.cache, fun x hx => ⟨(h.durc x hx).1, (h.durc x hx).2.1, hG _ (h.durc x hx).2.2.1, (h.durc x hx).2.2.2⟩,
    fun x hx => ⟨(h.cachc x hx).1, (h.cachc x hx).2.1, (h.cachc x hx).2.2.1, hG _ (h.cachc x hx).2.2.2.1, (h.cachc x hx).2.2.2.2⟩, fun g hg => ⟨hG _ (h.cvc g hg).1, (h.cvc g hg).2⟩, hG _ h.fp, hG _ h.fq, h.pq, h.arm, h.small, hb⟩
theorem IsDisk.bd {w : World} {F : Nat → Prop} {p : Nat} {d : DS} (h : IsDisk w F p d) : ∀ b, F b → b < w.heap.size := by
  obtain ⟨q, durs, cv, cachs, armed, left, h⟩ := h
  exact h.bd
theorem IsDisk.gr {w w' : World} {F : Nat → Prop} {p : Nat} {d : DS} (h : IsDisk w' F p d) : IsDisk w' (gr F w w') p d :=
  h.mono (fun b hb => .inl hb) fun b hb => hb.elim (h.bd b) fun x => x.2

theorem has_ok {p : Nat} {x : Int} {n c : Nat} {a : Option Addr} {w : World} (hc : w.cell? ⟨p, 1, none⟩ = some (.slice a n c)) :
    Ok (den Tryd.prog 38 #[.pointer (some ⟨p, 0, none⟩), .int .i64 x] w) fun v w' => v = .bool (decide (0 ≤ x ∧ x < n)) ∧ w = w' := by
  refine den_ok (args := [.pointer (some ⟨p, 0, none⟩), .int .i64 x]) rs38 Tryd.func38 rfl mixed in38 ok38 rfl ?_
  by_cases h0 : 0 ≤ x
  · simp (disch := omega) only [push_cast, Nat.reduceBEq, Nat.reduceEqDiff, Nat.reduceAdd, Nat.reduceMul, Nat.reduceSub, Nat.reduceLT, Int.reduceToNat, Int.reduceLT, Int.reduceLE, Int.reduceEq, Int.reduceAdd, Int.reduceSub, Int.reduceNeg, Int.reduceMul, hc]
    simp [h0]
  · simp (disch := omega) only [push_cast, Nat.reduceBEq, Nat.reduceEqDiff, Nat.reduceAdd, Nat.reduceMul, Nat.reduceSub, Nat.reduceLT, Int.reduceToNat, Int.reduceLT, Int.reduceLE, Int.reduceEq, Int.reduceAdd, Int.reduceSub, Int.reduceNeg, Int.reduceMul, hc]

/-- The state behind a counted operation, and whether the power is on for it. -/
def DS.step (d : DS) : Bool × DS :=
  if d.off then (false, d) else
  match d.cnt with
  | none => (true, d)
  | some 0 => (false, { d with off := true })
  | some (k + 1) => (true, { d with cnt := some k })

theorem operate_ok {w : World} {F : Nat → Prop} {p : Nat} {d : DS} (h : IsDisk w F p d) (hk : ∀ k, d.cnt = some k → k < 9223372036854775808) :
    Ok (den Tryd.prog 39 #[.pointer (some ⟨p, 0, none⟩)] w) fun v w' => v = .bool d.step.1 ∧ IsDisk w' F p d.step.2 ∧ Upd F w w' := by
  obtain ⟨q, durs, cv, cachs, armed, left, h⟩ := h
  have hb := h.head
  obtain ⟨size, dur, cache, off, cnt⟩ := d
  have ha := h.arm
  simp only at ha hk hb
  have fin : ∀ (off' armed' : Bool) (left' : Nat) (w' : World), Blk w' p [.int .i64 size, .slice (some ⟨q, 0, none⟩) durs.length durs.length, cv, .bool off', .bool armed', .int .i64 left'] 66 →
      Upd (fun b => b = p) w w' → Disk w' F p ⟨size, dur, cache, off', if armed' then some left' else none⟩ q durs cv cachs armed' left' := by
    intro off' armed' left' w' hb' hu
    exact ⟨hb', h.row.upd hu h.pq.symm, ownsRow_upd h.own hu fun g hg => (h.cvc g hg).2.1, h.dur, h.cache,
      fun x hx => ⟨(h.durc x hx).1.upd hu (h.durc x hx).2.2.2.1, (h.durc x hx).2⟩, fun x hx => ⟨(h.cachc x hx).1.upd hu (h.cachc x hx).2.2.2.2.1, (h.cachc x hx).2⟩,
      h.cvc, h.fp, h.fq, h.pq, rfl, h.small, fun b hb => Nat.lt_of_lt_of_le (h.bd b hb) hu.size⟩
  refine den_ok (args := [.pointer (some ⟨p, 0, none⟩)]) rs39 Tryd.func39 rfl mixed in39 ok39 rfl ?_
  cases armed
  · simp only [Bool.false_eq_true, if_false] at ha
    subst ha
    cases off
    · simp (disch := omega) only [push_cast, Nat.reduceBEq, Nat.reduceEqDiff, Nat.reduceAdd, Nat.reduceMul, Nat.reduceSub, Nat.reduceLT, Int.reduceToNat, Int.reduceLT, Int.reduceLE, Int.reduceEq, Int.reduceAdd, Int.reduceSub, Int.reduceNeg, Int.reduceMul, hb.cell, hb.free]
      exact ⟨rfl, ⟨q, durs, cv, cachs, false, left, h⟩, Upd.refl⟩
    · simp (disch := omega) only [push_cast, Nat.reduceBEq, Nat.reduceEqDiff, Nat.reduceAdd, Nat.reduceMul, Nat.reduceSub, Nat.reduceLT, Int.reduceToNat, Int.reduceLT, Int.reduceLE, Int.reduceEq, Int.reduceAdd, Int.reduceSub, Int.reduceNeg, Int.reduceMul, hb.cell, hb.free]
      exact ⟨rfl, ⟨q, durs, cv, cachs, false, left, h⟩, Upd.refl⟩
  · simp only [if_true] at ha
    subst ha
    have hk' := hk left rfl
    by_cases h0 : left = 0
    · subst h0
      simp (disch := omega) only [push_cast, Nat.reduceBEq, Nat.reduceEqDiff, Nat.reduceAdd, Nat.reduceMul, Nat.reduceSub, Nat.reduceLT, Int.reduceToNat, Int.reduceLT, Int.reduceLE, Int.reduceEq, Int.reduceAdd, Int.reduceSub, Int.reduceNeg, Int.reduceMul, hb.cell, hb.free]
      have hu : Upd (fun b => b = p) w (w.setCell ⟨p, 3, none⟩ (.bool true)) := Upd.set rfl
      cases off
      · exact ⟨rfl, ⟨q, durs, cv, cachs, true, 0, fin true true 0 _ (hb.set 3 _) hu⟩, hu.mono fun b _ e => e ▸ h.fp⟩
      · exact ⟨rfl, ⟨q, durs, cv, cachs, true, 0, fin true true 0 _ (hb.set 3 _) hu⟩, hu.mono fun b _ e => e ▸ h.fp⟩
    · obtain ⟨k, rfl⟩ := Nat.exists_eq_succ_of_ne_zero h0
      have h0' : ¬ ((k.succ : Nat) : Int) = 0 := by omega
      cases off
      · simp (disch := omega) only [push_cast, Nat.reduceBEq, Nat.reduceEqDiff, Nat.reduceAdd, Nat.reduceMul, Nat.reduceSub, Nat.reduceLT, Int.reduceToNat, Int.reduceLT, Int.reduceLE, Int.reduceEq, Int.reduceAdd, Int.reduceSub, Int.reduceNeg, Int.reduceMul, hb.cell, hb.free]
        have hu : Upd (fun b => b = p) w (w.setCell ⟨p, 5, none⟩ (.int .i64 ((k.succ : Nat) - 1))) := Upd.set rfl
        refine ⟨rfl, ⟨q, durs, cv, cachs, true, k, fin false true k _ ?_ hu⟩, hu.mono fun b _ e => e ▸ h.fp⟩
        have := hb.set 5 (.int .i64 ((k.succ : Nat) - 1))
        simpa [show ((k.succ : Nat) : Int) - 1 = k from by omega] using this
      · simp (disch := omega) only [push_cast, Nat.reduceBEq, Nat.reduceEqDiff, Nat.reduceAdd, Nat.reduceMul, Nat.reduceSub, Nat.reduceLT, Int.reduceToNat, Int.reduceLT, Int.reduceLE, Int.reduceEq, Int.reduceAdd, Int.reduceSub, Int.reduceNeg, Int.reduceMul, hb.cell, hb.free]
        exact ⟨rfl, ⟨q, durs, cv, cachs, true, k + 1, h⟩, Upd.refl⟩

theorem clone_ok {w : World} {p size b o c : Nat} {l : List Int} (hc : w.cell? ⟨p, 0, none⟩ = some (.int .i64 size)) (hl : l.length = size) (h0 : 0 < size) (h1 : size ≤ 4096) (hs : Lies w b o l) :
    Ok (den Tryd.prog 40 #[.pointer (some ⟨p, 0, none⟩), .slice (some ⟨b, o, none⟩) size c] w) fun v w' => v = CV w.heap.size l ∧ Blk w' w.heap.size (by8 l) 5 ∧ Upd (fun _ => False) w w' := by
  refine den_ok (args := [.pointer (some ⟨p, 0, none⟩), .slice (some ⟨b, o, none⟩) size c]) rs40 Tryd.func40 rfl mixed in40 ok40 rfl ?_
  simp (disch := omega) only [push_cast, Nat.reduceBEq, Nat.reduceEqDiff, Nat.reduceAdd, Nat.reduceMul, Nat.reduceSub, Nat.reduceLT, Int.reduceToNat, Int.reduceLT, Int.reduceLE, Int.reduceEq, Int.reduceAdd, Int.reduceSub, Int.reduceNeg, Int.reduceMul, hc]
  have hlt := hs.lt (by omega)
  have hnew : Blk (w.alloc (.cells (List.replicate size (Value.int .u8 0)).toArray 5 (0, 0))) w.heap.size (List.replicate size (Value.int .u8 0)) 5 := Blk.new
  have hal : Upd (fun _ => False) w (w.alloc (.cells (List.replicate size (Value.int .u8 0)).toArray 5 (0, 0))) := Upd.alloc
  rw [cpy_row t31_e t5_s hnew (cs := by8 l) (by rw [by8_length]; omega) (fun j hj => (hs.upd hal hlt (fun h => h)) j hj) (by simp [by8_length, hl]) by8_one]
  simp (disch := omega) only [push_cast, Nat.reduceBEq, Nat.reduceEqDiff, Nat.reduceAdd, Nat.reduceMul, Nat.reduceSub, Nat.reduceLT, Int.reduceToNat, Int.reduceLT, Int.reduceLE, Int.reduceEq, Int.reduceAdd, Int.reduceSub, Int.reduceNeg, Int.reduceMul]
  refine ⟨by rw [CV, hl], ?_, hal.trans (Upd.setRow (F := fun b => b = w.heap.size) rfl) (fun b h1 h2 => by omega)⟩
  have e : (List.replicate size (Value.int IntKind.u8 0)).take 0 ++ by8 l ++ (List.replicate size (Value.int IntKind.u8 0)).drop (by8 l).length = by8 l := by
    rw [List.take_zero, List.nil_append, List.drop_eq_nil_of_le (by simp [by8_length, hl]), List.append_nil]
  rw [e]
  exact hnew.setRow

theorem Sectors_ok {w : World} {F : Nat → Prop} {p : Nat} {d : DS} (h : IsDisk w F p d) : Ok (den Tryd.prog 12 #[.pointer (some ⟨p, 0, none⟩)] w) fun v w' => v = .int .i64 d.dur.length ∧ w = w' := by
  obtain ⟨q, durs, cv, cachs, armed, left, h⟩ := h
  refine den_ok (args := [.pointer (some ⟨p, 0, none⟩)]) rs12 Tryd.func12 rfl mixed in12 ok12 rfl ?_
  have hb := h.head
  simp (disch := omega) only [push_cast, Nat.reduceBEq, Nat.reduceEqDiff, Nat.reduceAdd, Nat.reduceMul, Nat.reduceSub, Nat.reduceLT, Int.reduceToNat, Int.reduceLT, Int.reduceLE, Int.reduceEq, Int.reduceAdd, Int.reduceSub, Int.reduceNeg, Int.reduceMul, hb.cell]
  rw [h.dur, List.length_map]
theorem Size_ok {w : World} {F : Nat → Prop} {p : Nat} {d : DS} (h : IsDisk w F p d) : Ok (den Tryd.prog 21 #[.pointer (some ⟨p, 0, none⟩)] w) fun v w' => v = .int .i64 d.size ∧ w = w' := by
  obtain ⟨q, durs, cv, cachs, armed, left, h⟩ := h
  refine den_ok (args := [.pointer (some ⟨p, 0, none⟩)]) rs21 Tryd.func21 rfl mixed in21 ok21 rfl ?_
  have hb := h.head
  simp (disch := omega) only [push_cast, Nat.reduceBEq, Nat.reduceEqDiff, Nat.reduceAdd, Nat.reduceMul, Nat.reduceSub, Nat.reduceLT, Int.reduceToNat, Int.reduceLT, Int.reduceLE, Int.reduceEq, Int.reduceAdd, Int.reduceSub, Int.reduceNeg, Int.reduceMul, hb.cell]
theorem Down_ok {w : World} {F : Nat → Prop} {p : Nat} {d : DS} (h : IsDisk w F p d) : Ok (den Tryd.prog 29 #[.pointer (some ⟨p, 0, none⟩)] w) fun v w' => v = .bool d.off ∧ w = w' := by
  obtain ⟨q, durs, cv, cachs, armed, left, h⟩ := h
  refine den_ok (args := [.pointer (some ⟨p, 0, none⟩)]) rs29 Tryd.func29 rfl mixed in29 ok29 rfl ?_
  have hb := h.head
  simp (disch := omega) only [push_cast, Nat.reduceBEq, Nat.reduceEqDiff, Nat.reduceAdd, Nat.reduceMul, Nat.reduceSub, Nat.reduceLT, Int.reduceToNat, Int.reduceLT, Int.reduceLE, Int.reduceEq, Int.reduceAdd, Int.reduceSub, Int.reduceNeg, Int.reduceMul, hb.cell]
theorem Cached_ok {w : World} {F : Nat → Prop} {p : Nat} {d : DS} (h : IsDisk w F p d) : Ok (den Tryd.prog 22 #[.pointer (some ⟨p, 0, none⟩)] w) fun v w' => v = .int .i64 d.cache.length ∧ w = w' := by
  obtain ⟨q, durs, cv, cachs, armed, left, h⟩ := h
  obtain ⟨a, c, hcv⟩ := own_slice h.own
  refine den_ok (args := [.pointer (some ⟨p, 0, none⟩)]) rs22 Tryd.func22 rfl mixed in22 ok22 rfl ?_
  have hb := h.head
  rw [hcv] at hb
  simp (disch := omega) only [push_cast, Nat.reduceBEq, Nat.reduceEqDiff, Nat.reduceAdd, Nat.reduceMul, Nat.reduceSub, Nat.reduceLT, Int.reduceToNat, Int.reduceLT, Int.reduceLE, Int.reduceEq, Int.reduceAdd, Int.reduceSub, Int.reduceNeg, Int.reduceMul, hb.cell]
  rw [h.cache, List.length_map]

/-- The bytes of a sector: the last write in the cache, else what is durable. -/
def lastOf (c : List (Nat × List Int)) (s : Nat) : Option (List Int) := (c.reverse.find? fun x => x.1 == s).map (·.2)
def DS.content (d : DS) (s : Nat) : List Int := (lastOf d.cache s).getD (d.dur.getD s [])
def errV (n : Int) : Value := .int .i64 n
/-- What a read gives. -/
def DS.read (d : DS) (x : Int) : Option (List Int) × Int :=
  if 0 ≤ x ∧ x < d.dur.length then (if d.off then (none, 8) else (some (d.content x.toNat), 0)) else (none, 1)
/-- A result slice: nil, or some new bytes. -/
def IsRes (w : World) (v : Value) (l : Option (List Int)) (lo : Nat) : Prop :=
  match l with
  | none => v = .slice none 0 0
  | some l => ∃ b, v = CV b l ∧ lo ≤ b ∧ Blk w b (by8 l) 5

theorem read_ok {w : World} {F : Nat → Prop} {p : Nat} {d : DS} (h : IsDisk w F p d) (hz : 0 < d.size) (hc : d.cache.length < 1000000000) (x : Int) :
    Ok (den Tryd.prog 31 #[.pointer (some ⟨p, 0, none⟩), .int .i64 x] w) fun v w' => ∃ u, v = .tuple #[u, .int .i64 (d.read x).2] ∧ IsRes w' u (d.read x).1 w.heap.size ∧ Upd (fun _ => False) w w' := by
  obtain ⟨q, durs, cv, cachs, armed, left, h⟩ := h
  obtain ⟨a, cc, hcv⟩ := own_slice h.own
  refine den_ok (args := [.pointer (some ⟨p, 0, none⟩), .int .i64 x]) rs31 Tryd.func31 rfl mixed in31 ok31 rfl ?_
  have hb := h.head
  rw [hcv] at hb
  have hdl : d.dur.length = durs.length := by rw [h.dur, List.length_map]
  have hcl : d.cache.length = cachs.length := by rw [h.cache, List.length_map]
  simp (disch := omega) only [push_cast, Nat.reduceBEq, Nat.reduceEqDiff, Nat.reduceAdd, Nat.reduceMul, Nat.reduceSub, Nat.reduceLT, Int.reduceToNat, Int.reduceLT, Int.reduceLE, Int.reduceEq, Int.reduceAdd, Int.reduceSub, Int.reduceNeg, Int.reduceMul, hb.cell]
  refine Ok.use (has_ok (hb.cell 1)) ?_
  rintro v w' ⟨rfl, rfl⟩
  by_cases hx : 0 ≤ x ∧ x < durs.length
  · rw [show decide (0 ≤ x ∧ x < (durs.length : Int)) = true from by simp [hx]]
    cases hoff : d.off
    · rw [hoff] at hb
      simp (disch := omega) only [push_cast, Nat.reduceBEq, Nat.reduceEqDiff, Nat.reduceAdd, Nat.reduceMul, Nat.reduceSub, Nat.reduceLT, Int.reduceToNat, Int.reduceLT, Int.reduceLE, Int.reduceEq, Int.reduceAdd, Int.reduceSub, Int.reduceNeg, Int.reduceMul, hb.cell]
      have hread : d.read x = (some (d.content x.toNat), 0) := by simp [DS.read, hx, hoff, hdl]
      rw [hread]
      refine loop_inv (I := fun k st w' => Bx (w = w' ∧ k ≤ cachs.length ∧ st = [.int .i64 ((k : Int) - 1)] ∧ ∀ y ∈ cachs.drop k, (y.1 : Int) ≠ x) ⟨⟩) ?_ cachs.length ⟨rfl, Nat.le_refl _, rfl, by simp⟩
      rintro k st w' ⟨rfl, hk, rfl, hrest⟩
      by_cases hk0 : k = 0
      · subst hk0
        obtain ⟨y, hy⟩ : ∃ y, durs[x.toNat]? = some y := ⟨durs[x.toNat], by simp⟩
        have hym := List.mem_of_getElem? hy
        have hq : w.cell? ⟨q, x.toNat, none⟩ = some (.slice (some ⟨y.1, 0, none⟩) d.size y.2.length) := by rw [h.row.cell, List.getElem?_map, hy, ← (h.durc y hym).2.1]; rfl
        simp (disch := omega) only [push_cast, Nat.reduceBEq, Nat.reduceEqDiff, Nat.reduceAdd, Nat.reduceMul, Nat.reduceSub, Nat.reduceLT, Int.reduceToNat, Int.reduceLT, Int.reduceLE, Int.reduceEq, Int.reduceAdd, Int.reduceSub, Int.reduceNeg, Int.reduceMul, hb.cell, hq]
        refine Ok.use (clone_ok (hb.cell 0) (h.durc y hym).2.1 hz h.small.1 (Lies.of_blk (h.durc y hym).1)) ?_
        rintro v w' ⟨rfl, h1, h2⟩
        simp (disch := omega) only [push_cast, Nat.reduceBEq, Nat.reduceEqDiff, Nat.reduceAdd, Nat.reduceMul, Nat.reduceSub, Nat.reduceLT, Int.reduceToNat, Int.reduceLT, Int.reduceLE, Int.reduceEq, Int.reduceAdd, Int.reduceSub, Int.reduceNeg, Int.reduceMul]
        have hcon : d.content x.toNat = y.2 := by
          unfold DS.content lastOf
          rw [h.cache, h.dur, List.find?_eq_none.2 ?_]
          · simp [List.getD_eq_getElem?_getD, hy]
          · intro z hz hzx
            rw [List.mem_reverse, List.mem_map] at hz
            obtain ⟨u, hu, rfl⟩ := hz
            have := hrest u (by simpa using hu)
            simp at hzx
            omega
        exact ⟨_, rfl, ⟨_, by rw [hcon], Nat.le_refl _, by rw [hcon]; exact h1⟩, h2⟩
      · obtain ⟨j, rfl⟩ := Nat.exists_eq_succ_of_ne_zero hk0
        rw [show ((j.succ : Nat) : Int) - 1 = (j : Int) from by omega]
        obtain ⟨y, hy⟩ : ∃ y, cachs[j]? = some y := ⟨cachs[j], by simp⟩
        have hym := List.mem_of_getElem? hy
        obtain ⟨g, cap, hv, _, hcell⟩ := own_cell (f := cacheRow) (fun _ => rfl) h.own hy
        have hc0 := hcell 0 (by omega)
        have hc1 := hcell 1 (by omega)
        simp only [cacheRow, List.getElem?_cons_zero, List.getElem?_cons_succ, CV, (h.cachc y hym).2.1, Nat.add_zero] at hc0 hc1
        rw [hcv] at hv
        injection hv with e1 e2 e3
        subst e1
        by_cases hyx : (y.1 : Int) = x
        · simp (disch := omega) only [push_cast, Nat.reduceBEq, Nat.reduceEqDiff, Nat.reduceAdd, Nat.reduceMul, Nat.reduceSub, Nat.reduceLT, Int.reduceToNat, Int.reduceLT, Int.reduceLE, Int.reduceEq, Int.reduceAdd, Int.reduceSub, Int.reduceNeg, Int.reduceMul, hb.cell, hc0, hc1]
          refine Ok.use (clone_ok (hb.cell 0) (h.cachc y hym).2.1 hz h.small.1 (Lies.of_blk (h.cachc y hym).1)) ?_
          rintro v w' ⟨rfl, h1, h2⟩
          simp (disch := omega) only [push_cast, Nat.reduceBEq, Nat.reduceEqDiff, Nat.reduceAdd, Nat.reduceMul, Nat.reduceSub, Nat.reduceLT, Int.reduceToNat, Int.reduceLT, Int.reduceLE, Int.reduceEq, Int.reduceAdd, Int.reduceSub, Int.reduceNeg, Int.reduceMul]
          have hcon : d.content x.toNat = y.2.2 := by
            have hsplit : cachs = cachs.take j ++ y :: cachs.drop (j + 1) := by
              rw [← List.getElem?_eq_some_iff.1 hy |>.2, ← List.drop_eq_getElem_cons (by omega), List.take_append_drop]
            unfold DS.content lastOf
            rw [h.cache, hsplit, List.map_append, List.map_cons, List.reverse_append, List.reverse_cons, List.append_assoc, List.find?_append, List.find?_eq_none.2 ?_]
            · have : (y.1 == x.toNat) = true := by simp; omega
              simp [this]
            · intro z hz hzx
              rw [List.mem_reverse, List.mem_map] at hz
              obtain ⟨u, hu, rfl⟩ := hz
              have := hrest u hu
              simp at hzx
              omega
          exact ⟨_, rfl, ⟨_, by rw [hcon], Nat.le_refl _, by rw [hcon]; exact h1⟩, h2⟩
        · simp (disch := omega) only [push_cast, Nat.reduceBEq, Nat.reduceEqDiff, Nat.reduceAdd, Nat.reduceMul, Nat.reduceSub, Nat.reduceLT, Int.reduceToNat, Int.reduceLT, Int.reduceLE, Int.reduceEq, Int.reduceAdd, Int.reduceSub, Int.reduceNeg, Int.reduceMul, hb.cell, hc0, hc1]
          refine ⟨j, by omega, rfl, by omega, rfl, ?_⟩
          intro z hz
          rw [List.drop_eq_getElem_cons (by omega)] at hz
          cases hz with
          | head => rw [List.getElem?_eq_some_iff.1 hy |>.2]; exact hyx
          | tail _ hm => exact hrest z hm
    · rw [hoff] at hb
      simp (disch := omega) only [push_cast, Nat.reduceBEq, Nat.reduceEqDiff, Nat.reduceAdd, Nat.reduceMul, Nat.reduceSub, Nat.reduceLT, Int.reduceToNat, Int.reduceLT, Int.reduceLE, Int.reduceEq, Int.reduceAdd, Int.reduceSub, Int.reduceNeg, Int.reduceMul, hb.cell]
      refine ⟨.slice none 0 0, ?_, ?_, Upd.refl⟩ <;> simp [DS.read, hx, hoff, hdl, IsRes]
  · rw [show decide (0 ≤ x ∧ x < (durs.length : Int)) = false from by simp [hx]]
    simp (disch := omega) only [push_cast, Nat.reduceBEq, Nat.reduceEqDiff, Nat.reduceAdd, Nat.reduceMul, Nat.reduceSub, Nat.reduceLT, Int.reduceToNat, Int.reduceLT, Int.reduceLE, Int.reduceEq, Int.reduceAdd, Int.reduceSub, Int.reduceNeg, Int.reduceMul, hb.cell]
    refine ⟨.slice none 0 0, ?_, ?_, Upd.refl⟩ <;> simp [DS.read, hx, hdl, IsRes]
end Go.Proofs.YtkceoefmhppddaaDoor.Fd
