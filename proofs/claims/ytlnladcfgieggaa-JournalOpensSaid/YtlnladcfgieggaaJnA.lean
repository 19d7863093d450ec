/-
  The journal as plain data and in memory; ready, write, sync, commit.
-/
import Derived.Test.YtlnladcfgieggaaJn9
namespace Go.Proofs.Ytlnladcfgieggaa.Fd
set_option linter.unusedSimpArgs false
set_option linter.unusedVariables false
open Go
set_option maxRecDepth 100000

/-- The sizes of a disk after i operations. -/
structure Sz (n s i : Nat) (d : DS) : Prop where
  dur : d.dur.length = n
  size : d.size = s
  few : d.cache.length ≤ i
  cnt : ∀ k, d.cnt = some k → k < 9223372036854775808
theorem Sz.step {n s i : Nat} {d : DS} (h : Sz n s i d) : Sz n s i d.step.2 := by
  unfold DS.step
  split
  · exact h
  · split
    · exact h
    · exact ⟨h.dur, h.size, h.few, h.cnt⟩
    · rename_i k hk
      exact ⟨h.dur, h.size, h.few, fun j hj => by cases hj; have := h.cnt _ hk; omega⟩
theorem Sz.mono {n s i j : Nat} {d : DS} (h : Sz n s i d) (hij : i ≤ j) : Sz n s j d := ⟨h.dur, h.size, Nat.le_trans h.few hij, h.cnt⟩
theorem Sz.write {n s i : Nat} {d : DS} (h : Sz n s i d) (x : Int) (l : List Int) : Sz n s (i + 1) (d.write x l).1 := by
  have h' := h.step
  unfold DS.write
  split
  · split
    · exact ⟨h'.dur, h'.size, by have := h'.few; simp; exact this, h'.cnt⟩
    · exact h'.mono (by omega)
  · exact h.mono (by omega)
theorem Sz.sync {n s i : Nat} {d : DS} (h : Sz n s i d) : Sz n s i d.sync.1 := by
  have h' := h.step
  unfold DS.sync
  split
  · refine ⟨?_, h'.size, Nat.zero_le _, h'.cnt⟩
    show (settled _ _ _ _).length = n
    rw [settled_length]
    exact h'.dur
  · exact h'
theorem Sz.fail {n s i : Nat} {d : DS} (h : Sz n s i d) {x : Int} (hx : x < 9223372036854775808) : Sz n s i (d.fail x) := by
  unfold DS.fail
  split
  · exact h
  · exact ⟨h.dur, h.size, h.few, fun j hj => by
      have : (max x 0).toNat = j := by simpa using hj
      omega⟩
theorem Sz.crash {n s i : Nat} {d : DS} (h : Sz n s i d) (l : List Bool) : Sz n s 0 (d.crash l) := by
  refine ⟨?_, h.size, Nat.le_refl _, fun j hj => by cases hj⟩
  show (settled _ _ _ _).length = n
  rw [settled_length]
  exact h.dur
theorem Sz.new {n s : Nat} : Sz n s 0 (DS.new n s) := ⟨by simp [DS.new], rfl, Nat.le_refl _, fun k h => by cases h⟩

/-- A journal as plain data. -/
structure JS where
  first : Nat
  area : Nat
  stream : List Int
  down : Bool
def jwrite (s : DS × JS) (x : Int) (b : List Int) : DS × JS :=
  ((s.1.write ((s.2.first : Int) + x) (pad s.1.size b)).1, { s.2 with down := s.2.down || decide ((s.1.write ((s.2.first : Int) + x) (pad s.1.size b)).2 ≠ 0) })
def jsync (s : DS × JS) : DS × JS := (s.1.sync.1, { s.2 with down := s.2.down || decide (s.1.sync.2 ≠ 0) })
def jcommit (s : DS × JS) (n : Nat) : DS × JS := if (jwrite s 0 (headL n)).2.down then jwrite s 0 (headL n) else jsync (jwrite s 0 (headL n))
def jready (s : DS × JS) : DS × JS := (s.1, { s.2 with down := s.2.down || s.1.off })

/-- The journal's object at block jb; F: the blocks that may change. -/
def JO (w : World) (F : Nat → Prop) (p jb : Nat) (j : JS) : Prop := ∃ sv, Blk w jb [.pointer (some ⟨p, 0, none⟩), .int .i64 j.first, .int .i64 j.area, sv, .bool j.down] 70 ∧ SlC w F sv j.stream ∧ Rng j.stream
def FF (D J : Nat → Prop) (b : Nat) : Prop := D b ∨ J b
/-- The disk, the journal, and their blocks. -/
structure JW (w : World) (D J : Nat → Prop) (p jb : Nat) (s : DS × JS) : Prop where
  disk : IsDisk w D p s.1
  obj : JO w (FF D J) p jb s.2
  jj : J jb
  sep : ∀ b, J b → ¬ D b ∧ b < w.heap.size
/-- What an operation on one journal may change. -/
structure JT (w w' : World) (D D' : Nat → Prop) (jb : Nat) : Prop where
  new : ∀ b, D' b → gr D w w' b
  old : ∀ b, D b → D' b
  upd : Upd (fun b => D b ∨ b = jb) w w'
theorem JT.refl {w : World} {D : Nat → Prop} {jb : Nat} : JT w w D D jb := ⟨fun _ h => .inl h, fun _ h => h, Upd.refl⟩
theorem JT.trans {w w' w'' : World} {D D' D'' : Nat → Prop} {jb : Nat} (h1 : JT w w' D D' jb) (h2 : JT w' w'' D' D'' jb) : JT w w'' D D'' jb := by
  have s1 := h1.upd.size
  have s2 := h2.upd.size
  refine ⟨fun b hb => ?_, fun b hb => h2.old b (h1.old b hb), h1.upd.trans h2.upd fun b hb h => ?_⟩
  · rcases h2.new b hb with h | h
    · rcases h1.new b h with h | h
      · exact .inl h
      · exact .inr ⟨h.1, by omega⟩
    · exact .inr ⟨by omega, h.2⟩
  · rcases h with h | h
    · rcases h1.new b h with h | h
      · exact .inl h
      · omega
    · exact .inr h
theorem JT.quiet {w w' : World} {D : Nat → Prop} {jb : Nat} (hu : Upd (fun _ => False) w w') : JT w w' D D jb := ⟨fun _ h => .inl h, fun _ h => h, hu.mono fun _ _ h => h.elim⟩
theorem JT.slb {w w' : World} {D D' J : Nat → Prop} {jb : Nat} (h : JT w w' D D' jb) (hj : J jb) {v : Value} {l : List Int} (hs : SlB w (FF D J) v l) : SlB w' (FF D' J) v l := by
  refine hs.go h.upd fun b hb hh => ?_
  rcases hh with (hh | hh) | (hh | hh)
  · exact .inl hh
  · exact .inr (by rw [hh]; exact hj)
  · rcases h.new b hh with hh | hh
    · exact .inl hh
    · omega
  · exact .inr hh
theorem JT.slc {w w' : World} {D D' J : Nat → Prop} {jb : Nat} (h : JT w w' D D' jb) (hj : J jb) {v : Value} {l : List Int} (hs : SlC w (FF D J) v l) : SlC w' (FF D' J) v l := ⟨h.slb hj hs.1, hs.2⟩
theorem JT.slr {w w' : World} {D D' J : Nat → Prop} {jb : Nat} (h : JT w w' D D' jb) (hj : J jb) {v : Value} {ls : List (List Int)} (hs : SlR w (FF D J) v ls) : SlR w' (FF D' J) v ls := by
  refine hs.go h.upd fun b hb hh => ?_
  rcases hh with (hh | hh) | (hh | hh)
  · exact .inl hh
  · exact .inr (by rw [hh]; exact hj)
  · rcases h.new b hh with hh | hh
    · exact .inl hh
    · omega
  · exact .inr hh
/-- Another journal on the same disk. -/
theorem JT.other {w w' : World} {D D' J : Nat → Prop} {p jb jb2 : Nat} {j2 : JS} (h : JT w w' D D' jb) (hj : J jb) (ho : JO w (FF D J) p jb2 j2) (hne : jb2 ≠ jb) (hD : ¬ D jb2) : JO w' (FF D' J) p jb2 j2 := by
  obtain ⟨sv, h1, h2, h3⟩ := ho
  exact ⟨sv, h1.upd h.upd fun hh => hh.elim hD hne, h.slc hj h2, h3⟩
theorem JW.quiet {w w' : World} {D J : Nat → Prop} {p jb : Nat} {s : DS × JS} (h : JW w D J p jb s) (hu : Upd (fun _ => False) w w') : JW w' D J p jb s := by
  obtain ⟨sv, h1, h2, h3⟩ := h.obj
  exact ⟨h.disk.upd hu (fun _ _ h => h), ⟨sv, h1.upd hu (fun h => h), h2.upd hu (fun _ h => h.elim), h3⟩, h.jj, fun b hb => ⟨(h.sep b hb).1, Nat.lt_of_lt_of_le (h.sep b hb).2 hu.size⟩⟩
/-- The disk has changed. -/
theorem JW.disked {w w' : World} {D D' J : Nat → Prop} {p jb : Nat} {s : DS × JS} {d' : DS} (h : JW w D J p jb s) (hd : IsDisk w' D' p d') (ht : JT w w' D D' jb) (hu : Upd D w w') : JW w' D' J p jb (d', s.2) := by
  obtain ⟨sv, h1, h2, h3⟩ := h.obj
  refine ⟨hd, ⟨sv, h1.upd hu (h.sep jb h.jj).1, ht.slc h.jj h2, h3⟩, h.jj, fun b hb => ⟨fun hb2 => ?_, Nat.lt_of_lt_of_le (h.sep b hb).2 hu.size⟩⟩
  rcases ht.new b hb2 with hh | hh
  · exact (h.sep b hb).1 hh
  · have := (h.sep b hb).2; omega
/-- A field of the object has changed. -/
theorem JW.set {w w' : World} {D J : Nat → Prop} {p jb : Nat} {s : DS × JS} {j' : JS} (h : JW w D J p jb s) (hu : Upd (fun b => b = jb) w w') (ho : JO w' (FF D J) p jb j') : JW w' D J p jb (s.1, j') ∧ JT w w' D D jb := by
  refine ⟨⟨h.disk.upd hu fun b hb e => (h.sep jb h.jj).1 (by rw [← e]; exact hb), ho, h.jj, fun b hb => ⟨(h.sep b hb).1, Nat.lt_of_lt_of_le (h.sep b hb).2 hu.size⟩⟩, ⟨fun b hb => .inl hb, fun b hb => hb, hu.mono fun b _ e => .inr e⟩⟩
theorem JW.goDown {w : World} {D J : Nat → Prop} {p jb : Nat} {s : DS × JS} (h : JW w D J p jb s) (b : Bool) : JW (w.setCell ⟨jb, 4, none⟩ (.bool b)) D J p jb (s.1, { s.2 with down := b }) ∧ JT w (w.setCell ⟨jb, 4, none⟩ (.bool b)) D D jb := by
  obtain ⟨sv, h1, h2, h3⟩ := h.obj
  have hu : Upd (fun x => x = jb) w (w.setCell ⟨jb, 4, none⟩ (.bool b)) := Upd.set rfl
  exact h.set hu ⟨sv, h1.set 4 _, h2.upd hu (fun x e => .inr (by rw [e]; exact h.jj)), h3⟩
theorem ready_ok {w : World} {D J : Nat → Prop} {p jb : Nat} {s : DS × JS} (h : JW w D J p jb s) :
    Ok (den Try.prog 43 #[.pointer (some ⟨jb, 0, none⟩)] w) fun u w' => u = .bool (!(jready s).2.down) ∧ JW w' D J p jb (jready s) ∧ JT w w' D D jb := by
  obtain ⟨d, j⟩ := s
  obtain ⟨sv, h1, h2, h3⟩ := id h.obj
  obtain ⟨sa, sc, rfl, _⟩ := id h2.2
  refine den_ok (args := [.pointer (some ⟨jb, 0, none⟩)]) rs43 Try.func43 rfl mixed in43 ok43 rfl ?_
  have hh := h.goDown (j.down || d.off)
  have hlt := h1.lt
  cases hd : j.down
  · rw [hd] at h1 hh
    simp (config := { maxSteps := 3000000 }) (disch := omega) only [push_cast, Nat.reduceBEq, Nat.reduceEqDiff, Nat.reduceAdd, Nat.reduceMul, Nat.reduceSub, Nat.reduceLT, Int.reduceToNat, Int.reduceLT, Int.reduceLE, Int.reduceEq, Int.reduceAdd, Int.reduceSub, Int.reduceNeg, Int.reduceMul, h1.cell, h1.free]
    refine Ok.use (Down_ok h.disk) ?_
    rintro u w1 ⟨rfl, rfl⟩
    have hb := hh.1.obj
    obtain ⟨sv2, h4, _, _⟩ := hb
    rw [Bool.false_or] at hh h4
    simp only at hh h4
    have e : jready (d, j) = (d, { j with down := d.off }) := by simp [jready, hd]
    rw [e]
    cases ho : d.off
    · rw [ho] at hh h4
      simp (config := { maxSteps := 3000000 }) (disch := omega) only [push_cast, Nat.reduceBEq, Nat.reduceEqDiff, Nat.reduceAdd, Nat.reduceMul, Nat.reduceSub, Nat.reduceLT, Int.reduceToNat, Int.reduceLT, Int.reduceLE, Int.reduceEq, Int.reduceAdd, Int.reduceSub, Int.reduceNeg, Int.reduceMul, h1.cell, h1.free, h4.cell]
      exact hh
    · rw [ho] at hh h4
      simp (config := { maxSteps := 3000000 }) (disch := omega) only [push_cast, Nat.reduceBEq, Nat.reduceEqDiff, Nat.reduceAdd, Nat.reduceMul, Nat.reduceSub, Nat.reduceLT, Int.reduceToNat, Int.reduceLT, Int.reduceLE, Int.reduceEq, Int.reduceAdd, Int.reduceSub, Int.reduceNeg, Int.reduceMul, h1.cell, h1.free, h4.cell]
      exact hh
  · rw [hd] at h1 hh
    have hb := hh.1.obj
    obtain ⟨sv2, h4, _, _⟩ := hb
    rw [Bool.true_or] at hh h4
    simp only at hh h4
    have e : jready (d, j) = (d, { j with down := true }) := by simp [jready, hd]
    rw [e]
    simp (config := { maxSteps := 3000000 }) (disch := omega) only [push_cast, Nat.reduceBEq, Nat.reduceEqDiff, Nat.reduceAdd, Nat.reduceMul, Nat.reduceSub, Nat.reduceLT, Int.reduceToNat, Int.reduceLT, Int.reduceLE, Int.reduceEq, Int.reduceAdd, Int.reduceSub, Int.reduceNeg, Int.reduceMul, h1.cell, h1.free, h4.cell]
    exact hh
end Go.Proofs.Ytlnladcfgieggaa.Fd
