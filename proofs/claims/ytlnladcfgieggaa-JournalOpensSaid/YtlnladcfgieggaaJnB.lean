/-
  write, sync, commit of a journal.
-/
import Derived.Test.YtlnladcfgieggaaJnA
namespace Go.Proofs.Ytlnladcfgieggaa.Fd
set_option linter.unusedSimpArgs false
set_option linter.unusedVariables false
open Go
set_option maxRecDepth 100000

theorem JW.down_iff {w : World} {D J : Nat → Prop} {p jb : Nat} {s : DS × JS} (h : JW w D J p jb s) : ∃ sa sc, Blk w jb [.pointer (some ⟨p, 0, none⟩), .int .i64 s.2.first, .int .i64 s.2.area, .slice sa s.2.stream.length sc, .bool s.2.down] 70 ∧ s.2.stream.length ≤ sc ∧ SlC w (FF D J) (.slice sa s.2.stream.length sc) s.2.stream ∧ Rng s.2.stream := by
  obtain ⟨sv, h1, h2, h3⟩ := h.obj
  obtain ⟨sa, sc, rfl, hc⟩ := id h2.2
  exact ⟨sa, sc, h1, hc, h2, h3⟩
theorem jwrite_size {s : DS × JS} {x : Int} {b : List Int} : (jwrite s x b).2.first = s.2.first ∧ (jwrite s x b).2.area = s.2.area ∧ (jwrite s x b).2.stream = s.2.stream := ⟨rfl, rfl, rfl⟩
theorem write_code {d : DS} {x : Int} {l : List Int} : (d.write x l).2 = 0 ∨ (d.write x l).2 = 1 ∨ (d.write x l).2 = 8 := by
  unfold DS.write
  split
  · split
    · exact .inl rfl
    · exact .inr (.inr rfl)
  · exact .inr (.inl rfl)
theorem sync_code {d : DS} : d.sync.2 = 0 ∨ d.sync.2 = 8 := by
  unfold DS.sync
  split
  · exact .inl rfl
  · exact .inr rfl
set_option maxHeartbeats 1000000 in
theorem jwrite_ok {w : World} {D J : Nat → Prop} {p jb : Nat} {s : DS × JS} (h : JW w D J p jb s) {n sz i : Nat} (hs : Sz n sz i s.1) (hi : i ≤ 900000000) (hz : 0 < sz) (hz2 : sz ≤ 4096) (hf : s.2.first ≤ 100000) {x : Nat} (hx : x ≤ 100000)
    {y : Value} {b : List Int} (hy : SlB w (FF D J) y b) (hb0 : 0 < b.length) (hb : b.length ≤ sz) :
    Ok (den Try.prog 46 #[.pointer (some ⟨jb, 0, none⟩), .int .i64 (x : Int), y] w) fun u w' => u = .bool (!(jwrite s x b).2.down) ∧ ∃ D', JW w' D' J p jb (jwrite s x b) ∧ JT w w' D D' jb := by
  obtain ⟨sa, sc, h1, hc, h2, h3⟩ := h.down_iff
  obtain ⟨ya, yc, rfl, hyl⟩ := id hy
  obtain ⟨yb, yo, rfl, hlies, hyF⟩ := hyl (by intro e; rw [e] at hb0; simp at hb0)
  have hylt := hlies.lt hb0
  have hsz := hs.size
  refine den_ok (args := [.pointer (some ⟨jb, 0, none⟩), .int .i64 (x : Int), .slice (some ⟨yb, yo, none⟩) b.length yc]) rs46 Try.func46 rfl mixed in46 ok46 rfl ?_
  simp (config := { maxSteps := 3000000 }) (disch := omega) only [push_cast, Nat.reduceBEq, Nat.reduceEqDiff, Nat.reduceAdd, Nat.reduceMul, Nat.reduceSub, Nat.reduceLT, Int.reduceToNat, Int.reduceLT, Int.reduceLE, Int.reduceEq, Int.reduceAdd, Int.reduceSub, Int.reduceNeg, Int.reduceMul, h1.cell, h1.free]
  refine Ok.use (Size_ok h.disk) ?_
  rintro u w1 ⟨rfl, rfl⟩
  rw [hsz]
  simp (config := { maxSteps := 3000000 }) (disch := omega) only [push_cast, Nat.reduceBEq, Nat.reduceEqDiff, Nat.reduceAdd, Nat.reduceMul, Nat.reduceSub, Nat.reduceLT, Int.reduceToNat, Int.reduceLT, Int.reduceLE, Int.reduceEq, Int.reduceAdd, Int.reduceSub, Int.reduceNeg, Int.reduceMul, h1.cell, h1.free]
  have hnew : Blk (w.alloc (.cells (List.replicate sz (Value.int .u8 0)).toArray 5 (0, 0))) w.heap.size (List.replicate sz (Value.int .u8 0)) 5 := Blk.new
  have hal : Upd (fun _ => False) w (w.alloc (.cells (List.replicate sz (Value.int .u8 0)).toArray 5 (0, 0))) := Upd.alloc
  rw [cpy_row t46_e t5_s hnew (cs := by8 b) (by rw [by8_length]; omega) (fun j hj => (hlies.upd hal hylt (fun h => h)) j hj) (by rw [by8_length, List.length_replicate]; omega) by8_one]
  have e : (List.replicate sz (Value.int IntKind.u8 0)).take 0 ++ by8 b ++ (List.replicate sz (Value.int IntKind.u8 0)).drop (0 + (by8 b).length) = by8 (pad sz b) := by
    rw [List.take_zero, List.nil_append, List.drop_replicate, by8_length, Nat.zero_add, pad, by8_append]
    simp [by8]
  have hset : Blk ((w.alloc (.cells (List.replicate sz (Value.int .u8 0)).toArray 5 (0, 0))).setRow w.heap.size (by8 (pad sz b)).toArray) w.heap.size (by8 (pad sz b)) 5 := hnew.setRow
  have huw : Upd (fun _ => False) w ((w.alloc (.cells (List.replicate sz (Value.int .u8 0)).toArray 5 (0, 0))).setRow w.heap.size (by8 (pad sz b)).toArray) := hal.trans (Upd.setRow (F := fun b => b = w.heap.size) rfl) (fun b h1 h2 => by omega)
  have hpl := pad_length hb
  rw [e]
  generalize (w.alloc (.cells (List.replicate sz (Value.int .u8 0)).toArray 5 (0, 0))).setRow w.heap.size (by8 (pad sz b)).toArray = w1 at *
  have hw1 := h.quiet huw
  obtain ⟨sa1, sc1, g1, _, _, _⟩ := hw1.down_iff
  have hD : ¬ D w.heap.size := fun hd => by have := h.disk.bd _ hd; omega
  have hsl : SlB w1 D (.slice (some ⟨w.heap.size, 0, none⟩) sz sz) (pad sz b) := by
    have := slb_new hset (c := sz) hD
    rw [hpl] at this
    exact this
  simp (config := { maxSteps := 3000000 }) (disch := omega) only [push_cast, Nat.reduceBEq, Nat.reduceEqDiff, Nat.reduceAdd, Nat.reduceMul, Nat.reduceSub, Nat.reduceLT, Int.reduceToNat, Int.reduceLT, Int.reduceLE, Int.reduceEq, Int.reduceAdd, Int.reduceSub, Int.reduceNeg, Int.reduceMul, g1.cell, g1.free]
  replace hsl := hsl.upd (Upd.drew (F := fun _ => False)) (fun _ h => h.elim)
  replace huw := huw.drew'
  have hw1 := h.quiet huw
  have g1d := g1.drew
  generalize w1.drew = w1' at *
  refine Ok.use (write_ok hw1.disk (by rw [hsz]; exact hz) (by have := hs.few; omega) hs.cnt _ hsl) ?_
  rintro u w2 ⟨rfl, hd2, hu2⟩
  have ht2 : JT w1' w2 D (gr D w1' w2) jb := ⟨fun b hb => hb, fun b hb => .inl hb, hu2.mono fun b _ hb => .inl hb⟩
  have hw2 := hw1.disked hd2 ht2 hu2
  obtain ⟨sa2, sc2, g2, _, _, _⟩ := hw2.down_iff
  have hjw : jwrite s x b = ((s.1.write ((s.2.first : Int) + x) (pad sz b)).1, { s.2 with down := s.2.down || decide ((s.1.write ((s.2.first : Int) + x) (pad sz b)).2 ≠ 0) }) := by
    unfold jwrite; rw [hsz]
  have hcode := write_code (d := s.1) (x := (s.2.first : Int) + x) (l := pad sz b)
  have ht : JT w w2 D (gr D w1' w2) jb := (JT.quiet huw).trans ht2
  rw [hjw]
  generalize (s.1.write ((s.2.first : Int) + x) (pad sz b)) = r at *
  obtain ⟨d', code⟩ := r
  obtain ⟨d, j⟩ := s
  dsimp only at hcode hw2 g2 ⊢
  by_cases hc0 : code = 0
  · subst hc0
    have e2 : ({ j with down := j.down || decide ((0 : Int) ≠ 0) } : JS) = j := by simp
    rw [e2]
    simp (config := { maxSteps := 3000000 }) (disch := omega) only [push_cast, Nat.reduceBEq, Nat.reduceEqDiff, Nat.reduceAdd, Nat.reduceMul, Nat.reduceSub, Nat.reduceLT, Int.reduceToNat, Int.reduceLT, Int.reduceLE, Int.reduceEq, Int.reduceAdd, Int.reduceSub, Int.reduceNeg, Int.reduceMul, g1.cell, g1d.cell, g2.cell, g2.free]
    exact ⟨by simp, _, hw2, ht⟩
  · have e2 : ({ j with down := j.down || decide (code ≠ 0) } : JS) = { j with down := true } := by simp [hc0]
    rw [e2]
    obtain ⟨hw3, ht3⟩ := hw2.goDown true
    obtain ⟨sa3, sc3, g3, _, _, _⟩ := hw3.down_iff
    dsimp only at g3
    simp (config := { maxSteps := 3000000 }) (disch := omega) only [push_cast, Nat.reduceBEq, Nat.reduceEqDiff, Nat.reduceAdd, Nat.reduceMul, Nat.reduceSub, Nat.reduceLT, Int.reduceToNat, Int.reduceLT, Int.reduceLE, Int.reduceEq, Int.reduceAdd, Int.reduceSub, Int.reduceNeg, Int.reduceMul, g1.cell, g1d.cell, g2.cell, g2.free, g3.cell]
    exact ⟨by simp, _, hw3, ht.trans ht3⟩
theorem jsync_ok {w : World} {D J : Nat → Prop} {p jb : Nat} {s : DS × JS} (h : JW w D J p jb s) {n sz i : Nat} (hs : Sz n sz i s.1) (hi : i ≤ 900000000) :
    Ok (den Try.prog 47 #[.pointer (some ⟨jb, 0, none⟩)] w) fun u w' => u = .bool (!(jsync s).2.down) ∧ ∃ D', JW w' D' J p jb (jsync s) ∧ JT w w' D D' jb := by
  obtain ⟨sa, sc, h1, hc, h2, h3⟩ := h.down_iff
  refine den_ok (args := [.pointer (some ⟨jb, 0, none⟩)]) rs47 Try.func47 rfl mixed in47 ok47 rfl ?_
  simp (config := { maxSteps := 3000000 }) (disch := omega) only [push_cast, Nat.reduceBEq, Nat.reduceEqDiff, Nat.reduceAdd, Nat.reduceMul, Nat.reduceSub, Nat.reduceLT, Int.reduceToNat, Int.reduceLT, Int.reduceLE, Int.reduceEq, Int.reduceAdd, Int.reduceSub, Int.reduceNeg, Int.reduceMul, h1.cell, h1.free]
  refine Ok.use (sync_ok h.disk (by have := hs.few; omega) hs.cnt) ?_
  rintro u w2 ⟨rfl, hd2, hu2⟩
  have ht2 : JT w w2 D (gr D w w2) jb := ⟨fun b hb => hb, fun b hb => .inl hb, hu2.mono fun b _ hb => .inl hb⟩
  have hw2 := h.disked hd2 ht2 hu2
  obtain ⟨sa2, sc2, g2, _, _, _⟩ := hw2.down_iff
  have hcode := sync_code (d := s.1)
  unfold jsync
  generalize s.1.sync = r at *
  obtain ⟨d', code⟩ := r
  obtain ⟨d, j⟩ := s
  dsimp only at hcode hw2 g2 ⊢
  by_cases hc0 : code = 0
  · subst hc0
    have e2 : ({ j with down := j.down || decide ((0 : Int) ≠ 0) } : JS) = j := by simp
    rw [e2]
    simp (config := { maxSteps := 3000000 }) (disch := omega) only [push_cast, Nat.reduceBEq, Nat.reduceEqDiff, Nat.reduceAdd, Nat.reduceMul, Nat.reduceSub, Nat.reduceLT, Int.reduceToNat, Int.reduceLT, Int.reduceLE, Int.reduceEq, Int.reduceAdd, Int.reduceSub, Int.reduceNeg, Int.reduceMul, g2.cell, g2.free]
    exact ⟨by simp, _, hw2, ht2⟩
  · have e2 : ({ j with down := j.down || decide (code ≠ 0) } : JS) = { j with down := true } := by simp [hc0]
    rw [e2]
    obtain ⟨hw3, ht3⟩ := hw2.goDown true
    obtain ⟨sa3, sc3, g3, _, _, _⟩ := hw3.down_iff
    dsimp only at g3
    simp (config := { maxSteps := 3000000 }) (disch := omega) only [push_cast, Nat.reduceBEq, Nat.reduceEqDiff, Nat.reduceAdd, Nat.reduceMul, Nat.reduceSub, Nat.reduceLT, Int.reduceToNat, Int.reduceLT, Int.reduceLE, Int.reduceEq, Int.reduceAdd, Int.reduceSub, Int.reduceNeg, Int.reduceMul, g2.cell, g2.free, g3.cell]
    exact ⟨by simp, _, hw3, ht2.trans ht3⟩
theorem jcommit_ok {w : World} {D J : Nat → Prop} {p jb : Nat} {s : DS × JS} (h : JW w D J p jb s) {n sz i : Nat} (hs : Sz n sz i s.1) (hi : i ≤ 800000000) (hz : 18 ≤ sz + 2) (hz2 : sz ≤ 4096) (hf : s.2.first ≤ 100000) {k : Nat} (hk : k ≤ 100000) (hsz : (headL k).length ≤ sz) :
    Ok (den Try.prog 48 #[.pointer (some ⟨jb, 0, none⟩), .int .i64 (k : Int)] w) fun u w' => u = .bool (!(jcommit s k).2.down) ∧ ∃ D', JW w' D' J p jb (jcommit s k) ∧ JT w w' D D' jb := by
  refine den_ok (args := [.pointer (some ⟨jb, 0, none⟩), .int .i64 (k : Int)]) rs48 Try.func48 rfl mixed in48 ok48 rfl ?_
  simp (config := { maxSteps := 3000000 }) (disch := omega) only [push_cast, Nat.reduceBEq, Nat.reduceEqDiff, Nat.reduceAdd, Nat.reduceMul, Nat.reduceSub, Nat.reduceLT, Int.reduceToNat, Int.reduceLT, Int.reduceLE, Int.reduceEq, Int.reduceAdd, Int.reduceSub, Int.reduceNeg, Int.reduceMul]
  have hu0 : Upd (fun _ => False) w (w.alloc (.cells [Value.slice none 0 0].toArray 79 (0, 0))) := Upd.alloc
  have hw0 : WrI (w.alloc (.cells [Value.slice none 0 0].toArray 79 (0, 0))) (fun b => b = w.heap.size) w.heap.size [] := ⟨_, Blk.new, Bow.nil, rfl, by simp [Value.ownBlock], fun b hb => by rw [hb, size_alloc]; omega⟩
  have hsz0 : (w.alloc (.cells [Value.slice none 0 0].toArray 79 (0, 0))).heap.size = w.heap.size + 1 := size_alloc
  generalize (w.alloc (.cells [Value.slice none 0 0].toArray 79 (0, 0))) = w0 at *
  refine Ok.use (wText_ok hw0 (s := ⟨#[106, 111, 117, 114, 110, 97, 108]⟩) (by decide) (by simp)) ?_
  rintro u w1 ⟨hw1, hu1⟩
  have hst : strL (⟨#[106, 111, 117, 114, 110, 97, 108]⟩ : ByteArray) = titleL := by rfl
  rw [hst, List.nil_append] at hw1
  have e1 : IntKind.u64.wrap (k : Int) = (k : Int) := by rw [IntKind.wrap_u64]; omega
  simp (config := { maxSteps := 3000000 }) (disch := omega) only [push_cast, Nat.reduceBEq, Nat.reduceEqDiff, Nat.reduceAdd, Nat.reduceMul, Nat.reduceSub, Nat.reduceLT, Int.reduceToNat, Int.reduceLT, Int.reduceLE, Int.reduceEq, Int.reduceAdd, Int.reduceSub, Int.reduceNeg, Int.reduceMul, e1]
  refine Ok.use (wUint_ok hw1 (n := k) (by omega) (by rw [encB_title]; simp)) ?_
  rintro u w2 ⟨hw2, hu2⟩
  have hw : encB titleL ++ encU k = headL k := rfl
  rw [hw] at hw2
  simp (config := { maxSteps := 3000000 }) (disch := omega) only [push_cast, Nat.reduceBEq, Nat.reduceEqDiff, Nat.reduceAdd, Nat.reduceMul, Nat.reduceSub, Nat.reduceLT, Int.reduceToNat, Int.reduceLT, Int.reduceLE, Int.reduceEq, Int.reduceAdd, Int.reduceSub, Int.reduceNeg, Int.reduceMul]
  refine Ok.use (wData_ok hw2 (by omega)) ?_
  rintro u w3 ⟨hown, hfr, hu3⟩
  have hs1 := hu1.size
  have hs2 := hu2.size
  have hu02 : Upd (fun _ => False) w w2 := hu0.trans (hu1.gr hu2) fun b hb e => by omega
  have hu03 := hu02.trans hu3 (fun _ _ h => h)
  have hs02 := hu02.size
  obtain ⟨ua, uc, rfl, _⟩ := hown.form
  have hl := headL_length (n := k)
  have hy : SlB w3 (FF D J) (.slice ua (headL k).length uc) (headL k) := hown.slb fun g hg hF => by
    have := hfr g hg
    rcases hF with hF | hF
    · have := h.disk.bd g hF; omega
    · have := (h.sep g hF).2; omega
  have hw3 := h.quiet hu03
  simp (config := { maxSteps := 3000000 }) (disch := omega) only [push_cast, Nat.reduceBEq, Nat.reduceEqDiff, Nat.reduceAdd, Nat.reduceMul, Nat.reduceSub, Nat.reduceLT, Int.reduceToNat, Int.reduceLT, Int.reduceLE, Int.reduceEq, Int.reduceAdd, Int.reduceSub, Int.reduceNeg, Int.reduceMul]
  refine Ok.use (jwrite_ok hw3 hs (by omega) (by omega) hz2 hf (x := 0) (by omega) hy (by omega) hsz) ?_
  rintro u w4 ⟨rfl, D4, hw4, ht4⟩
  have ht04 := (JT.quiet hu03).trans ht4
  unfold jcommit
  cases hd : (jwrite s 0 (headL k)).2.down
  · simp only [Bool.false_eq_true, if_false]
    simp (config := { maxSteps := 3000000 }) (disch := omega) only [push_cast, Nat.reduceBEq, Nat.reduceEqDiff, Nat.reduceAdd, Nat.reduceMul, Nat.reduceSub, Nat.reduceLT, Int.reduceToNat, Int.reduceLT, Int.reduceLE, Int.reduceEq, Int.reduceAdd, Int.reduceSub, Int.reduceNeg, Int.reduceMul]
    refine Ok.use (jsync_ok hw4 (hs.write _ _) (by omega)) ?_
    rintro u w5 ⟨rfl, D5, hw5, ht5⟩
    simp (config := { maxSteps := 3000000 }) (disch := omega) only [push_cast, Nat.reduceBEq, Nat.reduceEqDiff, Nat.reduceAdd, Nat.reduceMul, Nat.reduceSub, Nat.reduceLT, Int.reduceToNat, Int.reduceLT, Int.reduceLE, Int.reduceEq, Int.reduceAdd, Int.reduceSub, Int.reduceNeg, Int.reduceMul]
    exact ⟨D5, hw5, ht04.trans ht5⟩
  · simp only [if_true]
    simp (config := { maxSteps := 3000000 }) (disch := omega) only [push_cast, Nat.reduceBEq, Nat.reduceEqDiff, Nat.reduceAdd, Nat.reduceMul, Nat.reduceSub, Nat.reduceLT, Int.reduceToNat, Int.reduceLT, Int.reduceLE, Int.reduceEq, Int.reduceAdd, Int.reduceSub, Int.reduceNeg, Int.reduceMul]
    exact ⟨by rw [hd]; rfl, D4, hw4, ht04⟩
end Go.Proofs.Ytlnladcfgieggaa.Fd
