/-
  Append, Reset, Records, Left, Down of a journal.
-/
import Derived.Test.YtlnladcfgieggaaJnB
namespace Go.Proofs.Ytlnladcfgieggaa.Fd
set_option linter.unusedSimpArgs false
set_option linter.unusedVariables false
open Go
set_option maxRecDepth 100000

/-- The sectors of an area from a byte on are written, as long as that works. -/
def jloop (next : List Int) : Nat → Nat → DS × JS → DS × JS
  | 0, _, s => s
  | k + 1, i, s => if i * s.1.size < next.length then (if (jwrite s ((1 + i : Nat) : Int) ((next.drop (i * s.1.size)).take s.1.size)).2.down then jwrite s ((1 + i : Nat) : Int) ((next.drop (i * s.1.size)).take s.1.size)
      else jloop next k (i + 1) (jwrite s ((1 + i : Nat) : Int) ((next.drop (i * s.1.size)).take s.1.size))) else s
def jappend (s : DS × JS) (recs : List (List Int)) : (DS × JS) × Int :=
  if (jready s).2.down then (jready s, 8) else
  if recs = [] then (jready s, 0) else
  if s.2.area - s.2.stream.length < (stream recs).length then (jready s, 7) else
  let s2 := jloop (s.2.stream ++ stream recs) (s.2.stream ++ stream recs).length (s.2.stream.length / s.1.size) (jready s)
  if s2.2.down then (s2, 8) else
  if (jsync s2).2.down then (jsync s2, 8) else
  let s4 := jcommit (jsync s2) (s.2.stream ++ stream recs).length
  if s4.2.down then (s4, 8) else ((s4.1, { s4.2 with stream := s.2.stream ++ stream recs }), 0)
def jreset (s : DS × JS) : (DS × JS) × Int :=
  if (jready s).2.down then (jready s, 8) else
  if (jcommit (jready s) 0).2.down then (jcommit (jready s) 0, 8) else (((jcommit (jready s) 0).1, { (jcommit (jready s) 0).2 with stream := [] }), 0)
theorem Down1_ok {w : World} {D J : Nat → Prop} {p jb : Nat} {s : DS × JS} (h : JW w D J p jb s) : Ok (den Try.prog 22 #[.pointer (some ⟨jb, 0, none⟩)] w) fun u w' => u = .bool s.2.down ∧ w = w' := by
  obtain ⟨sa, sc, h1, hc, h2, h3⟩ := h.down_iff
  refine den_ok (args := [.pointer (some ⟨jb, 0, none⟩)]) rs22 Try.func22 rfl mixed in22 ok22 rfl ?_
  simp (config := { maxSteps := 3000000 }) (disch := omega) only [push_cast, Nat.reduceBEq, Nat.reduceEqDiff, Nat.reduceAdd, Nat.reduceMul, Nat.reduceSub, Nat.reduceLT, Int.reduceToNat, Int.reduceLT, Int.reduceLE, Int.reduceEq, Int.reduceAdd, Int.reduceSub, Int.reduceNeg, Int.reduceMul, h1.cell]
theorem Records_ok {w : World} {D J : Nat → Prop} {p jb : Nat} {s : DS × JS} (h : JW w D J p jb s) (hl : s.2.stream.length ≤ 100000) :
    Ok (den Try.prog 19 #[.pointer (some ⟨jb, 0, none⟩)] w) fun u w' => (match spl s.2.stream with | none => u = .slice none 0 0 | some ls => SlR w' (fun b => b < w.heap.size) u ls) ∧ Upd (fun _ => False) w w' := by
  obtain ⟨sa, sc, h1, hc, h2, h3⟩ := h.down_iff
  refine den_ok (args := [.pointer (some ⟨jb, 0, none⟩)]) rs19 Try.func19 rfl mixed in19 ok19 rfl ?_
  simp (config := { maxSteps := 3000000 }) (disch := omega) only [push_cast, Nat.reduceBEq, Nat.reduceEqDiff, Nat.reduceAdd, Nat.reduceMul, Nat.reduceSub, Nat.reduceLT, Int.reduceToNat, Int.reduceLT, Int.reduceLE, Int.reduceEq, Int.reduceAdd, Int.reduceSub, Int.reduceNeg, Int.reduceMul, h1.cell]
  refine Ok.use (split_ok h2.1 h3 hl) ?_
  rintro u w1 ⟨⟨u0, ok, rfl, hm⟩, hu⟩
  simp (config := { maxSteps := 3000000 }) (disch := omega) only [push_cast, Nat.reduceBEq, Nat.reduceEqDiff, Nat.reduceAdd, Nat.reduceMul, Nat.reduceSub, Nat.reduceLT, Int.reduceToNat, Int.reduceLT, Int.reduceLE, Int.reduceEq, Int.reduceAdd, Int.reduceSub, Int.reduceNeg, Int.reduceMul]
  refine ⟨?_, hu⟩
  revert hm
  cases spl s.2.stream with
  | none => exact fun h => h.2
  | some ls => exact fun h => h.2
theorem encU_mono1 {n : Nat} : n + (encU n).length < n + 1 + (encU (n + 1)).length := by
  have := encU_inj_len (n := n) (m := n + 1) (by omega)
  omega
theorem encU_mono {n m : Nat} (h : n < m) : n + (encU n).length < m + (encU m).length := by
  have := encU_inj_len (n := n) (m := m) (by omega)
  omega
theorem Left_ok {w : World} {D J : Nat → Prop} {p jb : Nat} {s : DS × JS} (h : JW w D J p jb s) (hl : s.2.stream.length ≤ s.2.area) (ha : s.2.area ≤ 100000) :
    Ok (den Try.prog 20 #[.pointer (some ⟨jb, 0, none⟩)] w) fun u w' => u = .int .i64 (if s.2.down then -1 else leftI (s.2.area - s.2.stream.length)) ∧ Upd (fun _ => False) w w' := by
  obtain ⟨sa, sc, h1, hc, h2, h3⟩ := h.down_iff
  refine den_ok (args := [.pointer (some ⟨jb, 0, none⟩)]) rs20 Try.func20 rfl mixed in20 ok20 rfl ?_
  cases hd : s.2.down
  rotate_left
  · rw [hd] at h1
    simp (config := { maxSteps := 3000000 }) (disch := omega) only [push_cast, Nat.reduceBEq, Nat.reduceEqDiff, Nat.reduceAdd, Nat.reduceMul, Nat.reduceSub, Nat.reduceLT, Int.reduceToNat, Int.reduceLT, Int.reduceLE, Int.reduceEq, Int.reduceAdd, Int.reduceSub, Int.reduceNeg, Int.reduceMul, h1.cell]
    first | exact Upd.drew | exact Upd.refl
  rw [hd] at h1
  by_cases hfree : s.2.area - s.2.stream.length < 1
  · have hf' : (s.2.area : Int) - s.2.stream.length < 1 := by omega
    have hl0 : leftI (s.2.area - s.2.stream.length) = -1 := by
      rw [show s.2.area - s.2.stream.length = 0 from by omega]; rfl
    simp only [Bool.false_eq_true, if_false]
    rw [hl0]
    simp (config := { maxSteps := 3000000 }) (disch := omega) only [push_cast, Nat.reduceBEq, Nat.reduceEqDiff, Nat.reduceAdd, Nat.reduceMul, Nat.reduceSub, Nat.reduceLT, Int.reduceToNat, Int.reduceLT, Int.reduceLE, Int.reduceEq, Int.reduceAdd, Int.reduceSub, Int.reduceNeg, Int.reduceMul, h1.cell]
    first | exact Upd.drew | exact Upd.refl
  have hf' : ¬ (s.2.area : Int) - s.2.stream.length < 1 := by omega
  have hri : (s.2.area : Int) - s.2.stream.length = ((s.2.area - s.2.stream.length : Nat) : Int) := by omega
  simp only [Bool.false_eq_true, if_false]
  generalize s.2.area - s.2.stream.length = room at *
  simp (config := { maxSteps := 3000000 }) (disch := omega) only [push_cast, Nat.reduceBEq, Nat.reduceEqDiff, Nat.reduceAdd, Nat.reduceMul, Nat.reduceSub, Nat.reduceLT, Int.reduceToNat, Int.reduceLT, Int.reduceLE, Int.reduceEq, Int.reduceAdd, Int.reduceSub, Int.reduceNeg, Int.reduceMul, h1.cell, hri]
  obtain ⟨r, rfl⟩ : ∃ r, room = r + 1 := ⟨room - 1, by omega⟩
  refine loop_inv (I := fun k st w' => Bx (∃ (n : Nat), k = n ∧ n < r + 1 ∧ st = [.int .i64 (n : Int)] ∧ (∀ m, n < m → m < r + 1 → r + 1 < m + (encU m).length) ∧ Upd (fun _ => False) w w') ⟨⟩) ?_ r
    ⟨r, rfl, by omega, by rw [show (((r + 1 : Nat) : Int) - 1) = (r : Int) from by omega], fun m h1 h2 => by omega, by first | exact Upd.drew | exact Upd.refl⟩
  rintro k st w' ⟨n, rfl, hn, rfl, hmax, hu⟩
  by_cases hn0 : k = 0
  · subst hn0
    have := leftN_mono (room := r + 1) (n := 0) (by rw [encU_small (by omega)]; simp) hmax hn
    rw [this]
    simp (config := { maxSteps := 3000000 }) (disch := omega) only [push_cast, Nat.reduceBEq, Nat.reduceEqDiff, Nat.reduceAdd, Nat.reduceMul, Nat.reduceSub, Nat.reduceLT, Int.reduceToNat, Int.reduceLT, Int.reduceLE, Int.reduceEq, Int.reduceAdd, Int.reduceSub, Int.reduceNeg, Int.reduceMul]
    exact hu
  have hn0' : ¬ (k : Int) = 0 := by omega
  simp (config := { maxSteps := 3000000 }) (disch := omega) only [push_cast, Nat.reduceBEq, Nat.reduceEqDiff, Nat.reduceAdd, Nat.reduceMul, Nat.reduceSub, Nat.reduceLT, Int.reduceToNat, Int.reduceLT, Int.reduceLE, Int.reduceEq, Int.reduceAdd, Int.reduceSub, Int.reduceNeg, Int.reduceMul]
  refine Ok.use (digits_ok (n := k) (by omega)) ?_
  rintro u w2 ⟨rfl, hu2⟩
  have hu02 := hu.trans hu2 (fun _ _ h => h)
  have hl10 := encU_len10 (n := k) (by omega)
  by_cases hfit : k + (encU k).length ≤ r + 1
  · have hfit' : ¬ ((r + 1 : Nat) : Int) < (k : Int) + ((encU k).length : Nat) := by omega
    rw [leftN_mono hfit hmax hn]
    simp only [Int.natCast_add, Int.natCast_one] at hfit'
    simp (config := { maxSteps := 3000000 }) (disch := omega) only [push_cast, Nat.reduceBEq, Nat.reduceEqDiff, Nat.reduceAdd, Nat.reduceMul, Nat.reduceSub, Nat.reduceLT, Int.reduceToNat, Int.reduceLT, Int.reduceLE, Int.reduceEq, Int.reduceAdd, Int.reduceSub, Int.reduceNeg, Int.reduceMul]
    exact hu02
  · have hfit' : ((r + 1 : Nat) : Int) < (k : Int) + ((encU k).length : Nat) := by omega
    simp only [Int.natCast_add, Int.natCast_one] at hfit'
    simp (config := { maxSteps := 3000000 }) (disch := omega) only [push_cast, Nat.reduceBEq, Nat.reduceEqDiff, Nat.reduceAdd, Nat.reduceMul, Nat.reduceSub, Nat.reduceLT, Int.reduceToNat, Int.reduceLT, Int.reduceLE, Int.reduceEq, Int.reduceAdd, Int.reduceSub, Int.reduceNeg, Int.reduceMul]
    refine ⟨k - 1, by omega, k - 1, rfl, by omega, by rw [show ((k - 1 : Nat) : Int) = (k : Int) - 1 from by omega], fun m h1 h2 => ?_, hu02⟩
    by_cases e : m = k
    · subst e; omega
    · exact hmax m (by omega) h2
theorem headL_le {k : Nat} (h : k < 2 ^ 21) : (headL k).length ≤ 11 := by
  rw [headL_length]
  have := encU_len (k := 2) (n := k) h
  omega
theorem jloop_keep {next : List Int} : ∀ {k i : Nat} {s : DS × JS}, (jloop next k i s).2.first = s.2.first ∧ (jloop next k i s).2.area = s.2.area ∧ (jloop next k i s).2.stream = s.2.stream
  | 0, _, _ => ⟨rfl, rfl, rfl⟩
  | k + 1, i, s => by
    rw [jloop]
    split
    · split
      · exact ⟨rfl, rfl, rfl⟩
      · exact jloop_keep (k := k)
    · exact ⟨rfl, rfl, rfl⟩
theorem Sz.jwrite {n sz i : Nat} {s : DS × JS} (h : Sz n sz i s.1) (x : Int) (b : List Int) : Sz n sz (i + 1) (jwrite s x b).1 := h.write _ _
theorem mk0_eq {w : World} {k k' : IntKind} {n : Int} (h0 : 0 ≤ n) (h1 : n ≤ 1000000000) : mkS Try.prog 46 (.int k 0) (.int k' n) w = some (.slice (some ⟨w.heap.size, 0, none⟩) 0 n.toNat, w.alloc (.cells (List.replicate n.toNat (Value.int .u8 0)).toArray 5 (0, 0))) := by
  have hi : ∃ i, Try.prog.info? 5 = some i ∧ i.size = 1 ∧ i.bytes = 1 ∧ i.zero = some (.int .u8 0) := by
    have hs := t5_s
    have hb := t5_b
    have hz := t5_z
    unfold siz at hs
    unfold byt at hb
    unfold zer at hz
    cases hi : Try.prog.info? 5 with
    | none => rw [hi] at hs; cases hs
    | some i =>
      rw [hi] at hb hz hs
      simp only [Option.map_some, Option.some.injEq, Option.bind_some] at hb hz hs
      exact ⟨i, rfl, hs, hb, hz⟩
  obtain ⟨i, hi, hs, hb, hz⟩ := hi
  have hr := run_make (P := Try.prog) w 46 5 i _ Try.underlying46 hi hz k k' 0 n (Int.le_refl _) h0 (by rw [hb]; omega) (by omega)
  have hc : (Value.int IntKind.u8 0).cells = #[Value.int .u8 0] := rfl
  unfold mkS lift
  rw [hr, hs, Nat.mul_one, hc, madeOne]
  rfl
attribute [push_cast] mk0_eq
theorem Bow.made {w : World} {n : Nat} (h : n ≤ 1000000000) : Bow (w.alloc (.cells (List.replicate n (Value.int .u8 0)).toArray 5 (0, 0))) (.slice (some ⟨w.heap.size, 0, none⟩) 0 n) [] :=
  World.ownsRow_made w _ n (Nat.zero_le _) (by unfold maxLen; omega) (by simp)
set_option maxHeartbeats 4000000 in
theorem Append_ok {w : World} {D J : Nat → Prop} {p jb : Nat} {s : DS × JS} (h : JW w D J p jb s) {n sz i : Nat} (hs : Sz n sz i s.1) (hi : i ≤ 700000000) (hz : 16 ≤ sz) (hz2 : sz ≤ 4096) (hf : s.2.first ≤ 100000) (hl : s.2.stream.length ≤ s.2.area) (ha : s.2.area ≤ 50000)
    {y : Value} {recs : List (List Int)} (hy : SlR w (FF D J) y recs) (hr : RngL recs) (hrl : (stream recs).length ≤ 50000) :
    Ok (den Try.prog 23 #[.pointer (some ⟨jb, 0, none⟩), y] w) fun u w' => u = .int .i64 (jappend s recs).2 ∧ ∃ D', JW w' D' J p jb (jappend s recs).1 ∧ JT w w' D D' jb := by
  obtain ⟨ya, yc, rfl, _⟩ := id hy
  refine den_ok (args := [.pointer (some ⟨jb, 0, none⟩), .slice ya recs.length yc]) rs23 Try.func23 rfl mixed in23 ok23 rfl ?_
  simp (config := { maxSteps := 3000000 }) (disch := omega) only [push_cast, Nat.reduceBEq, Nat.reduceEqDiff, Nat.reduceAdd, Nat.reduceMul, Nat.reduceSub, Nat.reduceLT, Int.reduceToNat, Int.reduceLT, Int.reduceLE, Int.reduceEq, Int.reduceAdd, Int.reduceSub, Int.reduceNeg, Int.reduceMul]
  refine Ok.use (ready_ok h) ?_
  rintro u w1 ⟨rfl, hw1, ht1⟩
  have hf1 : (jready s).2.first = s.2.first := rfl
  have ha1 : (jready s).2.area = s.2.area := rfl
  have hst1 : (jready s).2.stream = s.2.stream := rfl
  have hd1 : (jready s).1 = s.1 := rfl
  have hA : jappend s recs = _ := rfl
  conv at hA => rhs; unfold jappend
  cases hdn : (jready s).2.down
  rotate_left
  · rw [if_pos hdn] at hA
    rw [hA]
    simp (config := { maxSteps := 3000000 }) (disch := omega) only [push_cast, Nat.reduceBEq, Nat.reduceEqDiff, Nat.reduceAdd, Nat.reduceMul, Nat.reduceSub, Nat.reduceLT, Int.reduceToNat, Int.reduceLT, Int.reduceLE, Int.reduceEq, Int.reduceAdd, Int.reduceSub, Int.reduceNeg, Int.reduceMul]
    exact ⟨D, hw1, ht1⟩
  rw [if_neg (by rw [hdn]; decide)] at hA
  rw [← hd1] at hs
  generalize hs1e : jready s = s1 at *
  by_cases hr0 : recs = []
  · rw [if_pos hr0] at hA
    rw [hA]
    subst hr0
    simp (config := { maxSteps := 3000000 }) (disch := omega) only [push_cast, Nat.reduceBEq, Nat.reduceEqDiff, Nat.reduceAdd, Nat.reduceMul, Nat.reduceSub, Nat.reduceLT, Int.reduceToNat, Int.reduceLT, Int.reduceLE, Int.reduceEq, Int.reduceAdd, Int.reduceSub, Int.reduceNeg, Int.reduceMul]
    exact ⟨D, hw1, ht1⟩
  rw [if_neg hr0] at hA
  have hr0' : ¬ (recs.length : Int) = 0 := by
    intro e
    exact hr0 (List.eq_nil_of_length_eq_zero (by omega))
  have hy1 := ht1.slr h.jj hy
  have hu2 : Upd (fun _ => False) w1 (w1.alloc (.cells [Value.slice none 0 0].toArray 79 (0, 0))) := Upd.alloc
  have hwr : WrI (w1.alloc (.cells [Value.slice none 0 0].toArray 79 (0, 0))) (fun b => b = w1.heap.size) w1.heap.size [] := ⟨_, Blk.new, Bow.nil, rfl, by simp [Value.ownBlock], fun b hb => by rw [hb, size_alloc]; omega⟩
  simp (config := { maxSteps := 3000000 }) (disch := omega) only [push_cast, Nat.reduceBEq, Nat.reduceEqDiff, Nat.reduceAdd, Nat.reduceMul, Nat.reduceSub, Nat.reduceLT, Int.reduceToNat, Int.reduceLT, Int.reduceLE, Int.reduceEq, Int.reduceAdd, Int.reduceSub, Int.reduceNeg, Int.reduceMul]
  generalize w1.alloc (.cells [Value.slice none 0 0].toArray 79 (0, 0)) = w2 at *
  have hw2 := hw1.quiet hu2
  have hy2 := hy1.go (F' := FF D J) hu2 fun b _ h => h.elim False.elim id
  have ht2 := ht1.trans (JT.quiet hu2)
  have hs12 := hu2.size
  have hql := hwr
  have hq : w1.heap.size < w2.heap.size := by
    obtain ⟨v, hv⟩ := hwr
    exact hv.head.lt
  have hrn := stream_len_le (ls := recs)
  have hgr0 : WrI w2 (gr (fun b => b = w1.heap.size) w2 w2) w1.heap.size [] := by
    obtain ⟨v, hv⟩ := hwr
    exact ⟨v, hv.head, hv.own, .inl rfl, fun g hg => ⟨.inl (hv.fv g hg).1, (hv.fv g hg).2⟩, fun b hb => hb.elim (hv.bd b) fun x => x.2⟩
  refine loop_inv (I := fun k st w' => Bx (∃ idx, k + idx = recs.length ∧ st = [.int .i64 (idx : Int)] ∧ WrI w' (gr (fun b => b = w1.heap.size) w2 w') w1.heap.size (stream (recs.take idx)) ∧ Upd (fun b => b = w1.heap.size) w2 w') ⟨⟩) ?_ recs.length
    ⟨0, rfl, rfl, hgr0, Upd.refl⟩
  clear hwr hql hgr0
  rintro k st w3 ⟨idx, hk, rfl, hwr, hu3⟩
  have htl := stream_take_le (ls := recs) (i := idx)
  have hu13 : Upd (fun _ => False) w1 w3 := hu2.trans hu3 fun b hb e => by omega
  by_cases hk0 : k = 0
  rotate_left
  · have hidx : idx < recs.length := by omega
    have hx := List.getElem?_eq_getElem hidx
    have hxl := stream_mem_len (List.getElem_mem hidx)
    generalize recs[idx] = x at hx hxl
    obtain ⟨b, o, ea, ec, rfl, q0, s0⟩ := (hy1.go hu13 (F' := FF D J) fun b _ h => h.elim False.elim id).at_ hx
    have s1 : SlB w3 (gr (fun b => b = w1.heap.size) w2 w3) (.slice ea x.length ec) x := by
      obtain ⟨b', o', ea', ec', e1, q1, s1⟩ := (hy1.go (w' := w1) (F' := fun b => FF D J b ∨ w1.heap.size ≤ b) (Upd.refl (F := fun _ => False)) fun b hb h => h.elim False.elim fun h => h.elim id fun h => by omega).at_ hx
      injection e1 with e1
      injection e1 with e1 e2
      subst e1
      subst e2
      have hbl : b < w1.heap.size := World.block_lt_of_cell? _ _ q1
      rw [World.cell?_of_block (hu13.block b hbl (fun h => h)), q1] at q0
      injection q0 with q0
      injection q0 with q0 q0' q0''
      subst q0
      subst q0''
      exact s1.go hu13 fun b hb h => .inr (h.elim False.elim fun h => h.elim (fun e => by omega) fun h => by omega)
    have hst := stream_take hx
    simp (config := { maxSteps := 3000000 }) (disch := omega) only [push_cast, Nat.reduceBEq, Nat.reduceEqDiff, Nat.reduceAdd, Nat.reduceMul, Nat.reduceSub, Nat.reduceLT, Int.reduceToNat, Int.reduceLT, Int.reduceLE, Int.reduceEq, Int.reduceAdd, Int.reduceSub, Int.reduceNeg, Int.reduceMul, q0]
    refine Ok.use (wBytes_ok hwr s1 (fun b hb => hb) (by omega) (by omega)) ?_
    rintro u w4 ⟨hwr4, hu4⟩
    simp (config := { maxSteps := 3000000 }) (disch := omega) only [push_cast, Nat.reduceBEq, Nat.reduceEqDiff, Nat.reduceAdd, Nat.reduceMul, Nat.reduceSub, Nat.reduceLT, Int.reduceToNat, Int.reduceLT, Int.reduceLE, Int.reduceEq, Int.reduceAdd, Int.reduceSub, Int.reduceNeg, Int.reduceMul]
    refine ⟨k - 1, by omega, idx + 1, by omega, by simp, ?_, hu3.gr hu4⟩
    rw [hst]
    exact WrI.re hwr4 hu3.size hu4.size
  obtain rfl : idx = recs.length := by omega
  rw [List.take_length] at hwr
  clear hk hk0 htl
  obtain ⟨sa, sc, g1, hgc, g2, g3⟩ := (hw1.quiet hu13).down_iff
  simp (config := { maxSteps := 3000000 }) (disch := omega) only [push_cast, Nat.reduceBEq, Nat.reduceEqDiff, Nat.reduceAdd, Nat.reduceMul, Nat.reduceSub, Nat.reduceLT, Int.reduceToNat, Int.reduceLT, Int.reduceLE, Int.reduceEq, Int.reduceAdd, Int.reduceSub, Int.reduceNeg, Int.reduceMul]
  refine Ok.use (wData_ok hwr (by omega)) ?_
  rintro u w4 ⟨hmore, hmfr, hu4⟩
  obtain ⟨ma, mc, rfl, _⟩ := hmore.form
  have hu14 := hu13.trans hu4 (fun _ _ h => h)
  have hw4 := hw1.quiet hu14
  obtain ⟨sa4, sc4, b4, hbc, c4, d4⟩ := hw4.down_iff
  have b4' := b4
  rw [ha1, hst1] at b4
  by_cases hfull : s.2.area - s.2.stream.length < (stream recs).length
  · rw [if_pos hfull] at hA
    rw [hA]
    have hfull' : (s.2.area : Int) - s.2.stream.length < (stream recs).length := by omega
    simp (config := { maxSteps := 3000000 }) (disch := omega) only [push_cast, Nat.reduceBEq, Nat.reduceEqDiff, Nat.reduceAdd, Nat.reduceMul, Nat.reduceSub, Nat.reduceLT, Int.reduceToNat, Int.reduceLT, Int.reduceLE, Int.reduceEq, Int.reduceAdd, Int.reduceSub, Int.reduceNeg, Int.reduceMul, b4.cell]
    exact ⟨D, hw4.quiet (by first | exact Upd.drew | exact Upd.refl), (ht1.trans (JT.quiet hu14)).trans (JT.quiet (by first | exact Upd.drew | exact Upd.refl))⟩
  rw [if_neg hfull] at hA
  have hfull' : ¬ (s.2.area : Int) - s.2.stream.length < (stream recs).length := by omega
  have hst4 : SlB w4 (FF D J) (.slice sa4 s.2.stream.length sc4) s.2.stream := by
    have := c4.1
    rw [hst1] at this
    exact this
  have rst4 : Rng s.2.stream := by rw [← hst1]; exact d4
  obtain ⟨L, hL⟩ : ∃ L, L = s.2.stream.length + (stream recs).length := ⟨_, rfl⟩
  have e0 : ((s.2.stream.length : Int) + ((stream recs).length : Int)).toNat = L := by omega
  have bm := b4.alloc (.cells (List.replicate L (Value.int .u8 0)).toArray 5 (0, 0))
  simp (config := { maxSteps := 3000000 }) (disch := omega) only [push_cast, Nat.reduceBEq, Nat.reduceEqDiff, Nat.reduceAdd, Nat.reduceMul, Nat.reduceSub, Nat.reduceLT, Int.reduceToNat, Int.reduceLT, Int.reduceLE, Int.reduceEq, Int.reduceAdd, Int.reduceSub, Int.reduceNeg, Int.reduceMul, b4.cell, e0, bm.cell]
  have hum : Upd (fun _ => False) w4 (w4.alloc (.cells (List.replicate L (Value.int .u8 0)).toArray 5 (0, 0))).drew.drew := (Upd.alloc.drew').drew'
  have hom : Bow (w4.alloc (.cells (List.replicate L (Value.int .u8 0)).toArray 5 (0, 0))).drew.drew (.slice (some ⟨w4.heap.size, 0, none⟩) 0 L) [] := ((Bow.made (by omega)).upd (Upd.drew (F := fun _ => False)) (fun _ _ h => h)).upd (Upd.drew (F := fun _ => False)) (fun _ _ h => h)
  have hmsz : (w4.alloc (.cells (List.replicate L (Value.int .u8 0)).toArray 5 (0, 0))).drew.drew.heap.size = w4.heap.size + 1 := size_alloc
  refine app_by hom (hst4.upd hum (fun _ h => h.elim)) (by simp; omega) ?_
  intro v5 w5 hown5 hu5 hfr5
  rw [List.nil_append] at hown5
  have hu45 : Upd (fun _ => False) w4 w5 := hum.trans hu5 fun b hb e => by have e := ownB e; omega
  have hv5 : ∀ g, v5.ownBlock = some g → w4.heap.size ≤ g := by
    intro g hg
    rcases hfr5 g hg with h1 | h1
    · have := ownB h1; omega
    · omega
  obtain ⟨va5, vc5, rfl, _⟩ := hown5.form
  have b5 := b4.upd hu45 (fun h => h)
  simp (config := { maxSteps := 3000000 }) (disch := omega) only [push_cast, Nat.reduceBEq, Nat.reduceEqDiff, Nat.reduceAdd, Nat.reduceMul, Nat.reduceSub, Nat.reduceLT, Int.reduceToNat, Int.reduceLT, Int.reduceLE, Int.reduceEq, Int.reduceAdd, Int.reduceSub, Int.reduceNeg, Int.reduceMul, b4.cell, e0, bm.cell, b5.cell]
  have hm5 : SlB w5 (fun _ => False) (.slice ma (stream recs).length mc) (stream recs) := (hmore.upd hu45 (fun _ _ h => h)).slb fun _ _ h => h
  refine app_by hown5 hm5 (by omega) ?_
  intro v6 w6 hown6 hu6 hfr6
  have hs45 := hu45.size
  have hu46 : Upd (fun _ => False) w4 w6 := hu45.trans hu6 fun b hb e => by have := hv5 b e; omega
  have hv6 : ∀ g, v6.ownBlock = some g → w4.heap.size ≤ g := by
    intro g hg
    rcases hfr6 g hg with h1 | h1
    · exact hv5 g h1
    · omega
  obtain ⟨va6, vc6, rfl, hc6⟩ := hown6.form
  have b6 := b4.upd hu46 (fun h => h)
  simp (config := { maxSteps := 3000000 }) (disch := omega) only [push_cast, Nat.reduceBEq, Nat.reduceEqDiff, Nat.reduceAdd, Nat.reduceMul, Nat.reduceSub, Nat.reduceLT, Int.reduceToNat, Int.reduceLT, Int.reduceLE, Int.reduceEq, Int.reduceAdd, Int.reduceSub, Int.reduceNeg, Int.reduceMul, b4.cell, e0, bm.cell, b5.cell, b6.cell]
  have ht6 := (ht1.trans (JT.quiet hu14)).trans (JT.quiet hu46)
  have hw6 := hw4.quiet hu46
  refine Ok.use (Size_ok hw6.disk) ?_
  rintro u w7 ⟨rfl, rfl⟩
  have hsz := hs.size
  rw [hsz]
  have hmpos : 0 < (stream recs).length := by
    have : 0 < recs.length := by
      rcases Nat.eq_zero_or_pos recs.length with e | e
      · exact absurd (List.eq_nil_of_length_eq_zero e) hr0
      · exact e
    omega
  rw [show s.1.size = sz from by rw [← hd1]; exact hsz] at hA
  obtain ⟨N, hN⟩ : ∃ N, N = s.2.stream ++ stream recs := ⟨_, rfl⟩
  have hNL : N.length = L := by rw [hN, List.length_append]; omega
  rw [← hN] at hA hown6 hc6 hv6 ⊢
  obtain ⟨g6, c6, hv6e, hg6, _, _⟩ := Buf.of_own hown6 (by omega)
  have hrN : Rng N := by
    rw [hN]
    refine rst4.append fun x hx => ?_
    obtain ⟨l, hl, hx⟩ := List.mem_flatMap.1 hx
    rcases List.mem_append.1 hx with hx | hx
    · exact encU_rng _ x hx
    · exact hr l hl x hx
  injection hv6e with e1 _ e3
  subst e1
  subst e3
  have hsl6 : SlB w6 (FF D J) (.slice (some ⟨g6, 0, none⟩) N.length vc6) N := hown6.slb (F := FF D J) fun g hg hF => by
    have h1 := hv6 g hg
    rcases hF with hF | hF
    · have := hw4.disk.bd g hF; omega
    · have := (hw4.sep g hF).2; omega
  have etd : (s.2.stream.length : Int).tdiv (sz : Int) = ((s.2.stream.length / sz : Nat) : Int) := (Int.ofNat_tdiv _ _).symm
  have hi0 : s.2.stream.length / sz ≤ s.2.stream.length := Nat.div_le_self _ _
  generalize s.2.stream.length / sz = i0 at *
  have hsz0 : ¬ (sz : Int) = 0 := by omega
  simp (config := { maxSteps := 3000000 }) (disch := omega) only [push_cast, Nat.reduceBEq, Nat.reduceEqDiff, Nat.reduceAdd, Nat.reduceMul, Nat.reduceSub, Nat.reduceLT, Int.reduceToNat, Int.reduceLT, Int.reduceLE, Int.reduceEq, Int.reduceAdd, Int.reduceSub, Int.reduceNeg, Int.reduceMul, b6.cell, etd]
  have hsz1 : N.length ≤ (i0 + N.length) * sz := by
    have : (i0 + N.length) * 1 ≤ (i0 + N.length) * sz := Nat.mul_le_mul_left _ (by omega)
    omega
  refine loop_inv (I := fun k st w' => Bx (∃ (i' : Nat) (s' : DS × JS) (D' : Nat → Prop), i' + k = i0 + N.length ∧ N.length ≤ (i' + k) * sz ∧ st = [.int .i64 (i' : Int)] ∧ jloop N k i' s' = jloop N N.length i0 s1 ∧ JW w' D' J p jb s' ∧ JT w6 w' D D' jb ∧ s'.2.down = false ∧ s'.2.first = s.2.first ∧ Sz n sz (i + (i' - i0)) s'.1 ∧ i0 ≤ i' ∧ SlB w' (FF D' J) (.slice (some ⟨g6, 0, none⟩) N.length vc6) N) ⟨⟩) ?_ N.length
    ⟨i0, s1, D, rfl, hsz1, rfl, rfl, hw6, JT.refl, hdn, hf1, by rw [Nat.sub_self]; exact hs, Nat.le_refl _, hsl6⟩
  clear hsz1 hsl6
  rintro k st w7 ⟨i', s', D', hik, hfuel, rfl, hloop, hw7, ht7, hdn7, hf7, hs7, hi7, hsl7⟩
  obtain ⟨X, hX⟩ : ∃ X, X = i' * sz := ⟨_, rfl⟩
  have em1 : (i' : Int) * (sz : Int) = (X : Int) := by rw [hX]; simp
  have em2 : ((i' : Int) + 1) * (sz : Int) = (X : Int) + (sz : Int) := by rw [Int.add_mul, em1, Int.one_mul]
  have hs71 := hs7.size
  have hXb : X ≤ 200000 * 4096 := by
    rw [hX]
    exact Nat.mul_le_mul (by omega) hz2
  by_cases hX7 : X < N.length
  · obtain ⟨k, rfl⟩ : ∃ k', k = k' + 1 := ⟨k - 1, by
      rcases Nat.eq_zero_or_pos k with e | e
      · subst e; rw [Nat.add_zero, ← hX] at hfuel; omega
      · omega⟩
    have hlp : jloop N (k + 1) i' s' = if (jwrite s' ((1 + i' : Nat) : Int) ((N.drop X).take sz)).2.down then jwrite s' ((1 + i' : Nat) : Int) ((N.drop X).take sz) else jloop N k (i' + 1) (jwrite s' ((1 + i' : Nat) : Int) ((N.drop X).take sz)) := by
      rw [jloop, hs71, ← hX, if_pos hX7]
    obtain ⟨M, hM⟩ : ∃ M, M = min (N.length - X) sz := ⟨_, rfl⟩
    have ez : (min (N.length : Int) ((X : Int) + (sz : Int))).toNat - X = M := by omega
    have hslM := slb_lh hsl7 (l := X) (n := M) (by omega) hc6
    have etk : (N.drop X).take M = (N.drop X).take sz := by
      rw [hM, ← List.length_drop, List.take_eq_take_iff]
      simp [Nat.min_comm]
    rw [etk, Nat.zero_add] at hslM
    have hlenM : ((N.drop X).take sz).length = M := by rw [List.length_take, List.length_drop]; omega
    have hX7' : (X : Int) < (N.length : Int) := by omega
    have hiX : i' ≤ X := by
      rw [hX]
      exact Nat.le_mul_of_pos_right _ (by omega)
    simp (config := { maxSteps := 3000000 }) (disch := omega) only [push_cast, Nat.reduceBEq, Nat.reduceEqDiff, Nat.reduceAdd, Nat.reduceMul, Nat.reduceSub, Nat.reduceLT, Int.reduceToNat, Int.reduceLT, Int.reduceLE, Int.reduceEq, Int.reduceAdd, Int.reduceSub, Int.reduceNeg, Int.reduceMul, em1, em2, ez]
    rw [show (1 : Int) + (i' : Int) = ((1 + i' : Nat) : Int) from by omega]
    refine Ok.use (jwrite_ok hw7 hs7 (by omega) (by omega) hz2 (by rw [hf7]; exact hf) (x := 1 + i') (by omega) hslM (by rw [hlenM]; omega) (by rw [hlenM]; omega)) ?_
    rintro u w8 ⟨rfl, D8, hw8, ht8⟩
    rw [hlp] at hloop
    cases hdn8 : (jwrite s' ((1 + i' : Nat) : Int) ((N.drop X).take sz)).2.down
    · rw [if_neg (by rw [hdn8]; decide)] at hloop
      simp (config := { maxSteps := 3000000 }) (disch := omega) only [push_cast, Nat.reduceBEq, Nat.reduceEqDiff, Nat.reduceAdd, Nat.reduceMul, Nat.reduceSub, Nat.reduceLT, Int.reduceToNat, Int.reduceLT, Int.reduceLE, Int.reduceEq, Int.reduceAdd, Int.reduceSub, Int.reduceNeg, Int.reduceMul]
      refine ⟨k, by omega, i' + 1, _, D8, by omega, by rw [show i' + 1 + k = i' + (k + 1) from by omega]; exact hfuel, by simp, hloop, hw8, ht7.trans ht8, hdn8, hf7, (hs7.jwrite _ _).mono (by omega), by omega, ht8.slb h.jj hsl7⟩
    · rw [if_pos hdn8] at hloop
      rw [← hloop] at hA
      dsimp only at hA
      rw [if_pos hdn8] at hA
      rw [hA]
      simp (config := { maxSteps := 3000000 }) (disch := omega) only [push_cast, Nat.reduceBEq, Nat.reduceEqDiff, Nat.reduceAdd, Nat.reduceMul, Nat.reduceSub, Nat.reduceLT, Int.reduceToNat, Int.reduceLT, Int.reduceLE, Int.reduceEq, Int.reduceAdd, Int.reduceSub, Int.reduceNeg, Int.reduceMul]
      exact ⟨D8, hw8, (ht6.trans ht7).trans ht8⟩
  · have hX7' : ¬ (X : Int) < (N.length : Int) := by omega
    have hlp : jloop N k i' s' = s' := by
      cases k with
      | zero => rfl
      | succ k => rw [jloop, hs71, ← hX, if_neg hX7]
    rw [hlp] at hloop
    rw [← hloop] at hA
    dsimp only at hA
    rw [if_neg (by rw [hdn7]; decide)] at hA
    simp (config := { maxSteps := 3000000 }) (disch := omega) only [push_cast, Nat.reduceBEq, Nat.reduceEqDiff, Nat.reduceAdd, Nat.reduceMul, Nat.reduceSub, Nat.reduceLT, Int.reduceToNat, Int.reduceLT, Int.reduceLE, Int.reduceEq, Int.reduceAdd, Int.reduceSub, Int.reduceNeg, Int.reduceMul, em1]
    refine Ok.use (jsync_ok hw7 hs7 (by omega)) ?_
    rintro u w8 ⟨rfl, D8, hw8, ht8⟩
    have ht08 := (ht6.trans ht7).trans ht8
    cases hdn8 : (jsync s').2.down
    rotate_left
    · rw [if_pos hdn8] at hA
      rw [hA]
      simp (config := { maxSteps := 3000000 }) (disch := omega) only [push_cast, Nat.reduceBEq, Nat.reduceEqDiff, Nat.reduceAdd, Nat.reduceMul, Nat.reduceSub, Nat.reduceLT, Int.reduceToNat, Int.reduceLT, Int.reduceLE, Int.reduceEq, Int.reduceAdd, Int.reduceSub, Int.reduceNeg, Int.reduceMul]
      exact ⟨D8, hw8, ht08⟩
    rw [if_neg (by rw [hdn8]; decide)] at hA
    have hhl := headL_le (k := N.length) (by omega)
    simp (config := { maxSteps := 3000000 }) (disch := omega) only [push_cast, Nat.reduceBEq, Nat.reduceEqDiff, Nat.reduceAdd, Nat.reduceMul, Nat.reduceSub, Nat.reduceLT, Int.reduceToNat, Int.reduceLT, Int.reduceLE, Int.reduceEq, Int.reduceAdd, Int.reduceSub, Int.reduceNeg, Int.reduceMul]
    refine Ok.use (jcommit_ok hw8 (n := n) (sz := sz) (i := i + (i' - i0)) hs7.sync (by omega) (by omega) hz2 (by show s'.2.first ≤ 100000; rw [hf7]; exact hf) (k := N.length) (by omega) (by omega)) ?_
    rintro u w9 ⟨rfl, D9, hw9, ht9⟩
    have ht09 := ht08.trans ht9
    cases hdn9 : (jcommit (jsync s') N.length).2.down
    rotate_left
    · rw [if_pos hdn9] at hA
      rw [hA]
      simp (config := { maxSteps := 3000000 }) (disch := omega) only [push_cast, Nat.reduceBEq, Nat.reduceEqDiff, Nat.reduceAdd, Nat.reduceMul, Nat.reduceSub, Nat.reduceLT, Int.reduceToNat, Int.reduceLT, Int.reduceLE, Int.reduceEq, Int.reduceAdd, Int.reduceSub, Int.reduceNeg, Int.reduceMul]
      exact ⟨D9, hw9, ht09⟩
    rw [if_neg (by rw [hdn9]; decide)] at hA
    rw [hA]
    obtain ⟨sa9, sc9, b9, _, _, _⟩ := hw9.down_iff
    have hsl9 : SlC w9 (FF D9 J) (.slice (some ⟨g6, 0, none⟩) N.length vc6) N := ⟨ht9.slb h.jj (ht8.slb h.jj hsl7), _, _, rfl, hc6⟩
    have hu10 : Upd (fun b => b = jb) w9 (w9.setCell ⟨jb, 3, none⟩ (.slice (some ⟨g6, 0, none⟩) N.length vc6)) := Upd.set rfl
    obtain ⟨hw10, ht10⟩ := hw9.set hu10 (j' := { (jcommit (jsync s') N.length).2 with stream := N }) ⟨_, b9.set 3 _, hsl9.upd hu10 (fun b e => .inr (by rw [e]; exact h.jj)), hrN⟩
    simp (config := { maxSteps := 3000000 }) (disch := omega) only [push_cast, Nat.reduceBEq, Nat.reduceEqDiff, Nat.reduceAdd, Nat.reduceMul, Nat.reduceSub, Nat.reduceLT, Int.reduceToNat, Int.reduceLT, Int.reduceLE, Int.reduceEq, Int.reduceAdd, Int.reduceSub, Int.reduceNeg, Int.reduceMul, b9.cell, b9.free]
    exact ⟨D9, hw10, ht09.trans ht10⟩
end Go.Proofs.Ytlnladcfgieggaa.Fd
