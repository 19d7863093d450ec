/-
  The law DiskSynced, as a reading: what was written before a Sync that returned OK survives.
-/
import Derived.Test.YtdekhojafpkgfaaDkA
namespace Go.Proofs.Ytdekhojafpkgfaa.Fd
set_option linter.unusedSimpArgs false
set_option linter.unusedVariables false
open Go Go.ChangeMaps
set_option maxRecDepth 100000

/-- An operation of a law's list, as it lies in a later world. -/
theorem OpAt.to {w w' : World} {b o : Nat} {x : OpS} (h : OpAt w b o x) (hb : b < w.heap.size) (hu : Upd (fun _ => False) w w') {F : Nat → Prop} (hF : ∀ b, F b → w.heap.size ≤ b) :
    ∃ vb vk, w'.cell? ⟨b, o, none⟩ = some (.int .i64 x.kind) ∧ w'.cell? ⟨b, o + 1, none⟩ = some (.int .i64 x.at_) ∧ w'.cell? ⟨b, o + 2, none⟩ = some vb ∧ w'.cell? ⟨b, o + 3, none⟩ = some vk ∧
      SlB w' F vb x.b ∧ SlT w' F vk x.keep ∧ (Lit.int .i64 x.at_).wf = true := by
  obtain ⟨vb, vk, h0, h1, h2, h3, h4, h5, h6⟩ := h
  have e := hu.block b hb (fun h => h)
  exact ⟨vb, vk, by rw [World.cell?_of_block e]; exact h0, by rw [World.cell?_of_block e]; exact h1, by rw [World.cell?_of_block e]; exact h2, by rw [World.cell?_of_block e]; exact h3, h4.to hu hF, h5.to hu hF, h6⟩

theorem Sz.new {n s : Nat} : Sz n s 0 (DS.new n s) := ⟨by simp [DS.new], rfl, Nat.le_refl _, fun k h => by cases h⟩
theorem synced {n s i a : Nat} {d : DS} (h : Sz n s i d) (hoff : d.off = false) (hcnt : d.cnt = none) (hca : d.cache = []) {b : List Int} (ha : a < n) (hb : b.length = s) :
    d.write a b = ({ d with cache := [(a, b)] }, 0) ∧ Sz n s 0 ({ d with cache := [(a, b)] } : DS).sync.1 ∧ ({ d with cache := [(a, b)] } : DS).sync.2 = 0 ∧ Kept a b ({ d with cache := [(a, b)] } : DS).sync.1 := by
  obtain ⟨size, dur, cache, off, cnt⟩ := d
  have hoff' : off = false := hoff
  have hcnt' : cnt = none := hcnt
  have hca' : cache = [] := hca
  subst hoff' hcnt' hca'
  have hd : dur.length = n := h.dur
  have hs : size = s := h.size
  refine ⟨?_, ?_, rfl, ?_⟩
  · unfold DS.write
    rw [if_pos ⟨by omega, by show (a : Int) < dur.length; omega, by rw [hb]; exact hs.symm⟩]
    rfl
  · refine ⟨?_, hs, Nat.le_refl _, fun k h => by cases h⟩
    show (settled _ _ _ _).length = n
    rw [settled_length]
    exact hd
  · refine ⟨?_, by intro y hy; cases hy⟩
    show (dur.set a b)[a]? = some b
    rw [List.getElem?_set_self (by omega)]
theorem Kept.read {a : Nat} {b : List Int} {d : DS} (h : Kept a b d) (hoff : d.off = false) (hca : d.cache = []) : d.read a = (some b, 0) := by
  have ha : a < d.dur.length := (List.getElem?_eq_some_iff.1 h.dur).1
  unfold DS.read DS.content
  rw [if_pos ⟨by omega, by omega⟩, hoff, hca, Int.toNat_natCast, List.getD_eq_getElem?_getD, h.dur]
  rfl

set_option maxHeartbeats 4000000 in
theorem diskSynced_ok {w : World} (x y z : Int) {v vb vk : Value} {ops : List OpS} {b : List Int} {keep : List Bool} (hv : SlO w v ops) (hb : SlB w (fun b => w.heap.size ≤ b) vb b) (hk : SlT w (fun b => w.heap.size ≤ b) vk keep) :
    Ok (den Try.prog 6 #[.int .i64 x, .int .i64 y, v, .int .i64 z, vb, vk] w) fun v w' => v = .bool true ∧ Upd (fun _ => False) w w' := by
  obtain ⟨a, c, rfl, hl⟩ := hv
  have hb' := hb
  obtain ⟨a2, c2, rfl, hl2⟩ := hb
  refine den_ok (args := [.int .i64 x, .int .i64 y, .slice a ops.length c, .int .i64 z, .slice a2 b.length c2, vk]) rs6 Try.func6 rfl mixed in6 ok6 rfl ?_
  simp (disch := omega) only [push_cast, Nat.reduceBEq, Nat.reduceEqDiff, Nat.reduceAdd, Nat.reduceMul, Nat.reduceSub, Nat.reduceLT, Int.reduceToNat, Int.reduceLT, Int.reduceLE, Int.reduceEq, Int.reduceAdd, Int.reduceSub, Int.reduceNeg, Int.reduceMul]
  refine Ok.use awake_ok ?_
  rintro v w1 ⟨rfl, hu1⟩
  simp (disch := omega) only [push_cast, Nat.reduceBEq, Nat.reduceEqDiff, Nat.reduceAdd, Nat.reduceMul, Nat.reduceSub, Nat.reduceLT, Int.reduceToNat, Int.reduceLT, Int.reduceLE, Int.reduceEq, Int.reduceAdd, Int.reduceSub, Int.reduceNeg, Int.reduceMul]
  refine Ok.use (small_ok x y) ?_
  rintro v w' ⟨rfl, rfl⟩
  by_cases hsm : 1 ≤ x ∧ x ≤ 8 ∧ 16 ≤ y ∧ y ≤ 40 ∧ ops.length ≤ 60
  rotate_left
  · rw [decide_eq_false hsm]
    simp (disch := omega) only [push_cast, Nat.reduceBEq, Nat.reduceEqDiff, Nat.reduceAdd, Nat.reduceMul, Nat.reduceSub, Nat.reduceLT, Int.reduceToNat, Int.reduceLT, Int.reduceLE, Int.reduceEq, Int.reduceAdd, Int.reduceSub, Int.reduceNeg, Int.reduceMul]
    exact hu1
  rw [decide_eq_true hsm]
  obtain ⟨g1, g2, g3, g4, g5⟩ := hsm
  by_cases hz : z < 0
  · simp (disch := omega) only [push_cast, Nat.reduceBEq, Nat.reduceEqDiff, Nat.reduceAdd, Nat.reduceMul, Nat.reduceSub, Nat.reduceLT, Int.reduceToNat, Int.reduceLT, Int.reduceLE, Int.reduceEq, Int.reduceAdd, Int.reduceSub, Int.reduceNeg, Int.reduceMul]
    exact hu1
  by_cases hz2 : x ≤ z
  · simp (disch := omega) only [push_cast, Nat.reduceBEq, Nat.reduceEqDiff, Nat.reduceAdd, Nat.reduceMul, Nat.reduceSub, Nat.reduceLT, Int.reduceToNat, Int.reduceLT, Int.reduceLE, Int.reduceEq, Int.reduceAdd, Int.reduceSub, Int.reduceNeg, Int.reduceMul]
    exact hu1
  by_cases hy : (b.length : Int) = y
  rotate_left
  · simp (disch := omega) only [push_cast, Nat.reduceBEq, Nat.reduceEqDiff, Nat.reduceAdd, Nat.reduceMul, Nat.reduceSub, Nat.reduceLT, Int.reduceToNat, Int.reduceLT, Int.reduceLE, Int.reduceEq, Int.reduceAdd, Int.reduceSub, Int.reduceNeg, Int.reduceMul]
    exact hu1
  obtain ⟨n, rfl⟩ := Int.eq_ofNat_of_zero_le (a := x) (by omega)
  obtain ⟨m, rfl⟩ := Int.eq_ofNat_of_zero_le (a := z) (by omega)
  subst hy
  simp (disch := omega) only [push_cast, Nat.reduceBEq, Nat.reduceEqDiff, Nat.reduceAdd, Nat.reduceMul, Nat.reduceSub, Nat.reduceLT, Int.reduceToNat, Int.reduceLT, Int.reduceLE, Int.reduceEq, Int.reduceAdd, Int.reduceSub, Int.reduceNeg, Int.reduceMul]
  refine Ok.use (new_ok (n := n) (size := b.length) (by omega) (by omega) (by omega) (by omega)) ?_
  rintro v w2 ⟨p, rfl, h, hu⟩
  have a1 : At w w2 _ p _ := At.new hu1 h hu
  have s1 := Sz.new (n := n) (s := b.length)
  clear h hu hu1
  generalize gr (fun _ => False) w1 w2 = F1 at *
  generalize DS.new n b.length = d1 at *
  simp (disch := omega) only [push_cast, Nat.reduceBEq, Nat.reduceEqDiff, Nat.reduceAdd, Nat.reduceMul, Nat.reduceSub, Nat.reduceLT, Int.reduceToNat, Int.reduceLT, Int.reduceLE, Int.reduceEq, Int.reduceAdd, Int.reduceSub, Int.reduceNeg, Int.reduceMul]
  refine loop_inv (I := fun k st w' => Bx (∃ i F d, k + i = ops.length ∧ st = [.int .i64 (i : Int)] ∧ At w w' F p d ∧ Sz n b.length i d) ⟨⟩) ?_ ops.length ⟨0, F1, d1, rfl, rfl, a1, s1⟩
  clear a1 s1
  rintro k st w3 ⟨i, F, d, hki, rfl, a1, s1⟩
  by_cases hk0 : k = 0
  rotate_left
  · have hi : i < ops.length := by omega
    obtain ⟨bb, o, rfl, hbb, hops⟩ := hl (by intro e; rw [e] at hi; simp at hi)
    obtain ⟨vb1, vk1, q0, q1, q2, q3, q4, q5, q6⟩ := (hops i _ (List.getElem?_eq_getElem hi)).to hbb a1.upd a1.fresh
    generalize ops[i] = op at *
    simp (disch := omega) only [push_cast, Nat.reduceBEq, Nat.reduceEqDiff, Nat.reduceAdd, Nat.reduceMul, Nat.reduceSub, Nat.reduceLT, Int.reduceToNat, Int.reduceLT, Int.reduceLE, Int.reduceEq, Int.reduceAdd, Int.reduceSub, Int.reduceNeg, Int.reduceMul, q0, q1, q2, q3]
    refine Ok.use (play_ok a1.disk (by have := s1.size; omega) (by have := s1.few; omega) s1.cnt q4 q5) ?_
    rintro v w4 ⟨u, rfl, _, h, hu⟩
    replace a1 := a1.step h hu
    simp (disch := omega) only [push_cast, Nat.reduceBEq, Nat.reduceEqDiff, Nat.reduceAdd, Nat.reduceMul, Nat.reduceSub, Nat.reduceLT, Int.reduceToNat, Int.reduceLT, Int.reduceLE, Int.reduceEq, Int.reduceAdd, Int.reduceSub, Int.reduceNeg, Int.reduceMul]
    exact ⟨k - 1, by omega, i + 1, _, _, by omega, by simp, a1, s1.play q6⟩
  obtain rfl : i = ops.length := by omega
  simp (disch := omega) only [push_cast, Nat.reduceBEq, Nat.reduceEqDiff, Nat.reduceAdd, Nat.reduceMul, Nat.reduceSub, Nat.reduceLT, Int.reduceToNat, Int.reduceLT, Int.reduceLE, Int.reduceEq, Int.reduceAdd, Int.reduceSub, Int.reduceNeg, Int.reduceMul]
  refine Ok.use (crash_ok a1.disk (by have := s1.few; omega) (hk.to a1.upd a1.fresh)) ?_
  rintro v w4 ⟨h, hu⟩
  replace a1 : At w w4 _ p (d.crash keep) := a1.step h hu
  obtain ⟨r1, r2, r3, r4⟩ := synced (d := d.crash keep) (s1.crash keep) rfl rfl rfl (a := m) (b := b) (by omega) rfl
  have r5 := (s1.crash keep).size
  clear h hu s1
  generalize gr F w3 w4 = F4 at *
  generalize hd4 : d.crash keep = d4 at *
  have r6 : d4.cache = [] := by rw [← hd4]; rfl
  have r7 : d4.cnt = none := by rw [← hd4]; rfl
  clear hd4
  simp (disch := omega) only [push_cast, Nat.reduceBEq, Nat.reduceEqDiff, Nat.reduceAdd, Nat.reduceMul, Nat.reduceSub, Nat.reduceLT, Int.reduceToNat, Int.reduceLT, Int.reduceLE, Int.reduceEq, Int.reduceAdd, Int.reduceSub, Int.reduceNeg, Int.reduceMul]
  refine Ok.use (write_ok a1.disk (by omega) (by rw [r6]; decide) (fun k h => by rw [r7] at h; cases h) m (hb'.to a1.upd a1.fresh)) ?_
  rintro v w5 ⟨rfl, h, hu⟩
  rw [r1] at h ⊢
  replace a1 : At w w5 _ p { d4 with cache := [(m, b)] } := a1.step h hu
  clear h hu
  generalize gr F4 w4 w5 = F5 at *
  simp (disch := omega) only [push_cast, Nat.reduceBEq, Nat.reduceEqDiff, Nat.reduceAdd, Nat.reduceMul, Nat.reduceSub, Nat.reduceLT, Int.reduceToNat, Int.reduceLT, Int.reduceLE, Int.reduceEq, Int.reduceAdd, Int.reduceSub, Int.reduceNeg, Int.reduceMul]
  refine Ok.use (sync_ok a1.disk (by show 1 < 1000000000; omega) (fun k h => by rw [show ({ d4 with cache := [(m, b)] } : DS).cnt = d4.cnt from rfl, r7] at h; cases h)) ?_
  rintro v w6 ⟨rfl, h, hu⟩
  rw [r3]
  replace a1 : At w w6 _ p _ := a1.step h hu
  clear h hu r1 r3 r5 r6 r7
  generalize gr F5 w5 w6 = F6 at *
  generalize ({ d4 with cache := [(m, b)] } : DS).sync.1 = d6 at *
  simp (disch := omega) only [push_cast, Nat.reduceBEq, Nat.reduceEqDiff, Nat.reduceAdd, Nat.reduceMul, Nat.reduceSub, Nat.reduceLT, Int.reduceToNat, Int.reduceLT, Int.reduceLE, Int.reduceEq, Int.reduceAdd, Int.reduceSub, Int.reduceNeg, Int.reduceMul]
  refine loop_inv (I := fun k st w' => Bx (∃ i F d, k + i = ops.length ∧ st = [.int .i64 (i : Int)] ∧ At w w' F p d ∧ Sz n b.length i d ∧ Kept m b d) ⟨⟩) ?_ ops.length ⟨0, F6, d6, rfl, rfl, a1, r2, r4⟩
  clear a1 r2 r4
  clear hki hk0
  rintro k st w7 ⟨i, F, d, hki, rfl, a1, s1, kp⟩
  by_cases hk0 : k = 0
  rotate_left
  · have hi : i < ops.length := by omega
    obtain ⟨bb, o, rfl, hbb, hops⟩ := hl (by intro e; rw [e] at hi; simp at hi)
    obtain ⟨vb1, vk1, q0, q1, q2, q3, q4, q5, q6⟩ := (hops i _ (List.getElem?_eq_getElem hi)).to hbb a1.upd a1.fresh
    generalize ops[i] = op at *
    by_cases e0 : op.kind = 0
    · by_cases e1 : op.at_ = (m : Int)
      · simp (disch := omega) only [push_cast, Nat.reduceBEq, Nat.reduceEqDiff, Nat.reduceAdd, Nat.reduceMul, Nat.reduceSub, Nat.reduceLT, Int.reduceToNat, Int.reduceLT, Int.reduceLE, Int.reduceEq, Int.reduceAdd, Int.reduceSub, Int.reduceNeg, Int.reduceMul, q0, q1, q2, q3]
        exact ⟨k - 1, by omega, i + 1, _, _, by omega, by simp, a1, s1.mono (by omega), kp⟩
      · simp (disch := omega) only [push_cast, Nat.reduceBEq, Nat.reduceEqDiff, Nat.reduceAdd, Nat.reduceMul, Nat.reduceSub, Nat.reduceLT, Int.reduceToNat, Int.reduceLT, Int.reduceLE, Int.reduceEq, Int.reduceAdd, Int.reduceSub, Int.reduceNeg, Int.reduceMul, q0, q1, q2, q3]
        refine Ok.use (play_ok a1.disk (by have := s1.size; omega) (by have := s1.few; omega) s1.cnt q4 q5) ?_
        rintro v w8 ⟨u, rfl, _, h, hu⟩
        replace a1 := a1.step h hu
        simp (disch := omega) only [push_cast, Nat.reduceBEq, Nat.reduceEqDiff, Nat.reduceAdd, Nat.reduceMul, Nat.reduceSub, Nat.reduceLT, Int.reduceToNat, Int.reduceLT, Int.reduceLE, Int.reduceEq, Int.reduceAdd, Int.reduceSub, Int.reduceNeg, Int.reduceMul]
        exact ⟨k - 1, by omega, i + 1, _, _, by omega, by simp, a1, s1.play q6, kp.play (fun h => e1 h.2)⟩
    · simp (disch := omega) only [push_cast, Nat.reduceBEq, Nat.reduceEqDiff, Nat.reduceAdd, Nat.reduceMul, Nat.reduceSub, Nat.reduceLT, Int.reduceToNat, Int.reduceLT, Int.reduceLE, Int.reduceEq, Int.reduceAdd, Int.reduceSub, Int.reduceNeg, Int.reduceMul, q0, q1, q2, q3]
      refine Ok.use (play_ok a1.disk (by have := s1.size; omega) (by have := s1.few; omega) s1.cnt q4 q5) ?_
      rintro v w8 ⟨u, rfl, _, h, hu⟩
      replace a1 := a1.step h hu
      simp (disch := omega) only [push_cast, Nat.reduceBEq, Nat.reduceEqDiff, Nat.reduceAdd, Nat.reduceMul, Nat.reduceSub, Nat.reduceLT, Int.reduceToNat, Int.reduceLT, Int.reduceLE, Int.reduceEq, Int.reduceAdd, Int.reduceSub, Int.reduceNeg, Int.reduceMul]
      exact ⟨k - 1, by omega, i + 1, _, _, by omega, by simp, a1, s1.play q6, kp.play (fun h => e0 h.1)⟩
  obtain rfl : i = ops.length := by omega
  simp (disch := omega) only [push_cast, Nat.reduceBEq, Nat.reduceEqDiff, Nat.reduceAdd, Nat.reduceMul, Nat.reduceSub, Nat.reduceLT, Int.reduceToNat, Int.reduceLT, Int.reduceLE, Int.reduceEq, Int.reduceAdd, Int.reduceSub, Int.reduceNeg, Int.reduceMul]
  refine Ok.use (crash_ok a1.disk (by have := s1.few; omega) (hk.to a1.upd a1.fresh)) ?_
  rintro v w8 ⟨h, hu⟩
  replace a1 : At w w8 _ p (d.crash keep) := a1.step h hu
  have kq := kp.settle (fun i => keep.getD i false)
  have kp' : Kept m b (d.crash keep) := ⟨kq.dur, kq.free⟩
  have hr := kp'.read rfl rfl
  clear h hu
  generalize gr F w7 w8 = F8 at *
  simp (disch := omega) only [push_cast, Nat.reduceBEq, Nat.reduceEqDiff, Nat.reduceAdd, Nat.reduceMul, Nat.reduceSub, Nat.reduceLT, Int.reduceToNat, Int.reduceLT, Int.reduceLE, Int.reduceEq, Int.reduceAdd, Int.reduceSub, Int.reduceNeg, Int.reduceMul]
  refine Ok.use (read_ok a1.disk (by have := s1.size; show 0 < d.size; omega) (by show 0 < 1000000000; omega) m) ?_
  rintro v w9 ⟨u, rfl, hres, hu⟩
  rw [hr] at hres ⊢
  obtain ⟨b9, rfl, _, hb9⟩ := hres
  replace a1 := a1.quiet hu
  clear hu
  have s8 : SlB w9 (fun _ => False) (.slice (some ⟨b9, 0, none⟩) b.length b.length) b := ⟨_, _, rfl, fun _ => ⟨_, _, rfl, Lies.of_blk hb9, fun h => h⟩⟩
  have t8 := hb'.to a1.upd (F := fun b => w.heap.size ≤ b) (fun _ h => h)
  simp (disch := omega) only [push_cast, Nat.reduceBEq, Nat.reduceEqDiff, Nat.reduceAdd, Nat.reduceMul, Nat.reduceSub, Nat.reduceLT, Int.reduceToNat, Int.reduceLT, Int.reduceLE, Int.reduceEq, Int.reduceAdd, Int.reduceSub, Int.reduceNeg, Int.reduceMul, CV, cnv_u8 s8, cnv_u8 t8, beq_self_eq_true]
  exact a1.upd
theorem diskSynced_law {w : World} (x : Int) (_ : (Lit.int .i64 x).wf = true) (y : Int) (_ : (Lit.int .i64 y).wf = true) {v : Value} (h : ∃ l, SlO w v l) (z : Int) (_ : (Lit.int .i64 z).wf = true)
    {vb : Value} (h2 : ∃ l, SlB w (fun b => w.heap.size ≤ b) vb l ∧ ∀ x ∈ l, (Lit.int .u8 x).wf = true) {vk : Value} (h3 : ∃ l, SlT w (fun b => w.heap.size ≤ b) vk l) :
    Ok (den Try.prog 6 #[.int .i64 x, .int .i64 y, v, .int .i64 z, vb, vk] w) fun v w' => v = .bool true ∧ Upd (fun _ => False) w w' := by
  obtain ⟨l, h⟩ := h
  obtain ⟨l2, h2, _⟩ := h2
  obtain ⟨l3, h3⟩ := h3
  exact diskSynced_ok x y z h h2 h3
end Go.Proofs.Ytdekhojafpkgfaa.Fd
