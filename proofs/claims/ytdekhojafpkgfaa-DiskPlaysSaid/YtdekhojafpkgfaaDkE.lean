/-
  The law DiskPlays, as a reading: the program's disk and the reference's, side by side.
-/
import Derived.Test.YtdekhojafpkgfaaDkB
import Derived.Test.YtdekhojafpkgfaaDkD
namespace Go.Proofs.Ytdekhojafpkgfaa.Fd
set_option linter.unusedSimpArgs false
set_option linter.unusedVariables false
open Go Go.ChangeMaps
set_option maxRecDepth 100000

theorem SlB.nil {w : World} {F : Nat → Prop} : SlB w F (.slice none 0 0) [] := ⟨none, 0, rfl, fun h => absurd rfl h⟩
theorem model_ok {w : World} {F : Nat → Prop} {p : Nat} {d : DS} (h : IsRef w F p d) (hz : 0 < d.size) (hz2 : d.size ≤ 4096) (hc : d.cache.length < 1000000000) (hk : ∀ k, d.cnt = some k → k < 9223372036854775808)
    {x : OpS} {vb vk : Value} (hvb : SlB w F vb x.b) (hvk : SlT w F vk x.keep) :
    Ok (den Try.prog 16 #[.pointer (some ⟨p, 0, none⟩), .agg #[.int .i64 x.kind, .int .i64 x.at_, vb, vk]] w) fun v w' =>
      ∃ u, v = .tuple #[u, .int .i64 (d.play x).2.2] ∧ SlB w' (fun _ => False) u ((d.play x).2.1.getD []) ∧ IsRef w' (gr F w w') p (d.play x).1 ∧ Upd F w w' := by
  obtain ⟨kind, at_, b, keep⟩ := x
  refine den_ok (args := [.pointer (some ⟨p, 0, none⟩), .agg #[.int .i64 kind, .int .i64 at_, vb, vk]]) rs16 Try.func16 rfl mixed in16 ok16 rfl ?_
  have hu1 : Upd (fun _ => False) w (w.alloc (.cells #[.int .i64 kind, .int .i64 at_, vb, vk] 37 (0, 0))) := Upd.alloc
  have h1 := h.upd hu1 (fun _ _ h => h)
  have b1 := hvb.upd hu1 (fun _ h => h.elim)
  have k1 := hvk.upd hu1 (fun _ h => h.elim)
  have hF : ∀ {w' : World}, Upd F (w.alloc (.cells #[.int .i64 kind, .int .i64 at_, vb, vk] 37 (0, 0))) w' → Upd F w w' := fun h => (hu1.mono (fun _ _ h => h.elim)).trans h (fun _ _ h => h)
  have hG : ∀ {w' : World} {d' : DS}, Upd F (w.alloc (.cells #[.int .i64 kind, .int .i64 at_, vb, vk] 37 (0, 0))) w' → IsRef w' (gr F (w.alloc (.cells #[.int .i64 kind, .int .i64 at_, vb, vk] 37 (0, 0))) w') p d' → IsRef w' (gr F w w') p d' := by
    intro w' d' hu hd
    refine hd.mono ?_ ?_
    · rintro b (hb | hb)
      · exact .inl hb
      · exact .inr ⟨Nat.le_trans hu1.size hb.1, hb.2⟩
    · rintro b (hb | hb)
      · exact Nat.lt_of_lt_of_le (h.bd b hb) (hF hu).size
      · exact hb.2
  by_cases q0 : kind = 0
  · have e : d.play ⟨kind, at_, b, keep⟩ = ((d.write at_ b).1, none, (d.write at_ b).2) := by unfold DS.play; rw [if_pos q0]
    rw [e]
    simp (disch := omega) only [push_cast, Nat.reduceBEq, Nat.reduceEqDiff, Nat.reduceAdd, Nat.reduceMul, Nat.reduceSub, Nat.reduceLT, Int.reduceToNat, Int.reduceLT, Int.reduceLE, Int.reduceEq, Int.reduceAdd, Int.reduceSub, Int.reduceNeg, Int.reduceMul]
    refine Ok.use (rwrite_ok h1 hc hk at_ b1) ?_
    rintro v w2 ⟨rfl, h2, hu2⟩
    simp (disch := omega) only [push_cast, Nat.reduceBEq, Nat.reduceEqDiff, Nat.reduceAdd, Nat.reduceMul, Nat.reduceSub, Nat.reduceLT, Int.reduceToNat, Int.reduceLT, Int.reduceLE, Int.reduceEq, Int.reduceAdd, Int.reduceSub, Int.reduceNeg, Int.reduceMul]
    exact ⟨_, rfl, SlB.nil, hG hu2 h2, hF hu2⟩
  by_cases q1 : kind = 1
  · have e : d.play ⟨kind, at_, b, keep⟩ = (d.sync.1, none, d.sync.2) := by unfold DS.play; rw [if_neg q0, if_pos q1]
    rw [e]
    simp (disch := omega) only [push_cast, Nat.reduceBEq, Nat.reduceEqDiff, Nat.reduceAdd, Nat.reduceMul, Nat.reduceSub, Nat.reduceLT, Int.reduceToNat, Int.reduceLT, Int.reduceLE, Int.reduceEq, Int.reduceAdd, Int.reduceSub, Int.reduceNeg, Int.reduceMul]
    refine Ok.use (rsync_ok h1 hc hk) ?_
    rintro v w2 ⟨rfl, h2, hu2⟩
    simp (disch := omega) only [push_cast, Nat.reduceBEq, Nat.reduceEqDiff, Nat.reduceAdd, Nat.reduceMul, Nat.reduceSub, Nat.reduceLT, Int.reduceToNat, Int.reduceLT, Int.reduceLE, Int.reduceEq, Int.reduceAdd, Int.reduceSub, Int.reduceNeg, Int.reduceMul]
    exact ⟨_, rfl, SlB.nil, hG hu2 h2, hF hu2⟩
  by_cases q2 : kind = 2
  · have e : d.play ⟨kind, at_, b, keep⟩ = (d.fail at_, none, 0) := by unfold DS.play; rw [if_neg q0, if_neg q1, if_pos q2]
    rw [e]
    simp (disch := omega) only [push_cast, Nat.reduceBEq, Nat.reduceEqDiff, Nat.reduceAdd, Nat.reduceMul, Nat.reduceSub, Nat.reduceLT, Int.reduceToNat, Int.reduceLT, Int.reduceLE, Int.reduceEq, Int.reduceAdd, Int.reduceSub, Int.reduceNeg, Int.reduceMul]
    refine Ok.use (rfail_ok h1 at_) ?_
    rintro v w2 ⟨h2, hu2⟩
    simp (disch := omega) only [push_cast, Nat.reduceBEq, Nat.reduceEqDiff, Nat.reduceAdd, Nat.reduceMul, Nat.reduceSub, Nat.reduceLT, Int.reduceToNat, Int.reduceLT, Int.reduceLE, Int.reduceEq, Int.reduceAdd, Int.reduceSub, Int.reduceNeg, Int.reduceMul]
    exact ⟨_, rfl, SlB.nil, hG hu2 h2, hF hu2⟩
  by_cases q3 : kind = 3
  · have e : d.play ⟨kind, at_, b, keep⟩ = (d.crash keep, none, 0) := by unfold DS.play; rw [if_neg q0, if_neg q1, if_neg q2, if_pos q3]
    rw [e]
    simp (disch := omega) only [push_cast, Nat.reduceBEq, Nat.reduceEqDiff, Nat.reduceAdd, Nat.reduceMul, Nat.reduceSub, Nat.reduceLT, Int.reduceToNat, Int.reduceLT, Int.reduceLE, Int.reduceEq, Int.reduceAdd, Int.reduceSub, Int.reduceNeg, Int.reduceMul]
    refine Ok.use (rcrash_ok h1 hc k1) ?_
    rintro v w2 ⟨h2, hu2⟩
    simp (disch := omega) only [push_cast, Nat.reduceBEq, Nat.reduceEqDiff, Nat.reduceAdd, Nat.reduceMul, Nat.reduceSub, Nat.reduceLT, Int.reduceToNat, Int.reduceLT, Int.reduceLE, Int.reduceEq, Int.reduceAdd, Int.reduceSub, Int.reduceNeg, Int.reduceMul]
    exact ⟨_, rfl, SlB.nil, hG hu2 h2, hF hu2⟩
  · have e : d.play ⟨kind, at_, b, keep⟩ = (d, (d.read at_).1, (d.read at_).2) := by unfold DS.play; rw [if_neg q0, if_neg q1, if_neg q2, if_neg q3]
    rw [e]
    simp (disch := omega) only [push_cast, Nat.reduceBEq, Nat.reduceEqDiff, Nat.reduceAdd, Nat.reduceMul, Nat.reduceSub, Nat.reduceLT, Int.reduceToNat, Int.reduceLT, Int.reduceLE, Int.reduceEq, Int.reduceAdd, Int.reduceSub, Int.reduceNeg, Int.reduceMul]
    refine Ok.use (rread_ok h1 hz hz2 hc at_) ?_
    rintro v w2 ⟨u, rfl, hr, hu2⟩
    simp (disch := omega) only [push_cast, Nat.reduceBEq, Nat.reduceEqDiff, Nat.reduceAdd, Nat.reduceMul, Nat.reduceSub, Nat.reduceLT, Int.reduceToNat, Int.reduceLT, Int.reduceLE, Int.reduceEq, Int.reduceAdd, Int.reduceSub, Int.reduceNeg, Int.reduceMul]
    exact ⟨u, rfl, hr, hG (hu2.mono (fun _ _ h => h.elim)) (IsRef.gr (h1.upd hu2 (fun _ _ h => h))), hF (hu2.mono (fun _ _ h => h.elim))⟩

/-- Two disks side by side. -/
structure Both (w0 w : World) (F : Nat → Prop) (p : Nat) (d : DS) (G : Nat → Prop) (q : Nat) (e : DS) : Prop where
  disk : IsDisk w F p d
  ref : IsRef w G q e
  apart : ∀ b, F b → ¬ G b
  fresh : ∀ b, F b → w0.heap.size ≤ b
  fresh2 : ∀ b, G b → w0.heap.size ≤ b
  upd : Upd (fun _ => False) w0 w
theorem Both.left {w0 w w' : World} {F G : Nat → Prop} {p q : Nat} {d d' e : DS} (h : Both w0 w F p d G q e) (h1 : IsDisk w' (gr F w w') p d') (h2 : Upd F w w') : Both w0 w' (gr F w w') p d' G q e :=
  ⟨h1, h.ref.upd h2 (fun b hb hf => h.apart b hf hb), fun b hb hg => hb.elim (fun hb => h.apart b hb hg) fun x => by have := h.ref.bd b hg; omega,
    fun b hb => hb.elim (h.fresh b) fun x => Nat.le_trans h.upd.size x.1, h.fresh2, h.upd.trans h2 fun b h3 h4 => by have := h.fresh b h4; omega⟩
theorem Both.right {w0 w w' : World} {F G : Nat → Prop} {p q : Nat} {d e e' : DS} (h : Both w0 w F p d G q e) (h1 : IsRef w' (gr G w w') q e') (h2 : Upd G w w') : Both w0 w' F p d (gr G w w') q e' :=
  ⟨h.disk.upd h2 (fun b hb hf => h.apart b hb hf), h1, fun b hb hg => hg.elim (fun hg => h.apart b hb hg) fun x => by have := h.disk.bd b hb; omega,
    h.fresh, fun b hb => hb.elim (h.fresh2 b) fun x => Nat.le_trans h.upd.size x.1, h.upd.trans h2 fun b h3 h4 => by have := h.fresh2 b h4; omega⟩
theorem Both.quiet {w0 w w' : World} {F G : Nat → Prop} {p q : Nat} {d e : DS} (h : Both w0 w F p d G q e) (h2 : Upd (fun _ => False) w w') : Both w0 w' F p d G q e :=
  ⟨h.disk.upd h2 fun _ _ h => h, h.ref.upd h2 fun _ _ h => h, h.apart, h.fresh, h.fresh2, h.upd.trans h2 fun _ _ h => h⟩
/-- A result outside the blocks G. -/
theorem IsRes.slb {w w' : World} {G : Nat → Prop} {u : Value} {l : Option (List Int)} (h : IsRes w' u l w.heap.size) (hG : ∀ b, G b → b < w.heap.size) : SlB w' G u (l.getD []) := by
  cases l with
  | none =>
    obtain rfl : u = _ := h
    exact SlB.nil
  | some l =>
    obtain ⟨b, rfl, h1, h2⟩ := h
    exact ⟨_, _, rfl, fun _ => ⟨b, 0, rfl, Lies.of_blk h2, fun hg => by have := hG b hg; omega⟩⟩
theorem SlB.weak {w : World} {F : Nat → Prop} {v : Value} {l : List Int} (h : SlB w F v l) : SlB w (fun _ => False) v l := h.mono fun _ _ h => h.elim

set_option maxHeartbeats 4000000 in
theorem diskPlays_ok {w : World} (x y : Int) {v : Value} {ops : List OpS} (hv : SlO w v ops) :
    Ok (den Try.prog 3 #[.int .i64 x, .int .i64 y, v] w) fun v w' => v = .bool true ∧ Upd (fun _ => False) w w' := by
  obtain ⟨a, c, rfl, hl⟩ := hv
  refine den_ok (args := [.int .i64 x, .int .i64 y, .slice a ops.length c]) rs3 Try.func3 rfl mixed in3 ok3 rfl ?_
  simp (disch := omega) only [push_cast, Nat.reduceBEq, Nat.reduceEqDiff, Nat.reduceAdd, Nat.reduceMul, Nat.reduceSub, Nat.reduceLT, Int.reduceToNat, Int.reduceLT, Int.reduceLE, Int.reduceEq, Int.reduceAdd, Int.reduceSub, Int.reduceNeg, Int.reduceMul]
  refine Ok.use awake_ok ?_
  rintro v w1 ⟨rfl, hu1⟩
  simp (disch := omega) only [push_cast, Nat.reduceBEq, Nat.reduceEqDiff, Nat.reduceAdd, Nat.reduceMul, Nat.reduceSub, Nat.reduceLT, Int.reduceToNat, Int.reduceLT, Int.reduceLE, Int.reduceEq, Int.reduceAdd, Int.reduceSub, Int.reduceNeg, Int.reduceMul]
  refine Ok.use (small_ok x y) ?_
  rintro v w' ⟨rfl, rfl⟩
  by_cases hsm : 1 ≤ x ∧ x ≤ 8 ∧ 16 ≤ y ∧ y ≤ 40 ∧ ops.length ≤ 60
  rotate_left
  · rw [decide_eq_false hsm]
    simp (disch := omega) only [push_cast, Nat.reduceBEq, Nat.reduceEqDiff, Nat.reduceAdd, Nat.reduceMul, Nat.reduceSub, Nat.reduceLT, Int.reduceToNat, Int.reduceLT, Int.reduceLE, Int.reduceEq, Int.reduceAdd, Int.reduceSub, Int.reduceNeg, Int.reduceMul]
    exact hu1
  rw [decide_eq_true hsm]
  obtain ⟨g1, g2, g3, g4, g5⟩ := hsm
  obtain ⟨n, rfl⟩ := Int.eq_ofNat_of_zero_le (a := x) (by omega)
  obtain ⟨s, rfl⟩ := Int.eq_ofNat_of_zero_le (a := y) (by omega)
  simp (disch := omega) only [push_cast, Nat.reduceBEq, Nat.reduceEqDiff, Nat.reduceAdd, Nat.reduceMul, Nat.reduceSub, Nat.reduceLT, Int.reduceToNat, Int.reduceLT, Int.reduceLE, Int.reduceEq, Int.reduceAdd, Int.reduceSub, Int.reduceNeg, Int.reduceMul]
  refine Ok.use (new_ok (n := n) (size := s) (by omega) (by omega) (by omega) (by omega)) ?_
  rintro v w2 ⟨p, rfl, h, hu⟩
  have a1 : At w w2 _ p _ := At.new hu1 h hu
  have s1 := Sz.new (n := n) (s := s)
  clear h hu hu1
  generalize gr (fun _ => False) w1 w2 = F1 at *
  generalize hd1 : DS.new n s = d1 at *
  simp (disch := omega) only [push_cast, Nat.reduceBEq, Nat.reduceEqDiff, Nat.reduceAdd, Nat.reduceMul, Nat.reduceSub, Nat.reduceLT, Int.reduceToNat, Int.reduceLT, Int.reduceLE, Int.reduceEq, Int.reduceAdd, Int.reduceSub, Int.reduceNeg, Int.reduceMul]
  refine Ok.use (Sectors_ok a1.disk) ?_
  rintro v w' ⟨rfl, rfl⟩
  rw [s1.dur]
  simp (disch := omega) only [push_cast, Nat.reduceBEq, Nat.reduceEqDiff, Nat.reduceAdd, Nat.reduceMul, Nat.reduceSub, Nat.reduceLT, Int.reduceToNat, Int.reduceLT, Int.reduceLE, Int.reduceEq, Int.reduceAdd, Int.reduceSub, Int.reduceNeg, Int.reduceMul]
  refine Ok.use (Size_ok a1.disk) ?_
  rintro v w' ⟨rfl, rfl⟩
  rw [s1.size]
  simp (disch := omega) only [push_cast, Nat.reduceBEq, Nat.reduceEqDiff, Nat.reduceAdd, Nat.reduceMul, Nat.reduceSub, Nat.reduceLT, Int.reduceToNat, Int.reduceLT, Int.reduceLE, Int.reduceEq, Int.reduceAdd, Int.reduceSub, Int.reduceNeg, Int.reduceMul]
  refine Ok.use (rnew_ok (n := n) (size := s) (by omega) (by omega) (by omega)) ?_
  rintro v w3 ⟨q, rfl, h, hu⟩
  rw [hd1] at h
  have b1 : Both w w3 F1 p d1 _ q d1 := ⟨a1.disk.upd hu (fun _ _ h => h), h, fun b hb hg => hg.elim False.elim fun x => by have := a1.disk.bd b hb; omega, a1.fresh, fun b hb => hb.elim False.elim fun x => Nat.le_trans a1.upd.size x.1, a1.upd.trans hu fun _ _ h => h⟩
  clear h hu hd1 a1
  generalize gr (fun _ => False) w2 w3 = G1 at *
  simp (disch := omega) only [push_cast, Nat.reduceBEq, Nat.reduceEqDiff, Nat.reduceAdd, Nat.reduceMul, Nat.reduceSub, Nat.reduceLT, Int.reduceToNat, Int.reduceLT, Int.reduceLE, Int.reduceEq, Int.reduceAdd, Int.reduceSub, Int.reduceNeg, Int.reduceMul]
  refine loop_inv (I := fun k st w' => Bx (∃ i F G d, k + i = ops.length ∧ st = [.int .i64 (i : Int)] ∧ Both w w' F p d G q d ∧ Sz n s i d) ⟨⟩) ?_ ops.length ⟨0, F1, G1, d1, rfl, rfl, b1, s1⟩
  clear b1 s1
  rintro k st w3 ⟨i, F, G, d, hki, rfl, b1, s1⟩
  have hdz := s1.size
  have hdc := s1.few
  by_cases hk0 : k = 0
  rotate_left
  · have hi : i < ops.length := by omega
    obtain ⟨bb, o, rfl, hbb, hops⟩ := hl (by intro e; rw [e] at hi; simp at hi)
    have hop := hops i _ (List.getElem?_eq_getElem hi)
    obtain ⟨vb1, vk1, q0, q1, q2, q3, q4, q5, q6⟩ := hop.to hbb b1.upd b1.fresh
    generalize ops[i] = op at *
    simp (disch := omega) only [push_cast, Nat.reduceBEq, Nat.reduceEqDiff, Nat.reduceAdd, Nat.reduceMul, Nat.reduceSub, Nat.reduceLT, Int.reduceToNat, Int.reduceLT, Int.reduceLE, Int.reduceEq, Int.reduceAdd, Int.reduceSub, Int.reduceNeg, Int.reduceMul, q0, q1, q2, q3]
    refine Ok.use (play_ok b1.disk (by omega) (by omega) s1.cnt q4 q5) ?_
    rintro v w4 ⟨u, rfl, hres, h, hu⟩
    have r4 := hres.slb (G := G) b1.ref.bd
    replace b1 := b1.left h hu
    clear h hu hres q0 q1 q2 q3 q4 q5
    generalize gr F w3 w4 = F4 at *
    obtain ⟨vb1, vk1, q0, q1, q2, q3, q4, q5, _⟩ := hop.to hbb b1.upd b1.fresh2
    simp (disch := omega) only [push_cast, Nat.reduceBEq, Nat.reduceEqDiff, Nat.reduceAdd, Nat.reduceMul, Nat.reduceSub, Nat.reduceLT, Int.reduceToNat, Int.reduceLT, Int.reduceLE, Int.reduceEq, Int.reduceAdd, Int.reduceSub, Int.reduceNeg, Int.reduceMul, q0, q1, q2, q3]
    refine Ok.use (model_ok b1.ref (by omega) (by omega) (by omega) s1.cnt q4 q5) ?_
    rintro v w5 ⟨u2, rfl, r5, h, hu⟩
    replace r4 := (r4.upd hu (fun _ h => h)).weak
    replace b1 := b1.right h hu
    clear h hu q0 q1 q2 q3 q4 q5
    generalize gr G w4 w5 = G5 at *
    replace s1 := s1.play q6
    generalize (d.play op).1 = d5 at *
    generalize (d.play op).2.2 = er at *
    generalize (d.play op).2.1.getD [] = rs at *
    replace r4 := r4.upd (Upd.drew (F := fun _ => False)) (fun _ h => h)
    replace r5 := r5.upd (Upd.drew (F := fun _ => False)) (fun _ h => h)
    replace b1 := b1.quiet Upd.drew
    simp (disch := omega) only [push_cast, Nat.reduceBEq, Nat.reduceEqDiff, Nat.reduceAdd, Nat.reduceMul, Nat.reduceSub, Nat.reduceLT, Int.reduceToNat, Int.reduceLT, Int.reduceLE, Int.reduceEq, Int.reduceAdd, Int.reduceSub, Int.reduceNeg, Int.reduceMul, cnv_u8 r4, cnv_u8 r5, beq_self_eq_true]
    refine Ok.use (Down_ok b1.disk) ?_
    rintro v w' ⟨rfl, rfl⟩
    obtain ⟨sv, svs, cv, cachs, hm⟩ := b1.ref
    obtain ⟨a6, c6, hcv⟩ := own_slice hm.own
    have hb := hm.head
    rw [hcv] at hb
    simp (disch := omega) only [push_cast, Nat.reduceBEq, Nat.reduceEqDiff, Nat.reduceAdd, Nat.reduceMul, Nat.reduceSub, Nat.reduceLT, Int.reduceToNat, Int.reduceLT, Int.reduceLE, Int.reduceEq, Int.reduceAdd, Int.reduceSub, Int.reduceNeg, Int.reduceMul, hb.cell, beq_self_eq_true]
    refine Ok.use (Cached_ok b1.disk) ?_
    rintro v w' ⟨rfl, rfl⟩
    have hcl : d5.cache.length = cachs.length := by rw [hm.cache, List.length_map]
    rw [hcl]
    simp (disch := omega) only [push_cast, Nat.reduceBEq, Nat.reduceEqDiff, Nat.reduceAdd, Nat.reduceMul, Nat.reduceSub, Nat.reduceLT, Int.reduceToNat, Int.reduceLT, Int.reduceLE, Int.reduceEq, Int.reduceAdd, Int.reduceSub, Int.reduceNeg, Int.reduceMul, hb.cell]
    exact ⟨k - 1, by omega, i + 1, _, _, _, by omega, by simp, b1, s1⟩
  obtain rfl : i = ops.length := by omega
  simp (disch := omega) only [push_cast, Nat.reduceBEq, Nat.reduceEqDiff, Nat.reduceAdd, Nat.reduceMul, Nat.reduceSub, Nat.reduceLT, Int.reduceToNat, Int.reduceLT, Int.reduceLE, Int.reduceEq, Int.reduceAdd, Int.reduceSub, Int.reduceNeg, Int.reduceMul]
  refine loop_inv (I := fun k st w' => Bx (∃ i, k + i = n ∧ st = [.int .i64 (i : Int)] ∧ Both w w' F p d G q d) ⟨⟩) ?_ n ⟨0, rfl, rfl, b1⟩
  clear b1 hki hk0
  rintro k st w4 ⟨i, hki, rfl, b1⟩
  by_cases hk0 : k = 0
  · obtain rfl : i = n := by omega
    simp (disch := omega) only [push_cast, Nat.reduceBEq, Nat.reduceEqDiff, Nat.reduceAdd, Nat.reduceMul, Nat.reduceSub, Nat.reduceLT, Int.reduceToNat, Int.reduceLT, Int.reduceLE, Int.reduceEq, Int.reduceAdd, Int.reduceSub, Int.reduceNeg, Int.reduceMul]
    exact b1.upd
  · simp (disch := omega) only [push_cast, Nat.reduceBEq, Nat.reduceEqDiff, Nat.reduceAdd, Nat.reduceMul, Nat.reduceSub, Nat.reduceLT, Int.reduceToNat, Int.reduceLT, Int.reduceLE, Int.reduceEq, Int.reduceAdd, Int.reduceSub, Int.reduceNeg, Int.reduceMul]
    refine Ok.use (read_ok b1.disk (by omega) (by omega) i) ?_
    rintro v w5 ⟨u, rfl, hres, hu⟩
    have r4 := hres.slb (G := G) b1.ref.bd
    replace b1 := b1.quiet hu
    clear hu
    simp (disch := omega) only [push_cast, Nat.reduceBEq, Nat.reduceEqDiff, Nat.reduceAdd, Nat.reduceMul, Nat.reduceSub, Nat.reduceLT, Int.reduceToNat, Int.reduceLT, Int.reduceLE, Int.reduceEq, Int.reduceAdd, Int.reduceSub, Int.reduceNeg, Int.reduceMul]
    refine Ok.use (rread_ok b1.ref (by omega) (by omega) (by omega) i) ?_
    rintro v w6 ⟨u2, rfl, r5, hu⟩
    replace r4 := (r4.weak.upd hu (fun _ h => h))
    replace b1 := b1.quiet hu
    clear hu hres
    generalize (d.read i).2 = er at *
    generalize (d.read i).1.getD [] = rs at *
    simp (disch := omega) only [push_cast, Nat.reduceBEq, Nat.reduceEqDiff, Nat.reduceAdd, Nat.reduceMul, Nat.reduceSub, Nat.reduceLT, Int.reduceToNat, Int.reduceLT, Int.reduceLE, Int.reduceEq, Int.reduceAdd, Int.reduceSub, Int.reduceNeg, Int.reduceMul, cnv_u8 r4, cnv_u8 r5, beq_self_eq_true]
    exact ⟨k - 1, by omega, i + 1, by omega, by simp, b1⟩
theorem diskPlays_law {w : World} (x : Int) (_ : (Lit.int .i64 x).wf = true) (y : Int) (_ : (Lit.int .i64 y).wf = true) {v : Value} (h : ∃ l, SlO w v l) :
    Ok (den Try.prog 3 #[.int .i64 x, .int .i64 y, v] w) fun v w' => v = .bool true ∧ Upd (fun _ => False) w w' := by
  obtain ⟨l, h⟩ := h
  exact diskPlays_ok x y h
end Go.Proofs.Ytdekhojafpkgfaa.Fd
