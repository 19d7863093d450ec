/-
  Operations of the laws on disks: an operation of a list, and play.
-/
import Derived.Test.YtdekhojafpkgfaaDk8
import Derived.Lib.SmallJoins
namespace Go.Proofs.Ytdekhojafpkgfaa.Fd
set_option linter.unusedSimpArgs false
set_option linter.unusedVariables false
open Go Go.ChangeMaps
set_option maxRecDepth 100000

structure OpS where
  kind : Int
  at_ : Int
  b : List Int
  keep : List Bool
def DS.play (d : DS) (x : OpS) : DS × Option (List Int) × Int :=
  if x.kind = 0 then ((d.write x.at_ x.b).1, none, (d.write x.at_ x.b).2)
  else if x.kind = 1 then (d.sync.1, none, d.sync.2)
  else if x.kind = 2 then (d.fail x.at_, none, 0)
  else if x.kind = 3 then (d.crash x.keep, none, 0)
  else (d, (d.read x.at_).1, (d.read x.at_).2)
theorem SlT.upd {w w' : World} {F G : Nat → Prop} {v : Value} {l : List Bool} (h : SlT w F v l) (hu : Upd G w w') (hG : ∀ b, G b → F b) : SlT w' F v l := by
  obtain ⟨a, c, hv, hl⟩ := h
  refine ⟨a, c, hv, fun h0 => ?_⟩
  obtain ⟨b, o, h1, h2, h3, h4⟩ := hl h0
  exact ⟨b, o, h1, Nat.lt_of_lt_of_le h2 hu.size, fun j hj => by rw [← h3 j hj]; exact World.cell?_of_block (hu.block b h2 (fun h => h4 (hG b h))), h4⟩

theorem play_ok {w : World} {F : Nat → Prop} {p : Nat} {d : DS} (h : IsDisk w F p d) (hz : 0 < d.size) (hc : d.cache.length < 1000000000) (hk : ∀ k, d.cnt = some k → k < 9223372036854775808)
    {x : OpS} {vb vk : Value} (hvb : SlB w F vb x.b) (hvk : SlT w F vk x.keep) :
    Ok (den Try.prog 15 #[.pointer (some ⟨p, 0, none⟩), .agg #[.int .i64 x.kind, .int .i64 x.at_, vb, vk]] w) fun v w' =>
      ∃ u, v = .tuple #[u, .int .i64 (d.play x).2.2] ∧ IsRes w' u (d.play x).2.1 w.heap.size ∧ IsDisk w' (gr F w w') p (d.play x).1 ∧ Upd F w w' := by
  obtain ⟨kind, at_, b, keep⟩ := x
  refine den_ok (args := [.pointer (some ⟨p, 0, none⟩), .agg #[.int .i64 kind, .int .i64 at_, vb, vk]]) rs15 Try.func15 rfl mixed in15 ok15 rfl ?_
  have hu1 : Upd (fun _ => False) w (w.alloc (.cells #[.int .i64 kind, .int .i64 at_, vb, vk] 37 (0, 0))) := Upd.alloc
  have h1 := h.upd hu1 (fun _ _ h => h)
  have b1 := hvb.upd hu1 (fun _ h => h.elim)
  have k1 := hvk.upd hu1 (fun _ h => h.elim)
  have hF : ∀ {w' : World}, Upd F (w.alloc (.cells #[.int .i64 kind, .int .i64 at_, vb, vk] 37 (0, 0))) w' → Upd F w w' := fun h => (hu1.mono (fun _ _ h => h.elim)).trans h (fun _ _ h => h)
  have hG : ∀ {w' : World} {d' : DS}, Upd F (w.alloc (.cells #[.int .i64 kind, .int .i64 at_, vb, vk] 37 (0, 0))) w' → IsDisk w' (gr F (w.alloc (.cells #[.int .i64 kind, .int .i64 at_, vb, vk] 37 (0, 0))) w') p d' → IsDisk w' (gr F w w') p d' := by
    intro w' d' hu hd
    refine hd.mono ?_ ?_
    · rintro b (hb | hb)
      · exact .inl hb
      · exact .inr ⟨Nat.le_trans hu1.size hb.1, hb.2⟩
    · rintro b (hb | hb)
      · exact Nat.lt_of_lt_of_le (h.bd b hb) (hF hu).size
      · exact hb.2
  by_cases q0 : kind = 0
  · have e : d.play ⟨kind, at_, b, keep⟩ = ((d.write at_ b).1, none, (d.write at_ b).2) := by unfold DS.play; rw [if_pos q0]
    rw [e]
    simp (disch := omega) only [push_cast, Nat.reduceBEq, Nat.reduceEqDiff, Nat.reduceAdd, Nat.reduceMul, Nat.reduceSub, Nat.reduceLT, Int.reduceToNat, Int.reduceLT, Int.reduceLE, Int.reduceEq, Int.reduceAdd, Int.reduceSub, Int.reduceNeg, Int.reduceMul]
    refine Ok.use (write_ok h1 hz hc hk at_ b1) ?_
    rintro v w2 ⟨rfl, h2, hu2⟩
    simp (disch := omega) only [push_cast, Nat.reduceBEq, Nat.reduceEqDiff, Nat.reduceAdd, Nat.reduceMul, Nat.reduceSub, Nat.reduceLT, Int.reduceToNat, Int.reduceLT, Int.reduceLE, Int.reduceEq, Int.reduceAdd, Int.reduceSub, Int.reduceNeg, Int.reduceMul]
    exact ⟨_, rfl, rfl, hG hu2 h2, hF hu2⟩
  by_cases q1 : kind = 1
  · have e : d.play ⟨kind, at_, b, keep⟩ = (d.sync.1, none, d.sync.2) := by unfold DS.play; rw [if_neg q0, if_pos q1]
    rw [e]
    simp (disch := omega) only [push_cast, Nat.reduceBEq, Nat.reduceEqDiff, Nat.reduceAdd, Nat.reduceMul, Nat.reduceSub, Nat.reduceLT, Int.reduceToNat, Int.reduceLT, Int.reduceLE, Int.reduceEq, Int.reduceAdd, Int.reduceSub, Int.reduceNeg, Int.reduceMul]
    refine Ok.use (sync_ok h1 hc hk) ?_
    rintro v w2 ⟨rfl, h2, hu2⟩
    simp (disch := omega) only [push_cast, Nat.reduceBEq, Nat.reduceEqDiff, Nat.reduceAdd, Nat.reduceMul, Nat.reduceSub, Nat.reduceLT, Int.reduceToNat, Int.reduceLT, Int.reduceLE, Int.reduceEq, Int.reduceAdd, Int.reduceSub, Int.reduceNeg, Int.reduceMul]
    exact ⟨_, rfl, rfl, hG hu2 h2, hF hu2⟩
  by_cases q2 : kind = 2
  · have e : d.play ⟨kind, at_, b, keep⟩ = (d.fail at_, none, 0) := by unfold DS.play; rw [if_neg q0, if_neg q1, if_pos q2]
    rw [e]
    simp (disch := omega) only [push_cast, Nat.reduceBEq, Nat.reduceEqDiff, Nat.reduceAdd, Nat.reduceMul, Nat.reduceSub, Nat.reduceLT, Int.reduceToNat, Int.reduceLT, Int.reduceLE, Int.reduceEq, Int.reduceAdd, Int.reduceSub, Int.reduceNeg, Int.reduceMul]
    refine Ok.use (fail_ok h1 at_) ?_
    rintro v w2 ⟨h2, hu2⟩
    simp (disch := omega) only [push_cast, Nat.reduceBEq, Nat.reduceEqDiff, Nat.reduceAdd, Nat.reduceMul, Nat.reduceSub, Nat.reduceLT, Int.reduceToNat, Int.reduceLT, Int.reduceLE, Int.reduceEq, Int.reduceAdd, Int.reduceSub, Int.reduceNeg, Int.reduceMul]
    exact ⟨_, rfl, rfl, hG hu2 h2, hF hu2⟩
  by_cases q3 : kind = 3
  · have e : d.play ⟨kind, at_, b, keep⟩ = (d.crash keep, none, 0) := by unfold DS.play; rw [if_neg q0, if_neg q1, if_neg q2, if_pos q3]
    rw [e]
    simp (disch := omega) only [push_cast, Nat.reduceBEq, Nat.reduceEqDiff, Nat.reduceAdd, Nat.reduceMul, Nat.reduceSub, Nat.reduceLT, Int.reduceToNat, Int.reduceLT, Int.reduceLE, Int.reduceEq, Int.reduceAdd, Int.reduceSub, Int.reduceNeg, Int.reduceMul]
    refine Ok.use (crash_ok h1 hc k1) ?_
    rintro v w2 ⟨h2, hu2⟩
    simp (disch := omega) only [push_cast, Nat.reduceBEq, Nat.reduceEqDiff, Nat.reduceAdd, Nat.reduceMul, Nat.reduceSub, Nat.reduceLT, Int.reduceToNat, Int.reduceLT, Int.reduceLE, Int.reduceEq, Int.reduceAdd, Int.reduceSub, Int.reduceNeg, Int.reduceMul]
    exact ⟨_, rfl, rfl, hG hu2 h2, hF hu2⟩
  · have e : d.play ⟨kind, at_, b, keep⟩ = (d, (d.read at_).1, (d.read at_).2) := by unfold DS.play; rw [if_neg q0, if_neg q1, if_neg q2, if_neg q3]
    rw [e]
    simp (disch := omega) only [push_cast, Nat.reduceBEq, Nat.reduceEqDiff, Nat.reduceAdd, Nat.reduceMul, Nat.reduceSub, Nat.reduceLT, Int.reduceToNat, Int.reduceLT, Int.reduceLE, Int.reduceEq, Int.reduceAdd, Int.reduceSub, Int.reduceNeg, Int.reduceMul]
    refine Ok.use (read_ok h1 hz hc at_) ?_
    rintro v w2 ⟨u, rfl, hr, hu2⟩
    simp (disch := omega) only [push_cast, Nat.reduceBEq, Nat.reduceEqDiff, Nat.reduceAdd, Nat.reduceMul, Nat.reduceSub, Nat.reduceLT, Int.reduceToNat, Int.reduceLT, Int.reduceLE, Int.reduceEq, Int.reduceAdd, Int.reduceSub, Int.reduceNeg, Int.reduceMul]
    refine ⟨u, rfl, ?_, hG (hu2.mono (fun _ _ h => h.elim)) (IsDisk.gr (h1.upd hu2 (fun _ _ h => h))), hF (hu2.mono (fun _ _ h => h.elim))⟩
    cases hq : (d.read at_).1 with
    | none => rw [hq] at hr; exact hr
    | some l =>
      rw [hq] at hr
      obtain ⟨b8, e1, e2, e3⟩ := hr
      exact ⟨b8, e1, Nat.le_trans hu1.size e2, e3⟩
end Go.Proofs.Ytdekhojafpkgfaa.Fd
