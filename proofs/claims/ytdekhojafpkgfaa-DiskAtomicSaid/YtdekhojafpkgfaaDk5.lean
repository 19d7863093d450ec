/-
  The laws' small functions over the disk: block, first, awake.
-/
import Derived.Test.YtdekhojafpkgfaaDk4
namespace Go.Proofs.Ytdekhojafpkgfaa.Fd
set_option linter.unusedSimpArgs false
set_option linter.unusedVariables false
open Go Go.ChangeMaps
set_option maxRecDepth 100000

def blockL (c : Int) : List Int := c :: List.replicate 15 0
theorem block_ok {w : World} (c : Int) : Ok (den Try.prog 26 #[.int .u8 c] w) fun v w' => v = CV w.heap.size (blockL c) ∧ Blk w' w.heap.size (by8 (blockL c)) 5 ∧ Upd (fun _ => False) w w' := by
  refine den_ok (args := [.int .u8 c]) rs26 Try.func26 rfl mixed in26 ok26 rfl ?_
  have hn : Blk (w.alloc (.cells (List.replicate 16 (Value.int .u8 0)).toArray 5 (0, 0))) w.heap.size (List.replicate 16 (.int .u8 0)) 5 := Blk.new
  have hc : (w.alloc (.cells (List.replicate 16 (Value.int .u8 0)).toArray 5 (0, 0))).cell? ⟨w.heap.size, 0, none⟩ = some (.int .u8 0) := by rw [hn.cell]; rfl
  simp (disch := omega) only [push_cast, Nat.reduceBEq, Nat.reduceEqDiff, Nat.reduceAdd, Nat.reduceMul, Nat.reduceSub, Nat.reduceLT, Int.reduceToNat, Int.reduceLT, Int.reduceLE, Int.reduceEq, Int.reduceAdd, Int.reduceSub, Int.reduceNeg, Int.reduceMul, hc, hn.free]
  exact ⟨rfl, hn.set 0 (.int .u8 c), Upd.alloc.setNew (Nat.le_refl _)⟩

/-- A disk that has come since w0, and what was there before is as it was. -/
structure At (w0 w : World) (F : Nat → Prop) (p : Nat) (d : DS) : Prop where
  disk : IsDisk w F p d
  fresh : ∀ b, F b → w0.heap.size ≤ b
  upd : Upd (fun _ => False) w0 w
theorem At.step {w0 w w' : World} {F : Nat → Prop} {p : Nat} {d d' : DS} (h : At w0 w F p d) (h1 : IsDisk w' (gr F w w') p d') (h2 : Upd F w w') : At w0 w' (gr F w w') p d' :=
  ⟨h1, fun b hb => hb.elim (h.fresh b) fun x => Nat.le_trans h.upd.size x.1, h.upd.trans h2 fun b h3 h4 => by have := h.fresh b h4; omega⟩
theorem At.quiet {w0 w w' : World} {F : Nat → Prop} {p : Nat} {d : DS} (h : At w0 w F p d) (h2 : Upd (fun _ => False) w w') : At w0 w' F p d :=
  ⟨h.disk.upd h2 fun _ _ h => h, h.fresh, h.upd.trans h2 fun _ _ h => h⟩
theorem At.new {w0 w w' : World} {p : Nat} {d : DS} (h : Upd (fun _ => False) w0 w) (h1 : IsDisk w' (gr (fun _ => False) w w') p d) (h2 : Upd (fun _ => False) w w') : At w0 w' (gr (fun _ => False) w w') p d :=
  ⟨h1, fun b hb => hb.elim False.elim fun x => Nat.le_trans h.size x.1, h.trans h2 fun _ _ h => h⟩
/-- New bytes are outside the disk. -/
theorem At.slb {w0 w w' : World} {F : Nat → Prop} {p : Nat} {d : DS} (h : At w0 w F p d) {l : List Int} {E : TypeId} (hb : Blk w' w.heap.size (by8 l) E) : SlB w' F (CV w.heap.size l) l :=
  ⟨_, _, rfl, fun _ => ⟨_, _, rfl, Lies.of_blk hb, fun hF => Nat.lt_irrefl _ (h.disk.bd _ hF)⟩⟩

theorem first_ok {w : World} {F : Nat → Prop} {p : Nat} {d : DS} (h : IsDisk w F p d) (hz : 0 < d.size) (hc : d.cache.length < 1000000000) (x : Int) {r : Int} {l : List Int}
    (hr : d.read x = (some (r :: l), 0)) : Ok (den Try.prog 27 #[.pointer (some ⟨p, 0, none⟩), .int .i64 x] w) fun v w' => v = .int .u8 r ∧ Upd (fun _ => False) w w' := by
  refine den_ok (args := [.pointer (some ⟨p, 0, none⟩), .int .i64 x]) rs27 Try.func27 rfl mixed in27 ok27 rfl ?_
  simp (disch := omega) only [push_cast, Nat.reduceBEq, Nat.reduceEqDiff, Nat.reduceAdd, Nat.reduceMul, Nat.reduceSub, Nat.reduceLT, Int.reduceToNat, Int.reduceLT, Int.reduceLE, Int.reduceEq, Int.reduceAdd, Int.reduceSub, Int.reduceNeg, Int.reduceMul]
  refine Ok.use (read_ok h hz hc x) ?_
  rintro v w1 ⟨u, rfl, h1, h2⟩
  rw [hr] at h1 ⊢
  obtain ⟨b, rfl, _, hb⟩ := h1
  have hc0 : w1.cell? ⟨b, 0, none⟩ = some (.int .u8 r) := by rw [hb.cell]; rfl
  simp (disch := omega) only [push_cast, Nat.reduceBEq, Nat.reduceEqDiff, Nat.reduceAdd, Nat.reduceMul, Nat.reduceSub, Nat.reduceLT, Int.reduceToNat, Int.reduceLT, Int.reduceLE, Int.reduceEq, Int.reduceAdd, Int.reduceSub, Int.reduceNeg, Int.reduceMul, CV, hc0]
  exact h2

def aw0 : DS := DS.new 2 16
def aw1 : DS := (aw0.write 0 (blockL 7)).1
def aw2 : DS := (aw1.write 0 (blockL 8)).1
def aw3 : DS := aw2.crash [true, false]
def aw4 : DS := aw3.fail 1
def aw5 : DS := (aw4.write 1 (blockL 9)).1
def aw6 : DS := aw5.sync.1
def aw7 : DS := aw6.crash []
theorem bsl_bools (x y : Bool) (w : World) : bslS Try.prog 35 2 #[(0, .bool x), (1, .bool y)] w = some (.slice (some ⟨w.heap.size, 0, none⟩) 2 2, w.alloc (.cells [.bool x, .bool y].toArray 4 (0, 0))) := by kernel_rfl
attribute [push_cast] bsl_bools
theorem awake_ok {w0 : World} : Ok (den Try.prog 9 #[] w0) fun v w' => v = .bool true ∧ Upd (fun _ => False) w0 w' := by
  refine den_ok (args := []) rs9 Try.func9 rfl mixed in9 ok9 rfl ?_
  simp (disch := omega) only [push_cast, Nat.reduceBEq, Nat.reduceEqDiff, Nat.reduceAdd, Nat.reduceMul, Nat.reduceSub, Nat.reduceLT, Int.reduceToNat, Int.reduceLT, Int.reduceLE, Int.reduceEq, Int.reduceAdd, Int.reduceSub, Int.reduceNeg, Int.reduceMul]
  refine Ok.use (new_ok (n := 2) (size := 16) (by omega) (by omega) (by omega) (by omega)) ?_
  rintro v w1 ⟨p, rfl, h1, hu1⟩
  have a1 : At w0 w1 _ p aw0 := At.new Upd.refl h1 hu1
  generalize gr (fun _ => False) w0 w1 = F1 at *
  simp (disch := omega) only [push_cast, Nat.reduceBEq, Nat.reduceEqDiff, Nat.reduceAdd, Nat.reduceMul, Nat.reduceSub, Nat.reduceLT, Int.reduceToNat, Int.reduceLT, Int.reduceLE, Int.reduceEq, Int.reduceAdd, Int.reduceSub, Int.reduceNeg, Int.reduceMul]
  refine Ok.use (Sectors_ok a1.disk) ?_
  rintro v w' ⟨rfl, rfl⟩
  rw [show ((aw0.dur.length : Nat) : Int) = 2 from rfl]
  simp (disch := omega) only [push_cast, Nat.reduceBEq, Nat.reduceEqDiff, Nat.reduceAdd, Nat.reduceMul, Nat.reduceSub, Nat.reduceLT, Int.reduceToNat, Int.reduceLT, Int.reduceLE, Int.reduceEq, Int.reduceAdd, Int.reduceSub, Int.reduceNeg, Int.reduceMul]
  refine Ok.use (Size_ok a1.disk) ?_
  rintro v w' ⟨rfl, rfl⟩
  rw [show ((aw0.size : Nat) : Int) = 16 from rfl]
  simp (disch := omega) only [push_cast, Nat.reduceBEq, Nat.reduceEqDiff, Nat.reduceAdd, Nat.reduceMul, Nat.reduceSub, Nat.reduceLT, Int.reduceToNat, Int.reduceLT, Int.reduceLE, Int.reduceEq, Int.reduceAdd, Int.reduceSub, Int.reduceNeg, Int.reduceMul]
  refine Ok.use (block_ok 7) ?_
  rintro v w2 ⟨rfl, hb, hu⟩
  have s := a1.slb hb
  replace a1 := a1.quiet hu
  clear hu hb
  simp (disch := omega) only [push_cast, Nat.reduceBEq, Nat.reduceEqDiff, Nat.reduceAdd, Nat.reduceMul, Nat.reduceSub, Nat.reduceLT, Int.reduceToNat, Int.reduceLT, Int.reduceLE, Int.reduceEq, Int.reduceAdd, Int.reduceSub, Int.reduceNeg, Int.reduceMul, CV]
  refine Ok.use (write_ok a1.disk (by decide) (by decide) (fun k h => by rw [show aw0.cnt = none from rfl] at h; cases h) 0 s) ?_
  rintro v w3 ⟨rfl, h, hu⟩
  replace a1 : At w0 w3 _ p aw1 := a1.step h hu
  clear h hu s
  generalize gr F1 w2 w3 = F2 at *
  rw [show (aw0.write 0 (blockL 7)).2 = 0 from rfl]
  simp (disch := omega) only [push_cast, Nat.reduceBEq, Nat.reduceEqDiff, Nat.reduceAdd, Nat.reduceMul, Nat.reduceSub, Nat.reduceLT, Int.reduceToNat, Int.reduceLT, Int.reduceLE, Int.reduceEq, Int.reduceAdd, Int.reduceSub, Int.reduceNeg, Int.reduceMul]
  refine Ok.use (block_ok 8) ?_
  rintro v w4 ⟨rfl, hb, hu⟩
  have s := a1.slb hb
  replace a1 := a1.quiet hu
  clear hu hb
  simp (disch := omega) only [push_cast, Nat.reduceBEq, Nat.reduceEqDiff, Nat.reduceAdd, Nat.reduceMul, Nat.reduceSub, Nat.reduceLT, Int.reduceToNat, Int.reduceLT, Int.reduceLE, Int.reduceEq, Int.reduceAdd, Int.reduceSub, Int.reduceNeg, Int.reduceMul, CV]
  refine Ok.use (write_ok a1.disk (by decide) (by decide) (fun k h => by rw [show aw1.cnt = none from rfl] at h; cases h) 0 s) ?_
  rintro v w5 ⟨rfl, h, hu⟩
  replace a1 : At w0 w5 _ p aw2 := a1.step h hu
  clear h hu s
  generalize gr F2 w4 w5 = F3 at *
  rw [show (aw1.write 0 (blockL 8)).2 = 0 from rfl]
  simp (disch := omega) only [push_cast, Nat.reduceBEq, Nat.reduceEqDiff, Nat.reduceAdd, Nat.reduceMul, Nat.reduceSub, Nat.reduceLT, Int.reduceToNat, Int.reduceLT, Int.reduceLE, Int.reduceEq, Int.reduceAdd, Int.reduceSub, Int.reduceNeg, Int.reduceMul]
  refine Ok.use (first_ok (r := 8) (l := List.replicate 15 0) a1.disk (by decide) (by decide) 0 rfl) ?_
  rintro v w6 ⟨rfl, hu⟩
  replace a1 := a1.quiet hu
  clear hu
  simp (disch := omega) only [push_cast, Nat.reduceBEq, Nat.reduceEqDiff, Nat.reduceAdd, Nat.reduceMul, Nat.reduceSub, Nat.reduceLT, Int.reduceToNat, Int.reduceLT, Int.reduceLE, Int.reduceEq, Int.reduceAdd, Int.reduceSub, Int.reduceNeg, Int.reduceMul]
  refine Ok.use (Cached_ok a1.disk) ?_
  rintro v w' ⟨rfl, rfl⟩
  rw [show ((aw2.cache.length : Nat) : Int) = 2 from rfl]
  simp (disch := omega) only [push_cast, Nat.reduceBEq, Nat.reduceEqDiff, Nat.reduceAdd, Nat.reduceMul, Nat.reduceSub, Nat.reduceLT, Int.reduceToNat, Int.reduceLT, Int.reduceLE, Int.reduceEq, Int.reduceAdd, Int.reduceSub, Int.reduceNeg, Int.reduceMul]
  have hnb := Blk.new (w := w6) (cs := [.bool true, .bool false]) (E := 4)
  have hs : SlT (w6.alloc (.cells [.bool true, .bool false].toArray 4 (0, 0))) F3 (.slice (some ⟨w6.heap.size, 0, none⟩) 2 2) [true, false] :=
    ⟨_, _, rfl, fun _ => ⟨_, _, rfl, hnb.lt, fun j hj => by rw [hnb.cell, Nat.zero_add]; rcases j with _ | _ | j <;> first | rfl | (simp at hj), fun hF => Nat.lt_irrefl _ (a1.disk.bd _ hF)⟩⟩
  replace a1 := a1.quiet (Upd.alloc (o := .cells [.bool true, .bool false].toArray 4 (0, 0)))
  generalize w6.alloc (.cells [.bool true, .bool false].toArray 4 (0, 0)) = w7 at *
  refine Ok.use (crash_ok a1.disk (by decide) hs) ?_
  rintro v w8 ⟨h, hu⟩
  replace a1 : At w0 w8 _ p aw3 := a1.step h hu
  clear h hu hs hnb
  generalize gr F3 w7 w8 = F4 at *
  simp (disch := omega) only [push_cast, Nat.reduceBEq, Nat.reduceEqDiff, Nat.reduceAdd, Nat.reduceMul, Nat.reduceSub, Nat.reduceLT, Int.reduceToNat, Int.reduceLT, Int.reduceLE, Int.reduceEq, Int.reduceAdd, Int.reduceSub, Int.reduceNeg, Int.reduceMul]
  refine Ok.use (first_ok (r := 7) (l := List.replicate 15 0) a1.disk (by decide) (by decide) 0 rfl) ?_
  rintro v w9 ⟨rfl, hu⟩
  replace a1 := a1.quiet hu
  clear hu
  simp (disch := omega) only [push_cast, Nat.reduceBEq, Nat.reduceEqDiff, Nat.reduceAdd, Nat.reduceMul, Nat.reduceSub, Nat.reduceLT, Int.reduceToNat, Int.reduceLT, Int.reduceLE, Int.reduceEq, Int.reduceAdd, Int.reduceSub, Int.reduceNeg, Int.reduceMul]
  refine Ok.use (Cached_ok a1.disk) ?_
  rintro v w' ⟨rfl, rfl⟩
  rw [show ((aw3.cache.length : Nat) : Int) = 0 from rfl]
  simp (disch := omega) only [push_cast, Nat.reduceBEq, Nat.reduceEqDiff, Nat.reduceAdd, Nat.reduceMul, Nat.reduceSub, Nat.reduceLT, Int.reduceToNat, Int.reduceLT, Int.reduceLE, Int.reduceEq, Int.reduceAdd, Int.reduceSub, Int.reduceNeg, Int.reduceMul]
  refine Ok.use (fail_ok a1.disk 1) ?_
  rintro v w10 ⟨h, hu⟩
  replace a1 : At w0 w10 _ p aw4 := a1.step h hu
  clear h hu
  generalize gr F4 w9 w10 = F5 at *
  simp (disch := omega) only [push_cast, Nat.reduceBEq, Nat.reduceEqDiff, Nat.reduceAdd, Nat.reduceMul, Nat.reduceSub, Nat.reduceLT, Int.reduceToNat, Int.reduceLT, Int.reduceLE, Int.reduceEq, Int.reduceAdd, Int.reduceSub, Int.reduceNeg, Int.reduceMul]
  refine Ok.use (block_ok 9) ?_
  rintro v w11 ⟨rfl, hb, hu⟩
  have s := a1.slb hb
  replace a1 := a1.quiet hu
  clear hu hb
  simp (disch := omega) only [push_cast, Nat.reduceBEq, Nat.reduceEqDiff, Nat.reduceAdd, Nat.reduceMul, Nat.reduceSub, Nat.reduceLT, Int.reduceToNat, Int.reduceLT, Int.reduceLE, Int.reduceEq, Int.reduceAdd, Int.reduceSub, Int.reduceNeg, Int.reduceMul, CV]
  refine Ok.use (write_ok a1.disk (by decide) (by decide) (fun k h => by rw [show aw4.cnt = some 1 from rfl] at h; cases h; omega) 1 s) ?_
  rintro v w12 ⟨rfl, h, hu⟩
  replace a1 : At w0 w12 _ p aw5 := a1.step h hu
  clear h hu s
  generalize gr F5 w11 w12 = F6 at *
  rw [show (aw4.write 1 (blockL 9)).2 = 0 from rfl]
  simp (disch := omega) only [push_cast, Nat.reduceBEq, Nat.reduceEqDiff, Nat.reduceAdd, Nat.reduceMul, Nat.reduceSub, Nat.reduceLT, Int.reduceToNat, Int.reduceLT, Int.reduceLE, Int.reduceEq, Int.reduceAdd, Int.reduceSub, Int.reduceNeg, Int.reduceMul]
  refine Ok.use (sync_ok a1.disk (by decide) (fun k h => by rw [show aw5.cnt = some 0 from rfl] at h; cases h; omega)) ?_
  rintro v w13 ⟨rfl, h, hu⟩
  replace a1 : At w0 w13 _ p aw6 := a1.step h hu
  clear h hu
  generalize gr F6 w12 w13 = F7 at *
  rw [show aw5.sync.2 = 8 from rfl]
  simp (disch := omega) only [push_cast, Nat.reduceBEq, Nat.reduceEqDiff, Nat.reduceAdd, Nat.reduceMul, Nat.reduceSub, Nat.reduceLT, Int.reduceToNat, Int.reduceLT, Int.reduceLE, Int.reduceEq, Int.reduceAdd, Int.reduceSub, Int.reduceNeg, Int.reduceMul]
  refine Ok.use (Down_ok a1.disk) ?_
  rintro v w' ⟨rfl, rfl⟩
  rw [show aw6.off = true from rfl]
  simp (disch := omega) only [push_cast, Nat.reduceBEq, Nat.reduceEqDiff, Nat.reduceAdd, Nat.reduceMul, Nat.reduceSub, Nat.reduceLT, Int.reduceToNat, Int.reduceLT, Int.reduceLE, Int.reduceEq, Int.reduceAdd, Int.reduceSub, Int.reduceNeg, Int.reduceMul]
  refine Ok.use (crash_ok (l := []) a1.disk (by decide) ⟨none, 0, rfl, fun h => absurd rfl h⟩) ?_
  rintro v w14 ⟨h, hu⟩
  replace a1 : At w0 w14 _ p aw7 := a1.step h hu
  clear h hu
  generalize gr F7 w13 w14 = F8 at *
  simp (disch := omega) only [push_cast, Nat.reduceBEq, Nat.reduceEqDiff, Nat.reduceAdd, Nat.reduceMul, Nat.reduceSub, Nat.reduceLT, Int.reduceToNat, Int.reduceLT, Int.reduceLE, Int.reduceEq, Int.reduceAdd, Int.reduceSub, Int.reduceNeg, Int.reduceMul]
  refine Ok.use (Down_ok a1.disk) ?_
  rintro v w' ⟨rfl, rfl⟩
  rw [show aw7.off = false from rfl]
  simp (disch := omega) only [push_cast, Nat.reduceBEq, Nat.reduceEqDiff, Nat.reduceAdd, Nat.reduceMul, Nat.reduceSub, Nat.reduceLT, Int.reduceToNat, Int.reduceLT, Int.reduceLE, Int.reduceEq, Int.reduceAdd, Int.reduceSub, Int.reduceNeg, Int.reduceMul]
  refine Ok.use (first_ok (r := 0) (l := List.replicate 15 0) a1.disk (by decide) (by decide) 1 rfl) ?_
  rintro v w15 ⟨rfl, hu⟩
  replace a1 := a1.quiet hu
  clear hu
  simp (disch := omega) only [push_cast, Nat.reduceBEq, Nat.reduceEqDiff, Nat.reduceAdd, Nat.reduceMul, Nat.reduceSub, Nat.reduceLT, Int.reduceToNat, Int.reduceLT, Int.reduceLE, Int.reduceEq, Int.reduceAdd, Int.reduceSub, Int.reduceNeg, Int.reduceMul]
  refine Ok.use (first_ok (r := 7) (l := List.replicate 15 0) a1.disk (by decide) (by decide) 0 rfl) ?_
  rintro v w16 ⟨rfl, hu⟩
  replace a1 := a1.quiet hu
  simp (disch := omega) only [push_cast, Nat.reduceBEq, Nat.reduceEqDiff, Nat.reduceAdd, Nat.reduceMul, Nat.reduceSub, Nat.reduceLT, Int.reduceToNat, Int.reduceLT, Int.reduceLE, Int.reduceEq, Int.reduceAdd, Int.reduceSub, Int.reduceNeg, Int.reduceMul]
  exact a1.upd
end Go.Proofs.Ytdekhojafpkgfaa.Fd
