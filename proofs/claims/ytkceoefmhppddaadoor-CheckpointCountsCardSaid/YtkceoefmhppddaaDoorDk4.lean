/-
  The disk of the program: Sync, Crash, Fail, New.
-/
import Derived.Test.YtkceoefmhppddaaDoorDk3
import Derived.Test.YtkceoefmhppddaaDoorFdO
namespace Go.Proofs.YtkceoefmhppddaaDoor.Fd
set_option linter.unusedSimpArgs false
set_option linter.unusedVariables false
open Go Go.ChangeMaps
set_option maxRecDepth 100000

def DS.sync (d : DS) : DS × Int := if d.step.1 then (d.step.2.settle fun _ => true, 0) else (d.step.2, 8)
def DS.fail (d : DS) (n : Int) : DS := if d.off then d else { d with cnt := some (max n 0).toNat }
def DS.crash (d : DS) (keep : List Bool) : DS := { d.settle (fun i => keep.getD i false) with off := false, cnt := none }
theorem DS.step_cache (d : DS) : d.step.2.cache = d.cache := by
  unfold DS.step
  split
  · rfl
  · split <;> rfl

theorem syncFn_ok {i : Int} {w : World} : Ok (den Tryd.prog 42 [Value.int .i64 i].toArray w) fun v w' => v = .bool true ∧ w = w' := by
  refine den_ok (args := [.int .i64 i]) rs42 Tryd.func42 rfl mixed in42 ok42 rfl ?_
  simp (disch := omega) only [push_cast, Nat.reduceBEq, Nat.reduceEqDiff, Nat.reduceAdd, Nat.reduceMul, Nat.reduceSub, Nat.reduceLT, Int.reduceToNat, Int.reduceLT, Int.reduceLE, Int.reduceEq, Int.reduceAdd, Int.reduceSub, Int.reduceNeg, Int.reduceMul]
theorem sync_ok {w : World} {F : Nat → Prop} {p : Nat} {d : DS} (h : IsDisk w F p d) (hc : d.cache.length < 1000000000) (hk : ∀ k, d.cnt = some k → k < 9223372036854775808) :
    Ok (den Tryd.prog 28 #[.pointer (some ⟨p, 0, none⟩)] w) fun u w' => u = .int .i64 d.sync.2 ∧ IsDisk w' (gr F w w') p d.sync.1 ∧ Upd F w w' := by
  refine den_ok (args := [.pointer (some ⟨p, 0, none⟩)]) rs28 Tryd.func28 rfl mixed in28 ok28 rfl ?_
  simp (disch := omega) only [push_cast, Nat.reduceBEq, Nat.reduceEqDiff, Nat.reduceAdd, Nat.reduceMul, Nat.reduceSub, Nat.reduceLT, Int.reduceToNat, Int.reduceLT, Int.reduceLE, Int.reduceEq, Int.reduceAdd, Int.reduceSub, Int.reduceNeg, Int.reduceMul]
  refine Ok.use (operate_ok h hk) ?_
  rintro v w1 ⟨rfl, h1, hu1⟩
  have hc1 := d.step_cache
  unfold DS.sync
  generalize d.step.2 = d1 at *
  cases d.step.1
  · simp (disch := omega) only [push_cast, Nat.reduceBEq, Nat.reduceEqDiff, Nat.reduceAdd, Nat.reduceMul, Nat.reduceSub, Nat.reduceLT, Int.reduceToNat, Int.reduceLT, Int.reduceLE, Int.reduceEq, Int.reduceAdd, Int.reduceSub, Int.reduceNeg, Int.reduceMul]
    exact ⟨h1.gr, hu1⟩
  · simp (disch := omega) only [push_cast, Nat.reduceBEq, Nat.reduceEqDiff, Nat.reduceAdd, Nat.reduceMul, Nat.reduceSub, Nat.reduceLT, Int.reduceToNat, Int.reduceLT, Int.reduceLE, Int.reduceEq, Int.reduceAdd, Int.reduceSub, Int.reduceNeg, Int.reduceMul]
    have hs := settle_ok (cap := []) (g := 42) (ch := fun _ => true) h1 (by rw [hc1]; exact hc) (by kernel_rfl) (fun i w' _ _ => syncFn_ok)
    refine Ok.use hs ?_
    rintro v w2 ⟨h2, hu2⟩
    simp (disch := omega) only [push_cast, Nat.reduceBEq, Nat.reduceEqDiff, Nat.reduceAdd, Nat.reduceMul, Nat.reduceSub, Nat.reduceLT, Int.reduceToNat, Int.reduceLT, Int.reduceLE, Int.reduceEq, Int.reduceAdd, Int.reduceSub, Int.reduceNeg, Int.reduceMul]
    have hsz := hu1.size
    refine ⟨h2.mono ?_ ?_, hu1.trans hu2 (fun _ _ h => h)⟩
    · rintro b (hb | hb)
      · exact .inl hb
      · exact .inr ⟨by omega, hb.2⟩
    · rintro b (hb | hb)
      · exact Nat.lt_of_lt_of_le (h1.bd b hb) hu2.size
      · exact hb.2

theorem crashFn_ok {i : Nat} {w : World} {F : Nat → Prop} {k : Nat} {v : Value} {l : List Bool} (hk : w.cell? ⟨k, 0, none⟩ = some v) (hv : SlT w F v l) :
    Ok (den Tryd.prog 43 [Value.int .i64 i, .pointer (some ⟨k, 0, none⟩)].toArray w) fun v w' => v = .bool (l.getD i false) ∧ w = w' := by
  obtain ⟨a, c, rfl, hl⟩ := hv
  refine den_ok (args := [.int .i64 i, .pointer (some ⟨k, 0, none⟩)]) rs43 Tryd.func43 rfl mixed in43 ok43 rfl ?_
  by_cases hi : i < l.length
  · obtain ⟨b, o, rfl, _, hc, _⟩ := hl (by intro e; rw [e] at hi; simp at hi)
    have hcc := hc i hi
    rw [List.getElem?_eq_getElem hi] at hcc
    simp only [Option.map_some] at hcc
    simp (disch := omega) only [push_cast, Nat.reduceBEq, Nat.reduceEqDiff, Nat.reduceAdd, Nat.reduceMul, Nat.reduceSub, Nat.reduceLT, Int.reduceToNat, Int.reduceLT, Int.reduceLE, Int.reduceEq, Int.reduceAdd, Int.reduceSub, Int.reduceNeg, Int.reduceMul, hk, hcc]
    simp [List.getD_eq_getElem?_getD, hi]
  · simp (disch := omega) only [push_cast, Nat.reduceBEq, Nat.reduceEqDiff, Nat.reduceAdd, Nat.reduceMul, Nat.reduceSub, Nat.reduceLT, Int.reduceToNat, Int.reduceLT, Int.reduceLE, Int.reduceEq, Int.reduceAdd, Int.reduceSub, Int.reduceNeg, Int.reduceMul, hk]
    simp [List.getD_eq_getElem?_getD, hi]

theorem crash_ok {w : World} {F : Nat → Prop} {p : Nat} {d : DS} (h : IsDisk w F p d) (hc : d.cache.length < 1000000000) {v : Value} {l : List Bool} (hv : SlT w F v l) :
    Ok (den Tryd.prog 30 #[.pointer (some ⟨p, 0, none⟩), v] w) fun _ w' => IsDisk w' (gr F w w') p (d.crash l) ∧ Upd F w w' := by
  obtain ⟨a, c, rfl, hl⟩ := hv
  refine den_ok (args := [.pointer (some ⟨p, 0, none⟩), .slice a l.length c]) rs30 Tryd.func30 rfl mixed in30 ok30 rfl ?_
  simp (disch := omega) only [push_cast, Nat.reduceBEq, Nat.reduceEqDiff, Nat.reduceAdd, Nat.reduceMul, Nat.reduceSub, Nat.reduceLT, Int.reduceToNat, Int.reduceLT, Int.reduceLE, Int.reduceEq, Int.reduceAdd, Int.reduceSub, Int.reduceNeg, Int.reduceMul]
  have hu0 : Upd (fun _ => False) w (w.alloc (.cells [Value.slice a l.length c].toArray 56 (0, 0))) := Upd.alloc
  have hs := settle_ok (cap := [.pointer (some ⟨w.heap.size, 0, none⟩)]) (g := 43) (ch := fun i => l.getD i false) (h.upd hu0 (fun _ _ h => h)) hc (by kernel_rfl) (fun i w' _ hu => by
    have hn : Blk w' w.heap.size [Value.slice a l.length c] 56 := (Blk.new (w := w) (cs := [Value.slice a l.length c]) (E := 56)).upd hu (fun h => h)
    refine crashFn_ok (F := fun _ => False) (hn.cell 0) ⟨a, c, rfl, fun h0 => ?_⟩
    obtain ⟨b, o, h1, h2, h3, h4⟩ := hl h0
    have hu' := hu0.trans hu (fun _ _ h => h)
    exact ⟨b, o, h1, Nat.lt_of_lt_of_le h2 hu'.size, fun j hj => by rw [← h3 j hj]; exact World.cell?_of_block (hu'.block b h2 (fun h => h)), fun h => h⟩)
  refine Ok.use hs ?_
  rintro v w2 ⟨h2, hu2⟩
  have hu02 : Upd F w w2 := (hu0.mono (fun _ _ h => h.elim)).trans hu2 (fun _ _ h => h)
  have h3 : IsDisk w2 (gr F w w2) p (d.settle fun i => l.getD i false) := by
    refine h2.mono ?_ ?_
    · rintro b (hb | hb)
      · exact .inl hb
      · rw [size_alloc] at hb; exact .inr ⟨by omega, hb.2⟩
    · rintro b (hb | hb)
      · exact Nat.lt_of_lt_of_le (h.bd b hb) hu02.size
      · exact hb.2
  obtain ⟨q, durs, cv, cachs, armed, left, h3⟩ := h3
  have hb := h3.head
  simp (disch := omega) only [push_cast, Nat.reduceBEq, Nat.reduceEqDiff, Nat.reduceAdd, Nat.reduceMul, Nat.reduceSub, Nat.reduceLT, Int.reduceToNat, Int.reduceLT, Int.reduceLE, Int.reduceEq, Int.reduceAdd, Int.reduceSub, Int.reduceNeg, Int.reduceMul, hb.cell, hb.free]
  have hu3 : Upd (fun b => b = p) w2 (((w2.setCell ⟨p, 3, none⟩ (.bool false)).setCell ⟨p, 4, none⟩ (.bool false)).setCell ⟨p, 5, none⟩ (.int .i64 0)) := (((Upd.refl (F := fun b => b = p)).setIn rfl).setIn rfl).setIn rfl
  have hp : gr F w w2 p := h3.fp
  have hb' := ((hb.set 3 (.bool false)).set 4 (.bool false)).set 5 (.int .i64 0)
  have hd := h3.durc
  refine ⟨?_, hu02.trans hu3 (fun b hb e => ?_)⟩
  · refine IsDisk.mono (F := gr F w w2) ⟨q, durs, cv, cachs, false, 0, hb', h3.row.upd hu3 h3.pq.symm, ownsRow_upd h3.own hu3 (fun g hg => (h3.cvc g hg).2.1), h3.dur, h3.cache,
      fun x hx => ⟨(h3.durc x hx).1.upd hu3 (h3.durc x hx).2.2.2.1, (h3.durc x hx).2⟩, fun x hx => ⟨(h3.cachc x hx).1.upd hu3 (h3.cachc x hx).2.2.2.2.1, (h3.cachc x hx).2⟩,
      h3.cvc, h3.fp, h3.fq, h3.pq, rfl, h3.small, fun b hb => Nat.lt_of_lt_of_le (h3.bd b hb) hu3.size⟩ ?_ ?_
    · rintro b (hb | hb)
      · exact .inl hb
      · exact .inr ⟨hb.1, Nat.lt_of_lt_of_le hb.2 hu3.size⟩
    · rintro b (hb | hb)
      · exact Nat.lt_of_lt_of_le (h.bd b hb) (Nat.le_trans hu02.size hu3.size)
      · exact hb.2
  · subst e
    rcases hp with hp | hp
    · exact hp
    · omega

theorem fail_ok {w : World} {F : Nat → Prop} {p : Nat} {d : DS} (h : IsDisk w F p d) (n : Int) :
    Ok (den Tryd.prog 27 #[.pointer (some ⟨p, 0, none⟩), .int .i64 n] w) fun _ w' => IsDisk w' (gr F w w') p (d.fail n) ∧ Upd F w w' := by
  have h' := h
  obtain ⟨q, durs, cv, cachs, armed, left, h⟩ := h
  refine den_ok (args := [.pointer (some ⟨p, 0, none⟩), .int .i64 n]) rs27 Tryd.func27 rfl mixed in27 ok27 rfl ?_
  have hb := h.head
  obtain ⟨size, dur, cache, off, cnt⟩ := d
  cases off
  · simp (disch := omega) only [push_cast, Nat.reduceBEq, Nat.reduceEqDiff, Nat.reduceAdd, Nat.reduceMul, Nat.reduceSub, Nat.reduceLT, Int.reduceToNat, Int.reduceLT, Int.reduceLE, Int.reduceEq, Int.reduceAdd, Int.reduceSub, Int.reduceNeg, Int.reduceMul, hb.cell, hb.free]
    have hu3 : Upd (fun b => b = p) w ((w.setCell ⟨p, 4, none⟩ (.bool true)).setCell ⟨p, 5, none⟩ (.int .i64 (max n 0))) := ((Upd.refl (F := fun b => b = p)).setIn rfl).setIn rfl
    have hb' := (hb.set 4 (.bool true)).set 5 (.int .i64 (max n 0))
    refine ⟨IsDisk.gr ⟨q, durs, cv, cachs, true, (max n 0).toNat, ?_, h.row.upd hu3 h.pq.symm, ownsRow_upd h.own hu3 (fun g hg => (h.cvc g hg).2.1), h.dur, h.cache,
      fun x hx => ⟨(h.durc x hx).1.upd hu3 (h.durc x hx).2.2.2.1, (h.durc x hx).2⟩, fun x hx => ⟨(h.cachc x hx).1.upd hu3 (h.cachc x hx).2.2.2.2.1, (h.cachc x hx).2⟩,
      h.cvc, h.fp, h.fq, h.pq, rfl, h.small, fun b hb => Nat.lt_of_lt_of_le (h.bd b hb) hu3.size⟩, hu3.mono fun b _ e => e ▸ h.fp⟩
    rw [show (((max n 0).toNat : Nat) : Int) = max n 0 from by omega]
    exact hb'
  · simp (disch := omega) only [push_cast, Nat.reduceBEq, Nat.reduceEqDiff, Nat.reduceAdd, Nat.reduceMul, Nat.reduceSub, Nat.reduceLT, Int.reduceToNat, Int.reduceLT, Int.reduceLE, Int.reduceEq, Int.reduceAdd, Int.reduceSub, Int.reduceNeg, Int.reduceMul, hb.cell, hb.free]
    exact ⟨h'.gr, Upd.refl⟩

/-- A new disk: sectors of zeros. -/
def DS.new (n size : Nat) : DS := { size := size, dur := List.replicate n (List.replicate size 0), cache := [], off := false, cnt := none }
theorem bld_disk (x : Int) (a : Option Addr) (n c : Nat) (w : World) : bldS Tryd.prog 66 #[(0, .int .i64 x), (1, .slice a n c)] w = some (.agg #[.int .i64 x, .slice a n c, .slice none 0 0, .bool false, .bool false, .int .i64 0], w) := by kernel_rfl
attribute [push_cast] bld_disk
theorem by8_zeros {n : Nat} : by8 (List.replicate n 0) = List.replicate n (.int .u8 0) := by simp [by8]

theorem new_bad {w : World} {x y : Int} (h : ¬ (1 ≤ x ∧ x ≤ 65536 ∧ 16 ≤ y ∧ y ≤ 4096)) :
    Ok (den Tryd.prog 26 #[.int .i64 x, .int .i64 y] w) fun v w' => v = .tuple #[.pointer none, .int .i64 1] ∧ w = w' := by
  refine den_ok (args := [.int .i64 x, .int .i64 y]) rs26 Tryd.func26 rfl mixed in26 ok26 rfl ?_
  by_cases h1 : x < 1
  · simp (disch := omega) only [push_cast, Nat.reduceBEq, Nat.reduceEqDiff, Nat.reduceAdd, Nat.reduceMul, Nat.reduceSub, Nat.reduceLT, Int.reduceToNat, Int.reduceLT, Int.reduceLE, Int.reduceEq, Int.reduceAdd, Int.reduceSub, Int.reduceNeg, Int.reduceMul]
  · by_cases h2 : 65536 < x
    · simp (disch := omega) only [push_cast, Nat.reduceBEq, Nat.reduceEqDiff, Nat.reduceAdd, Nat.reduceMul, Nat.reduceSub, Nat.reduceLT, Int.reduceToNat, Int.reduceLT, Int.reduceLE, Int.reduceEq, Int.reduceAdd, Int.reduceSub, Int.reduceNeg, Int.reduceMul]
    · by_cases h3 : y < 16
      · simp (disch := omega) only [push_cast, Nat.reduceBEq, Nat.reduceEqDiff, Nat.reduceAdd, Nat.reduceMul, Nat.reduceSub, Nat.reduceLT, Int.reduceToNat, Int.reduceLT, Int.reduceLE, Int.reduceEq, Int.reduceAdd, Int.reduceSub, Int.reduceNeg, Int.reduceMul]
      · have h4 : 4096 < y := by omega
        simp (disch := omega) only [push_cast, Nat.reduceBEq, Nat.reduceEqDiff, Nat.reduceAdd, Nat.reduceMul, Nat.reduceSub, Nat.reduceLT, Int.reduceToNat, Int.reduceLT, Int.reduceLE, Int.reduceEq, Int.reduceAdd, Int.reduceSub, Int.reduceNeg, Int.reduceMul]

theorem new_ok {w : World} {n size : Nat} (h1 : 1 ≤ n) (h2 : n ≤ 65536) (h3 : 16 ≤ size) (h4 : size ≤ 4096) :
    Ok (den Tryd.prog 26 #[.int .i64 n, .int .i64 size] w) fun v w' => ∃ p, v = .tuple #[.pointer (some ⟨p, 0, none⟩), .int .i64 0] ∧ IsDisk w' (gr (fun _ => False) w w') p (DS.new n size) ∧ Upd (fun _ => False) w w' := by
  refine den_ok (args := [.int .i64 n, .int .i64 size]) rs26 Tryd.func26 rfl mixed in26 ok26 rfl ?_
  simp (disch := omega) only [push_cast, Nat.reduceBEq, Nat.reduceEqDiff, Nat.reduceAdd, Nat.reduceMul, Nat.reduceSub, Nat.reduceLT, Int.reduceToNat, Int.reduceLT, Int.reduceLE, Int.reduceEq, Int.reduceAdd, Int.reduceSub, Int.reduceNeg, Int.reduceMul]
  have hrow : Blk (w.alloc (.cells (List.replicate n (Value.slice none 0 0)).toArray 31 (0, 0))) w.heap.size (List.replicate n (.slice none 0 0)) 31 := Blk.new
  have hu1 : Upd (fun _ => False) w (w.alloc (.cells (List.replicate n (Value.slice none 0 0)).toArray 31 (0, 0))) := Upd.alloc
  have hs1 : (w.alloc (.cells (List.replicate n (Value.slice none 0 0)).toArray 31 (0, 0))).heap.size = w.heap.size + 1 := size_alloc
  generalize w.alloc (.cells (List.replicate n (Value.slice none 0 0)).toArray 31 (0, 0)) = w1 at *
  have hhead : Blk (w1.alloc (.cells [.int .i64 (size : Int), .slice (some ⟨w.heap.size, 0, none⟩) n n, .slice none 0 0, .bool false, .bool false, .int .i64 0].toArray 66 (0, 0))) (w.heap.size + 1)
      [.int .i64 (size : Int), .slice (some ⟨w.heap.size, 0, none⟩) n n, .slice none 0 0, .bool false, .bool false, .int .i64 0] 66 := by rw [← hs1]; exact Blk.new
  have hrow2 := hrow.alloc (.cells [.int .i64 (size : Int), .slice (some ⟨w.heap.size, 0, none⟩) n n, .slice none 0 0, .bool false, .bool false, .int .i64 0].toArray 66 (0, 0))
  have hu2 := hu1.alloc' (o := .cells [.int .i64 (size : Int), .slice (some ⟨w.heap.size, 0, none⟩) n n, .slice none 0 0, .bool false, .bool false, .int .i64 0].toArray 66 (0, 0))
  have hs2 : (w1.alloc (.cells [.int .i64 (size : Int), .slice (some ⟨w.heap.size, 0, none⟩) n n, .slice none 0 0, .bool false, .bool false, .int .i64 0].toArray 66 (0, 0))).heap.size = w.heap.size + 2 := by rw [size_alloc, hs1]
  generalize w1.alloc (.cells [.int .i64 (size : Int), .slice (some ⟨w.heap.size, 0, none⟩) n n, .slice none 0 0, .bool false, .bool false, .int .i64 0].toArray 66 (0, 0)) = w2 at *
  clear hrow hu1 hs1 w1
  simp (disch := omega) only [push_cast, Nat.reduceBEq, Nat.reduceEqDiff, Nat.reduceAdd, Nat.reduceMul, Nat.reduceSub, Nat.reduceLT, Int.reduceToNat, Int.reduceLT, Int.reduceLE, Int.reduceEq, Int.reduceAdd, Int.reduceSub, Int.reduceNeg, Int.reduceMul, hhead.cell]
  refine loop_inv (I := fun k st w' => Bx (∃ i ds, k + i = n ∧ st = [.int .i64 (i : Int)] ∧ Upd (fun _ => False) w w' ∧ w2.heap.size ≤ w'.heap.size ∧ ds.length = i ∧
    Blk w' (w.heap.size + 1) [.int .i64 (size : Int), .slice (some ⟨w.heap.size, 0, none⟩) n n, .slice none 0 0, .bool false, .bool false, .int .i64 0] 66 ∧
    Blk w' w.heap.size (ds.map (fun x : Nat × List Int => CV x.1 x.2) ++ List.replicate k (.slice none 0 0)) 31 ∧
    ∀ x ∈ ds, x.2 = List.replicate size 0 ∧ Blk w' x.1 (by8 x.2) 5 ∧ w.heap.size + 2 ≤ x.1) ⟨⟩) ?_ n ⟨0, [], rfl, rfl, hu2, Nat.le_refl _, rfl, hhead, by simpa using hrow2, by simp⟩
  rintro k st w' ⟨i, ds, hki, rfl, hu, hsz, hdl, hh, hr, hds⟩
  have hsz0 := hu.size
  by_cases hk0 : k = 0
  · subst hk0
    obtain rfl : i = n := by omega
    simp (disch := omega) only [push_cast, Nat.reduceBEq, Nat.reduceEqDiff, Nat.reduceAdd, Nat.reduceMul, Nat.reduceSub, Nat.reduceLT, Int.reduceToNat, Int.reduceLT, Int.reduceLE, Int.reduceEq, Int.reduceAdd, Int.reduceSub, Int.reduceNeg, Int.reduceMul]
    refine ⟨_, rfl, ⟨w.heap.size, ds, .slice none 0 0, [], false, 0, ?_, by simpa using hr, World.ownsRow_nil _ _ _ _, ?_, rfl, ?_, by simp, by simp [Value.ownBlock], .inr ⟨by omega, hh.lt⟩, .inr ⟨by omega, hr.lt⟩, by omega, rfl, ⟨h4, by omega⟩, ?_⟩, hu⟩
    · rw [hdl]; exact hh
    · show List.replicate i (List.replicate size 0) = ds.map (·.2)
      rw [eq_comm, List.eq_replicate_iff]
      refine ⟨by simpa using hdl, ?_⟩
      intro l hl
      obtain ⟨x, hx, rfl⟩ := List.mem_map.1 hl
      exact (hds x hx).1
    · intro x hx
      obtain ⟨e1, e2, e3⟩ := hds x hx
      refine ⟨e2, by rw [e1]; simp [DS.new], .inr ⟨by omega, e2.lt⟩, by omega, by omega, by simp [Value.ownBlock]⟩
    · rintro b (hb | hb)
      · exact hb.elim
      · exact hb.2
  · obtain ⟨j, rfl⟩ := Nat.exists_eq_succ_of_ne_zero hk0
    have hcell : w'.cell? ⟨w.heap.size, i, none⟩ = some (.slice none 0 0) := by
      rw [hr.cell, List.getElem?_append_right (by simp; omega)]
      simp [hdl]
    have hl1 := hh.lt
    have hl2 := hr.lt
    simp (disch := omega) only [push_cast, Nat.reduceBEq, Nat.reduceEqDiff, Nat.reduceAdd, Nat.reduceMul, Nat.reduceSub, Nat.reduceLT, Int.reduceToNat, Int.reduceLT, Int.reduceLE, Int.reduceEq, Int.reduceAdd, Int.reduceSub, Int.reduceNeg, Int.reduceMul, hh.cell, hh.free, hcell, hr.free]
    have hunew : Upd (fun b => b = w.heap.size) w' ((w'.drew.alloc (.cells (List.replicate size (Value.int .u8 0)).toArray 5 (0, 0))).setCell ⟨w.heap.size, i, none⟩ (.slice (some ⟨w'.heap.size, 0, none⟩) size size)) := ((Upd.refl (F := fun b => b = w.heap.size)).drew'.alloc').setIn rfl
    have hnew : Blk ((w'.drew.alloc (.cells (List.replicate size (Value.int .u8 0)).toArray 5 (0, 0))).setCell ⟨w.heap.size, i, none⟩ (.slice (some ⟨w'.heap.size, 0, none⟩) size size)) w'.heap.size (List.replicate size (Value.int .u8 0)) 5 :=
      (Blk.new (w := w'.drew)).other _ (by show w.heap.size ≠ w'.heap.size; omega)
    have hrs := ((hr.drew.alloc (.cells (List.replicate size (Value.int .u8 0)).toArray 5 (0, 0))).set i (.slice (some ⟨w'.heap.size, 0, none⟩) size size))
    refine ⟨j, by omega, i + 1, ds ++ [(w'.heap.size, List.replicate size 0)], by omega, by simp, hu.trans hunew (fun b h1 h2 => by omega), Nat.le_trans hsz hunew.size, by simp [hdl], hh.upd hunew (by omega), ?_, ?_⟩
    · have e : (ds.map (fun x : Nat × List Int => CV x.1 x.2) ++ List.replicate j.succ (Value.slice none 0 0)).set i (.slice (some ⟨w'.heap.size, 0, none⟩) size size) =
          (ds ++ [(w'.heap.size, List.replicate size 0)]).map (fun x : Nat × List Int => CV x.1 x.2) ++ List.replicate j (Value.slice none 0 0) := by
        rw [List.set_append_right _ _ (by simp; omega)]
        simp [hdl, List.replicate_succ, CV]
      rw [← e]
      exact hrs
    · intro x hx
      rcases List.mem_append.1 hx with hx | hx
      · obtain ⟨e1, e2, e3⟩ := hds x hx
        exact ⟨e1, e2.upd hunew (by omega), e3⟩
      · simp only [List.mem_singleton] at hx
        subst hx
        exact ⟨rfl, by rw [by8_zeros]; exact hnew, by show w.heap.size + 2 ≤ w'.heap.size; omega⟩
end Go.Proofs.YtkceoefmhppddaaDoor.Fd
