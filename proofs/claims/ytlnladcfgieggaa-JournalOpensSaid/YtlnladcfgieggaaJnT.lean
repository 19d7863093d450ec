/-
  The laws' do, region; the specification's After.
-/
import Derived.Test.YtlnladcfgieggaaJnS
namespace Go.Proofs.Ytlnladcfgieggaa.Fd
set_option linter.unusedSimpArgs false
set_option linter.unusedVariables false
open Go
set_option maxRecDepth 100000

set_option maxHeartbeats 1000000 in
theorem do_ok {w : World} {D J : Nat → Prop} {p jb : Nat} {z : DS × JS} (h : JW w D J p jb z) {n sz i : Nat} (hs : Sz n sz i z.1) (hi : i ≤ 700000000) (hz : 16 ≤ sz) (hz2 : sz ≤ 4096) (hf : z.2.first ≤ 100000) (hl : z.2.stream.length ≤ z.2.area) (ha : z.2.area ≤ 50000)
    {x : OpJ} {ua : Option Addr} {un uc : Nat} (hy : SlR w (FF D J) (.slice ua un uc) x.recs) (hr : RngL x.recs) (hrl : (stream x.recs).length ≤ 50000) :
    Ok (den Try.prog 17 #[.pointer (some ⟨jb, 0, none⟩), .agg #[.bool x.reset, .slice ua un uc]] w) fun u w' => u = .int .i64 (jdo z x).2 ∧ ∃ D', JW w' D' J p jb (jdo z x).1 ∧ JT w w' D D' jb := by
  refine den_ok (args := [.pointer (some ⟨jb, 0, none⟩), .agg #[.bool x.reset, .slice ua un uc]]) rs17 Try.func17 rfl mixed in17 ok17 rfl ?_
  have hu1 : Upd (fun _ => False) w (w.alloc (.cells #[.bool x.reset, .slice ua un uc] 38 (0, 0))) := Upd.alloc
  have hw1 := h.quiet hu1
  have hy1 := hy.go (F' := FF D J) hu1 fun b _ h => h.elim False.elim id
  unfold jdo
  cases hx : x.reset
  · rw [hx] at hu1 hw1 hy1
    simp only [Bool.false_eq_true, if_false]
    simp (config := { maxSteps := 3000000 }) (disch := omega) only [push_cast, Nat.reduceBEq, Nat.reduceEqDiff, Nat.reduceAdd, Nat.reduceMul, Nat.reduceSub, Nat.reduceLT, Int.reduceToNat, Int.reduceLT, Int.reduceLE, Int.reduceEq, Int.reduceAdd, Int.reduceSub, Int.reduceNeg, Int.reduceMul]
    refine Ok.use (Append_ok hw1 hs hi hz hz2 hf hl ha hy1 hr hrl) ?_
    rintro u w2 ⟨rfl, D2, hw2, ht2⟩
    simp (config := { maxSteps := 3000000 }) (disch := omega) only [push_cast, Nat.reduceBEq, Nat.reduceEqDiff, Nat.reduceAdd, Nat.reduceMul, Nat.reduceSub, Nat.reduceLT, Int.reduceToNat, Int.reduceLT, Int.reduceLE, Int.reduceEq, Int.reduceAdd, Int.reduceSub, Int.reduceNeg, Int.reduceMul]
    exact ⟨D2, hw2, (JT.quiet hu1).trans ht2⟩
  · rw [hx] at hu1 hw1 hy1
    simp only [if_true]
    simp (config := { maxSteps := 3000000 }) (disch := omega) only [push_cast, Nat.reduceBEq, Nat.reduceEqDiff, Nat.reduceAdd, Nat.reduceMul, Nat.reduceSub, Nat.reduceLT, Int.reduceToNat, Int.reduceLT, Int.reduceLE, Int.reduceEq, Int.reduceAdd, Int.reduceSub, Int.reduceNeg, Int.reduceMul]
    refine Ok.use (Reset_ok hw1 hs hi hz hz2 hf) ?_
    rintro u w2 ⟨rfl, D2, hw2, ht2⟩
    simp (config := { maxSteps := 3000000 }) (disch := omega) only [push_cast, Nat.reduceBEq, Nat.reduceEqDiff, Nat.reduceAdd, Nat.reduceMul, Nat.reduceSub, Nat.reduceLT, Int.reduceToNat, Int.reduceLT, Int.reduceLE, Int.reduceEq, Int.reduceAdd, Int.reduceSub, Int.reduceNeg, Int.reduceMul]
    exact ⟨D2, hw2, (JT.quiet hu1).trans ht2⟩
set_option maxHeartbeats 1000000 in
theorem After_ok {w : World} {F : Nat → Prop} {v : Value} {ls : List (List Int)} (h : SlR w F v ls) (hF : ∀ b, F b → b < w.heap.size) {x : OpJ} {ua : Option Addr} {un uc : Nat} (hy : SlR w F (.slice ua un uc) x.recs) {area : Nat} (ha : area ≤ 50000) (hl : (stream (ls ++ x.recs)).length ≤ 100000) :
    Ok (den Try.prog 16 #[v, .agg #[.bool x.reset, .slice ua un uc], .int .i64 (area : Int)] w) fun u w' => (∃ u0, u = .tuple #[u0, .int .i64 (afterP ls x area).2] ∧ SlR w' F u0 (afterP ls x area).1) ∧ Upd (fun _ => False) w w' := by
  obtain ⟨va, vc, rfl, _⟩ := id h
  refine den_ok (args := [.slice va ls.length vc, .agg #[.bool x.reset, .slice ua un uc], .int .i64 (area : Int)]) rs16 Try.func16 rfl mixed in16 ok16 rfl ?_
  have hu1 : Upd (fun _ => False) w (w.alloc (.cells #[.bool x.reset, .slice ua un uc] 38 (0, 0))) := Upd.alloc
  have hsz1 : (w.alloc (.cells #[.bool x.reset, .slice ua un uc] 38 (0, 0))).heap.size = w.heap.size + 1 := size_alloc
  have hb1 : Blk (w.alloc (.cells #[.bool x.reset, .slice ua un uc] 38 (0, 0))) w.heap.size [.bool x.reset, .slice ua un uc] 38 := Blk.new (cs := [.bool x.reset, .slice ua un uc])
  have h1 := h.go (F' := F) hu1 fun b _ h => h.elim False.elim id
  have hy1 := hy.go (F' := F) hu1 fun b _ h => h.elim False.elim id
  have hstr : (stream (ls ++ x.recs)).length = (stream ls).length + (stream x.recs).length := by rw [stream_append, List.length_append]
  have hl1 := stream_len_le (ls := ls)
  have hl2 := stream_len_le (ls := x.recs)
  unfold afterP
  cases hx : x.reset
  rotate_left
  · rw [hx] at hu1 hsz1 hb1 h1 hy1
    simp only [if_true]
    simp (config := { maxSteps := 3000000 }) (disch := omega) only [push_cast, Nat.reduceBEq, Nat.reduceEqDiff, Nat.reduceAdd, Nat.reduceMul, Nat.reduceSub, Nat.reduceLT, Int.reduceToNat, Int.reduceLT, Int.reduceLE, Int.reduceEq, Int.reduceAdd, Int.reduceSub, Int.reduceNeg, Int.reduceMul, hb1.cell]
    exact ⟨⟨_, rfl, .nil⟩, hu1.alloc'⟩
  rw [hx] at hu1 hsz1 hb1 h1 hy1
  simp only [Bool.false_eq_true, if_false]
  generalize hw1 : (w.alloc (.cells #[.bool false, .slice ua un uc] 38 (0, 0))) = w1 at *
  simp (config := { maxSteps := 3000000 }) (disch := omega) only [push_cast, Nat.reduceBEq, Nat.reduceEqDiff, Nat.reduceAdd, Nat.reduceMul, Nat.reduceSub, Nat.reduceLT, Int.reduceToNat, Int.reduceLT, Int.reduceLE, Int.reduceEq, Int.reduceAdd, Int.reduceSub, Int.reduceNeg, Int.reduceMul, hb1.cell, hw1]
  have hu2 : Upd (fun _ => False) w1 (w1.alloc (.cells #[] 46 (0, 0))).drew := Upd.alloc.drew'
  have hrow0 : RowB (w1.alloc (.cells #[] 46 (0, 0))).drew F (.slice (some ⟨w1.heap.size, 0, none⟩) 0 0) [] := RowB.empty (Blk.new (cs := [])).drew fun h => by have := hF _ h; omega
  have hsz2 : (w1.alloc (.cells #[] 46 (0, 0))).drew.heap.size = w1.heap.size + 1 := size_alloc
  have hu02 := hu1.trans hu2 (fun _ _ h => h)
  refine app_row hrow0 (h.go hu02 fun b hb h => h.elim False.elim fun h => h.elim id fun e => by have := ownB e; omega) (by simp; omega) (fun b hb => by have := hF b hb; omega) ?_
  intro v3 w3 hrow3 hu3 hfr3
  rw [List.nil_append] at hrow3
  have hv3 : ∀ g, v3.ownBlock = some g → w1.heap.size ≤ g := by
    intro g hg
    rcases hfr3 g hg with h | h
    · have := ownB h; omega
    · omega
  have hu03 : Upd (fun _ => False) w w3 := hu02.trans hu3 fun b hb e => by have := ownB e; omega
  obtain ⟨a3, c3, rfl⟩ := hrow3.form
  have hb3 := (hb1.upd hu2 (fun h => h)).upd hu3 (fun e => by have := ownB e; omega)
  simp (config := { maxSteps := 3000000 }) (disch := omega) only [push_cast, Nat.reduceBEq, Nat.reduceEqDiff, Nat.reduceAdd, Nat.reduceMul, Nat.reduceSub, Nat.reduceLT, Int.reduceToNat, Int.reduceLT, Int.reduceLE, Int.reduceEq, Int.reduceAdd, Int.reduceSub, Int.reduceNeg, Int.reduceMul, hb1.cell, hw1, hb3.cell]
  have hs03 := hu03.size
  refine app_row hrow3 (hy.go hu03 fun b hb h => h.elim False.elim fun h => h.elim id fun e => by have := hv3 b e; omega) (by omega) (fun b hb => by have := hF b hb; omega) ?_
  intro v4 w4 hrow4 hu4 hfr4
  have hu04 : Upd (fun _ => False) w w4 := hu03.trans hu4 fun b hb e => by have := hv3 b e; omega
  obtain ⟨a4, c4, hv4⟩ := hrow4.form
  simp (config := { maxSteps := 3000000 }) (disch := omega) only [push_cast, Nat.reduceBEq, Nat.reduceEqDiff, Nat.reduceAdd, Nat.reduceMul, Nat.reduceSub, Nat.reduceLT, Int.reduceToNat, Int.reduceLT, Int.reduceLE, Int.reduceEq, Int.reduceAdd, Int.reduceSub, Int.reduceNeg, Int.reduceMul, hb1.cell, hw1, hb3.cell]
  refine Ok.use (rStream_ok hrow4.slr (by omega)) ?_
  rintro u w5 ⟨hown, _, hu5⟩
  obtain ⟨ua5, uc5, rfl, _⟩ := hown.form
  have hu05 := hu04.trans hu5 (fun _ _ h => h)
  by_cases hfull : area < (stream (ls ++ x.recs)).length
  · rw [if_pos hfull]
    have hfull' : (area : Int) < (stream (ls ++ x.recs)).length := by omega
    simp (config := { maxSteps := 3000000 }) (disch := omega) only [push_cast, Nat.reduceBEq, Nat.reduceEqDiff, Nat.reduceAdd, Nat.reduceMul, Nat.reduceSub, Nat.reduceLT, Int.reduceToNat, Int.reduceLT, Int.reduceLE, Int.reduceEq, Int.reduceAdd, Int.reduceSub, Int.reduceNeg, Int.reduceMul]
    exact ⟨⟨_, rfl, h.go hu05 fun b hb h => h.elim False.elim id⟩, hu05⟩
  · rw [if_neg hfull]
    have hfull' : ¬ (area : Int) < (stream (ls ++ x.recs)).length := by omega
    simp (config := { maxSteps := 3000000 }) (disch := omega) only [push_cast, Nat.reduceBEq, Nat.reduceEqDiff, Nat.reduceAdd, Nat.reduceMul, Nat.reduceSub, Nat.reduceLT, Int.reduceToNat, Int.reduceLT, Int.reduceLE, Int.reduceEq, Int.reduceAdd, Int.reduceSub, Int.reduceNeg, Int.reduceMul]
    exact ⟨⟨_, rfl, hrow4.slr.go hu5 fun b hb h => h.elim False.elim id⟩, hu05⟩
set_option maxHeartbeats 1000000 in
/-- The head and the area of a region. -/
theorem region_ok {w : World} {D : Nat → Prop} {p : Nat} {d : DS} (h : IsDisk w D p d) {n sz i : Nat} (hs : Sz n sz i d) (hi : i ≤ 900000000) (hz : 16 ≤ sz) (hoff : d.off = false) {f c : Nat} (hn : n ≤ 65536) (hc : 2 ≤ c) (hfc : f + c ≤ n) (har : c * sz ≤ 50000) :
    Ok (den Try.prog 30 #[.pointer (some ⟨p, 0, none⟩), .int .i64 (f : Int), .int .i64 (c : Int)] w) fun u w' => (∃ u0 u1, u = .tuple #[u0, u1] ∧ SlC w' (fun b => b < w.heap.size) u0 (d.content f) ∧ SlC w' (fun b => b < w.heap.size) u1 (secs d (f + 1) (c - 1))) ∧ Upd (fun _ => False) w w' := by
  have hdl := hs.dur
  have hsz := hs.size
  refine den_ok (args := [.pointer (some ⟨p, 0, none⟩), .int .i64 (f : Int), .int .i64 (c : Int)]) rs30 Try.func30 rfl mixed in30 ok30 rfl ?_
  simp (config := { maxSteps := 3000000 }) (disch := omega) only [push_cast, Nat.reduceBEq, Nat.reduceEqDiff, Nat.reduceAdd, Nat.reduceMul, Nat.reduceSub, Nat.reduceLT, Int.reduceToNat, Int.reduceLT, Int.reduceLE, Int.reduceEq, Int.reduceAdd, Int.reduceSub, Int.reduceNeg, Int.reduceMul]
  refine Ok.use (read_ok h (by omega) (by have := hs.few; omega) (f : Int)) ?_
  rintro u w1 ⟨u0, rfl, hres, hu1⟩
  have hrd : ∀ k : Nat, f + k < n → d.read ((f + k : Nat) : Int) = (some (d.content (f + k)), 0) := by
    intro k hk
    unfold DS.read
    rw [if_pos ⟨by omega, by omega⟩, if_neg (by rw [hoff]; decide), Int.toNat_natCast]
  have h0 := hrd 0 (by omega)
  rw [Nat.add_zero] at h0
  rw [h0] at hres ⊢
  obtain ⟨b0, rfl, hb0, hblk0⟩ := hres
  have hcl0 := h.content_len (s := f) (by omega)
  unfold CV
  simp (config := { maxSteps := 3000000 }) (disch := omega) only [push_cast, Nat.reduceBEq, Nat.reduceEqDiff, Nat.reduceAdd, Nat.reduceMul, Nat.reduceSub, Nat.reduceLT, Int.reduceToNat, Int.reduceLT, Int.reduceLE, Int.reduceEq, Int.reduceAdd, Int.reduceSub, Int.reduceNeg, Int.reduceMul]
  have hu2 : Upd (fun _ => False) w (w1.alloc (.cells #[] 5 (0, 0))) := hu1.alloc'
  have hs1 := hu1.size
  have hh0 := hblk0.alloc (.cells #[] 5 (0, 0))
  have hb0l := hblk0.lt
  have hsz2 : (w1.alloc (.cells #[] 5 (0, 0))).heap.size = w1.heap.size + 1 := size_alloc
  have hbn : Blk (w1.alloc (.cells #[] 5 (0, 0))) w1.heap.size [] 5 := Blk.new (cs := [])
  generalize w1.alloc (.cells #[] 5 (0, 0)) = w2 at *
  refine loop_inv (I := fun k st w' => Bx (∃ (i' : Nat) (v : Value), k + i' + 1 = c ∧ st = [.int .i64 0, v, .int .i64 ((i' + 1 : Nat) : Int)] ∧ Bow w' v (secs d (f + 1) i') ∧ (∀ g, v.ownBlock = some g → w1.heap.size ≤ g) ∧ Upd (fun _ => False) w w' ∧ Upd (fun b => b = w1.heap.size) w2 w') ⟨⟩) ?_ (c - 1)
    ⟨0, .slice (some ⟨w1.heap.size, 0, none⟩) 0 0, by omega, rfl, Bow.empty hbn, fun g hg => by have := ownB hg; omega, hu2, Upd.refl⟩
  rintro k st w3 ⟨i', v, hk, rfl, hown, hfr, hu3, hu23⟩
  have h3 := h.upd hu3 (fun _ _ h => h)
  have hlen := secs_len h (f := f + 1) (k := i') (by omega)
  rw [hsz] at hlen
  have hle : i' * sz ≤ c * sz := Nat.mul_le_mul_right _ (by omega)
  have hsz' : sz ≤ c * sz := Nat.le_mul_of_pos_left _ (by omega)
  obtain ⟨va, vc, rfl, hvc⟩ := hown.form
  by_cases hk0 : k = 0
  · obtain rfl : i' = c - 1 := by omega
    simp (config := { maxSteps := 3000000 }) (disch := omega) only [push_cast, Nat.reduceBEq, Nat.reduceEqDiff, Nat.reduceAdd, Nat.reduceMul, Nat.reduceSub, Nat.reduceLT, Int.reduceToNat, Int.reduceLT, Int.reduceLE, Int.reduceEq, Int.reduceAdd, Int.reduceSub, Int.reduceNeg, Int.reduceMul]
    exact ⟨⟨_, _, rfl, ⟨(slb_new (hh0.upd hu23 (fun h => by omega)) (fun h => by omega)), _, _, rfl, Nat.le_refl _⟩, hown.slc fun g hg h => by have := hfr g hg; omega⟩, hu3⟩
  have hic : i' + 1 < c := by omega
  have hrd' := hrd (i' + 1) (by omega)
  have ecast : ((f + (i' + 1) : Nat) : Int) = (f : Int) + ((i' : Int) + 1) := by omega
  rw [ecast] at hrd'
  simp (config := { maxSteps := 3000000 }) (disch := omega) only [push_cast, Nat.reduceBEq, Nat.reduceEqDiff, Nat.reduceAdd, Nat.reduceMul, Nat.reduceSub, Nat.reduceLT, Int.reduceToNat, Int.reduceLT, Int.reduceLE, Int.reduceEq, Int.reduceAdd, Int.reduceSub, Int.reduceNeg, Int.reduceMul]
  refine Ok.use (read_ok h3 (by omega) (by have := hs.few; omega) ((f : Int) + ((i' : Int) + 1))) ?_
  rintro u w4 ⟨u0, rfl, hres, hu4⟩
  rw [hrd'] at hres ⊢
  obtain ⟨b, rfl, hb, hblk⟩ := hres
  have hcl := h.content_len (s := f + (i' + 1)) (by omega)
  have hsl : SlB w4 (fun _ => False) (.slice (some ⟨b, 0, none⟩) (d.content (f + (i' + 1))).length (d.content (f + (i' + 1))).length) (d.content (f + (i' + 1))) := slb_new hblk (fun h => h)
  unfold CV
  simp (config := { maxSteps := 3000000 }) (disch := omega) only [push_cast, Nat.reduceBEq, Nat.reduceEqDiff, Nat.reduceAdd, Nat.reduceMul, Nat.reduceSub, Nat.reduceLT, Int.reduceToNat, Int.reduceLT, Int.reduceLE, Int.reduceEq, Int.reduceAdd, Int.reduceSub, Int.reduceNeg, Int.reduceMul]
  refine app_by (hown.upd hu4 (fun _ _ h => h)) hsl (by rw [hlen, hcl, hsz]; omega) ?_
  intro v5 w5 hown5 hu5 hfr5
  have hs3 := hu3.size
  have hs4 := hu4.size
  have hs23 := hu23.size
  have hw12 : w1.heap.size < w2.heap.size := hbn.lt
  simp (config := { maxSteps := 3000000 }) (disch := omega) only [push_cast, Nat.reduceBEq, Nat.reduceEqDiff, Nat.reduceAdd, Nat.reduceMul, Nat.reduceSub, Nat.reduceLT, Int.reduceToNat, Int.reduceLT, Int.reduceLE, Int.reduceEq, Int.reduceAdd, Int.reduceSub, Int.reduceNeg, Int.reduceMul]
  refine ⟨k - 1, by omega, i' + 1, v5, by omega, by simp, ?_, fun g hg => ?_, (hu3.trans hu4 (fun _ _ h => h)).trans hu5 (fun b hb e => by have := hfr b e; omega), ?_⟩
  · rw [secs]
    rw [show f + 1 + i' = f + (i' + 1) from by omega]
    exact hown5
  · rcases hfr5 g hg with h | h
    · exact hfr g h
    · omega
  · exact (hu23.trans hu4 (fun _ _ h => h.elim)).trans hu5 fun b hb e => by have := hfr b e; omega
end Go.Proofs.Ytlnladcfgieggaa.Fd
