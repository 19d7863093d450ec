/-
  The laws' examples.
-/
import Derived.Test.YtlnladcfgieggaaJnU
import Derived.Lib.SlBytesConst
namespace Go.Proofs.Ytlnladcfgieggaa.Fd
set_option linter.unusedSimpArgs false
set_option linter.unusedVariables false
open Go
set_option maxRecDepth 100000

theorem bsl_u82 (x y : Int) (w : World) : bslS Try.prog 46 2 #[(0, .int .u8 x), (1, .int .u8 y)] w = some (.slice (some ⟨w.heap.size, 0, none⟩) 2 2, w.alloc (.cells [.int .u8 x, .int .u8 y].toArray 5 (0, 0))) := by kernel_rfl
theorem bsl_b2 (a a2 : Option Addr) (n c n2 c2 : Nat) (w : World) : bslS Try.prog 34 2 #[(0, .slice a n c), (1, .slice a2 n2 c2)] w = some (.slice (some ⟨w.heap.size, 0, none⟩) 2 2, w.alloc (.cells [.slice a n c, .slice a2 n2 c2].toArray 46 (0, 0))) := by kernel_rfl
theorem cnv_bb {w : World} {C : Array Value} {n c : Nat} : cnvS Try.prog 46 46 (.slice (some ⟨w.heap.size, 0, none⟩) n c) (w.alloc (.cells C 5 (0, 0))) = some (.slice (some ⟨w.heap.size, 0, none⟩) n c, w.alloc (.cells C 5 (C.size, C.size + 1))) := by
  have := Lib.run_convert_bytes_const (P := Try.prog) w 46 5 C n c Try.underlying46 Try.underlying5
  unfold cnvS lift
  rw [this]
attribute [push_cast] bsl_u82 bsl_b2 cnv_bb
theorem slb_mark {w : World} {l : List Int} {x : Nat × Nat} {c : Nat} {F : Nat → Prop} (hF : ¬ F w.heap.size) : SlB (w.alloc (.cells (by8 l).toArray 5 x)) F (.slice (some ⟨w.heap.size, 0, none⟩) l.length c) l := by
  refine ⟨_, c, rfl, fun _ => ⟨w.heap.size, 0, rfl, fun j hj => ?_, hF⟩⟩
  have : (w.alloc (.cells (by8 l).toArray 5 x)).heap[w.heap.size]? = some (.cells (by8 l).toArray 5 x) := by
    show (w.heap.push _)[w.heap.size]? = _
    simp
  unfold World.cell?
  rw [Nat.zero_add]
  simp only [this]
  simp
def ab : List Int := [97, 98]
theorem ab_rng : Rng ab := by intro x hx; simp [ab] at hx; omega
theorem stream_ab : (stream [ab, []]).length = 4 := by
  rw [stream_cons, stream_cons, stream_nil]
  simp [encB, ab, encU_small]
theorem aw_dims : Dims 3 0 3 16 := ⟨by omega, by omega, by omega, by omega, by omega, by omega⟩
theorem left32 : leftI 32 = 31 := leftN_mono (n := 31) (by rw [encU_small (by omega)]; simp) (fun m h1 h2 => by omega) (by omega)
theorem left28 : leftI 28 = 27 := leftN_mono (n := 27) (by rw [encU_small (by omega)]; simp) (fun m h1 h2 => by omega) (by omega)
theorem slb_alloc {w w' : World} {F : Nat → Prop} {a : Option Addr} {n c : Nat} {l : List Int} (h : SlB w F (.slice a n c) l) (hu : Upd (fun _ => False) w w') : SlB w' F (.slice a n c) l := h.upd hu fun _ h => h.elim
/-- Two byte strings in a row. -/
theorem slr_two {w : World} {F : Nat → Prop} {a a2 : Option Addr} {n n2 c c2 : Nat} {l l2 : List Int} (h : SlB w F (.slice a n c) l) (h2 : SlB w F (.slice a2 n2 c2) l2) (hF : ¬ F w.heap.size) : SlR (w.alloc (.cells [.slice a n c, .slice a2 n2 c2].toArray 46 (0, 0))) F (.slice (some ⟨w.heap.size, 0, none⟩) 2 2) [l, l2] := by
  refine ⟨_, 2, rfl, fun _ => ⟨w.heap.size, 0, rfl, by rw [size_alloc]; omega, hF, fun j l' hj => ?_⟩⟩
  have hj2 : j < 2 := by have := (List.getElem?_eq_some_iff.1 hj).1; simpa using this
  have hb : Blk (w.alloc (.cells [.slice a n c, .slice a2 n2 c2].toArray 46 (0, 0))) w.heap.size [.slice a n c, .slice a2 n2 c2] 46 := Blk.new
  by_cases e : j = 0
  · subst e
    simp at hj
    subst hj
    exact ⟨_, hb.cell 0, h.go (Upd.alloc (F := fun _ => False)) fun b _ h => h.elim False.elim id⟩
  · obtain rfl : j = 1 := by omega
    simp at hj
    subst hj
    exact ⟨_, hb.cell 1, h2.go (Upd.alloc (F := fun _ => False)) fun b _ h => h.elim False.elim id⟩
def litW (w : World) : World := ((w.alloc (.cells #[.int .u8 97, .int .u8 98] 5 (2, 2 + 1))).alloc (.cells #[] 5 (0, 0))).alloc (.cells #[.slice (some ⟨w.heap.size, 0, none⟩) 2 2, .slice (some ⟨w.heap.size + 1, 0, none⟩) 0 0] 46 (0, 0))
theorem lit_ab {w : World} {F : Nat → Prop} (hF : ∀ b, F b → b < w.heap.size) : SlR (litW w) F (.slice (some ⟨w.heap.size + 1 + 1, 0, none⟩) 2 2) [ab, []] ∧ Upd (fun _ => False) w (litW w) := by
  have hFn : ∀ {b : Nat}, w.heap.size ≤ b → ¬ F b := fun h1 h2 => by have := hF _ h2; omega
  have q1 : SlB (w.alloc (.cells (by8 ab).toArray 5 (2, 2 + 1))) F (.slice (some ⟨w.heap.size, 0, none⟩) 2 2) ab := slb_mark (l := ab) (hFn (Nat.le_refl _))
  have z4 : (w.alloc (.cells (by8 ab).toArray 5 (2, 2 + 1))).heap.size = w.heap.size + 1 := size_alloc
  have u4 : Upd (fun _ => False) w (w.alloc (.cells (by8 ab).toArray 5 (2, 2 + 1))) := Upd.alloc
  have z5 : ((w.alloc (.cells (by8 ab).toArray 5 (2, 2 + 1))).alloc (.cells #[] 5 (0, 0))).heap.size = w.heap.size + 1 + 1 := by rw [size_alloc, z4]
  have u5 : Upd (fun _ => False) w ((w.alloc (.cells (by8 ab).toArray 5 (2, 2 + 1))).alloc (.cells #[] 5 (0, 0))) := u4.alloc'
  have q2 := slb_alloc (w' := (w.alloc (.cells (by8 ab).toArray 5 (2, 2 + 1))).alloc (.cells #[] 5 (0, 0))) q1 Upd.alloc
  have q3 : SlB ((w.alloc (.cells (by8 ab).toArray 5 (2, 2 + 1))).alloc (.cells #[] 5 (0, 0))) F (.slice (some ⟨w.heap.size + 1, 0, none⟩) 0 0) [] := ⟨_, 0, rfl, fun h => absurd rfl h⟩
  have q4 := slr_two q2 q3 (hFn (by rw [z5]; omega))
  rw [z5] at q4
  have u6 := u5.alloc' (o := .cells [.slice (some ⟨w.heap.size, 0, none⟩) 2 2, .slice (some ⟨w.heap.size + 1, 0, none⟩) 0 0].toArray 46 (0, 0))
  have hab : ((by8 ab).toArray : Array Value) = #[.int .u8 97, .int .u8 98] := rfl
  rw [hab] at q4 u6
  exact ⟨q4, u6⟩
theorem ab_rngL : RngL [ab, []] := by
  intro l hl
  rcases List.mem_cons.1 hl with rfl | hl
  · exact ab_rng
  · rw [List.mem_singleton] at hl
    subst hl
    intro x hx
    simp at hx
theorem Run.lt {w0 w : World} {D J : Nat → Prop} {p jb n f c s : Nat} {d : DS} {ls : List (List Int)} (h : Run w0 w D J p jb n f c s d ls) : ∀ b, FF D J b → b < w.heap.size := fun b hb => hb.elim (h.jw.disk.bd b) fun hb => (h.jw.sep b hb).2
set_option maxHeartbeats 4000000 in
theorem awake_ok {w0 : World} : Ok (den Try.prog 12 #[] w0) fun v w' => v = .bool true ∧ Upd (fun _ => False) w0 w' := by
  have t := fun {a b c : World} (x : Upd (fun _ => False) a b) (y : Upd (fun _ => False) b c) => x.trans y (F := fun _ => False) (fun _ _ h => h)
  refine den_ok (args := []) rs12 Try.func12 rfl mixed in12 ok12 rfl ?_
  simp (disch := omega) only [push_cast, Nat.reduceBEq, Nat.reduceEqDiff, Nat.reduceAdd, Nat.reduceMul, Nat.reduceSub, Nat.reduceLT, Int.reduceToNat, Int.reduceLT, Int.reduceLE, Int.reduceEq, Int.reduceAdd, Int.reduceSub, Int.reduceNeg, Int.reduceMul]
  refine Ok.use (new_ok (n := 3) (size := 16) (by omega) (by omega) (by omega) (by omega)) ?_
  rintro v w1 ⟨p, rfl, hd1, hu1⟩
  simp (config := { maxSteps := 3000000 }) (disch := omega) only [push_cast, Nat.reduceBEq, Nat.reduceEqDiff, Nat.reduceAdd, Nat.reduceMul, Nat.reduceSub, Nat.reduceLT, Int.reduceToNat, Int.reduceLT, Int.reduceLE, Int.reduceEq, Int.reduceAdd, Int.reduceSub, Int.reduceNeg, Int.reduceMul]
  refine Ok.use (open_run (f := 0) (c := 3) hd1 (GoodD.new aw_dims) aw_dims hu1 (fun b hb => hb.elim False.elim fun h => h.1)) ?_
  rintro v w2 ⟨jb, rfl, hr2, hu2, hjb⟩
  generalize gr (fun _ => False) w0 w1 = D at *
  simp (config := { maxSteps := 3000000 }) (disch := omega) only [push_cast, Nat.reduceBEq, Nat.reduceEqDiff, Nat.reduceAdd, Nat.reduceMul, Nat.reduceSub, Nat.reduceLT, Int.reduceToNat, Int.reduceLT, Int.reduceLE, Int.reduceEq, Int.reduceAdd, Int.reduceSub, Int.reduceNeg, Int.reduceMul]
  refine Ok.use (hr2.left aw_dims) ?_
  rintro v w3 ⟨rfl, hu3⟩
  rw [show leftI ((3 - 1) * 16 - (stream []).length) = 31 from by rw [stream_nil]; exact left32]
  have hr3 := hr2.quiet hu3
  simp (config := { maxSteps := 3000000 }) (disch := omega) only [push_cast, Nat.reduceBEq, Nat.reduceEqDiff, Nat.reduceAdd, Nat.reduceMul, Nat.reduceSub, Nat.reduceLT, Int.reduceToNat, Int.reduceLT, Int.reduceLE, Int.reduceEq, Int.reduceAdd, Int.reduceSub, Int.reduceNeg, Int.reduceMul]
  obtain ⟨q4, u4⟩ := lit_ab hr3.lt
  unfold litW at q4 u4
  generalize ((w3.alloc (.cells #[.int .u8 97, .int .u8 98] 5 (2, 2 + 1))).alloc (.cells #[] 5 (0, 0))).alloc (.cells #[.slice (some ⟨w3.heap.size, 0, none⟩) 2 2, .slice (some ⟨w3.heap.size + 1, 0, none⟩) 0 0] 46 (0, 0)) = w4 at *
  have hr4 := hr3.quiet u4
  have hst := stream_ab
  refine Ok.use (hr4.append aw_dims DS.new_cnt q4 ab_rngL (by omega)) ?_
  rintro v w5 ⟨rfl, D5, d5, hr5, hc5, ht5, hh5⟩
  have ea : afterP [] ⟨false, [ab, []]⟩ ((3 - 1) * 16) = ([ab, []], 0) := by
    unfold afterP
    rw [if_neg (by decide), List.nil_append, if_neg (by rw [hst]; omega)]
  rw [ea] at hr5 hh5 ⊢
  dsimp only at hr5 hh5 ⊢
  simp (config := { maxSteps := 3000000 }) (disch := omega) only [push_cast, Nat.reduceBEq, Nat.reduceEqDiff, Nat.reduceAdd, Nat.reduceMul, Nat.reduceSub, Nat.reduceLT, Int.reduceToNat, Int.reduceLT, Int.reduceLE, Int.reduceEq, Int.reduceAdd, Int.reduceSub, Int.reduceNeg, Int.reduceMul]
  refine Ok.use (hr5.left aw_dims) ?_
  rintro v w6 ⟨rfl, hu6⟩
  rw [hst, show leftI ((3 - 1) * 16 - 4) = 27 from left28]
  have hr6 := hr5.quiet hu6
  simp (config := { maxSteps := 3000000 }) (disch := omega) only [push_cast, Nat.reduceBEq, Nat.reduceEqDiff, Nat.reduceAdd, Nat.reduceMul, Nat.reduceSub, Nat.reduceLT, Int.reduceToNat, Int.reduceLT, Int.reduceLE, Int.reduceEq, Int.reduceAdd, Int.reduceSub, Int.reduceNeg, Int.reduceMul]
  refine Ok.use (hr6.records aw_dims) ?_
  rintro v w7 ⟨hrec, hu7⟩
  have hr7 := hr6.quiet hu7
  obtain ⟨ra, rc, rfl, _⟩ := id hrec
  simp (config := { maxSteps := 3000000 }) (disch := omega) only [push_cast, Nat.reduceBEq, Nat.reduceEqDiff, Nat.reduceAdd, Nat.reduceMul, Nat.reduceSub, Nat.reduceLT, Int.reduceToNat, Int.reduceLT, Int.reduceLE, Int.reduceEq, Int.reduceAdd, Int.reduceSub, Int.reduceNeg, Int.reduceMul]
  obtain ⟨q8, u8⟩ := lit_ab (w := w7) (F := fun _ => False) (fun _ h => h.elim)
  unfold litW at q8 u8
  generalize ((w7.alloc (.cells #[.int .u8 97, .int .u8 98] 5 (2, 2 + 1))).alloc (.cells #[] 5 (0, 0))).alloc (.cells #[.slice (some ⟨w7.heap.size, 0, none⟩) 2 2, .slice (some ⟨w7.heap.size + 1, 0, none⟩) 0 0] 46 (0, 0)) = w8 at *
  have hr8 := hr7.quiet u8
  refine Ok.use (Same_ok (hrec.go (F' := fun _ => False) u8 fun b _ h => h.elim False.elim False.elim) q8 ab_rngL ab_rngL (by simp)) ?_
  rintro v w9 ⟨rfl, hu9⟩
  rw [decide_eq_true rfl]
  have hr9 := hr8.quiet hu9
  simp (config := { maxSteps := 3000000 }) (disch := omega) only [push_cast, Nat.reduceBEq, Nat.reduceEqDiff, Nat.reduceAdd, Nat.reduceMul, Nat.reduceSub, Nat.reduceLT, Int.reduceToNat, Int.reduceLT, Int.reduceLE, Int.reduceEq, Int.reduceAdd, Int.reduceSub, Int.reduceNeg, Int.reduceMul]
  refine Ok.use (read_ok hr9.jw.disk (by rw [hr9.good.sz.size]; omega) (by show d5.cache.length < 1000000000; have := hr9.good.sz.few; omega) 0) ?_
  rintro v w10 ⟨u0, rfl, hres, hu10⟩
  have hr10 := hr9.quiet hu10
  have hrd : d5.read 0 = (some (d5.content 0), 0) := by
    unfold DS.read
    rw [if_pos ⟨by omega, by rw [hr9.good.sz.dur]; omega⟩, if_neg (by rw [hr9.good.off]; decide)]
    rfl
  have hhead : d5.content 0 = pad 16 (headL 4) := by
    rw [content_nil hr9.good.cache]
    rcases hh5 with ⟨_, h⟩ | h
    · cases h
    · rw [hst] at h; exact h
  rw [hrd] at hres ⊢
  rw [hhead] at hres
  obtain ⟨hb, rfl, _, hblk⟩ := hres
  have hhl := headL_le (k := 4) (by omega)
  unfold CV
  simp (config := { maxSteps := 3000000 }) (disch := omega) only [push_cast, Nat.reduceBEq, Nat.reduceEqDiff, Nat.reduceAdd, Nat.reduceMul, Nat.reduceSub, Nat.reduceLT, Int.reduceToNat, Int.reduceLT, Int.reduceLE, Int.reduceEq, Int.reduceAdd, Int.reduceSub, Int.reduceNeg, Int.reduceMul]
  have hsl10 : SlB w10.drew (fun _ => False) (.slice (some ⟨hb, 0, none⟩) (pad 16 (headL 4)).length (pad 16 (headL 4)).length) (pad 16 (headL 4)) := slb_new hblk.drew (fun h => h)
  simp (config := { maxSteps := 3000000 }) (disch := omega) only [push_cast, Nat.reduceBEq, Nat.reduceEqDiff, Nat.reduceAdd, Nat.reduceMul, Nat.reduceSub, Nat.reduceLT, Int.reduceToNat, Int.reduceLT, Int.reduceLE, Int.reduceEq, Int.reduceAdd, Int.reduceSub, Int.reduceNeg, Int.reduceMul, cnv_str hsl10]
  refine Ok.use (rHead_ok (size := 16) (n := 4) (by omega) (by omega) (by omega)) ?_
  rintro v w11 ⟨hown, _, hu11⟩
  obtain ⟨ha, hc, rfl, _⟩ := hown.form
  have hsl11 := slb_alloc hsl10 hu11
  have hsl11b : SlB w11 (fun _ => False) (.slice ha (pad 16 (headL 4)).length hc) (pad 16 (headL 4)) := hown.slb fun _ _ h => h
  have hr11 := hr10.quiet ((Upd.drew (F := fun _ => False)).trans hu11 (fun _ _ h => h))
  have hpr : Rng (pad 16 (headL 4)) := headL_rng.pad
  have hse := str_eq hpr hpr
  rw [decide_eq_true rfl] at hse
  simp (config := { maxSteps := 3000000 }) (disch := omega) only [push_cast, Nat.reduceBEq, Nat.reduceEqDiff, Nat.reduceAdd, Nat.reduceMul, Nat.reduceSub, Nat.reduceLT, Int.reduceToNat, Int.reduceLT, Int.reduceLE, Int.reduceEq, Int.reduceAdd, Int.reduceSub, Int.reduceNeg, Int.reduceMul, cnv_str hsl10, cnv_str hsl11, cnv_str hsl11b, hse]
  have h28 : ((by8 (List.replicate 28 0)).toArray : Array Value) = (List.replicate 28 (Value.int .u8 0)).toArray := by rw [by8_zeros]
  have hF11 := hr11.lt
  have p1 : SlB (w11.alloc (.cells (by8 (List.replicate 28 0)).toArray 5 (0, 0))) (FF D5 fun b => b = jb) (.slice (some ⟨w11.heap.size, 0, none⟩) (List.replicate 28 (0 : Int)).length 28) (List.replicate 28 0) := slb_mark fun h => by have := hF11 _ h; omega
  have p2 := slr_one p1 (fun h => by have := hF11 _ h; rw [size_alloc] at this; omega)
  have u12 : Upd (fun _ => False) w11 ((w11.alloc (.cells (by8 (List.replicate 28 0)).toArray 5 (0, 0))).alloc (.cells [.slice (some ⟨w11.heap.size, 0, none⟩) (List.replicate 28 (0 : Int)).length 28].toArray 46 (0, 0))) := (Upd.alloc (F := fun _ => False)).alloc'
  rw [size_alloc, h28] at p2
  rw [h28] at u12
  have hr12 := hr11.quiet u12
  have hst28 : (stream [List.replicate 28 (0 : Int)]).length = 29 := by
    rw [stream_cons, stream_nil, encB, List.length_replicate, encU_small (by omega)]
    simp
  have r28 : RngL [List.replicate 28 (0 : Int)] := by
    intro l hl
    rw [List.mem_singleton] at hl
    rw [hl]
    exact Rng.zeros
  refine Ok.use (hr12.append aw_dims hc5 p2 r28 (by omega)) ?_
  rintro v w13 ⟨rfl, D13, d13, hr13, hc13, ht13, _⟩
  have ea2 : afterP [ab, []] ⟨false, [List.replicate 28 (0 : Int)]⟩ ((3 - 1) * 16) = ([ab, []], 7) := by
    unfold afterP
    rw [if_neg (by decide), if_pos (by show (3 - 1) * 16 < (stream ([ab, []] ++ [List.replicate 28 (0 : Int)])).length; rw [stream_append, List.length_append, hst, hst28]; omega)]
  rw [ea2] at hr13 ⊢
  dsimp only at hr13 ⊢
  simp (config := { maxSteps := 3000000 }) (disch := omega) only [push_cast, Nat.reduceBEq, Nat.reduceEqDiff, Nat.reduceAdd, Nat.reduceMul, Nat.reduceSub, Nat.reduceLT, Int.reduceToNat, Int.reduceLT, Int.reduceLE, Int.reduceEq, Int.reduceAdd, Int.reduceSub, Int.reduceNeg, Int.reduceMul]
  refine Ok.use (hr13.reset aw_dims hc13) ?_
  rintro v w14 ⟨rfl, D14, d14, hr14, hc14, ht14⟩
  simp (config := { maxSteps := 3000000 }) (disch := omega) only [push_cast, Nat.reduceBEq, Nat.reduceEqDiff, Nat.reduceAdd, Nat.reduceMul, Nat.reduceSub, Nat.reduceLT, Int.reduceToNat, Int.reduceLT, Int.reduceLE, Int.reduceEq, Int.reduceAdd, Int.reduceSub, Int.reduceNeg, Int.reduceMul]
  refine Ok.use (hr14.records aw_dims) ?_
  rintro v w15 ⟨hrec, hu15⟩
  have hr15 := hr14.quiet hu15
  obtain ⟨ra15, rc15, rfl, _⟩ := id hrec
  rw [show ([] : List (List Int)).length = 0 from rfl]
  simp (config := { maxSteps := 3000000 }) (disch := omega) only [push_cast, Nat.reduceBEq, Nat.reduceEqDiff, Nat.reduceAdd, Nat.reduceMul, Nat.reduceSub, Nat.reduceLT, Int.reduceToNat, Int.reduceLT, Int.reduceLE, Int.reduceEq, Int.reduceAdd, Int.reduceSub, Int.reduceNeg, Int.reduceMul]
  refine Ok.use (hr15.left aw_dims) ?_
  rintro v w16 ⟨rfl, hu16⟩
  rw [show leftI ((3 - 1) * 16 - (stream []).length) = 31 from by rw [stream_nil]; exact left32]
  have hr16 := hr15.quiet hu16
  simp (config := { maxSteps := 3000000 }) (disch := omega) only [push_cast, Nat.reduceBEq, Nat.reduceEqDiff, Nat.reduceAdd, Nat.reduceMul, Nat.reduceSub, Nat.reduceLT, Int.reduceToNat, Int.reduceLT, Int.reduceLE, Int.reduceEq, Int.reduceAdd, Int.reduceSub, Int.reduceNeg, Int.reduceMul]
  refine Ok.use hr16.down ?_
  rintro v w17 ⟨rfl, rfl⟩
  simp (config := { maxSteps := 3000000 }) (disch := omega) only [push_cast, Nat.reduceBEq, Nat.reduceEqDiff, Nat.reduceAdd, Nat.reduceMul, Nat.reduceSub, Nat.reduceLT, Int.reduceToNat, Int.reduceLT, Int.reduceLE, Int.reduceEq, Int.reduceAdd, Int.reduceSub, Int.reduceNeg, Int.reduceMul]
  first | exact hr16.upd | exact hr16.upd.drew' | exact hr16.upd.drew'.drew'
end Go.Proofs.Ytlnladcfgieggaa.Fd
