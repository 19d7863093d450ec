/-
  The law JournalDown, as a reading.
-/
import Derived.Test.YtlnladcfgieggaaJnZ
namespace Go.Proofs.Ytlnladcfgieggaa.Fd
set_option linter.unusedSimpArgs false
set_option linter.unusedVariables false
open Go Go.ChangeMaps Go.ChangeShapes Go.WideShapes
set_option maxRecDepth 100000

/-- An operation that is passed by value. -/
def OpP (w : World) (v : Value) (x : OpJ) : Prop := ∃ ua un uc, v = .agg #[.bool x.reset, .slice ua un uc] ∧ SlR w (fun b => w.heap.size ≤ b) (.slice ua un uc) x.recs ∧ RngL x.recs
theorem open_opJ {H : Type} {enc : TypeId × Value → H} {w : World} {v : Value} {r : Reach} {b0 : Nat} {d : DataW H} {ps : List MemPlace} (hval : Value.okWide Try.prog w r b0 38 v) (h : DataW.Trod enc Try.prog w 0 (fun _ => true) true 38 v d ps) : ∃ x, OpP w v x := by
  obtain ⟨v0, v1, y0, y1, n, rfl, _, _, t0, t1⟩ := Go.Joins.open_agg2 Try.underlying38 (by kernel_rfl) (by kernel_rfl) hval h
  obtain ⟨b, g0, _⟩ := DataW.trod_bool Try.underlying4 t0
  have g0 : v0 = _ := (List.cons.inj (show [v0] = _ from g0)).1
  obtain ⟨ls, h1, h2⟩ := rows_at (v := v1) t1
  obtain ⟨ua, uc, rfl, _⟩ := id h1
  exact ⟨⟨b, ls⟩, ua, _, uc, by rw [g0], h1, h2⟩
theorem bsl_op1 (b : Bool) (a : Option Addr) (n c : Nat) (w : World) : bslS Try.prog 22 1 #[(0, .agg #[.bool b, .slice a n c])] w = some (.slice (some ⟨w.heap.size, 0, none⟩) 1 1, w.alloc (.cells [.bool b, .slice a n c].toArray 38 (0, 0))) := by kernel_rfl
attribute [push_cast] bsl_op1
theorem slo_one {w0 w : World} {ua : Option Addr} {un uc : Nat} {x : OpJ} (h : SlR w0 (fun b => w0.heap.size ≤ b) (.slice ua un uc) x.recs) (hr : RngL x.recs) (hu : Upd (fun _ => False) w0 w) : SlO (w.alloc (.cells [.bool x.reset, .slice ua un uc].toArray 38 (0, 0))) (.slice (some ⟨w.heap.size, 0, none⟩) 1 1) [x] := by
  have hs := hu.size
  have hb : Blk (w.alloc (.cells [.bool x.reset, .slice ua un uc].toArray 38 (0, 0))) w.heap.size [.bool x.reset, .slice ua un uc] 38 := Blk.new
  refine ⟨_, 1, rfl, fun _ => ⟨w.heap.size, 0, rfl, by rw [size_alloc]; omega, fun j y hj => ?_⟩⟩
  have hj0 : j = 0 := by have := (List.getElem?_eq_some_iff.1 hj).1; simpa using this
  subst hj0
  simp at hj
  subst hj
  exact ⟨_, hb.cell 0, hb.cell 1, h.go (hu.alloc') fun b hb h => h.elim False.elim fun h => by rw [size_alloc] at h; omega, hr⟩
theorem jready_dead {z : DS × JS} (h : z.2.down = true) : jready z = z := by
  obtain ⟨d, f, a, st, dn⟩ := z
  simp only at h
  subst h
  rfl
theorem jdo_dead {z : DS × JS} (h : z.2.down = true) (x : OpJ) : jdo z x = (z, 8) := by
  have hr := jready_dead h
  unfold jdo jreset jappend
  rw [hr]
  split <;> first | rfl | rw [if_pos h]
theorem SlO.later {w w' : World} {v : Value} {l : List OpJ} (h : SlO w v l) (hu : Upd (fun _ => False) w w') : SlO w' v l := by
  have hs := hu.size
  obtain ⟨a, c, hv, hl⟩ := h
  refine ⟨a, c, hv, fun h0 => ?_⟩
  obtain ⟨b, o, h1, h2, h3⟩ := hl h0
  refine ⟨b, o, h1, by omega, fun j x hj => ?_⟩
  obtain ⟨u, h4, h5, h6, h7⟩ := h3 j x hj
  have hb := hu.block b h2 (fun h => h)
  exact ⟨u, by rw [World.cell?_of_block hb]; exact h4, by rw [World.cell?_of_block hb]; exact h5, h6.go hu fun b hb h => h.elim False.elim fun h => by omega, h7⟩
/-- A journal that is down, on a disk in whatever state. -/
structure Gone (w0 w : World) (D J : Nat → Prop) (p jb n f c s : Nat) (d : DS) (la : List (List Int)) : Prop where
  jw : JW w D J p jb (d, { jsOf f c s la with down := true })
  sz : Sz n s 60000 d
  fit : (stream la).length ≤ (c - 1) * s
  rl : RngL la
  upd : Upd (fun _ => False) w0 w
  new : ∀ b, FF D J b → w0.heap.size ≤ b
theorem Gone.quiet {w0 w w' : World} {D J : Nat → Prop} {p jb n f c s : Nat} {d : DS} {la : List (List Int)} (h : Gone w0 w D J p jb n f c s d la) (hu : Upd (fun _ => False) w w') : Gone w0 w' D J p jb n f c s d la :=
  ⟨h.jw.quiet hu, h.sz, h.fit, h.rl, h.upd.trans hu (fun _ _ h => h), h.new⟩
theorem Gone.do {w0 w : World} {D J : Nat → Prop} {p jb n f c s : Nat} {d : DS} {la : List (List Int)} (h : Gone w0 w D J p jb n f c s d la) (hd : Dims n f c s) {x : OpJ} {ua : Option Addr} {un uc : Nat} (hy : SlR w (FF D J) (.slice ua un uc) x.recs) (hr : RngL x.recs) (hrl : (stream x.recs).length ≤ 50000) :
    Ok (den Try.prog 17 #[.pointer (some ⟨jb, 0, none⟩), .agg #[.bool x.reset, .slice ua un uc]] w) fun u w' => u = .int .i64 8 ∧ ∃ D', Gone w0 w' D' J p jb n f c s d la ∧ JT w w' D D' jb := by
  have hfc := hd.fc
  have hn1 := hd.n1
  have ho := do_ok h.jw h.sz (by omega) hd.s1 hd.s2 (by show f ≤ 100000; omega) h.fit hd.area hy hr hrl
  refine Ok.mono ho ?_
  rintro u w' ⟨rfl, D', hw, ht⟩
  rw [jdo_dead rfl] at hw ⊢
  obtain ⟨g1, g2⟩ := new_step h.upd h.new ht h.jw.jj
  exact ⟨rfl, D', ⟨hw, h.sz, h.fit, h.rl, g1, g2⟩, ht⟩
theorem Gone.left {w0 w : World} {D J : Nat → Prop} {p jb n f c s : Nat} {d : DS} {la : List (List Int)} (h : Gone w0 w D J p jb n f c s d la) (hd : Dims n f c s) :
    Ok (den Try.prog 20 #[.pointer (some ⟨jb, 0, none⟩)] w) fun u w' => u = .int .i64 (-1) ∧ Upd (fun _ => False) w w' := Left_ok h.jw h.fit (Nat.le_trans hd.area (by omega))
theorem Gone.down {w0 w : World} {D J : Nat → Prop} {p jb n f c s : Nat} {d : DS} {la : List (List Int)} (h : Gone w0 w D J p jb n f c s d la) :
    Ok (den Try.prog 22 #[.pointer (some ⟨jb, 0, none⟩)] w) fun u w' => u = .bool true ∧ w = w' := Down1_ok h.jw
theorem Gone.records {w0 w : World} {D J : Nat → Prop} {p jb n f c s : Nat} {d : DS} {la : List (List Int)} (h : Gone w0 w D J p jb n f c s d la) (hd : Dims n f c s) :
    Ok (den Try.prog 19 #[.pointer (some ⟨jb, 0, none⟩)] w) fun u w' => SlR w' (fun b => b < w.heap.size) u la ∧ Upd (fun _ => False) w w' := by
  have hf := h.fit
  have ha := hd.area
  have := Records_ok h.jw (by show (stream la).length ≤ 100000; omega)
  rw [show ((d, { jsOf f c s la with down := true }) : DS × JS).2.stream = stream la from rfl, spl_stream (lens64 h.fit ha)] at this
  exact this
set_option maxHeartbeats 8000000 in
theorem journalDown_ok {w : World} {x y z : Nat} (hx : x < 256) (hy : y < 256) (hz : z < 256) {v vk vm : Value} {ops : List OpJ} (hv : SlO w v ops) {keep : List Bool} (hk : SlT w (fun b => w.heap.size ≤ b) vk keep) {o : OpJ} (hm : OpP w vm o) :
    Ok (den Try.prog 10 #[.int .u8 (x : Int), .int .u8 (y : Int), v, .int .u8 (z : Int), vk, vm] w) fun u w' => u = .bool true ∧ Upd (fun _ => False) w w' := by
  have t := fun {a b c : World} (x : Upd (fun _ => False) a b) (y : Upd (fun _ => False) b c) => x.trans y (F := fun _ => False) (fun _ _ h => h)
  obtain ⟨va, vc, rfl⟩ := hv.form
  obtain ⟨ka, kc, rfl⟩ := hk.form
  obtain ⟨ua, un, uc, rfl, ho, hro⟩ := hm
  refine den_ok (args := [.int .u8 (x : Int), .int .u8 (y : Int), .slice va ops.length vc, .int .u8 (z : Int), .slice ka keep.length kc, .agg #[.bool o.reset, .slice ua un uc]]) rs10 Try.func10 rfl mixed in10 ok10 rfl ?_
  simp (config := { maxSteps := 3000000 }) (disch := omega) only [push_cast, Nat.reduceBEq, Nat.reduceEqDiff, Nat.reduceAdd, Nat.reduceMul, Nat.reduceSub, Nat.reduceLT, Int.reduceToNat, Int.reduceLT, Int.reduceLE, Int.reduceEq, Int.reduceAdd, Int.reduceSub, Int.reduceNeg, Int.reduceMul]
  have hu00 : Upd (fun _ => False) w (w.alloc (.cells #[.bool o.reset, .slice ua un uc] 38 (0, 0))) := Upd.alloc
  have hb00 : Blk (w.alloc (.cells #[.bool o.reset, .slice ua un uc] 38 (0, 0))) w.heap.size [.bool o.reset, .slice ua un uc] 38 := Blk.new (cs := [.bool o.reset, .slice ua un uc])
  have hs00 := hu00.size
  have hv := hv.later hu00
  have hk := hk.to (F := fun b => (w.alloc (.cells #[.bool o.reset, .slice ua un uc] 38 (0, 0))).heap.size ≤ b) hu00 fun b hb => by omega
  have ho := ho.go (F' := fun b => (w.alloc (.cells #[.bool o.reset, .slice ua un uc] 38 (0, 0))).heap.size ≤ b) hu00 fun b hb h => h.elim False.elim fun h => by omega
  generalize hwA : w.alloc (.cells #[.bool o.reset, .slice ua un uc] 38 (0, 0)) = wA at *
  have hbc : ∀ {w' : World}, Upd (fun _ => False) wA w' → Blk w' w.heap.size [.bool o.reset, .slice ua un uc] 38 := fun hu => hb00.upd hu (fun h => h)
  refine Ok.use (Few_ok hv Upd.refl) ?_
  rintro v w1 ⟨⟨q, rfl, hq⟩, hu1⟩
  cases q
  · simp (config := { maxSteps := 3000000 }) (disch := omega) only [push_cast, Nat.reduceBEq, Nat.reduceEqDiff, Nat.reduceAdd, Nat.reduceMul, Nat.reduceSub, Nat.reduceLT, Int.reduceToNat, Int.reduceLT, Int.reduceLE, Int.reduceEq, Int.reduceAdd, Int.reduceSub, Int.reduceNeg, Int.reduceMul]
    refine Ok.use awake_ok ?_
    rintro v w2 ⟨rfl, hu2⟩
    simp (config := { maxSteps := 3000000 }) (disch := omega) only [push_cast, Nat.reduceBEq, Nat.reduceEqDiff, Nat.reduceAdd, Nat.reduceMul, Nat.reduceSub, Nat.reduceLT, Int.reduceToNat, Int.reduceLT, Int.reduceLE, Int.reduceEq, Int.reduceAdd, Int.reduceSub, Int.reduceNeg, Int.reduceMul]
    exact t hu00 (t hu1 hu2)
  have hfew := hq.1 rfl
  have hb1 := hbc hu1
  simp (config := { maxSteps := 3000000 }) (disch := omega) only [push_cast, Nat.reduceBEq, Nat.reduceEqDiff, Nat.reduceAdd, Nat.reduceMul, Nat.reduceSub, Nat.reduceLT, Int.reduceToNat, Int.reduceLT, Int.reduceLE, Int.reduceEq, Int.reduceAdd, Int.reduceSub, Int.reduceNeg, Int.reduceMul, hb1.cell]
  have hso := slo_one ho hro hu1
  have hu1a : Upd (fun _ => False) wA (w1.alloc (.cells [.bool o.reset, .slice ua un uc].toArray 38 (0, 0))) := hu1.alloc'
  refine Ok.use (Few_ok hso Upd.refl) ?_
  rintro v w1b ⟨⟨q2, rfl, hq2⟩, hu1b⟩
  have hu1 := t hu1a hu1b
  cases q2
  · simp (config := { maxSteps := 3000000 }) (disch := omega) only [push_cast, Nat.reduceBEq, Nat.reduceEqDiff, Nat.reduceAdd, Nat.reduceMul, Nat.reduceSub, Nat.reduceLT, Int.reduceToNat, Int.reduceLT, Int.reduceLE, Int.reduceEq, Int.reduceAdd, Int.reduceSub, Int.reduceNeg, Int.reduceMul]
    refine Ok.use awake_ok ?_
    rintro v w2 ⟨rfl, hu2⟩
    simp (config := { maxSteps := 3000000 }) (disch := omega) only [push_cast, Nat.reduceBEq, Nat.reduceEqDiff, Nat.reduceAdd, Nat.reduceMul, Nat.reduceSub, Nat.reduceLT, Int.reduceToNat, Int.reduceLT, Int.reduceLE, Int.reduceEq, Int.reduceAdd, Int.reduceSub, Int.reduceNeg, Int.reduceMul]
    exact t hu00 (t hu1 hu2)
  have hfo := (hq2.1 rfl).len (x := o) (by simp)
  by_cases hk100 : 100 < keep.length
  · have hk100' : (100 : Int) < keep.length := by omega
    simp (config := { maxSteps := 3000000 }) (disch := omega) only [push_cast, Nat.reduceBEq, Nat.reduceEqDiff, Nat.reduceAdd, Nat.reduceMul, Nat.reduceSub, Nat.reduceLT, Int.reduceToNat, Int.reduceLT, Int.reduceLE, Int.reduceEq, Int.reduceAdd, Int.reduceSub, Int.reduceNeg, Int.reduceMul]
    refine Ok.use awake_ok ?_
    rintro v w2 ⟨rfl, hu2⟩
    simp (config := { maxSteps := 3000000 }) (disch := omega) only [push_cast, Nat.reduceBEq, Nat.reduceEqDiff, Nat.reduceAdd, Nat.reduceMul, Nat.reduceSub, Nat.reduceLT, Int.reduceToNat, Int.reduceLT, Int.reduceLE, Int.reduceEq, Int.reduceAdd, Int.reduceSub, Int.reduceNeg, Int.reduceMul]
    exact t hu00 (t hu1 hu2)
  have hk100' : ¬ (100 : Int) < keep.length := by omega
  simp (config := { maxSteps := 3000000 }) (disch := omega) only [push_cast, Nat.reduceBEq, Nat.reduceEqDiff, Nat.reduceAdd, Nat.reduceMul, Nat.reduceSub, Nat.reduceLT, Int.reduceToNat, Int.reduceLT, Int.reduceLE, Int.reduceEq, Int.reduceAdd, Int.reduceSub, Int.reduceNeg, Int.reduceMul]
  refine Ok.use (shape_small hx hy) ?_
  rintro v w2 ⟨n, s, A, rfl, hS, hu2⟩
  have hdims := hS.dims
  have hA := hS.area
  have em := hS.mul
  obtain ⟨n1, n2, s1, s2, _, _, _, a1⟩ := hS
  simp (config := { maxSteps := 3000000 }) (disch := omega) only [push_cast, Nat.reduceBEq, Nat.reduceEqDiff, Nat.reduceAdd, Nat.reduceMul, Nat.reduceSub, Nat.reduceLT, Int.reduceToNat, Int.reduceLT, Int.reduceLE, Int.reduceEq, Int.reduceAdd, Int.reduceSub, Int.reduceNeg, Int.reduceMul]
  refine Ok.use (new_run (by omega) (by omega) s1 (by omega) (t hu1 hu2)) ?_
  rintro v w3 ⟨p, D, rfl, hd3, hu3, hD⟩
  simp (config := { maxSteps := 3000000 }) (disch := omega) only [push_cast, Nat.reduceBEq, Nat.reduceEqDiff, Nat.reduceAdd, Nat.reduceMul, Nat.reduceSub, Nat.reduceLT, Int.reduceToNat, Int.reduceLT, Int.reduceLE, Int.reduceEq, Int.reduceAdd, Int.reduceSub, Int.reduceNeg, Int.reduceMul]
  refine Ok.use (open_run (f := 0) (c := n) hd3 (GoodD.new hdims) hdims (t (t hu1 hu2) hu3) hD) ?_
  rintro v w4 ⟨jb, rfl, hr4, hu4, hjb⟩
  have ez : IntKind.i64.wrap (z : Int) = (z : Int) := by rw [IntKind.wrap_i64]; omega
  simp (config := { maxSteps := 3000000 }) (disch := omega) only [push_cast, Nat.reduceBEq, Nat.reduceEqDiff, Nat.reduceAdd, Nat.reduceMul, Nat.reduceSub, Nat.reduceLT, Int.reduceToNat, Int.reduceLT, Int.reduceLE, Int.reduceEq, Int.reduceAdd, Int.reduceSub, Int.reduceNeg, Int.reduceMul, ez]
  refine Ok.use (hr4.fail (k := (z : Int)) (by omega)) ?_
  rintro v w5 ⟨D5, hr5, ht5⟩
  generalize (DS.new n s).fail (z : Int) = d5 at *
  have hu6 : Upd (fun _ => False) w5 (w5.alloc (.cells #[] 46 (0, 0))) := Upd.alloc
  have hr6 := hr5.quiet hu6
  simp (config := { maxSteps := 3000000 }) (disch := omega) only [push_cast, Nat.reduceBEq, Nat.reduceEqDiff, Nat.reduceAdd, Nat.reduceMul, Nat.reduceSub, Nat.reduceLT, Int.reduceToNat, Int.reduceLT, Int.reduceLE, Int.reduceEq, Int.reduceAdd, Int.reduceSub, Int.reduceNeg, Int.reduceMul, em]
  refine Ok.use (run_ok hr6 hdims hv hfew (lv := .slice (some ⟨w5.heap.size, 0, none⟩) 0 0) .nil hA) ?_
  rintro v w7 ⟨u0, u1, kk, rfl, hR⟩
  obtain ⟨D7, d7, la, lb, g0, g1, ra, rb, fa, fb, ht7, hcase⟩ := hR
  rcases hcase with ⟨hr7, _⟩ | hdd
  · simp (config := { maxSteps := 3000000 }) (disch := omega) only [push_cast, Nat.reduceBEq, Nat.reduceEqDiff, Nat.reduceAdd, Nat.reduceMul, Nat.reduceSub, Nat.reduceLT, Int.reduceToNat, Int.reduceLT, Int.reduceLE, Int.reduceEq, Int.reduceAdd, Int.reduceSub, Int.reduceNeg, Int.reduceMul, em]
    refine Ok.use hr7.down ?_
    rintro v w8 ⟨rfl, rfl⟩
    simp (config := { maxSteps := 3000000 }) (disch := omega) only [push_cast, Nat.reduceBEq, Nat.reduceEqDiff, Nat.reduceAdd, Nat.reduceMul, Nat.reduceSub, Nat.reduceLT, Int.reduceToNat, Int.reduceLT, Int.reduceLE, Int.reduceEq, Int.reduceAdd, Int.reduceSub, Int.reduceNeg, Int.reduceMul, em]
    refine Ok.use awake_ok ?_
    rintro v w9 ⟨rfl, hu9⟩
    have hr9 := hr7.quiet hu9
    simp (config := { maxSteps := 3000000 }) (disch := omega) only [push_cast, Nat.reduceBEq, Nat.reduceEqDiff, Nat.reduceAdd, Nat.reduceMul, Nat.reduceSub, Nat.reduceLT, Int.reduceToNat, Int.reduceLT, Int.reduceLE, Int.reduceEq, Int.reduceAdd, Int.reduceSub, Int.reduceNeg, Int.reduceMul, em]
    refine Ok.use (Down_ok hr9.jw.disk) ?_
    rintro v w10 ⟨rfl, rfl⟩
    rw [show ((d7, jsOf 0 n s la) : DS × JS).1.off = false from hr9.good.off]
    simp (config := { maxSteps := 3000000 }) (disch := omega) only [push_cast, Nat.reduceBEq, Nat.reduceEqDiff, Nat.reduceAdd, Nat.reduceMul, Nat.reduceSub, Nat.reduceLT, Int.reduceToNat, Int.reduceLT, Int.reduceLE, Int.reduceEq, Int.reduceAdd, Int.reduceSub, Int.reduceNeg, Int.reduceMul, em]
    exact t hu00 hr9.upd
  have hG7 : Gone wA w7 D7 (fun b => b = jb) p jb n 0 n s d7 la := ⟨hdd.jw, hdd.bad.sz, hdd.fit, hdd.rl, hdd.upd, hdd.new⟩
  have hoff : d7.off = true := hdd.bad.off
  have hrg := hdd.bad.rng
  clear hdd hr6 hr5 hr4 hd3
  simp (config := { maxSteps := 3000000 }) (disch := omega) only [push_cast, Nat.reduceBEq, Nat.reduceEqDiff, Nat.reduceAdd, Nat.reduceMul, Nat.reduceSub, Nat.reduceLT, Int.reduceToNat, Int.reduceLT, Int.reduceLE, Int.reduceEq, Int.reduceAdd, Int.reduceSub, Int.reduceNeg, Int.reduceMul, em]
  refine Ok.use hG7.down ?_
  rintro v w8 ⟨rfl, rfl⟩
  have hold : ∀ {w' : World} {D' : Nat → Prop} {d' : DS}, Gone wA w' D' (fun b => b = jb) p jb n 0 n s d' la → SlR w' (FF D' fun b => b = jb) (.slice ua un uc) o.recs := fun hG => ho.go hG.upd fun b hb h => h.elim False.elim fun h => hG.new b h
  have hb8 := hbc hG7.upd
  simp (config := { maxSteps := 3000000 }) (disch := omega) only [push_cast, Nat.reduceBEq, Nat.reduceEqDiff, Nat.reduceAdd, Nat.reduceMul, Nat.reduceSub, Nat.reduceLT, Int.reduceToNat, Int.reduceLT, Int.reduceLE, Int.reduceEq, Int.reduceAdd, Int.reduceSub, Int.reduceNeg, Int.reduceMul, em, hb8.cell]
  refine Ok.use (hG7.do hdims (hold hG7) hro (by omega)) ?_
  rintro v w9 ⟨rfl, D9, hG9, ht9⟩
  have g0 := ht9.slr (J := fun b => b = jb) rfl g0
  simp (config := { maxSteps := 3000000 }) (disch := omega) only [push_cast, Nat.reduceBEq, Nat.reduceEqDiff, Nat.reduceAdd, Nat.reduceMul, Nat.reduceSub, Nat.reduceLT, Int.reduceToNat, Int.reduceLT, Int.reduceLE, Int.reduceEq, Int.reduceAdd, Int.reduceSub, Int.reduceNeg, Int.reduceMul, em]
  refine Ok.use (hG9.left hdims) ?_
  rintro v w10 ⟨rfl, hu10⟩
  have hG10 := hG9.quiet hu10
  have g0 := g0.go (F' := FF D9 fun b => b = jb) hu10 fun b _ h => h.elim False.elim id
  simp (config := { maxSteps := 3000000 }) (disch := omega) only [push_cast, Nat.reduceBEq, Nat.reduceEqDiff, Nat.reduceAdd, Nat.reduceMul, Nat.reduceSub, Nat.reduceLT, Int.reduceToNat, Int.reduceLT, Int.reduceLE, Int.reduceEq, Int.reduceAdd, Int.reduceSub, Int.reduceNeg, Int.reduceMul, em]
  have hop := open_ok hG10.jw.disk (f := 0) (c := n) hG10.sz (by omega) hdims.s1 hdims.s2 hrg hdims.n1 hdims.c1 hdims.fc hdims.ar
  have hje : jopen d7 0 n = (none, 8) := by unfold jopen; rw [if_pos hoff]
  rw [show ((d7, { jsOf 0 n s la with down := true }) : DS × JS).1 = d7 from rfl, hje] at hop
  refine Ok.use hop ?_
  rintro v w11 ⟨hv11, hu11⟩
  have hv11 : v = .tuple #[.pointer none, .int .i64 8] := hv11
  subst hv11
  have hG11 := hG10.quiet hu11
  have g0 := g0.go (F' := FF D9 fun b => b = jb) hu11 fun b _ h => h.elim False.elim id
  simp (config := { maxSteps := 3000000 }) (disch := omega) only [push_cast, Nat.reduceBEq, Nat.reduceEqDiff, Nat.reduceAdd, Nat.reduceMul, Nat.reduceSub, Nat.reduceLT, Int.reduceToNat, Int.reduceLT, Int.reduceLE, Int.reduceEq, Int.reduceAdd, Int.reduceSub, Int.reduceNeg, Int.reduceMul, em]
  refine Ok.use (crash_ok hG11.jw.disk (by have := hG11.sz.few; show d7.cache.length < 1000000000; omega) (hk.to hG11.upd fun b hb => hG11.new b (.inl hb))) ?_
  rintro u w12 ⟨h1, h2⟩
  have ht12 : JT w11 w12 D9 (gr D9 w11 w12) jb := JT.disk h2
  obtain ⟨q1, q2⟩ := new_step hG11.upd hG11.new ht12 hG11.jw.jj
  have hG12 : Gone wA w12 (gr D9 w11 w12) (fun b => b = jb) p jb n 0 n s (d7.crash keep) la := ⟨hG11.jw.disked h1 ht12 h2, (hG11.sz.crash keep).mono (by omega), hG11.fit, hG11.rl, q1, q2⟩
  have g0 := ht12.slr (J := fun b => b = jb) rfl g0
  have hcr : (d7.crash keep).cache = [] := rfl
  generalize gr D9 w11 w12 = D12 at *
  generalize d7.crash keep = d12 at *
  simp (config := { maxSteps := 3000000 }) (disch := omega) only [push_cast, Nat.reduceBEq, Nat.reduceEqDiff, Nat.reduceAdd, Nat.reduceMul, Nat.reduceSub, Nat.reduceLT, Int.reduceToNat, Int.reduceLT, Int.reduceLE, Int.reduceEq, Int.reduceAdd, Int.reduceSub, Int.reduceNeg, Int.reduceMul, em]
  refine Ok.use awake_ok ?_
  rintro v w13 ⟨rfl, hu13⟩
  have hG13 := hG12.quiet hu13
  have g0 := g0.go (F' := FF D12 fun b => b = jb) hu13 fun b _ h => h.elim False.elim id
  have hb13 := hbc hG13.upd
  simp (config := { maxSteps := 3000000 }) (disch := omega) only [push_cast, Nat.reduceBEq, Nat.reduceEqDiff, Nat.reduceAdd, Nat.reduceMul, Nat.reduceSub, Nat.reduceLT, Int.reduceToNat, Int.reduceLT, Int.reduceLE, Int.reduceEq, Int.reduceAdd, Int.reduceSub, Int.reduceNeg, Int.reduceMul, em, hb13.cell]
  refine Ok.use (hG13.do hdims (hold hG13) hro (by omega)) ?_
  rintro v w14 ⟨rfl, D14, hG14, ht14⟩
  have g0 := ht14.slr (J := fun b => b = jb) rfl g0
  simp (config := { maxSteps := 3000000 }) (disch := omega) only [push_cast, Nat.reduceBEq, Nat.reduceEqDiff, Nat.reduceAdd, Nat.reduceMul, Nat.reduceSub, Nat.reduceLT, Int.reduceToNat, Int.reduceLT, Int.reduceLE, Int.reduceEq, Int.reduceAdd, Int.reduceSub, Int.reduceNeg, Int.reduceMul, em]
  refine Ok.use hG14.down ?_
  rintro v w15 ⟨rfl, rfl⟩
  simp (config := { maxSteps := 3000000 }) (disch := omega) only [push_cast, Nat.reduceBEq, Nat.reduceEqDiff, Nat.reduceAdd, Nat.reduceMul, Nat.reduceSub, Nat.reduceLT, Int.reduceToNat, Int.reduceLT, Int.reduceLE, Int.reduceEq, Int.reduceAdd, Int.reduceSub, Int.reduceNeg, Int.reduceMul, em]
  refine Ok.use (hG14.left hdims) ?_
  rintro v w16 ⟨rfl, hu16⟩
  have hG16 := hG14.quiet hu16
  have g0 := g0.go (F' := FF D14 fun b => b = jb) hu16 fun b _ h => h.elim False.elim id
  simp (config := { maxSteps := 3000000 }) (disch := omega) only [push_cast, Nat.reduceBEq, Nat.reduceEqDiff, Nat.reduceAdd, Nat.reduceMul, Nat.reduceSub, Nat.reduceLT, Int.reduceToNat, Int.reduceLT, Int.reduceLE, Int.reduceEq, Int.reduceAdd, Int.reduceSub, Int.reduceNeg, Int.reduceMul, em]
  refine Ok.use (hG16.records hdims) ?_
  rintro v w17 ⟨hrec, hu17⟩
  have hG17 := hG16.quiet hu17
  have g0 := g0.go (F' := FF D14 fun b => b = jb) hu17 fun b _ h => h.elim False.elim id
  have hlen := stream_len_le (ls := la)
  have hfit := hG17.fit
  rw [hA] at hfit
  simp (config := { maxSteps := 3000000 }) (disch := omega) only [push_cast, Nat.reduceBEq, Nat.reduceEqDiff, Nat.reduceAdd, Nat.reduceMul, Nat.reduceSub, Nat.reduceLT, Int.reduceToNat, Int.reduceLT, Int.reduceLE, Int.reduceEq, Int.reduceAdd, Int.reduceSub, Int.reduceNeg, Int.reduceMul, em]
  refine Ok.use (Same_ok hrec g0 hG17.rl ra (by omega)) ?_
  rintro v w18 ⟨rfl, hu18⟩
  rw [decide_eq_true rfl]
  have hG18 := hG17.quiet hu18
  simp (config := { maxSteps := 3000000 }) (disch := omega) only [push_cast, Nat.reduceBEq, Nat.reduceEqDiff, Nat.reduceAdd, Nat.reduceMul, Nat.reduceSub, Nat.reduceLT, Int.reduceToNat, Int.reduceLT, Int.reduceLE, Int.reduceEq, Int.reduceAdd, Int.reduceSub, Int.reduceNeg, Int.reduceMul, em]
  have hca := Cached_ok hG18.jw.disk
  rw [show ((d12, { jsOf 0 n s la with down := true }) : DS × JS).1.cache.length = 0 from by rw [hcr]; rfl] at hca
  refine Ok.use hca ?_
  rintro v w19 ⟨rfl, rfl⟩
  simp (config := { maxSteps := 3000000 }) (disch := omega) only [push_cast, Nat.reduceBEq, Nat.reduceEqDiff, Nat.reduceAdd, Nat.reduceMul, Nat.reduceSub, Nat.reduceLT, Int.reduceToNat, Int.reduceLT, Int.reduceLE, Int.reduceEq, Int.reduceAdd, Int.reduceSub, Int.reduceNeg, Int.reduceMul, em]
  exact t hu00 hG18.upd
theorem journalDown_law {w : World} (x : Int) (hx : (Lit.int .u8 x).wf = true) (y : Int) (hy : (Lit.int .u8 y).wf = true) {v : Value} (h : ∃ l, SlO w v l) (z : Int) (hz : (Lit.int .u8 z).wf = true) {vk : Value} (hk : ∃ l, SlT w (fun b => w.heap.size ≤ b) vk l) {vm : Value} (hm : ∃ x, OpP w vm x) :
    Ok (den Try.prog 10 #[.int .u8 x, .int .u8 y, v, .int .u8 z, vk, vm] w) fun u w' => u = .bool true ∧ Upd (fun _ => False) w w' := by
  obtain ⟨l, h⟩ := h
  obtain ⟨k, hk⟩ := hk
  obtain ⟨m, hm⟩ := hm
  obtain ⟨a, rfl, ha⟩ := u8_nat hx
  obtain ⟨b, rfl, hb⟩ := u8_nat hy
  obtain ⟨c, rfl, hc⟩ := u8_nat hz
  exact journalDown_ok ha hb hc h hk hm
end Go.Proofs.Ytlnladcfgieggaa.Fd
