/-
  A crash and what a region holds then; the law JournalHolds, as a reading.
-/
import Derived.Test.YtlnladcfgieggaaJnW
namespace Go.Proofs.Ytlnladcfgieggaa.Fd
set_option linter.unusedSimpArgs false
set_option linter.unusedVariables false
open Go
set_option maxRecDepth 100000

theorem JT.disk {w w' : World} {D : Nat → Prop} {jb : Nat} (hu : Upd D w w') : JT w w' D (gr D w w') jb := ⟨fun _ h => h, fun _ h => .inl h, hu.mono fun _ _ h => .inl h⟩
theorem SlT.nil {w : World} {F : Nat → Prop} : SlT w F (.slice none 0 0) [] := ⟨none, 0, rfl, fun h => absurd rfl h⟩
/-- A crash of a disk that is at rest. -/
theorem Run.crash {w0 w : World} {D J : Nat → Prop} {p jb n f c s : Nat} {d : DS} {ls : List (List Int)} (h : Run w0 w D J p jb n f c s d ls) {v : Value} {keep : List Bool} (hk : SlT w D v keep) :
    Ok (den Try.prog 29 #[.pointer (some ⟨p, 0, none⟩), v] w) fun _ w' => ∃ D', Run w0 w' D' J p jb n f c s (d.crash keep) ls ∧ JT w w' D D' jb := by
  refine Ok.mono (crash_ok h.jw.disk (by have := h.good.sz.few; show d.cache.length < 1000000000; omega) hk) ?_
  rintro u w' ⟨h1, h2⟩
  have ht : JT w w' D (gr D w w') jb := JT.disk h2
  obtain ⟨g1, g2⟩ := new_step h.upd h.new ht h.jw.jj
  exact ⟨_, ⟨h.jw.disked h1 ht h2, h.good.crash keep, g1, g2⟩, ht⟩
theorem crash_cnt {d : DS} {keep : List Bool} : (d.crash keep).cnt = none := rfl
theorem holds_spec {n f c s : Nat} {d : DS} {ls : List (List Int)} (h : GoodD n f c s d ls) (hd : Dims n f c s) (hlen : ∀ a, a < d.dur.length → (d.content a).length = d.size) : holdsP (d.content f) (secs d (f + 1) (c - 1)) = some ls := by
  have hs1 := hd.s1
  have hfc := hd.fc
  have hc1 := hd.c1
  have hct : ∀ a, d.content a = DurL d a := fun a => content_nil h.cache
  have hhd : headD (d.content f) = some (stream ls).length := by rw [hct]; exact h.holds.1
  obtain ⟨g1, g2⟩ := secs_get (d := d) (s := s) (by omega) (f := f + 1) (k := c - 1) fun a h1 h2 => by
    rw [hlen a (by rw [h.sz.dur]; omega), h.sz.size]
  have htk : (secs d (f + 1) (c - 1)).take (stream ls).length = stream ls := by
    apply List.ext_getElem?
    intro p
    by_cases hp : p < (stream ls).length
    · rw [List.getElem?_take_of_lt hp, g2 p (Nat.lt_of_lt_of_le hp h.fit), hct]
      exact h.holds.2 p hp
    · rw [List.getElem?_eq_none (by rw [List.length_take]; omega), List.getElem?_eq_none (by omega)]
  unfold holdsP
  rw [hhd]
  dsimp only
  rw [if_neg (by rw [g1]; have := h.fit; omega), htk, h.spl hd]
theorem Run.cached {w0 w : World} {D J : Nat → Prop} {p jb n f c s : Nat} {d : DS} {ls : List (List Int)} (h : Run w0 w D J p jb n f c s d ls) :
    Ok (den Try.prog 28 #[.pointer (some ⟨p, 0, none⟩)] w) fun v w' => v = .int .i64 0 ∧ w = w' := by
  have := Cached_ok h.jw.disk
  rw [show ((d, jsOf f c s ls) : DS × JS).1.cache.length = 0 from by rw [h.good.cache]; rfl] at this
  exact this
/-- What the specification says that the region holds. -/
theorem Run.holds {w0 w : World} {D J : Nat → Prop} {p jb n f c s : Nat} {d : DS} {ls : List (List Int)} (h : Run w0 w D J p jb n f c s d ls) (hd : Dims n f c s) :
    Ok (den Try.prog 30 #[.pointer (some ⟨p, 0, none⟩), .int .i64 (f : Int), .int .i64 (c : Int)] w) fun u w' => (∃ u0 u1, u = .tuple #[u0, u1] ∧ ∀ w2, Upd (fun _ => False) w' w2 →
      Ok (den Try.prog 27 #[u0, u1] w2) fun u w3 => (∃ u2, u = .tuple #[u2, .bool true] ∧ SlR w3 (fun b => b < w2.heap.size) u2 ls) ∧ Upd (fun _ => False) w2 w3) ∧ Upd (fun _ => False) w w' := by
  have hs1 := hd.s1
  have hfc := hd.fc
  have hc1 := hd.c1
  have har := hd.ar
  have hsz := h.good.sz
  have hn : d.dur.length = n := hsz.dur
  have hsize : d.size = s := hsz.size
  refine Ok.mono (region_ok h.jw.disk hsz (by omega) hs1 h.good.off hd.n1 hc1 hfc har) ?_
  rintro u w' ⟨⟨u0, u1, rfl, g1, g2⟩, hu⟩
  replace g1 : SlC w' (fun b => b < w.heap.size) u0 (d.content f) := g1
  replace g2 : SlC w' (fun b => b < w.heap.size) u1 (secs d (f + 1) (c - 1)) := g2
  refine ⟨⟨u0, u1, rfl, fun w2 hu2 => ?_⟩, hu⟩
  have hcl := h.content_len
  have hl0 : (d.content f).length = s := by rw [hcl f (by omega), hsize]
  have hl1 : (secs d (f + 1) (c - 1)).length = (c - 1) * s := (secs_get (d := d) (s := s) (by omega) (f := f + 1) (k := c - 1) fun a h1 h2 => by rw [hcl a (by omega), hsize]).1
  have hpos : 0 < (c - 1) * s := Nat.mul_pos (by omega) (by omega)
  have har2 := hd.area
  have hs2 := hd.s2
  have hr1 : Rng (d.content f) := h.good.rng.content (by omega)
  have hr2 : Rng (secs d (f + 1) (c - 1)) := secs_rng h.good.rng (by omega)
  refine Ok.mono (rHolds_ok (F := fun _ => False) (g1.go hu2 fun b _ h => h.elim False.elim False.elim) (g2.go hu2 fun b _ h => h.elim False.elim False.elim) hr1 hr2 (by omega) (by omega) (by omega) (by omega)) ?_
  rintro u w3 ⟨⟨u2, ok, rfl, hm⟩, hu3⟩
  have hh : holdsP (d.content f) (secs d (f + 1) (c - 1)) = some ls := holds_spec h.good hd hcl
  rw [hh] at hm
  obtain ⟨rfl, hm⟩ := hm
  exact ⟨⟨u2, rfl, hm⟩, hu3⟩
set_option maxHeartbeats 4000000 in
theorem journalHolds_ok {w : World} {x y : Nat} (hx : x < 256) (hy : y < 256) {v : Value} {ops : List OpJ} (hv : SlO w v ops) :
    Ok (den Try.prog 7 #[.int .u8 (x : Int), .int .u8 (y : Int), v] w) fun u w' => u = .bool true ∧ Upd (fun _ => False) w w' := by
  have t := fun {a b c : World} (x : Upd (fun _ => False) a b) (y : Upd (fun _ => False) b c) => x.trans y (F := fun _ => False) (fun _ _ h => h)
  obtain ⟨va, vc, rfl⟩ := hv.form
  refine den_ok (args := [.int .u8 (x : Int), .int .u8 (y : Int), .slice va ops.length vc]) rs7 Try.func7 rfl mixed in7 ok7 rfl ?_
  simp (config := { maxSteps := 3000000 }) (disch := omega) only [push_cast, Nat.reduceBEq, Nat.reduceEqDiff, Nat.reduceAdd, Nat.reduceMul, Nat.reduceSub, Nat.reduceLT, Int.reduceToNat, Int.reduceLT, Int.reduceLE, Int.reduceEq, Int.reduceAdd, Int.reduceSub, Int.reduceNeg, Int.reduceMul]
  refine Ok.use (Few_ok hv Upd.refl) ?_
  rintro v w1 ⟨⟨q, rfl, hq⟩, hu1⟩
  cases q
  · simp (config := { maxSteps := 3000000 }) (disch := omega) only [push_cast, Nat.reduceBEq, Nat.reduceEqDiff, Nat.reduceAdd, Nat.reduceMul, Nat.reduceSub, Nat.reduceLT, Int.reduceToNat, Int.reduceLT, Int.reduceLE, Int.reduceEq, Int.reduceAdd, Int.reduceSub, Int.reduceNeg, Int.reduceMul]
    refine Ok.use awake_ok ?_
    rintro v w2 ⟨rfl, hu2⟩
    simp (config := { maxSteps := 3000000 }) (disch := omega) only [push_cast, Nat.reduceBEq, Nat.reduceEqDiff, Nat.reduceAdd, Nat.reduceMul, Nat.reduceSub, Nat.reduceLT, Int.reduceToNat, Int.reduceLT, Int.reduceLE, Int.reduceEq, Int.reduceAdd, Int.reduceSub, Int.reduceNeg, Int.reduceMul]
    exact t hu1 hu2
  have hfew := hq.1 rfl
  have h30 := hfew.1
  simp (config := { maxSteps := 3000000 }) (disch := omega) only [push_cast, Nat.reduceBEq, Nat.reduceEqDiff, Nat.reduceAdd, Nat.reduceMul, Nat.reduceSub, Nat.reduceLT, Int.reduceToNat, Int.reduceLT, Int.reduceLE, Int.reduceEq, Int.reduceAdd, Int.reduceSub, Int.reduceNeg, Int.reduceMul]
  refine Ok.use (shape_small hx hy) ?_
  rintro v w2 ⟨n, s, A, rfl, hS, hu2⟩
  have hdims := hS.dims
  have hA := hS.area
  have em := hS.mul
  obtain ⟨n1, n2, s1, s2, _, _, _, a1⟩ := hS
  simp (config := { maxSteps := 3000000 }) (disch := omega) only [push_cast, Nat.reduceBEq, Nat.reduceEqDiff, Nat.reduceAdd, Nat.reduceMul, Nat.reduceSub, Nat.reduceLT, Int.reduceToNat, Int.reduceLT, Int.reduceLE, Int.reduceEq, Int.reduceAdd, Int.reduceSub, Int.reduceNeg, Int.reduceMul]
  refine Ok.use (new_run (by omega) (by omega) s1 (by omega) (t hu1 hu2)) ?_
  rintro v w3 ⟨p, D, rfl, hd3, hu3, hD⟩
  simp (config := { maxSteps := 3000000 }) (disch := omega) only [push_cast, Nat.reduceBEq, Nat.reduceEqDiff, Nat.reduceAdd, Nat.reduceMul, Nat.reduceSub, Nat.reduceLT, Int.reduceToNat, Int.reduceLT, Int.reduceLE, Int.reduceEq, Int.reduceAdd, Int.reduceSub, Int.reduceNeg, Int.reduceMul]
  refine Ok.use (open_run (f := 0) (c := n) hd3 (GoodD.new hdims) hdims (t (t hu1 hu2) hu3) hD) ?_
  rintro v w4 ⟨jb, rfl, hr4, hu4, hjb⟩
  simp (config := { maxSteps := 3000000 }) (disch := omega) only [push_cast, Nat.reduceBEq, Nat.reduceEqDiff, Nat.reduceAdd, Nat.reduceMul, Nat.reduceSub, Nat.reduceLT, Int.reduceToNat, Int.reduceLT, Int.reduceLE, Int.reduceEq, Int.reduceAdd, Int.reduceSub, Int.reduceNeg, Int.reduceMul]
  refine loop_inv (I := fun k st w' => Bx (∃ (i : Nat) (ls : List (List Int)) (D : Nat → Prop) (d : DS), k + i = ops.length ∧ st = [.int .i64 (i : Int)] ∧ Run w w' D (fun b => b = jb) p jb n 0 n s d ls ∧ d.cnt = none) ⟨⟩) ?_ ops.length
    ⟨0, [], D, _, by omega, rfl, hr4, DS.new_cnt⟩
  clear hr4 hD hd3
  rintro k st w6 ⟨i, ls, D, d, hk, rfl, hr, hcnt⟩
  by_cases hk0 : k = 0
  · simp (config := { maxSteps := 3000000 }) (disch := omega) only [push_cast, Nat.reduceBEq, Nat.reduceEqDiff, Nat.reduceAdd, Nat.reduceMul, Nat.reduceSub, Nat.reduceLT, Int.reduceToNat, Int.reduceLT, Int.reduceLE, Int.reduceEq, Int.reduceAdd, Int.reduceSub, Int.reduceNeg, Int.reduceMul]
    refine Ok.use awake_ok ?_
    rintro v w7 ⟨rfl, hu7⟩
    simp (config := { maxSteps := 3000000 }) (disch := omega) only [push_cast, Nat.reduceBEq, Nat.reduceEqDiff, Nat.reduceAdd, Nat.reduceMul, Nat.reduceSub, Nat.reduceLT, Int.reduceToNat, Int.reduceLT, Int.reduceLE, Int.reduceEq, Int.reduceAdd, Int.reduceSub, Int.reduceNeg, Int.reduceMul]
    exact t hr.upd hu7
  have hi : i < ops.length := by omega
  have hx := List.getElem?_eq_getElem hi
  have hfx := hfew.len (List.getElem_mem hi)
  generalize ops[i] = o at hx hfx
  obtain ⟨b, oo, ua, un, uc, rfl, q0, q1, q2, q3⟩ := hv.at_ hr.upd (fun b hb => hr.new b hb) hx
  simp (config := { maxSteps := 3000000 }) (disch := omega) only [push_cast, Nat.reduceBEq, Nat.reduceEqDiff, Nat.reduceAdd, Nat.reduceMul, Nat.reduceSub, Nat.reduceLT, Int.reduceToNat, Int.reduceLT, Int.reduceLE, Int.reduceEq, Int.reduceAdd, Int.reduceSub, Int.reduceNeg, Int.reduceMul, q0, q1]
  refine Ok.use (hr.do hdims hcnt q2 q3 (by omega)) ?_
  rintro v w8 ⟨rfl, D8, d8, hr8, hc8, ht8, _⟩
  generalize afterP ls o ((n - 1) * s) = r at *
  obtain ⟨next, code⟩ := r
  dsimp only at hr8 ⊢
  simp (config := { maxSteps := 3000000 }) (disch := omega) only [push_cast, Nat.reduceBEq, Nat.reduceEqDiff, Nat.reduceAdd, Nat.reduceMul, Nat.reduceSub, Nat.reduceLT, Int.reduceToNat, Int.reduceLT, Int.reduceLE, Int.reduceEq, Int.reduceAdd, Int.reduceSub, Int.reduceNeg, Int.reduceMul]
  refine Ok.use (hr8.crash SlT.nil) ?_
  rintro v w9 ⟨D9, hr9, ht9⟩
  have hc9 : (d8.crash []).cnt = none := crash_cnt
  generalize d8.crash [] = d9 at *
  simp (config := { maxSteps := 3000000 }) (disch := omega) only [push_cast, Nat.reduceBEq, Nat.reduceEqDiff, Nat.reduceAdd, Nat.reduceMul, Nat.reduceSub, Nat.reduceLT, Int.reduceToNat, Int.reduceLT, Int.reduceLE, Int.reduceEq, Int.reduceAdd, Int.reduceSub, Int.reduceNeg, Int.reduceMul]
  refine Ok.use (hr9.holds hdims) ?_
  rintro v w10 ⟨⟨u0, u1, rfl, hH⟩, hu10⟩
  have hr10 := hr9.quiet hu10
  simp (config := { maxSteps := 3000000 }) (disch := omega) only [push_cast, Nat.reduceBEq, Nat.reduceEqDiff, Nat.reduceAdd, Nat.reduceMul, Nat.reduceSub, Nat.reduceLT, Int.reduceToNat, Int.reduceLT, Int.reduceLE, Int.reduceEq, Int.reduceAdd, Int.reduceSub, Int.reduceNeg, Int.reduceMul]
  refine Ok.use (hH w10 Upd.refl) ?_
  rintro v w11 ⟨⟨u2, rfl, hls⟩, hu11⟩
  have hr11 := hr10.quiet hu11
  have hfit := hr11.good.fit
  rw [hA] at hfit
  have hlen := stream_len_le (ls := next)
  obtain ⟨la, lc, rfl, _⟩ := id hls
  simp (config := { maxSteps := 3000000 }) (disch := omega) only [push_cast, Nat.reduceBEq, Nat.reduceEqDiff, Nat.reduceAdd, Nat.reduceMul, Nat.reduceSub, Nat.reduceLT, Int.reduceToNat, Int.reduceLT, Int.reduceLE, Int.reduceEq, Int.reduceAdd, Int.reduceSub, Int.reduceNeg, Int.reduceMul]
  refine Ok.use (hr11.records hdims) ?_
  rintro v w12 ⟨hrec, hu12⟩
  have hr12 := hr11.quiet hu12
  have hls12 := hls.go (F' := fun _ => False) hu12 fun b _ h => h.elim False.elim False.elim
  simp (config := { maxSteps := 3000000 }) (disch := omega) only [push_cast, Nat.reduceBEq, Nat.reduceEqDiff, Nat.reduceAdd, Nat.reduceMul, Nat.reduceSub, Nat.reduceLT, Int.reduceToNat, Int.reduceLT, Int.reduceLE, Int.reduceEq, Int.reduceAdd, Int.reduceSub, Int.reduceNeg, Int.reduceMul]
  refine Ok.use (Same_ok hls12 hrec hr12.good.rl hr12.good.rl (by omega)) ?_
  rintro v w13 ⟨rfl, hu13⟩
  rw [decide_eq_true rfl]
  have hr13 := hr12.quiet hu13
  have hls13 := hls12.go (F' := fun _ => False) hu13 fun b _ h => h.elim False.elim False.elim
  simp (config := { maxSteps := 3000000 }) (disch := omega) only [push_cast, Nat.reduceBEq, Nat.reduceEqDiff, Nat.reduceAdd, Nat.reduceMul, Nat.reduceSub, Nat.reduceLT, Int.reduceToNat, Int.reduceLT, Int.reduceLE, Int.reduceEq, Int.reduceAdd, Int.reduceSub, Int.reduceNeg, Int.reduceMul]
  refine Ok.use (open_run (f := 0) (c := n) hr13.jw.disk hr13.good hdims hr13.upd fun b hb => hr13.new b (.inl hb)) ?_
  rintro v w14 ⟨jb2, rfl, hk14, hu14, hjb2⟩
  have hr14 := hr13.quiet hu14
  have hls14 := hls13.go (F' := fun _ => False) hu14 fun b _ h => h.elim False.elim False.elim
  simp (config := { maxSteps := 3000000 }) (disch := omega) only [push_cast, Nat.reduceBEq, Nat.reduceEqDiff, Nat.reduceAdd, Nat.reduceMul, Nat.reduceSub, Nat.reduceLT, Int.reduceToNat, Int.reduceLT, Int.reduceLE, Int.reduceEq, Int.reduceAdd, Int.reduceSub, Int.reduceNeg, Int.reduceMul]
  refine Ok.use (hk14.records hdims) ?_
  rintro v w15 ⟨hrec2, hu15⟩
  have hr15 := hr14.quiet hu15
  have hls15 := hls14.go (F' := fun _ => False) hu15 fun b _ h => h.elim False.elim False.elim
  simp (config := { maxSteps := 3000000 }) (disch := omega) only [push_cast, Nat.reduceBEq, Nat.reduceEqDiff, Nat.reduceAdd, Nat.reduceMul, Nat.reduceSub, Nat.reduceLT, Int.reduceToNat, Int.reduceLT, Int.reduceLE, Int.reduceEq, Int.reduceAdd, Int.reduceSub, Int.reduceNeg, Int.reduceMul]
  refine Ok.use (Same_ok hrec2 hls15 hr15.good.rl hr15.good.rl (by omega)) ?_
  rintro v w16 ⟨rfl, hu16⟩
  rw [decide_eq_true rfl]
  have hr16 := hr15.quiet hu16
  simp (config := { maxSteps := 3000000 }) (disch := omega) only [push_cast, Nat.reduceBEq, Nat.reduceEqDiff, Nat.reduceAdd, Nat.reduceMul, Nat.reduceSub, Nat.reduceLT, Int.reduceToNat, Int.reduceLT, Int.reduceLE, Int.reduceEq, Int.reduceAdd, Int.reduceSub, Int.reduceNeg, Int.reduceMul]
  refine Ok.use hr16.cached ?_
  rintro v w17 ⟨rfl, rfl⟩
  simp (config := { maxSteps := 3000000 }) (disch := omega) only [push_cast, Nat.reduceBEq, Nat.reduceEqDiff, Nat.reduceAdd, Nat.reduceMul, Nat.reduceSub, Nat.reduceLT, Int.reduceToNat, Int.reduceLT, Int.reduceLE, Int.reduceEq, Int.reduceAdd, Int.reduceSub, Int.reduceNeg, Int.reduceMul]
  exact ⟨k - 1, by omega, i + 1, next, D9, d9, by omega, by simp, hr16, hc9⟩
theorem journalHolds_law {w : World} (x : Int) (hx : (Lit.int .u8 x).wf = true) (y : Int) (hy : (Lit.int .u8 y).wf = true) {v : Value} (h : ∃ l, SlO w v l) :
    Ok (den Try.prog 7 #[.int .u8 x, .int .u8 y, v] w) fun u w' => u = .bool true ∧ Upd (fun _ => False) w w' := by
  obtain ⟨l, h⟩ := h
  obtain ⟨a, rfl, ha⟩ := u8_nat hx
  obtain ⟨b, rfl, hb⟩ := u8_nat hy
  exact journalHolds_ok ha hb h
end Go.Proofs.Ytlnladcfgieggaa.Fd
