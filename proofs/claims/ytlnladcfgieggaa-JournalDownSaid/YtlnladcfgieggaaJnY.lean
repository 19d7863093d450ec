/-
  Operations until one is interrupted: the laws' run.
-/
import Derived.Test.YtlnladcfgieggaaJnX
namespace Go.Proofs.Ytlnladcfgieggaa.Fd
set_option linter.unusedSimpArgs false
set_option linter.unusedVariables false
open Go
set_option maxRecDepth 100000

/-- A journal whose last operation was interrupted. -/
structure Dead (w0 w : World) (D J : Nat → Prop) (p jb n f c s : Nat) (d : DS) (la lb : List (List Int)) : Prop where
  jw : JW w D J p jb (d, { jsOf f c s la with down := true })
  bad : BadD n f c s 60000 d fun l => l = la ∨ l = lb
  fit : (stream la).length ≤ (c - 1) * s
  rl : RngL la
  upd : Upd (fun _ => False) w0 w
  new : ∀ b, FF D J b → w0.heap.size ≤ b
theorem Dead.quiet {w0 w w' : World} {D J : Nat → Prop} {p jb n f c s : Nat} {d : DS} {la lb : List (List Int)} (h : Dead w0 w D J p jb n f c s d la lb) (hu : Upd (fun _ => False) w w') : Dead w0 w' D J p jb n f c s d la lb :=
  ⟨h.jw.quiet hu, h.bad, h.fit, h.rl, h.upd.trans hu (fun _ _ h => h), h.new⟩
theorem Dead.lt {w0 w : World} {D J : Nat → Prop} {p jb n f c s : Nat} {d : DS} {la lb : List (List Int)} (h : Dead w0 w D J p jb n f c s d la lb) : ∀ b, FF D J b → b < w.heap.size := fun b hb => hb.elim (h.jw.disk.bd b) fun hb => (h.jw.sep b hb).2
theorem after_rng {ls : List (List Int)} {x : OpJ} {A : Nat} (h1 : RngL ls) (h2 : RngL x.recs) : RngL (afterP ls x A).1 := by
  unfold afterP
  split
  · intro l hl; simp at hl
  · split
    · exact h1
    · exact h1.append h2
theorem after_fit {ls : List (List Int)} {x : OpJ} {A : Nat} (h1 : (stream ls).length ≤ A) : (stream (afterP ls x A).1).length ≤ A := by
  unfold afterP
  split
  · rw [stream_nil]; simp
  · split
    · exact h1
    · rename_i h
      exact Nat.le_of_not_lt h
theorem after_code {ls : List (List Int)} {x : OpJ} {A : Nat} : (afterP ls x A).2 = 0 ∨ (afterP ls x A).2 = 7 := by
  unfold afterP
  split
  · exact .inl rfl
  · split
    · exact .inr rfl
    · exact .inl rfl
/-- An operation that may be interrupted. -/
theorem Run.do2 {w0 w : World} {D J : Nat → Prop} {p jb n f c s : Nat} {d : DS} {ls : List (List Int)} (h : Run w0 w D J p jb n f c s d ls) (hd : Dims n f c s) {x : OpJ} {ua : Option Addr} {un uc : Nat} (hy : SlR w (FF D J) (.slice ua un uc) x.recs) (hr : RngL x.recs) (hrl : (stream x.recs).length ≤ 50000) :
    Ok (den Try.prog 17 #[.pointer (some ⟨jb, 0, none⟩), .agg #[.bool x.reset, .slice ua un uc]] w) fun u w' => ∃ D' d', JT w w' D D' jb ∧ ((u = .int .i64 (afterP ls x ((c - 1) * s)).2 ∧ Run w0 w' D' J p jb n f c s d' (afterP ls x ((c - 1) * s)).1) ∨ (u = .int .i64 8 ∧ Dead w0 w' D' J p jb n f c s d' ls (afterP ls x ((c - 1) * s)).1)) := by
  have hfc := hd.fc
  have hn1 := hd.n1
  have ho := do_ok h.jw h.good.sz (by omega) hd.s1 hd.s2 (by show f ≤ 100000; omega) h.good.fit hd.area hy hr hrl
  refine Ok.mono ho ?_
  rintro u w' ⟨rfl, D', hw, ht⟩
  obtain ⟨hsz, hres⟩ := do_spec h.good hd (x := x) hr
  obtain ⟨g1, g2⟩ := new_step h.upd h.new ht h.jw.jj
  rcases hres with ⟨h1, h2, h3, _⟩ | ⟨h1, h2, h3, _⟩
  · refine ⟨D', _, ht, .inl ⟨by rw [h1], ?_, h2, g1, g2⟩⟩
    rw [← h3]
    exact hw
  · refine ⟨D', _, ht, .inr ⟨by rw [h1], ?_, h3, h.good.fit, h.good.rl, g1, g2⟩⟩
    rw [← h2]
    exact hw
theorem Run.fail {w0 w : World} {D J : Nat → Prop} {p jb n f c s : Nat} {d : DS} {ls : List (List Int)} (h : Run w0 w D J p jb n f c s d ls) {k : Int} (hk : k < 9223372036854775808) :
    Ok (den Try.prog 31 #[.pointer (some ⟨p, 0, none⟩), .int .i64 k] w) fun _ w' => ∃ D', Run w0 w' D' J p jb n f c s (d.fail k) ls ∧ JT w w' D D' jb := by
  refine Ok.mono (fail_ok h.jw.disk k) ?_
  rintro u w' ⟨h1, h2⟩
  have ht : JT w w' D (gr D w w') jb := JT.disk h2
  obtain ⟨g1, g2⟩ := new_step h.upd h.new ht h.jw.jj
  exact ⟨_, ⟨h.jw.disked h1 ht h2, h.good.fail hk, g1, g2⟩, ht⟩
/-- What run gives. -/
def RunR (w0 w w' : World) (D J : Nat → Prop) (p jb n f c s : Nat) (u0 u1 : Value) : Prop := ∃ D' d' la lb, SlR w' (FF D' J) u0 la ∧ SlR w' (FF D' J) u1 lb ∧ RngL la ∧ RngL lb ∧ (stream la).length ≤ (c - 1) * s ∧ (stream lb).length ≤ (c - 1) * s ∧ JT w w' D D' jb ∧
  ((Run w0 w' D' J p jb n f c s d' la ∧ lb = la) ∨ Dead w0 w' D' J p jb n f c s d' la lb)
set_option maxHeartbeats 4000000 in
theorem run_ok {w0 w : World} {D J : Nat → Prop} {p jb n f c s : Nat} {d : DS} {ls : List (List Int)} (h : Run w0 w D J p jb n f c s d ls) (hd : Dims n f c s) {v : Value} {ops : List OpJ} (hv : SlO w0 v ops) (hfew : FewP ops) {lv : Value} (hls : SlR w (FF D J) lv ls) {A : Nat} (hA : (c - 1) * s = A) :
    Ok (den Try.prog 32 #[.pointer (some ⟨jb, 0, none⟩), v, lv, .int .i64 (A : Int)] w) fun u w' => ∃ u0 u1 k, u = .tuple #[u0, u1, .int .i64 k, .bool true] ∧ RunR w0 w w' D J p jb n f c s u0 u1 := by
  obtain ⟨va, vc, rfl⟩ := hv.form
  obtain ⟨la, lc, rfl, _⟩ := id hls
  have h30 := hfew.1
  have ha5 := hd.area
  refine den_ok (args := [.pointer (some ⟨jb, 0, none⟩), .slice va ops.length vc, .slice la ls.length lc, .int .i64 (A : Int)]) rs32 Try.func32 rfl mixed in32 ok32 rfl ?_
  simp (config := { maxSteps := 3000000 }) (disch := omega) only [push_cast, Nat.reduceBEq, Nat.reduceEqDiff, Nat.reduceAdd, Nat.reduceMul, Nat.reduceSub, Nat.reduceLT, Int.reduceToNat, Int.reduceLT, Int.reduceLE, Int.reduceEq, Int.reduceAdd, Int.reduceSub, Int.reduceNeg, Int.reduceMul]
  refine loop_inv (I := fun k st w' => Bx (∃ (i : Nat) (l : List (List Int)) (lv : Value) (D' : Nat → Prop) (d' : DS), k + i = ops.length ∧ st = [lv, .int .i64 (i : Int)] ∧ Run w0 w' D' J p jb n f c s d' l ∧ SlR w' (FF D' J) lv l ∧ JT w w' D D' jb) ⟨⟩) ?_ ops.length
    ⟨0, ls, _, D, d, by omega, rfl, h, hls, JT.refl⟩
  clear hls h
  rintro k st w6 ⟨i, l, lv, D', d', hk, rfl, hr, hls, ht⟩
  obtain ⟨la', lc', rfl, _⟩ := id hls
  have hfit := hr.good.fit
  have hrl := hr.good.rl
  by_cases hk0 : k = 0
  · simp (config := { maxSteps := 3000000 }) (disch := omega) only [push_cast, Nat.reduceBEq, Nat.reduceEqDiff, Nat.reduceAdd, Nat.reduceMul, Nat.reduceSub, Nat.reduceLT, Int.reduceToNat, Int.reduceLT, Int.reduceLE, Int.reduceEq, Int.reduceAdd, Int.reduceSub, Int.reduceNeg, Int.reduceMul]
    exact ⟨_, _, _, rfl, D', d', l, l, hls, hls, hrl, hrl, hfit, hfit, ht, .inl ⟨hr, rfl⟩⟩
  have hi : i < ops.length := by omega
  have hx := List.getElem?_eq_getElem hi
  have hfx := hfew.len (List.getElem_mem hi)
  generalize ops[i] = o at hx hfx
  obtain ⟨b, oo, ua, un, uc, rfl, q0, q1, q2, q3⟩ := hv.at_ hr.upd (fun b hb => hr.new b hb) hx
  simp (config := { maxSteps := 3000000 }) (disch := omega) only [push_cast, Nat.reduceBEq, Nat.reduceEqDiff, Nat.reduceAdd, Nat.reduceMul, Nat.reduceSub, Nat.reduceLT, Int.reduceToNat, Int.reduceLT, Int.reduceLE, Int.reduceEq, Int.reduceAdd, Int.reduceSub, Int.reduceNeg, Int.reduceMul, q0, q1]
  refine Ok.use (After_ok hls hr.lt q2 (area := A) (by omega) (Nat.le_trans (after_len (k := 50000) (m := 6200) (by omega) hfx) (by omega))) ?_
  rintro v w7 ⟨⟨u0, rfl, hls7⟩, hu7⟩
  have hr7 := hr.quiet hu7
  have hl7 := hls.go (F' := FF D' J) hu7 fun b _ h => h.elim False.elim id
  obtain ⟨b', oo', ua', un', uc', e1, q0', q1', q2', _⟩ := hv.at_ hr7.upd (fun b hb => hr.new b hb) hx
  injection e1 with e1
  injection e1 with e1 e2
  subst e1
  subst e2
  simp (config := { maxSteps := 3000000 }) (disch := omega) only [push_cast, Nat.reduceBEq, Nat.reduceEqDiff, Nat.reduceAdd, Nat.reduceMul, Nat.reduceSub, Nat.reduceLT, Int.reduceToNat, Int.reduceLT, Int.reduceLE, Int.reduceEq, Int.reduceAdd, Int.reduceSub, Int.reduceNeg, Int.reduceMul, q0', q1']
  refine Ok.use (hr7.do2 hd q2' q3 (by omega)) ?_
  rintro v w8 ⟨D8, d8, ht8, hcase⟩
  rw [hA] at hcase
  have hj := hr7.jw.jj
  have hls8 := ht8.slr hj hls7
  have hl8 := ht8.slr hj hl7
  have hcode := after_code (ls := l) (x := o) (A := A)
  have hfit2 := after_fit (ls := l) (x := o) (A := A) (by rw [← hA]; exact hfit)
  have hrl2 := after_rng (ls := l) (x := o) (A := A) hrl q3
  have ht08 := (ht.trans (JT.quiet hu7)).trans ht8
  generalize afterP l o A = r at *
  obtain ⟨next, code⟩ := r
  dsimp only at hcase hls8 hcode hfit2 hrl2 ⊢
  rcases hcase with ⟨rfl, hr8⟩ | ⟨rfl, hdead⟩
  · have hc8 : ¬ code = 8 := by omega
    simp (config := { maxSteps := 3000000 }) (disch := omega) only [push_cast, Nat.reduceBEq, Nat.reduceEqDiff, Nat.reduceAdd, Nat.reduceMul, Nat.reduceSub, Nat.reduceLT, Int.reduceToNat, Int.reduceLT, Int.reduceLE, Int.reduceEq, Int.reduceAdd, Int.reduceSub, Int.reduceNeg, Int.reduceMul]
    exact ⟨k - 1, by omega, i + 1, next, u0, D8, d8, by omega, by simp, hr8, hls8, ht08⟩
  · simp (config := { maxSteps := 3000000 }) (disch := omega) only [push_cast, Nat.reduceBEq, Nat.reduceEqDiff, Nat.reduceAdd, Nat.reduceMul, Nat.reduceSub, Nat.reduceLT, Int.reduceToNat, Int.reduceLT, Int.reduceLE, Int.reduceEq, Int.reduceAdd, Int.reduceSub, Int.reduceNeg, Int.reduceMul]
    refine Ok.use (Down1_ok hdead.jw) ?_
    rintro v w9 ⟨rfl, rfl⟩
    simp (config := { maxSteps := 3000000 }) (disch := omega) only [push_cast, Nat.reduceBEq, Nat.reduceEqDiff, Nat.reduceAdd, Nat.reduceMul, Nat.reduceSub, Nat.reduceLT, Int.reduceToNat, Int.reduceLT, Int.reduceLE, Int.reduceEq, Int.reduceAdd, Int.reduceSub, Int.reduceNeg, Int.reduceMul]
    exact ⟨_, _, _, rfl, D8, d8, l, next, hl8, hls8, hrl, hrl2, hfit, by rw [hA]; exact hfit2, ht08, .inr hdead⟩
/-- The crash behind a run. -/
theorem RunR.crash {w0 w w' : World} {D J : Nat → Prop} {p jb n f c s : Nat} {u0 u1 : Value} (h : RunR w0 w w' D J p jb n f c s u0 u1) (hd : Dims n f c s) {v : Value} {keep : List Bool} (hk : SlT w0 (fun b => w0.heap.size ≤ b) v keep) :
    Ok (den Try.prog 29 #[.pointer (some ⟨p, 0, none⟩), v] w') fun _ w2 => ∃ D2 d2 la lb l, SlR w2 (FF D2 J) u0 la ∧ SlR w2 (FF D2 J) u1 lb ∧ RngL la ∧ RngL lb ∧ (stream la).length ≤ (c - 1) * s ∧ (l = la ∨ l = lb) ∧ GoodD n f c s d2 l ∧ IsDisk w2 D2 p d2 ∧ d2.cnt = none ∧
      Upd (fun _ => False) w0 w2 ∧ (∀ b, D2 b → w0.heap.size ≤ b) ∧ (∀ b, FF D2 J b → b < w2.heap.size) := by
  obtain ⟨D', d', la, lb, g1, g2, g3, g4, g5, g6, g7, g8⟩ := h
  have hpre : ∃ j, JW w' D' J p jb (d', j) ∧ Upd (fun _ => False) w0 w' ∧ (∀ b, FF D' J b → w0.heap.size ≤ b) ∧ Sz n s 60000 d' ∧ ∃ l, (l = la ∨ l = lb) ∧ GoodD n f c s (d'.crash keep) l := by
    rcases g8 with ⟨hr, rfl⟩ | hdd
    · exact ⟨_, hr.jw, hr.upd, hr.new, hr.good.sz.mono (by omega), lb, .inl rfl, hr.good.crash keep⟩
    · obtain ⟨l, h1, h2⟩ := hdd.bad.crash keep
      exact ⟨_, hdd.jw, hdd.upd, hdd.new, hdd.bad.sz, l, h1, h2⟩
  obtain ⟨j, hjw, hupd, hnew, hsz, l, hl, hgood⟩ := hpre
  refine Ok.mono (crash_ok hjw.disk (by have := hsz.few; show d'.cache.length < 1000000000; omega) (hk.to hupd fun b hb => hnew b (.inl hb))) ?_
  rintro u w2 ⟨h1, h2⟩
  have ht : JT w' w2 D' (gr D' w' w2) jb := JT.disk h2
  obtain ⟨q1, q2⟩ := new_step hupd hnew ht hjw.jj
  have hjw2 := hjw.disked h1 ht h2
  exact ⟨_, _, la, lb, l, ht.slr hjw.jj g1, ht.slr hjw.jj g2, g3, g4, g5, hl, hgood, h1, crash_cnt, q1, fun b hb => q2 b (.inl hb), fun b hb => hb.elim (hjw2.disk.bd b) fun hb => (hjw2.sep b hb).2⟩
end Go.Proofs.Ytlnladcfgieggaa.Fd
