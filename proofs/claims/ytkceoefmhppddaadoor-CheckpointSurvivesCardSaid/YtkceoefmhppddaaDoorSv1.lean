/-
  CheckpointSurvives: its steps; what a run keeps.
-/
import Derived.Test.YtkceoefmhppddaaDoorOpE
namespace Go.Proofs.YtkceoefmhppddaaDoor.Fd
set_option linter.unusedSimpArgs false
set_option linter.unusedVariables false
open Go Go.ChangeMaps Go.ChangeShapes Go.WideShapes
set_option maxRecDepth 100000
structure StepS where
  kind : Int
  b : List Int
  n : Int
  keep : List Bool
def StepAt (w : World) (b o : Nat) (x : StepS) : Prop := ∃ vb vk, w.cell? ⟨b, o, none⟩ = some (.int .i64 x.kind) ∧ w.cell? ⟨b, o + 1, none⟩ = some vb ∧ w.cell? ⟨b, o + 2, none⟩ = some (.int .i64 x.n) ∧ w.cell? ⟨b, o + 3, none⟩ = some vk ∧
  SlC w (fun b => w.heap.size ≤ b) vb x.b ∧ SlT w (fun b => w.heap.size ≤ b) vk x.keep ∧ (Lit.int .i64 x.n).wf = true ∧ Rng x.b
def SlS (w : World) (v : Value) (l : List StepS) : Prop := ∃ a c, v = .slice a l.length c ∧ (l ≠ [] → ∃ b o, a = some ⟨b, o, none⟩ ∧ b < w.heap.size ∧ ∀ j x, l[j]? = some x → StepAt w b (o + j * 4) x)
theorem open_steps27 {H : Type} {enc : TypeId × Value → H} {w : World} {v : Value} {r : Reach} {b0 : Nat} {d : DataW H} {ps : List MemPlace}
    (hval : Value.okWide Tryd.prog w r b0 55 v) (h : DataW.Trod enc Tryd.prog w 0 (fun _ => true) true 55 v d ps) : ∃ l, SlS w v l := by
  obtain ⟨a', l', c', rfl⟩ := Go.WideShapes.okWide_slice Tryd.underlying55 hval
  obtain ⟨n, h⟩ := h
  have c1 : Tryd.prog.cellsOf 58 = 4 := by kernel_rfl
  rcases Go.Deep.open_slice Tryd.underlying55 h with ⟨h1, _⟩ | ⟨a, len, cap, m, n', D, Pl, h1, _, hl, _, hm, _, hx⟩
  · have h1 : Value.slice a' l' c' = _ := (List.cons.inj (show [Value.slice a' l' c'] = _ from h1)).1
    exact ⟨[], none, 0, h1, fun h => absurd rfl h⟩
  · have h1 : Value.slice a' l' c' = _ := (List.cons.inj (show [Value.slice a' l' c'] = _ from h1)).1
    simp only [if_true] at hm
    subst hm
    rw [c1] at hx
    rcases Nat.eq_zero_or_pos len with h0 | h0
    · subst h0
      exact ⟨[], some a, m, h1, fun h => absurd rfl h⟩
    have ha : ∃ b o, a = ⟨b, o, none⟩ ∧ b < w.heap.size := by
      obtain ⟨cs, h2, _⟩ := hx 0 (by omega)
      obtain ⟨_, h3, h4⟩ := World.cells?_some h2
      have h5 := h4 0 (by omega)
      obtain ⟨b, o, e, hb, _⟩ := cells_add (n := 1) (a := a) (V := fun _ => cs[0]) (fun i hi => by
        obtain rfl : i = 0 := by omega
        have : (a.add (0 * 4)).add 0 = a.add 0 := rfl
        rw [← this, h5, List.getElem?_eq_getElem]) (by omega)
      exact ⟨b, o, e, hb⟩
    obtain ⟨b, o, rfl, hb⟩ := ha
    obtain ⟨l, hl1, hl2⟩ := choose_list (n := len) (p := fun j (x : StepS) => StepAt w b (o + j * 4) x) (by
      intro j hj
      obtain ⟨cs, h2, h3⟩ := hx j (by omega)
      obtain ⟨_, h4, h5⟩ := World.cells?_some h2
      obtain ⟨y0, y1, y2, y3, n2, _, _, t0, t1, t2, t3⟩ := Go.Joins.trod_struct4 Tryd.underlying58 h3
      match cs, h4 with
      | [c0, c1, c2, c3], _ =>
        have e0 : Tryd.prog.cellsOf 3 = 1 := by kernel_rfl
        have e2 : Tryd.prog.cellsOf 31 = 1 := by kernel_rfl
        have e3 : Tryd.prog.cellsOf 56 = 1 := by kernel_rfl
        simp only [e0, e2, e3] at t0 t1 t2 t3
        obtain ⟨kind, g0, _, _⟩ := DataW.trod_int Tryd.underlying3 t0
        obtain ⟨bs, hbs, hbr⟩ := bytesC_at (v := c1) Tryd.underlying31 Tryd.underlying5 (by kernel_rfl) t1
        have g0 : c0 = _ := (List.cons.inj (show [c0] = _ from g0)).1
        obtain ⟨at_, g2, _, g2w⟩ := DataW.trod_int Tryd.underlying3 t2
        have g2 : c2 = _ := (List.cons.inj (show [c2] = _ from g2)).1
        obtain ⟨ks, hks⟩ := bools_at (v := c3) Tryd.underlying56 Tryd.underlying4 (by kernel_rfl) t3
        have hc : ∀ i, i < 4 → w.cell? ⟨b, o + j * 4 + i, none⟩ = [c0, c1, c2, c3][i]? := by
          intro i hi
          rw [← h5 i hi]
          congr 1
          unfold Addr.add
          by_cases hj0 : j * 4 = 0
          · by_cases hi0 : i = 0
            · simp [hj0, hi0]
            · simp [hj0, hi0]
          · by_cases hi0 : i = 0
            · simp [hj0, hi0]
            · simp [hj0, hi0]
        exact ⟨⟨kind, bs, at_, ks⟩, c1, c3, by rw [← g0]; exact hc 0 (by omega), hc 1 (by omega), by rw [← g2]; exact hc 2 (by omega), hc 3 (by omega), hbs, hks, g2w, hbr⟩)
    exact ⟨l, _, _, by rw [hl1]; exact h1, fun _ => ⟨b, o, rfl, hb, fun j x hj => hl2 j x hj⟩⟩

theorem i64_of27 {x : Int} (h : (Lit.int .i64 x).wf = true) : -9223372036854775808 ≤ x ∧ x < 9223372036854775808 := by
  simp only [Lit.wf, Bool.and_eq_true, decide_eq_true_eq] at h
  obtain ⟨h1, h2⟩ := h
  exact ⟨h1, by have : x ≤ 9223372036854775807 := h2; omega⟩
theorem SlS.form {w : World} {v : Value} {l : List StepS} (h : SlS w v l) : ∃ a c, v = .slice a l.length c := by
  obtain ⟨a, c, hv, _⟩ := h
  exact ⟨a, c, hv⟩
theorem Live.load {N sz first n : Nat} {d : DS} {c : CS} (h : Live N sz first n d c) : cload c = (c.newest, c.gen) := by
  unfold cload
  rw [h.opn]
  unfold openL
  rcases newestP_cases (a := slotP (slotSL (DurL d) first n)) (b := slotP (slotSL (DurL d) (first + n) n)) with e | ⟨x, hx, e⟩ | ⟨x, hx, e⟩
  · rw [e]; rfl
  · rw [e]
    have := (slotP_pos hx).1
    exact if_neg (by show ¬ x.2 = 0; omega)
  · rw [e]
    have := (slotP_pos hx).1
    exact if_neg (by show ¬ x.2 = 0; omega)
theorem Live.failI {N sz first n : Nat} {d : DS} {c : CS} (h : Live N sz first n d c) (k : Int) : Live N sz first n (d.fail k) c := by
  unfold DS.fail
  rw [if_neg (by rw [h.off]; decide)]
  exact ⟨h.off, h.ca, h.len, h.size, h.opn⟩
/-- What a run keeps: the store is live, or a save has been cut off. -/
def SvI (N sz m : Nat) (d : DS) (c : CS) (now next : List Int) (torn : Bool) : Prop :=
  (Live N sz 1 m d c ∧ c.newest = now ∧ torn = false) ∨
  (c.down = true ∧ d.off = true ∧ torn = true ∧ c.n = m ∧ ∀ L, (∀ a, Poss d a (L a)) → (openL L 1 m).newest = now ∨ (openL L 1 m).newest = next)
theorem SvI.save {N sz m i : Nat} {d : DS} {c : CS} {now next : List Int} {torn : Bool} (h : SvI N sz m d c now next torn) (hcf : c.first = 1 ∧ c.n = m ∧ c.gen ≤ 4611686018427387904) (hw : WfD N sz i d) (hz : 64 ≤ sz ∧ sz ≤ 96) (hm : 3 ≤ m ∧ m ≤ 7 ∧ 1 + 2 * m ≤ N) (b : List Int) :
    (((csave (d, c) b).2 = 0 ∧ SvI N sz m (csave (d, c) b).1.1 (csave (d, c) b).1.2 b next false) ∨
    ((csave (d, c) b).2 = 6 ∧ SvI N sz m (csave (d, c) b).1.1 (csave (d, c) b).1.2 now next torn) ∨
    ((csave (d, c) b).2 = 8 ∧ torn = false ∧ SvI N sz m (csave (d, c) b).1.1 (csave (d, c) b).1.2 now b true ∧ b.length ≤ (m - 1) * sz) ∨
    ((csave (d, c) b).2 = 8 ∧ torn = true ∧ SvI N sz m (csave (d, c) b).1.1 (csave (d, c) b).1.2 now next torn)) ∧
    ((csave (d, c) b).1.2.first = 1 ∧ (csave (d, c) b).1.2.n = m ∧ (csave (d, c) b).1.2.gen ≤ 4611686018427387904) := by
  rcases h with ⟨hl, hnow, ht⟩ | ⟨h1, h2, h3, h4, h5⟩
  · rcases csave_spec hl hw (by omega) (by omega) (by omega) (by omega) hm.2.2 b with ⟨_, e⟩ | ⟨g1, g2, g3, g4, g5, _, _⟩ | ⟨g1, g2, g3, g4, g5, g6⟩
    · rw [e]
      exact ⟨.inr (.inl ⟨rfl, .inl ⟨hl, hnow, ht⟩⟩), hcf⟩
    · refine ⟨.inl ⟨g3, .inl ⟨g4, by rw [g5], rfl⟩⟩, ?_⟩
      rw [g5]
      exact ⟨hcf.1, hcf.2.1, by show c.gen + 1 ≤ _; omega⟩
    · rw [g3]
      refine ⟨.inr (.inr (.inl ⟨rfl, ht, .inr ⟨rfl, g4, rfl, hcf.2.1, fun L hL => ?_⟩, g1⟩)), hcf⟩
      rcases g6 L hL with e | e
      · left; rw [e]; exact hnow
      · right; rw [e]
  · rw [csave_down h1]
    exact ⟨.inr (.inr (.inr ⟨rfl, h3, .inr ⟨h1, h2, h3, h4, h5⟩⟩)), hcf⟩
theorem SvI.fail {N sz m : Nat} {d : DS} {c : CS} {now next : List Int} {torn : Bool} (h : SvI N sz m d c now next torn) (k : Int) : SvI N sz m (d.fail k) c now next torn := by
  rcases h with ⟨hl, hnow, ht⟩ | ⟨h1, h2, h3⟩
  · exact .inl ⟨hl.failI k, hnow, ht⟩
  · have e : d.fail k = d := by unfold DS.fail; rw [if_pos h2]
    rw [e]
    exact .inr ⟨h1, h2, h3⟩
theorem SvI.crash {N sz m i : Nat} {d : DS} {c : CS} {now next : List Int} {torn : Bool} (h : SvI N sz m d c now next torn) (hw : WfD N sz i d) (hm : 1 + 2 * m ≤ N) (keep : List Bool) (next' : List Int) :
    ((openC (d.crash keep) 1 m).newest = now ∨ (torn = true ∧ (openC (d.crash keep) 1 m).newest = next)) ∧ SvI N sz m (d.crash keep) (openC (d.crash keep) 1 m) (openC (d.crash keep) 1 m).newest next' false := by
  refine ⟨?_, .inl ⟨crash_live hw hm keep, rfl, rfl⟩⟩
  rw [crash_open]
  have hposs : ∀ x, Poss d x (DurL (d.crash keep) x) := fun x => crash_poss
  rcases h with ⟨hl, hnow, ht⟩ | ⟨h1, h2, h3, _, h5⟩
  · left
    have e : DurL (d.crash keep) = DurL d := funext fun x => poss_nil hl.ca hposs x
    rw [e, ← hl.opn]
    exact hnow
  · rcases h5 _ hposs with e | e
    · exact .inl e
    · exact .inr ⟨h3, e⟩
/-- The opening of a quiet disk, in one piece. -/
theorem copen_ok {w : World} (hK : KT w) {D : Nat → Prop} {p : Nat} {d : DS} (hd : IsDisk w D p d) (hD0 : ¬ D 0) {N sz i m ct : Nat} (hw : WfD N sz i d) (hi : i ≤ 900000) (hoff : d.off = false) (hN : 8 ≤ N ∧ N ≤ 15) (hz : 64 ≤ sz ∧ sz ≤ 96) (hct : ct = N - 1) (hm : m = ct / 2) :
    Ok (den Tryd.prog 13 #[.pointer (some ⟨p, 0, none⟩), .int .i64 1, .int .i64 (ct : Int)] w) fun v w' => ∃ cb, w.heap.size ≤ cb ∧ v = .tuple #[.pointer (some ⟨cb, 0, none⟩), .int .i64 0] ∧ CW w' D (fun b => b = cb) p cb (d, openC d 1 m) ∧ Upd (fun _ => False) w w' := by
  have hopen := open_ok hK hd hD0 hw.sz hi (by omega) (by omega) (by omega) (first := 1) (count := ct) (by omega) (by omega) (by omega) (by omega) fun y hy => hw.content hy
  rw [hoff, ← hm] at hopen
  simp only [Bool.false_eq_true, if_false] at hopen
  refine Ok.mono hopen ?_
  rintro v w' ⟨⟨cb, h1, h2, h3⟩, h4⟩
  exact ⟨cb, h1, h2, h3, h4⟩
set_option maxHeartbeats 4000000 in
theorem survives_ok {w : World} (hK : KT w) {s : Nat} (hs : s < 256) {vc vs : Value} {ls : List (List Int)} (hvc : SlRC w (fun b => w.heap.size ≤ b) vc ls) (hrl : RngL ls) {steps : List StepS} (hvs : SlS w vs steps) :
    Ok (den Tryd.prog 8 #[.int .u8 (s : Int), vc, vs] w) fun u w' => u = .bool true ∧ Upd (fun _ => False) w w' := by
  have t := fun {a b c : World} (x : Upd (fun _ => False) a b) (y : Upd (fun _ => False) b c) => x.trans y (F := fun _ => False) (fun _ _ h => h)
  obtain ⟨ca, cc, rfl, _⟩ := id hvc
  obtain ⟨sa, sc, rfl⟩ := hvs.form
  refine den_ok (args := [.int .u8 (s : Int), .slice ca ls.length cc, .slice sa steps.length sc]) rs8 Tryd.func8 rfl mixed in8 ok8 rfl ?_
  simp (config := { maxSteps := 3000000 }) (disch := omega) only [push_cast, Nat.reduceBEq, Nat.reduceEqDiff, Nat.reduceAdd, Nat.reduceMul, Nat.reduceSub, Nat.reduceLT, Int.reduceToNat, Int.reduceLT, Int.reduceLE, Int.reduceEq, Int.reduceAdd, Int.reduceSub, Int.reduceNeg, Int.reduceMul]
  refine Ok.use (awake_ok hK) ?_
  rintro v w1 ⟨rfl, hu1⟩
  simp (config := { maxSteps := 3000000 }) (disch := omega) only [push_cast, Nat.reduceBEq, Nat.reduceEqDiff, Nat.reduceAdd, Nat.reduceMul, Nat.reduceSub, Nat.reduceLT, Int.reduceToNat, Int.reduceLT, Int.reduceLE, Int.reduceEq, Int.reduceAdd, Int.reduceSub, Int.reduceNeg, Int.reduceMul]
  refine Ok.use (make64_ok (F := fun b => w.heap.size ≤ b) hs (hvc.slr.go hu1 fun b hb h => h.elim (fun h => h.elim) fun h => h) hrl fun b hb => Nat.le_trans hu1.size hb) ?_
  rintro v w2 ⟨hv, hu2⟩
  have hu02 := t hu1 hu2
  unfold Mk64 at hv
  by_cases h20 : 20 < ls.length
  · have h20i : (20 : Int) < (ls.length : Int) := by omega
    rw [if_pos h20] at hv
    subst hv
    simp (config := { maxSteps := 3000000 }) (disch := omega) only [push_cast, Nat.reduceBEq, Nat.reduceEqDiff, Nat.reduceAdd, Nat.reduceMul, Nat.reduceSub, Nat.reduceLT, Int.reduceToNat, Int.reduceLT, Int.reduceLE, Int.reduceEq, Int.reduceAdd, Int.reduceSub, Int.reduceNeg, Int.reduceMul, h20i]
    exact hu02
  have h20i : ¬ (20 : Int) < (ls.length : Int) := by omega
  rw [if_neg h20] at hv
  obtain ⟨p, D, rfl, hd2, hDge⟩ := hv
  by_cases h40 : 40 < steps.length
  · have h40i : (40 : Int) < (steps.length : Int) := by omega
    simp (config := { maxSteps := 3000000 }) (disch := omega) only [push_cast, Nat.reduceBEq, Nat.reduceEqDiff, Nat.reduceAdd, Nat.reduceMul, Nat.reduceSub, Nat.reduceLT, Int.reduceToNat, Int.reduceLT, Int.reduceLE, Int.reduceEq, Int.reduceAdd, Int.reduceSub, Int.reduceNeg, Int.reduceMul, h40i, h20i]
    exact hu02
  have h40i : ¬ (40 : Int) < (steps.length : Int) := by omega
  simp (config := { maxSteps := 3000000 }) (disch := omega) only [push_cast, Nat.reduceBEq, Nat.reduceEqDiff, Nat.reduceAdd, Nat.reduceMul, Nat.reduceSub, Nat.reduceLT, Int.reduceToNat, Int.reduceLT, Int.reduceLE, Int.reduceEq, Int.reduceAdd, Int.reduceSub, Int.reduceNeg, Int.reduceMul, h40i]
  obtain ⟨N, hN⟩ : ∃ N, N = 8 + s % 8 := ⟨_, rfl⟩
  obtain ⟨sz, hsz⟩ : ∃ sz, sz = 64 + s / 8 := ⟨_, rfl⟩
  obtain ⟨ct, hct⟩ : ∃ ct, ct = N - 1 := ⟨_, rfl⟩
  obtain ⟨m, hm⟩ : ∃ m, m = ct / 2 := ⟨_, rfl⟩
  rw [← hN, ← hsz] at hd2
  have hN1 : 8 ≤ N ∧ N ≤ 15 := by omega
  have hz1 : 64 ≤ sz ∧ sz ≤ 96 := by omega
  have hm1 : 3 ≤ m ∧ m ≤ 7 ∧ 1 + 2 * m ≤ N := by omega
  have eN : (N : Int) - 1 = (ct : Int) := by omega
  obtain ⟨hfr, hca⟩ := M64_fresh (N := N) (sz := sz) hrl
  have hlive := live_open (first := 1) (n := m) hfr.wf hfr.off hca (by omega)
  have hs1 := hu1.size
  have hDw : ∀ b, D b → w.heap.size ≤ b := fun b hb => by have := hDge b hb; omega
  refine Ok.use (Sectors_ok hd2) ?_
  rintro v _ ⟨rfl, rfl⟩
  rw [hfr.wf.sz.dur]
  simp (config := { maxSteps := 3000000 }) (disch := omega) only [push_cast, Nat.reduceBEq, Nat.reduceEqDiff, Nat.reduceAdd, Nat.reduceMul, Nat.reduceSub, Nat.reduceLT, Int.reduceToNat, Int.reduceLT, Int.reduceLE, Int.reduceEq, Int.reduceAdd, Int.reduceSub, Int.reduceNeg, Int.reduceMul, eN]
  refine Ok.use (copen_ok (hK.upd hu02 fun h => h) hd2 (fun h => by have := hDw 0 h; have := hK.1; omega) hfr.wf (by omega) hfr.off hN1 hz1 hct hm) ?_
  rintro v w3 ⟨cb, hcb, rfl, hw3, hu3⟩
  have hu03 := t hu02 hu3
  have hs2 := hu02.size
  have hfacts := hlive.facts (by omega) (by omega) fun a ha => (hfr.wf.durl ha).1
  have hmz : (m - 1) * sz ≤ 6 * 96 := Nat.mul_le_mul (by omega) (by omega)
  simp (config := { maxSteps := 3000000 }) (disch := omega) only [push_cast, Nat.reduceBEq, Nat.reduceEqDiff, Nat.reduceAdd, Nat.reduceMul, Nat.reduceSub, Nat.reduceLT, Int.reduceToNat, Int.reduceLT, Int.reduceLE, Int.reduceEq, Int.reduceAdd, Int.reduceSub, Int.reduceNeg, Int.reduceMul]
  refine Ok.use (load_ok hw3 (by show (openC (M64 N sz ls) 1 m).newest.length ≤ _; omega) (by show (openC (M64 N sz ls) 1 m).gen ≤ _; omega)) ?_
  rintro v w4 ⟨u, rfl, h4⟩
  dsimp only at h4 ⊢
  rw [hlive.load] at h4 ⊢
  dsimp only at h4 ⊢
  have hu04 := t hu03 h4.upd
  have hw4 := hw3.quiet h4.upd
  have hcbw : w.heap.size ≤ cb := by omega
  have hnow : SlB w4 (FF D fun b => b = cb) u (openC (M64 N sz ls) 1 m).newest := h4.own.slb fun g hg hq => by
    have := h4.new g hg
    rcases hq with hq | hq
    · have := hw3.disk.bd g hq; omega
    · have := (hw3.sep g hq).2; omega
  have hrn : Rng (openC (M64 N sz ls) 1 m).newest := by
    obtain ⟨_, _, _, _, hr⟩ := hw3.at_
    exact hr
  have hI : SvI N sz m (M64 N sz ls) (openC (M64 N sz ls) 1 m) (openC (M64 N sz ls) 1 m).newest [] false := .inl ⟨hlive, rfl, rfl⟩
  have hwf := hfr.wf
  have hcf : (openC (M64 N sz ls) 1 m).first = 1 ∧ (openC (M64 N sz ls) 1 m).n = m ∧ (openC (M64 N sz ls) 1 m).gen ≤ 4611686018427387904 := ⟨hfacts.2.2.2.1, hfacts.2.2.2.2.1, hfacts.1⟩
  clear hlive hfr hca hfacts h4 hw3 hd2
  generalize openC (M64 N sz ls) 1 m = c0 at *
  generalize M64 N sz ls = d0 at *
  obtain ⟨ua, uc, e, _⟩ := id hnow
  have hc0 : c0.first = 1 ∧ c0.n = m ∧ c0.gen ≤ 4611686018427387904 := hcf
  simp (config := { maxSteps := 3000000 }) (disch := omega) only [push_cast, Nat.reduceBEq, Nat.reduceEqDiff, Nat.reduceAdd, Nat.reduceMul, Nat.reduceSub, Nat.reduceLT, Int.reduceToNat, Int.reduceLT, Int.reduceLE, Int.reduceEq, Int.reduceAdd, Int.reduceSub, Int.reduceNeg, Int.reduceMul]
  refine loop_inv (I := fun k st w' => Bx (∃ tt D d c cb u nx now next torn, k + tt = steps.length ∧ st = [.pointer (some ⟨cb, 0, none⟩), u, nx, .bool torn, .int .i64 ((tt : Nat) : Int)] ∧ CW w' D (fun b => b = cb) p cb (d, c) ∧ (∀ b, D b → w.heap.size ≤ b) ∧ w.heap.size ≤ cb ∧ WfD N sz (tt * 100) d ∧ Upd (fun _ => False) w w' ∧
      SlB w' (FF D fun b => b = cb) u now ∧ SlB w' (FF D fun b => b = cb) nx next ∧ Rng now ∧ Rng next ∧ SvI N sz m d c now next torn ∧ (c.first = 1 ∧ c.n = m ∧ c.gen ≤ 4611686018427387904)) ⟨⟩) ?_ steps.length
    ⟨0, D, d0, c0, cb, u, .slice none 0 0, c0.newest, [], false, by omega, rfl, hw4, hDw, hcbw, hwf, hu04, hnow, ⟨none, 0, rfl, fun h => absurd rfl h⟩, hrn, (fun x hx => by cases hx), hI, hc0⟩
  clear hnow hrn hI hwf hcf hc0 hw4 hDw hcbw hu04 hDge hcb e
  rintro k st w5 ⟨tt, D, d, c, cb, u, nx, now, next, torn, hk, rfl, hw5, hDw, hcbw, hwf, hu5, hsu, hsn, hru, hrn, hI, hcf⟩
  obtain ⟨ua, uc, rfl, _⟩ := id hsu
  obtain ⟨na, nc, rfl, _⟩ := id hsn
  by_cases hk0 : k = 0
  · obtain rfl : tt = steps.length := by omega
    have hlt : ¬ ((steps.length : Nat) : Int) < (steps.length : Int) := by omega
    simp (config := { maxSteps := 3000000 }) (disch := omega) only [push_cast, Nat.reduceBEq, Nat.reduceEqDiff, Nat.reduceAdd, Nat.reduceMul, Nat.reduceSub, Nat.reduceLT, Int.reduceToNat, Int.reduceLT, Int.reduceLE, Int.reduceEq, Int.reduceAdd, Int.reduceSub, Int.reduceNeg, Int.reduceMul, hlt]
    exact hu5
  have hlt : ((tt : Nat) : Int) < (steps.length : Int) := by omega
  have hx0 : steps[tt]? = some (steps[tt]'(by omega)) := List.getElem?_eq_getElem _
  obtain ⟨x, hxe⟩ : ∃ x, x = steps[tt]'(by omega) := ⟨_, rfl⟩
  rw [← hxe] at hx0
  obtain ⟨_, _, e, hsl⟩ := id hvs
  injection e with e1 e2 e3
  obtain ⟨gb, go, e4, hgb, hat⟩ := hsl (by intro h; rw [h] at hx0; simp at hx0)
  rw [← e1] at e4
  subst e4
  obtain ⟨vb, vk, z0, z1, z2, z3, hxb, hxk, hxn, hxr⟩ := hat tt x hx0
  have s0 := cell_upd z0 hu5 fun h => h
  have s1 := cell_upd z1 hu5 fun h => h
  have s2 := cell_upd z2 hu5 fun h => h
  have s3 := cell_upd z3 hu5 fun h => h
  obtain ⟨ba, bc, rfl, _⟩ := id hxb.2
  obtain ⟨ka, kc, rfl⟩ := hxk.form
  clear z0 z1 z2 z3 hat hsl e1 e2 e3
  have hxN : x.n < 9223372036854775808 := (i64_of27 hxn).2
  obtain ⟨xk, xb, xn, xkeep⟩ := x
  dsimp only at s0 s1 s2 s3 hxb hxk hxr hxN
  have hal : Upd (fun _ => False) w5 (((((w5.alloc (.cells [.int .i64 0, .slice none 0 0, .int .i64 0, .slice none 0 0].toArray 58 (0, 0))).setCell ⟨w5.heap.size, 0, none⟩ (.int .i64 xk)).setCell ⟨w5.heap.size, 1, none⟩ (.slice ba xb.length bc)).setCell ⟨w5.heap.size, 2, none⟩ (.int .i64 xn)).setCell ⟨w5.heap.size, 3, none⟩ (.slice ka xkeep.length kc)) :=
    Upd.alloc.trans ((((Upd.set (F := fun x => x = w5.heap.size) rfl).setIn rfl).setIn rfl).setIn rfl) fun x hx e => by omega
  have hsb : Blk (((((w5.alloc (.cells [.int .i64 0, .slice none 0 0, .int .i64 0, .slice none 0 0].toArray 58 (0, 0))).setCell ⟨w5.heap.size, 0, none⟩ (.int .i64 xk)).setCell ⟨w5.heap.size, 1, none⟩ (.slice ba xb.length bc)).setCell ⟨w5.heap.size, 2, none⟩ (.int .i64 xn)).setCell ⟨w5.heap.size, 3, none⟩ (.slice ka xkeep.length kc)) w5.heap.size [.int .i64 xk, .slice ba xb.length bc, .int .i64 xn, .slice ka xkeep.length kc] 58 := ((((Blk.new (w := w5) (cs := [.int .i64 0, .slice none 0 0, .int .i64 0, .slice none 0 0]) (E := 58)).set 0 (.int .i64 xk)).set 1 (.slice ba xb.length bc)).set 2 (.int .i64 xn)).set 3 (.slice ka xkeep.length kc)
  have hK5 := hK.upd hu5 fun h => h
  have hs5 := hu5.size
  have hFFs : ∀ q, FF D (fun b => b = cb) q → q < w5.heap.size := fun q hq => hq.elim (fun h => hw5.disk.bd q h) fun e => (hw5.sep q e).2
  have hFFw : ∀ q, FF D (fun b => b = cb) q → w.heap.size ≤ q := fun q hq => hq.elim (fun h => hDw q h) fun e => by omega
  obtain ⟨sb, hsbe⟩ : ∃ sb, sb = w5.heap.size := ⟨_, rfl⟩
  by_cases k0 : xk = 0
  · subst k0
    simp (config := { maxSteps := 3000000 }) (disch := omega) only [push_cast, Nat.reduceBEq, Nat.reduceEqDiff, Nat.reduceAdd, Nat.reduceMul, Nat.reduceSub, Nat.reduceLT, Int.reduceToNat, Int.reduceLT, Int.reduceLE, Int.reduceEq, Int.reduceAdd, Int.reduceSub, Int.reduceNeg, Int.reduceMul, hlt, s0, s1, s2, s3]
    have hw6 := hw5.quiet hal
    have hu6 := t hu5 hal
    have hsu6 := hsu.upd hal fun _ h => h.elim
    have hsn6 := hsn.upd hal fun _ h => h.elim
    have hxb6 : SlC _ (FF D fun b => b = cb) (.slice ba xb.length bc) xb := (hxb.upd hu6 fun _ h => h.elim).mono fun q _ hq => hFFw q hq
    rw [← hsbe] at hsb
    rw [← hsbe] at hal hw6 hu6 hsu6 hsn6 hxb6 ⊢
    generalize (((((w5.alloc (.cells [.int .i64 0, .slice none 0 0, .int .i64 0, .slice none 0 0].toArray 58 (0, 0))).setCell ⟨sb, 0, none⟩ (.int .i64 0)).setCell ⟨sb, 1, none⟩ (.slice ba xb.length bc)).setCell ⟨sb, 2, none⟩ (.int .i64 xn)).setCell ⟨sb, 3, none⟩ (.slice ka xkeep.length kc)) = w6 at *
    have hsave := save_ok hw6 hwf.sz (by omega) (by omega) (by omega) (by rw [hcf.1]; omega) (by rw [hcf.2.1]; omega) (by rw [hcf.2.1]; omega) hcf.2.2 hxb6 hxr
    obtain ⟨hsp, hcf'⟩ := hI.save hcf hwf hz1 hm1 xb
    have hwf' : WfD N sz (tt * 100 + 100) (csave (d, c) xb).1.1 := by
      rcases Nat.lt_or_ge ((m - 1) * sz) xb.length with hh | hh
      · rw [csave_long (by rw [hcf.2.1, hwf.sz.size]; exact hh)]
        exact hwf.mono (by omega)
      · refine csave_wf hwf hxr fun at_ g => ?_
        rw [hwf.sz.size, saveOps_len (by omega)]
        have := nch_bound (by omega) hh
        omega
    refine Ok.use hsave ?_
    rintro v w7 ⟨rfl, D7, hw7, ht7⟩
    obtain ⟨hu7, hD7⟩ := ht7.fresh hu6 hDw hcbw
    have hsu7 := ht7.slb (J := fun b => b = cb) rfl hsu6
    have hsn7 := ht7.slb (J := fun b => b = cb) rfl hsn6
    have hxb7 := ht7.slb (J := fun b => b = cb) rfl hxb6.1
    have hsb7 := hsb.upd ht7.upd fun h => h.elim (fun h => by have := hFFs sb (.inl h); omega) fun h => by have := hFFs sb (.inr h); omega
    clear hsave
    generalize csave (d, c) xb = r at *
    obtain ⟨⟨d', c'⟩, code⟩ := r
    dsimp only at hsp hcf' hwf' hw7 ⊢
    unfold errV
    rcases hsp with ⟨rfl, hI'⟩ | ⟨rfl, hI'⟩ | ⟨rfl, rfl, hI', hlen⟩ | ⟨rfl, rfl, hI'⟩
    · simp (config := { maxSteps := 3000000 }) (disch := omega) only [push_cast, Nat.reduceBEq, Nat.reduceEqDiff, Nat.reduceAdd, Nat.reduceMul, Nat.reduceSub, Nat.reduceLT, Int.reduceToNat, Int.reduceLT, Int.reduceLE, Int.reduceEq, Int.reduceAdd, Int.reduceSub, Int.reduceNeg, Int.reduceMul, hsb7.cell]
      exact ⟨k - 1, by omega, tt + 1, D7, d', c', cb, _, _, xb, next, false, by omega, by simp, hw7, hD7, hcbw, hwf'.mono (by omega), hu7, hxb7, hsn7, hxr, hrn, hI', hcf'⟩
    · simp (config := { maxSteps := 3000000 }) (disch := omega) only [push_cast, Nat.reduceBEq, Nat.reduceEqDiff, Nat.reduceAdd, Nat.reduceMul, Nat.reduceSub, Nat.reduceLT, Int.reduceToNat, Int.reduceLT, Int.reduceLE, Int.reduceEq, Int.reduceAdd, Int.reduceSub, Int.reduceNeg, Int.reduceMul, hsb7.cell]
      exact ⟨k - 1, by omega, tt + 1, D7, d', c', cb, _, _, now, next, torn, by omega, by simp, hw7, hD7, hcbw, hwf'.mono (by omega), hu7, hsu7, hsn7, hru, hrn, hI', hcf'⟩
    · have hu7d : Upd (fun _ => False) w7 w7.drew := Upd.drew
      have hw7d := hw7.quiet hu7d
      have hsb7d := hsb7.drew
      have hsn7d := hsn7.upd hu7d fun _ h => h.elim
      have hsu7d := hsu7.upd hu7d fun _ h => h.elim
      have hxb7d := hxb7.upd hu7d fun _ h => h.elim
      have hu7' := t hu7 hu7d
      simp (config := { maxSteps := 3000000 }) (disch := omega) only [push_cast, Nat.reduceBEq, Nat.reduceEqDiff, Nat.reduceAdd, Nat.reduceMul, Nat.reduceSub, Nat.reduceLT, Int.reduceToNat, Int.reduceLT, Int.reduceLE, Int.reduceEq, Int.reduceAdd, Int.reduceSub, Int.reduceNeg, Int.reduceMul, hsb7.cell, hsb7d.cell]
      generalize w7.drew = w8 at *
      have hroom := Room_ok hw7d (by show 1 ≤ c'.n; rw [hcf'.2.1]; omega) (by show c'.n ≤ _; rw [hcf'.2.1]; omega) (by show d'.size ≤ _; rw [hwf'.sz.size]; omega)
      dsimp only at hroom
      rw [hcf'.2.1, hwf'.sz.size] at hroom
      obtain ⟨R, hR⟩ : ∃ R, R = (m - 1) * sz := ⟨_, rfl⟩
      rw [← hR] at hroom hlen hmz
      refine Ok.use hroom ?_
      rintro v w9 ⟨rfl, hu89⟩
      have hsb9 := hsb7d.upd hu89 fun h => h
      have hlei : (xb.length : Int) ≤ (R : Int) := by omega
      simp (config := { maxSteps := 3000000 }) (disch := omega) only [push_cast, Nat.reduceBEq, Nat.reduceEqDiff, Nat.reduceAdd, Nat.reduceMul, Nat.reduceSub, Nat.reduceLT, Int.reduceToNat, Int.reduceLT, Int.reduceLE, Int.reduceEq, Int.reduceAdd, Int.reduceSub, Int.reduceNeg, Int.reduceMul, hsb7.cell, hsb7d.cell, hsb9.cell, hlei]
      exact ⟨k - 1, by omega, tt + 1, D7, d', c', cb, _, _, now, xb, true, by omega, by simp, hw7d.quiet hu89, hD7, hcbw, hwf'.mono (by omega), t hu7' hu89, hsu7d.upd hu89 (fun _ h => h.elim), hxb7d.upd hu89 (fun _ h => h.elim), hru, hxr, hI', hcf'⟩
    · simp (config := { maxSteps := 3000000 }) (disch := omega) only [push_cast, Nat.reduceBEq, Nat.reduceEqDiff, Nat.reduceAdd, Nat.reduceMul, Nat.reduceSub, Nat.reduceLT, Int.reduceToNat, Int.reduceLT, Int.reduceLE, Int.reduceEq, Int.reduceAdd, Int.reduceSub, Int.reduceNeg, Int.reduceMul, hsb7.cell]
      exact ⟨k - 1, by omega, tt + 1, D7, d', c', cb, _, _, now, next, true, by omega, by simp, hw7, hD7, hcbw, hwf'.mono (by omega), hu7, hsu7, hsn7, hru, hrn, hI', hcf'⟩
  by_cases k1 : xk = 1
  · subst k1
    simp (config := { maxSteps := 3000000 }) (disch := omega) only [push_cast, Nat.reduceBEq, Nat.reduceEqDiff, Nat.reduceAdd, Nat.reduceMul, Nat.reduceSub, Nat.reduceLT, Int.reduceToNat, Int.reduceLT, Int.reduceLE, Int.reduceEq, Int.reduceAdd, Int.reduceSub, Int.reduceNeg, Int.reduceMul, hlt, s0, s1, s2, s3]
    have hw6 := hw5.quiet hal
    have hu6 := t hu5 hal
    have hsu6 := hsu.upd hal fun _ h => h.elim
    have hsn6 := hsn.upd hal fun _ h => h.elim
    have hxb6 : SlC _ (FF D fun b => b = cb) (.slice ba xb.length bc) xb := (hxb.upd hu6 fun _ h => h.elim).mono fun q _ hq => hFFw q hq
    rw [← hsbe] at hsb
    rw [← hsbe] at hal hw6 hu6 hsu6 hsn6 hxb6 ⊢
    generalize (((((w5.alloc (.cells [.int .i64 0, .slice none 0 0, .int .i64 0, .slice none 0 0].toArray 58 (0, 0))).setCell ⟨sb, 0, none⟩ (.int .i64 1)).setCell ⟨sb, 1, none⟩ (.slice ba xb.length bc)).setCell ⟨sb, 2, none⟩ (.int .i64 xn)).setCell ⟨sb, 3, none⟩ (.slice ka xkeep.length kc)) = w6 at *
    refine Ok.use (cfail_ok hw6 xn) ?_
    rintro v w7 ⟨D7, hw7, ht7⟩
    obtain ⟨hu7, hD7⟩ := ht7.fresh hu6 hDw hcbw
    have hsu7 := ht7.slb (J := fun b => b = cb) rfl hsu6
    have hsn7 := ht7.slb (J := fun b => b = cb) rfl hsn6
    have hwf' := hwf.fail hxN
    have hI' := hI.fail xn
    dsimp only at hw7
    simp (config := { maxSteps := 3000000 }) (disch := omega) only [push_cast, Nat.reduceBEq, Nat.reduceEqDiff, Nat.reduceAdd, Nat.reduceMul, Nat.reduceSub, Nat.reduceLT, Int.reduceToNat, Int.reduceLT, Int.reduceLE, Int.reduceEq, Int.reduceAdd, Int.reduceSub, Int.reduceNeg, Int.reduceMul]
    exact ⟨k - 1, by omega, tt + 1, D7, _, c, cb, _, _, now, next, torn, by omega, by simp, hw7, hD7, hcbw, hwf'.mono (by omega), hu7, hsu7, hsn7, hru, hrn, hI', hcf⟩
  by_cases k2 : xk = 2
  · subst k2
    simp (config := { maxSteps := 3000000 }) (disch := omega) only [push_cast, Nat.reduceBEq, Nat.reduceEqDiff, Nat.reduceAdd, Nat.reduceMul, Nat.reduceSub, Nat.reduceLT, Int.reduceToNat, Int.reduceLT, Int.reduceLE, Int.reduceEq, Int.reduceAdd, Int.reduceSub, Int.reduceNeg, Int.reduceMul, hlt, s0, s1, s2, s3]
    have hw6 := hw5.quiet hal
    have hu6 := t hu5 hal
    have hsu6 := hsu.upd hal fun _ h => h.elim
    have hsn6 := hsn.upd hal fun _ h => h.elim
    have hxb6 : SlC _ (FF D fun b => b = cb) (.slice ba xb.length bc) xb := (hxb.upd hu6 fun _ h => h.elim).mono fun q _ hq => hFFw q hq
    rw [← hsbe] at hsb
    rw [← hsbe] at hal hw6 hu6 hsu6 hsn6 hxb6 ⊢
    generalize (((((w5.alloc (.cells [.int .i64 0, .slice none 0 0, .int .i64 0, .slice none 0 0].toArray 58 (0, 0))).setCell ⟨sb, 0, none⟩ (.int .i64 2)).setCell ⟨sb, 1, none⟩ (.slice ba xb.length bc)).setCell ⟨sb, 2, none⟩ (.int .i64 xn)).setCell ⟨sb, 3, none⟩ (.slice ka xkeep.length kc)) = w6 at *
    have hk6 : SlT w6 D (.slice ka xkeep.length kc) xkeep := hxk.to hu6 fun q hq => hDw q hq
    refine Ok.use (crash_ok hw6.disk (by have := hwf.sz.few; show d.cache.length < _; omega) hk6) ?_
    rintro v w7 ⟨hd7, hu67⟩
    dsimp only at hd7
    have hs6 := hu6.size
    have hs67 := hu67.size
    have hu7 : Upd (fun _ => False) w w7 := hu6.trans hu67 fun q hq h => by have := hDw q h; omega
    have hD7 : ∀ q, gr D w6 w7 q → w.heap.size ≤ q := fun q hq => hq.elim (hDw q) fun h => by have := h.1; omega
    have ht67 : JT w6 w7 D (gr D w6 w7) cb := ⟨fun b hb => hb, fun b hb => .inl hb, hu67.mono fun b _ hb => .inl hb⟩
    have hsu7 := ht67.slb (J := fun b => b = cb) rfl hsu6
    have hsn7 := ht67.slb (J := fun b => b = cb) rfl hsn6
    generalize gr D w6 w7 = D7 at *
    have hwf7 := hwf.crash xkeep
    obtain ⟨hnw, hI'⟩ := hI.crash hwf hm1.2.2 xkeep next
    have hlv := crash_live hwf hm1.2.2 xkeep
    have hfc := hlv.facts (by omega) hm1.2.2 fun a ha => (hwf7.durl ha).1
    have hoff7 : (d.crash xkeep).off = false := rfl
    simp (config := { maxSteps := 3000000 }) (disch := omega) only [push_cast, Nat.reduceBEq, Nat.reduceEqDiff, Nat.reduceAdd, Nat.reduceMul, Nat.reduceSub, Nat.reduceLT, Int.reduceToNat, Int.reduceLT, Int.reduceLE, Int.reduceEq, Int.reduceAdd, Int.reduceSub, Int.reduceNeg, Int.reduceMul]
    refine Ok.use (Sectors_ok hd7) ?_
    rintro v _ ⟨rfl, rfl⟩
    rw [hwf7.sz.dur]
    simp (config := { maxSteps := 3000000 }) (disch := omega) only [push_cast, Nat.reduceBEq, Nat.reduceEqDiff, Nat.reduceAdd, Nat.reduceMul, Nat.reduceSub, Nat.reduceLT, Int.reduceToNat, Int.reduceLT, Int.reduceLE, Int.reduceEq, Int.reduceAdd, Int.reduceSub, Int.reduceNeg, Int.reduceMul, eN]
    refine Ok.use (copen_ok (hK.upd hu7 fun h => h) hd7 (fun h => by have := hD7 0 h; have := hK.1; omega) hwf7 (by omega) hoff7 hN1 hz1 hct hm) ?_
    rintro v w8 ⟨ob, hob, rfl, hw8, hu78⟩
    have hu8 := t hu7 hu78
    have hobw : w.heap.size ≤ ob := by omega
    simp (config := { maxSteps := 3000000 }) (disch := omega) only [push_cast, Nat.reduceBEq, Nat.reduceEqDiff, Nat.reduceAdd, Nat.reduceMul, Nat.reduceSub, Nat.reduceLT, Int.reduceToNat, Int.reduceLT, Int.reduceLE, Int.reduceEq, Int.reduceAdd, Int.reduceSub, Int.reduceNeg, Int.reduceMul]
    refine Ok.use (load_ok hw8 (by show (openC (d.crash xkeep) 1 m).newest.length ≤ _; omega) (by show (openC (d.crash xkeep) 1 m).gen ≤ _; omega)) ?_
    rintro v w9 ⟨x, rfl, h9⟩
    dsimp only at h9 ⊢
    rw [hlv.load] at h9 ⊢
    dsimp only at h9 ⊢
    have hu9 := t hu8 h9.upd
    have hw9 := hw8.quiet h9.upd
    have hrx : Rng (openC (d.crash xkeep) 1 m).newest := by
      obtain ⟨_, _, _, _, hr⟩ := hw8.at_
      exact hr
    have hcf' : (openC (d.crash xkeep) 1 m).first = 1 ∧ (openC (d.crash xkeep) 1 m).n = m ∧ (openC (d.crash xkeep) 1 m).gen ≤ 4611686018427387904 := ⟨hfc.2.2.2.1, hfc.2.2.2.2.1, hfc.1⟩
    have hx9 : SlB w9 (FF D7 fun b => b = ob) x (openC (d.crash xkeep) 1 m).newest := h9.own.slb fun g hg hq => by
      have := h9.new g hg
      rcases hq with hq | hq
      · have := hw8.disk.bd g hq; omega
      · have := (hw8.sep g hq).2; omega
    have hs7 := hu78.size
    have hs89 := h9.upd.size
    have hsn9 : SlB w9 (FF D7 fun b => b = ob) (.slice na next.length nc) next := (hsn7.mono (G := FF D7 fun b => b = ob) fun q hq h => h.elim .inl fun e => by omega).upd (t hu78 h9.upd) fun _ h => h.elim
    have hsu9 := hsu7.upd (t hu78 h9.upd) fun _ h => h.elim
    generalize openC (d.crash xkeep) 1 m = c' at *
    obtain ⟨xa, xc, rfl, _⟩ := id hx9
    have cX := cnv_str hx9
    have cU := cnv_str hsu9
    have cN := cnv_str (hsn7.upd (t hu78 h9.upd) fun _ h => h.elim)
    have qU := str_eq hrx hru
    have qN := str_eq hrx hrn
    by_cases eU : c'.newest = now
    · rw [decide_eq_true eU] at qU
      simp (config := { maxSteps := 3000000 }) (disch := omega) only [push_cast, Nat.reduceBEq, Nat.reduceEqDiff, Nat.reduceAdd, Nat.reduceMul, Nat.reduceSub, Nat.reduceLT, Int.reduceToNat, Int.reduceLT, Int.reduceLE, Int.reduceEq, Int.reduceAdd, Int.reduceSub, Int.reduceNeg, Int.reduceMul, cX, cU, cN, qU]
      exact ⟨k - 1, by omega, tt + 1, D7, _, c', ob, _, _, c'.newest, next, false, by omega, by simp, hw9, hD7, hobw, hwf7.mono (by omega), hu9, hx9, hsn9, hrx, hrn, hI', hcf'⟩
    · rw [decide_eq_false eU] at qU
      obtain ⟨rfl, eN2⟩ := hnw.resolve_left eU
      rw [decide_eq_true eN2] at qN
      simp (config := { maxSteps := 3000000 }) (disch := omega) only [push_cast, Nat.reduceBEq, Nat.reduceEqDiff, Nat.reduceAdd, Nat.reduceMul, Nat.reduceSub, Nat.reduceLT, Int.reduceToNat, Int.reduceLT, Int.reduceLE, Int.reduceEq, Int.reduceAdd, Int.reduceSub, Int.reduceNeg, Int.reduceMul, cX, cU, cN, qU, qN]
      exact ⟨k - 1, by omega, tt + 1, D7, _, c', ob, _, _, c'.newest, next, false, by omega, by simp, hw9, hD7, hobw, hwf7.mono (by omega), hu9, hx9, hsn9, hrx, hrn, hI', hcf'⟩
  · simp (config := { maxSteps := 3000000 }) (disch := omega) only [push_cast, Nat.reduceBEq, Nat.reduceEqDiff, Nat.reduceAdd, Nat.reduceMul, Nat.reduceSub, Nat.reduceLT, Int.reduceToNat, Int.reduceLT, Int.reduceLE, Int.reduceEq, Int.reduceAdd, Int.reduceSub, Int.reduceNeg, Int.reduceMul, hlt, s0, s1, s2, s3, k0, k1, k2]
    have hw6 := hw5.quiet hal
    have hu6 := t hu5 hal
    have hsu6 := hsu.upd hal fun _ h => h.elim
    have hsn6 := hsn.upd hal fun _ h => h.elim
    exact ⟨k - 1, by omega, tt + 1, D, d, c, cb, _, _, now, next, torn, by omega, by simp, hw6, hDw, hcbw, hwf.mono (by omega), hu6, hsu6, hsn6, hru, hrn, hI, hcf⟩
theorem checkpointSurvives_law {w : World} (hK : KT w) (x : Int) (hx : (Lit.int .u8 x).wf = true) {vc vs : Value} (hc : ∃ ls, SlRC w (fun b => w.heap.size ≤ b) vc ls ∧ RngL ls) (hs : ∃ l, SlS w vs l) :
    Ok (den Tryd.prog 8 #[.int .u8 x, vc, vs] w) fun u w' => u = .bool true ∧ Upd (fun _ => False) w w' := by
  obtain ⟨s, rfl, h⟩ := u8_of hx
  obtain ⟨ls, h1, h2⟩ := hc
  obtain ⟨l, h3⟩ := hs
  exact survives_ok hK h h1 h2 h3
end Go.Proofs.YtkceoefmhppddaaDoor.Fd
