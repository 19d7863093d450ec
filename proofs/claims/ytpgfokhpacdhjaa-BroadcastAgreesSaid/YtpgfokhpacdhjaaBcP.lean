/-
  What holds in every run (plain): who knows what; a calm round, plain and walked.
-/
import Derived.Test.YtpgfokhpacdhjaaBcJ
namespace Go.Proofs.Ytpgfokhpacdhjaa.Fd
set_option linter.unusedSimpArgs false
set_option linter.unusedVariables false
open Go Go.ChangeMaps
set_option maxRecDepth 100000

theorem pop8_mod (n : Nat) : pop8 (n % 256) = ((List.range 8).filter fun i => n.testBit i).length := by
  unfold pop8
  congr 1
  refine List.filter_congr fun i hi => ?_
  have hi := List.mem_range.1 hi
  rw [show (256 : Nat) = 2 ^ 8 from rfl, Nat.testBit_mod_two_pow]
  simp [hi]
theorem pop8_div (n : Nat) : pop8 (n / 256) = ((List.range 8).filter fun i => n.testBit (i + 8)).length := by
  unfold pop8
  congr 1
  refine List.filter_congr fun i hi => ?_
  rw [show (256 : Nat) = 2 ^ 8 from rfl, Nat.testBit_div_two_pow]
theorem filter_mono {α : Type} {p q : α → Bool} : ∀ {l : List α}, (∀ x, p x = true → q x = true) → (l.filter p).length ≤ (l.filter q).length
  | [], _ => Nat.le_refl _
  | a :: l, h => by
    have ih := filter_mono (l := l) h
    rw [List.filter_cons, List.filter_cons]
    cases hp : p a
    · cases q a <;> simp <;> omega
    · rw [h a hp]; simp; omega
theorem ones_mono {D D' : BitVec 16} (h : ∀ i, D.getLsbD i = true → D'.getLsbD i = true) : ones D ≤ ones D' := by
  unfold ones
  rw [pop8_mod, pop8_div, pop8_mod, pop8_div]
  exact Nat.add_le_add (filter_mono fun i hi => h _ hi) (filter_mono fun i hi => h _ hi)
/-- The members of a word: at most as many as its ones, in any list without repetition. -/
theorem ones_two {D : BitVec 16} : ones D = ((List.range 16).filter fun i => D.getLsbD i).length := by
  unfold ones
  rw [pop8_mod, pop8_div]
  have e : List.range 16 = List.range 8 ++ (List.range 8).map (· + 8) := rfl
  rw [e, List.filter_append, List.length_append, List.filter_map, List.length_map, Nat.add_comm]
  rfl
def NG (S S' : PS) : Prop := ∀ k x, findS k S.notes = some x → ∃ D', findS k S'.notes = some (x.1, D') ∧ ∀ j, x.2.getLsbD j = true → D'.getLsbD j = true
theorem NG.refl {S : PS} : NG S S := fun k x h => ⟨x.2, h, fun _ h => h⟩
theorem NG.nn {S S' : PS} (h : NG S S') {k : NP} (hk : findS k S.notes ≠ none) : findS k S'.notes ≠ none := by
  cases hf : findS k S.notes with
  | none => exact absurd hf hk
  | some x => obtain ⟨D', h1, _⟩ := h k x hf; rw [h1]; exact fun e => by cases e
theorem NG.congr {S S' S2 : PS} (h : NG S S') (e : S2.notes = S'.notes) : NG S S2 := by unfold NG at h ⊢; rw [e]; exact h
theorem NG.put {S : PS} {k : NP} {l : List Int} {D D' : BitVec 16} (h : findS k S.notes = none ∨ (findS k S.notes = some (l, D) ∧ ∀ j, D.getLsbD j = true → D'.getLsbD j = true)) : NG S { S with notes := putS k (l, D') S.notes } := by
  intro b x hb
  simp only [putS_find]
  by_cases e : b = k
  · subst e
    rcases h with h | ⟨h, h2⟩
    · rw [h] at hb; cases hb
    · rw [h] at hb
      injection hb with hb
      subst hb
      rw [if_pos rfl]
      exact ⟨D', rfl, h2⟩
  · rw [if_neg e]
    exact ⟨x.2, hb, fun _ h => h⟩
/-- Delivered broadcasts are known to more than half. -/
def Mj (S : PS) : Prop := ∀ o m : Nat, (m : Int) < S.done o → ∃ l D, findS ((o : Int), (m : Int) + 1) S.notes = some (l, D) ∧ S.n < 2 * ones D
theorem Mj.grow {S S' : PS} (h : Mj S) (g : NG S S') (hn : S'.n = S.n) (hd : S'.done = S.done) : Mj S' := by
  intro o m hm
  rw [hd] at hm
  obtain ⟨l, D, h1, h2⟩ := h o m hm
  obtain ⟨D', h3, h4⟩ := g _ _ h1
  have h5 : ones D ≤ ones D' := ones_mono h4
  exact ⟨l, D', h3, by rw [hn]; omega⟩
theorem Run.mj {S S' : PS} (h : Run S S') : Mj S → (∀ o : Nat, 0 ≤ S.done o) → Mj S' ∧ (∀ o : Nat, 0 ≤ S'.done o) := by
  induction h with
  | done _ => exact fun h1 h2 => ⟨h1, h2⟩
  | @step S S' o l D ho he _ _ ih =>
    intro h1 h2
    refine ih ?_ ?_
    · intro o' m hm
      simp only [delS] at hm ⊢
      by_cases e : o' = o
      · subst e
        rw [if_pos rfl] at hm
        obtain ⟨q1, q2⟩ := elig_some he
        have := h2 o'
        by_cases e2 : (m : Int) = S.done o'
        · rw [e2]; exact ⟨l, D, q1, q2⟩
        · exact h1 o' m (by omega)
      · rw [if_neg e] at hm
        exact h1 o' m hm
    · intro o'
      simp only [delS]
      have := h2 o
      have := h2 o'
      split <;> omega
theorem Run.calm {S S' : PS} (h : Run S S') : ∀ o, o < S'.n → elig S' o = none := by
  induction h with
  | done h => exact h
  | step _ _ _ _ ih => exact ih
def Pk2 (n : Nat) (procs : Nat → PS) (z : Pk) : Prop := (z.k = 1 ∨ z.k = 2) ∧ ∃ f : Nat, f < n ∧ z.f = (f : Int) ∧ z.f ≠ z.t ∧ findS (z.o, z.n) (procs f).notes ≠ none
structure Inv2 (W : Wd) : Prop where
  bt : ∀ i, i < W.n → ∀ k x, findS k (W.procs i).notes = some x → x.2.getLsbD i = true ∧ ∀ j, x.2.getLsbD j = true → j < W.n ∧ findS k (W.procs j).notes ≠ none
  own : ∀ i, i < W.n → ∀ m : Nat, m < (W.sent i).length → findS ((i : Int), (m : Int) + 1) (W.procs i).notes ≠ none
  pk : ∀ z, z ∈ W.under → Pk2 W.n W.procs z
  el : ∀ i, i < W.n → ∀ o, o < W.n → elig (W.procs i) o = none
  mj : ∀ i, i < W.n → Mj (W.procs i)
theorem Pk2.grow {n t : Nat} {procs : Nat → PS} {S' : PS} {z : Pk} (h : Pk2 n procs z) (g : NG (procs t) S') : Pk2 n (upd procs t S') z := by
  obtain ⟨h1, f, h2, h3, h4, h5⟩ := h
  refine ⟨h1, f, h2, h3, h4, ?_⟩
  by_cases e : f = t
  · subst e; rw [upd_same]; exact g.nn h5
  · rw [upd_other e]; exact h5
/-- One process goes on. -/
theorem Inv2.step {W : Wd} (h : Inv2 W) {t : Nat} (_ht : t < W.n) {S' : PS} {sent' : Nat → List (List Int)} {under' : List Pk} {down' : Nat → Bool} (g : NG (W.procs t) S') (hn : S'.n = W.n)
    (hb : ∀ k x, findS k S'.notes = some x → x.2.getLsbD t = true ∧ ∀ j, x.2.getLsbD j = true → j < W.n ∧ (j = t ∨ findS k (W.procs j).notes ≠ none))
    (hs : ∀ i, i < W.n → ∀ m : Nat, m < (sent' i).length → m < (W.sent i).length ∨ (i = t ∧ findS ((i : Int), (m : Int) + 1) S'.notes ≠ none))
    (hp : ∀ z, z ∈ under' → z ∈ W.under ∨ Pk2 W.n (upd W.procs t S') z) (he : ∀ o, o < S'.n → elig S' o = none) (hm : Mj S') :
    Inv2 ⟨W.n, upd W.procs t S', sent', down', under'⟩ := by
  have key : ∀ j k, findS k (W.procs j).notes ≠ none → findS k (upd W.procs t S' j).notes ≠ none := fun j k hk => by
    by_cases e : j = t
    · subst e; rw [upd_same]; exact g.nn hk
    · rw [upd_other e]; exact hk
  refine ⟨fun i hi k x hx => ?_, fun i hi m hm' => ?_, fun z hz => ?_, fun i hi o ho => ?_, fun i hi => ?_⟩
  · simp only at hx ⊢
    by_cases e : i = t
    · subst e
      rw [upd_same] at hx
      obtain ⟨h1, h2⟩ := hb k x hx
      refine ⟨h1, fun j hj => ?_⟩
      obtain ⟨h3, h4⟩ := h2 j hj
      refine ⟨h3, ?_⟩
      rcases h4 with e | h4
      · rw [e, upd_same, hx]; exact fun e => by cases e
      · exact key j k h4
    · rw [upd_other e] at hx
      obtain ⟨h1, h2⟩ := h.bt i hi k x hx
      exact ⟨h1, fun j hj => ⟨(h2 j hj).1, key j k (h2 j hj).2⟩⟩
  · rcases hs i hi m hm' with h1 | ⟨e, h1⟩
    · exact key i _ (h.own i hi m h1)
    · show findS _ (upd W.procs t S' i).notes ≠ none
      rw [e] at h1 ⊢
      rw [upd_same]
      exact h1
  · rcases hp z hz with h1 | h1
    · exact (h.pk z h1).grow g
    · exact h1
  · simp only
    by_cases e : i = t
    · subst e; rw [upd_same]; exact he o (by rw [hn]; exact ho)
    · rw [upd_other e]; exact h.el i hi o ho
  · simp only
    by_cases e : i = t
    · subst e; rw [upd_same]; exact hm
    · rw [upd_other e]; exact h.mj i hi
theorem bit_or {D : BitVec 16} {b i : Nat} (hb : b < 16) (h : (D ||| BitVec.twoPow 16 b).getLsbD i = true) : D.getLsbD i = true ∨ i = b := by
  rw [v_getLsb hb] at h
  simpa using h
theorem or_bit {D : BitVec 16} {b : Nat} (hb : b < 16) : (D ||| BitVec.twoPow 16 b).getLsbD b = true := by
  rw [v_getLsb hb]; simp
theorem or_left {D E : BitVec 16} {i : Nat} (h : D.getLsbD i = true) : (D ||| E).getLsbD i = true := by
  rw [BitVec.getLsbD_or, h]; rfl
theorem or_right {D E : BitVec 16} {i : Nat} (h : E.getLsbD i = true) : (D ||| E).getLsbD i = true := by
  rw [BitVec.getLsbD_or, h]; simp
theorem two_bit {b i : Nat} (hb : b < 16) : (BitVec.twoPow 16 b).getLsbD i = true ↔ i = b := by
  rw [BitVec.getLsbD_twoPow]
  simp only [Bool.and_eq_true, decide_eq_true_eq]
  exact ⟨fun h => h.2.symm, fun h => ⟨hb, h.symm⟩⟩
theorem or_or {D E : BitVec 16} {i : Nat} (h : (D ||| E).getLsbD i = true) : D.getLsbD i = true ∨ E.getLsbD i = true := by
  rw [BitVec.getLsbD_or, Bool.or_eq_true] at h
  exact h

def Inv0 (W : Wd) : Prop := Inv1 60 { W with under := [] } ∧ ∀ z, z ∈ W.under → PkOk W.n W.sent z
theorem Inv1.inv0 {E : Nat} {W : Wd} (h : Inv1 E W) (hE : E ≤ 60) : Inv0 W :=
  ⟨⟨h.n1, h.pn, fun i hi => by have := h.se i hi; simp only; omega, h.sl, h.nt, h.ls, fun z hz => (by cases hz), by simp⟩, h.pk⟩
theorem Inv0.s60 {W : Wd} (h : Inv0 W) {o : Nat} (ho : o < W.n) : (W.sent o).length ≤ 60 := h.1.se o ho
theorem key_own {W : Wd} (h2 : Inv2 W) {o : Nat} (ho : o < W.n) {n : Int} (h1 : 1 ≤ n) (hn : n ≤ (W.sent o).length) : findS ((o : Int), n) (W.procs o).notes ≠ none := by
  have h := h2.own o ho (n.toNat - 1) (by omega)
  rwa [show ((n.toNat - 1 : Nat) : Int) + 1 = n from by omega] at h
theorem rc_cases {W : Wd} (hI : Inv0 W) {z : Pk} (hz : PkOk W.n W.sent z) (hz2 : Pk2 W.n W.procs z) {t : Nat} (ht : t < W.n) (hzt : z.t = (t : Int)) {S' : PS} {ps : List Pk} (hR : RcR (W.procs t) z S' ps) :
    ∃ f o : Nat, f < W.n ∧ o < W.n ∧ z.f = (f : Int) ∧ z.o = (o : Int) ∧ f ≠ t ∧ 1 ≤ z.n ∧ z.n ≤ (W.sent o).length ∧ findS (z.o, z.n) (W.procs f).notes ≠ none ∧
    ((z.k = 2 ∧ findS (z.o, z.n) (W.procs t).notes = none ∧ S' = W.procs t ∧ ps = []) ∨
     (∃ l D, z.k = 2 ∧ findS (z.o, z.n) (W.procs t).notes = some (l, D) ∧ Run { W.procs t with notes := putS (z.o, z.n) (l, D ||| BitVec.twoPow 16 f) (W.procs t).notes } S' ∧ ps = []) ∨
     (∃ l D, z.k = 1 ∧ findS (z.o, z.n) (W.procs t).notes = some (l, D) ∧ Run { W.procs t with notes := putS (z.o, z.n) (l, D ||| (BitVec.twoPow 16 f ||| BitVec.twoPow 16 o)) (W.procs t).notes } S' ∧ ps = [⟨2, t, z.f, z.o, z.n, []⟩]) ∨
     (z.k = 1 ∧ findS (z.o, z.n) (W.procs t).notes = none ∧ Run { W.procs t with notes := putS (z.o, z.n) (z.l, BitVec.twoPow 16 t ||| BitVec.twoPow 16 f ||| BitVec.twoPow 16 o) (W.procs t).notes } S' ∧ ps = rcO (W.procs t) z W.n)) := by
  obtain ⟨t', o, _, ht', ho, hzo, hz1, hk1, hk2⟩ := hz
  obtain ⟨hk, f, hf, hzf, hft, hnf⟩ := hz2
  obtain ⟨e1, e2, e3⟩ := hI.1.pn t ht
  simp only at e1 e2 e3
  have hft' : f ≠ t := fun e => hft (by rw [hzf, hzt, e])
  have hlen : z.n ≤ (W.sent o).length := by
    by_cases hk' : z.k = 1
    · have := (List.getElem?_eq_some_iff.1 (hk1 hk')).1
      omega
    · cases hfd : findS (z.o, z.n) (W.procs f).notes with
      | none => exact absurd hfd hnf
      | some x =>
        obtain ⟨o', q1, q2, q3, q4⟩ := (hI.1.nt f hf).1 _ _ hfd
        have := (List.getElem?_eq_some_iff.1 q4).1
        simp only at q2 q3 this
        have : o' = o := by omega
        subst this
        omega
  have h60 := hI.s60 ho
  refine ⟨f, o, hf, ho, hzf, hzo, hft', hz1, hlen, hnf, ?_⟩
  have hP : propP (W.procs t) z = true := by
    have a1 : (decide (z.k = 1) || decide (z.k = 2)) = true := by rcases hk with h | h <;> simp [h]
    have a2 : (decide (z.k = 1) || decide (z.l.length = 0)) = true := by
      by_cases h : z.k = 1
      · simp [h]
      · simp [hk2 h]
    have a3 : (!decide (z.o = ((W.procs t).self : Int)) || decide (z.n ≤ ((W.procs t).made : Int))) = true := by
      rw [e2, e3]
      by_cases h : z.o = (t : Int)
      · have : o = t := by omega
        subst this
        simp [hlen]
      · simp [h]
    unfold propP insI
    rw [a1, a2, a3, e1, e2]
    simp only [Bool.and_eq_true, Bool.true_and, Bool.and_true, decide_eq_true_eq, Bool.not_eq_true', decide_eq_false_iff_not]
    exact ⟨⟨⟨⟨⟨hzt, by omega, by omega⟩, by omega⟩, by omega, by omega⟩, hz1⟩, by omega⟩
  unfold RcR at hR
  unfold rcS at hR
  rw [if_pos hP] at hR
  have htw1 : tw z.f = BitVec.twoPow 16 f := by unfold tw; rw [hzf]; rfl
  have htw2 : tw z.o = BitVec.twoPow 16 o := by unfold tw; rw [hzo]; rfl
  have hw : BitVec.twoPow 16 (W.procs t).self = BitVec.twoPow 16 t := by rw [e2]
  rw [htw1, htw2, hw] at hR
  cases hfd : findS (z.o, z.n) (W.procs t).notes with
  | none =>
    rw [hfd] at hR
    simp only at hR
    by_cases h2 : z.k = 2
    · rw [if_pos h2] at hR
      exact .inl ⟨h2, rfl, hR.1, hR.2⟩
    · rw [if_neg h2] at hR
      exact .inr (.inr (.inr ⟨hk.resolve_right h2, rfl, hR.1, by rw [hR.2, e1]⟩))
  | some x =>
    obtain ⟨l, D⟩ := x
    rw [hfd] at hR
    simp only at hR
    by_cases h2 : z.k = 2
    · rw [if_pos h2] at hR
      exact .inr (.inl ⟨l, D, h2, rfl, hR.1, hR.2⟩)
    · have h1 := hk.resolve_right h2
      have hl : l = z.l := by
        obtain ⟨o', q1, q2, q3, q4⟩ := (hI.1.nt t ht).1 _ _ hfd
        simp only at q2 q4
        have : o' = o := by omega
        subst this
        have := hk1 h1
        rw [q4] at this
        exact Option.some.inj this
      rw [if_neg h2, if_pos hl] at hR
      exact .inr (.inr (.inl ⟨l, D, h1, rfl, hR.1, by rw [hR.2, e2]⟩))
theorem done0 {n : Nat} {s : Nat → List (List Int)} {S : PS} (h : LsOk n s S) : ∀ o : Nat, 0 ≤ S.done o := fun o => by rw [h.2 o]; omega
/-- After a note has been put, and deliver has run. -/
theorem put_run {S S' : PS} {k : NP} {l : List Int} {D' : BitVec 16} (hr : Run { S with notes := putS k (l, D') S.notes } S') (g : NG S { S with notes := putS k (l, D') S.notes }) (hm : Mj S) (hd : ∀ o : Nat, 0 ≤ S.done o) :
    NG S S' ∧ Mj S' ∧ (∀ o, o < S'.n → elig S' o = none) ∧ S'.n = S.n ∧ ∀ b, findS b S'.notes = if b = k then some (l, D') else findS b S.notes := by
  obtain ⟨k1, k2, k3, k4⟩ := hr.keep
  refine ⟨g.congr k4, (hr.mj (hm.grow g rfl rfl) hd).1, hr.calm, k1, fun b => ?_⟩
  rw [k4]
  exact putS_find
theorem RcR.inv2 {W : Wd} (hI : Inv0 W) (h2 : Inv2 W) {i t : Nat} {z : Pk} (hzi : W.under[i]? = some z) (ht : t < W.n) (hzt : z.t = (t : Int)) {S' : PS} {ps : List Pk} (hR : RcR (W.procs t) z S' ps) :
    Inv2 { W with procs := upd W.procs t S', under := W.under.eraseIdx i ++ ps } := by
  have hzm := List.mem_of_getElem? hzi
  obtain ⟨f, o, hf, ho, hzf, hzo, hft, hz1, hzn, hnf, hc⟩ := rc_cases hI (hI.2 z hzm) (h2.pk z hzm) ht hzt hR
  obtain ⟨e1, e2, e3⟩ := hI.1.pn t ht
  simp only at e1 e2 e3
  have hn5 : W.n ≤ 5 := hI.1.n1.2
  have hno : findS (z.o, z.n) (W.procs o).notes ≠ none := by rw [hzo]; exact key_own h2 ho hz1 hzn
  have hd := done0 (hI.1.ls t ht)
  have er : ∀ y, y ∈ W.under.eraseIdx i → y ∈ W.under := fun y hy => List.mem_of_mem_eraseIdx hy
  rcases hc with ⟨_, hfd, rfl, rfl⟩ | ⟨l, D, _, hfd, hr, rfl⟩ | ⟨l, D, _, hfd, hr, rfl⟩ | ⟨_, hfd, hr, rfl⟩
  · exact h2.step ht NG.refl e1 (fun k x hx => ⟨(h2.bt t ht k x hx).1, fun j hj => ⟨((h2.bt t ht k x hx).2 j hj).1, .inr ((h2.bt t ht k x hx).2 j hj).2⟩⟩) (fun _ _ _ h => .inl h) (fun y hy => .inl (er y (by simpa using hy))) (fun o' ho' => h2.el t ht o' (by rw [← e1]; exact ho')) (h2.mj t ht)
  · obtain ⟨g, q1, q2, q3, q4⟩ := put_run hr (NG.put (.inr ⟨hfd, fun j hj => or_left hj⟩)) (h2.mj t ht) hd
    refine h2.step ht g (q3.trans e1) (fun k x hx => ?_) (fun _ _ _ h => .inl h) (fun y hy => .inl (er y (by simpa using hy))) q2 q1
    rw [q4] at hx
    split at hx
    · rename_i e
      injection hx with hx
      subst hx
      obtain ⟨b1, b2⟩ := h2.bt t ht _ _ hfd
      refine ⟨or_left b1, fun j hj => ?_⟩
      rcases or_or hj with h | h
      · exact ⟨(b2 j h).1, .inr (by rw [e]; exact (b2 j h).2)⟩
      · rw [two_bit (by omega)] at h
        subst h
        exact ⟨hf, .inr (by rw [e]; exact hnf)⟩
    · obtain ⟨b1, b2⟩ := h2.bt t ht _ _ hx
      exact ⟨b1, fun j hj => ⟨(b2 j hj).1, .inr (b2 j hj).2⟩⟩
  · obtain ⟨g, q1, q2, q3, q4⟩ := put_run hr (NG.put (.inr ⟨hfd, fun j hj => or_left hj⟩)) (h2.mj t ht) hd
    refine h2.step ht g (q3.trans e1) (fun k x hx => ?_) (fun _ _ _ h => .inl h) (fun y hy => ?_) q2 q1
    · rw [q4] at hx
      split at hx
      · rename_i e
        injection hx with hx
        subst hx
        obtain ⟨b1, b2⟩ := h2.bt t ht _ _ hfd
        refine ⟨or_left b1, fun j hj => ?_⟩
        rcases or_or hj with h | h
        · exact ⟨(b2 j h).1, .inr (by rw [e]; exact (b2 j h).2)⟩
        · rcases or_or h with h | h
          · rw [two_bit (by omega)] at h
            subst h
            exact ⟨hf, .inr (by rw [e]; exact hnf)⟩
          · rw [two_bit (by omega)] at h
            subst h
            exact ⟨ho, .inr (by rw [e]; exact hno)⟩
      · obtain ⟨b1, b2⟩ := h2.bt t ht _ _ hx
        exact ⟨b1, fun j hj => ⟨(b2 j hj).1, .inr (b2 j hj).2⟩⟩
    · rcases List.mem_append.1 hy with hy | hy
      · exact .inl (er y hy)
      · simp at hy
        subst hy
        exact .inr ⟨.inr rfl, t, ht, rfl, by simp only; omega, by rw [upd_same, q4, if_pos rfl]; exact fun e => by cases e⟩
  · obtain ⟨g, q1, q2, q3, q4⟩ := put_run hr (NG.put (D := 0#16) (.inl hfd)) (h2.mj t ht) hd
    refine h2.step ht g (q3.trans e1) (fun k x hx => ?_) (fun _ _ _ h => .inl h) (fun y hy => ?_) q2 q1
    · rw [q4] at hx
      split at hx
      · rename_i e
        injection hx with hx
        subst hx
        refine ⟨or_left (or_left ((two_bit (by omega)).2 rfl)), fun j hj => ?_⟩
        rcases or_or hj with h | h
        · rcases or_or h with h | h
          · rw [two_bit (by omega)] at h
            exact ⟨by omega, .inl h⟩
          · rw [two_bit (by omega)] at h
            subst h
            exact ⟨hf, .inr (by rw [e]; exact hnf)⟩
        · rw [two_bit (by omega)] at h
          subst h
          exact ⟨ho, .inr (by rw [e]; exact hno)⟩
      · obtain ⟨b1, b2⟩ := h2.bt t ht _ _ hx
        exact ⟨b1, fun j hj => ⟨(b2 j hj).1, .inr (b2 j hj).2⟩⟩
    · rcases List.mem_append.1 hy with hy | hy
      · exact .inl (er y hy)
      · right
        have hfs : findS (z.o, z.n) (upd W.procs t S' t).notes ≠ none := by rw [upd_same, q4, if_pos rfl]; exact fun e => by cases e
        unfold rcO at hy
        obtain ⟨to, hto, hy⟩ := List.mem_filterMap.1 hy
        split at hy
        · cases hy
        · rename_i hself
          rw [e2] at hself
          split at hy
          · cases hy
            exact ⟨.inr rfl, t, ht, by simp only; rw [e2], by simp only; rw [e2]; omega, hfs⟩
          · cases hy
            exact ⟨.inl rfl, t, ht, by simp only; rw [e2], by simp only; rw [e2]; omega, hfs⟩
theorem rs_pk2 {W : Wd} (hI : Inv0 W) (h2 : Inv2 W) {p : Nat} (hp : p < W.n) {ss : List NP} : ∀ y, y ∈ rsO (W.procs p) ss → Pk2 W.n W.procs y := by
  intro y hy
  obtain ⟨e1, e2, e3⟩ := hI.1.pn p hp
  simp only at e1 e2 e3
  unfold rsO rsB at hy
  obtain ⟨b, _, hy⟩ := List.mem_flatMap.1 hy
  obtain ⟨to, hto, hy⟩ := List.mem_filterMap.1 hy
  split at hy
  · rename_i l D hf
    have hb := (h2.bt p hp _ _ hf).1
    split at hy
    · cases hy
    · rename_i hbit
      cases hy
      refine ⟨.inl rfl, p, hp, by simp only; rw [e2], ?_, by rw [show ((b.1, b.2) : NP) = b from rfl, hf]; exact fun e => by cases e⟩
      simp only
      rw [e2]
      intro e
      have : p = to := by omega
      subst this
      exact hbit hb
  · cases hy
theorem Inv2.start (n : Nat) : Inv2 (W0 n) := by
  refine ⟨fun i hi k x hx => (by cases hx), fun i hi m hm => (by simp [W0] at hm), fun z hz => (by cases hz), fun i hi o ho => rfl, fun i hi o m hm => ?_⟩
  have : (m : Int) < 0 := hm
  omega
theorem PlayR.inv2 {x : Ev} {W W' : Wd} (h : PlayR x W W') (hI : Inv0 W) (h2 : Inv2 W) : Inv2 W' := by
  cases h with
  | same => exact h2
  | @bc p S' hp hd hr =>
    obtain ⟨e1, e2, e3⟩ := hI.1.pn p hp
    simp only at e1 e2 e3
    have hn5 : W.n ≤ 5 := hI.1.n1.2
    have hnone : findS (((W.procs p).self : Int), ((W.procs p).made : Int) + 1) (W.procs p).notes = none := by
      cases hfd : findS (((W.procs p).self : Int), ((W.procs p).made : Int) + 1) (W.procs p).notes with
      | none => rfl
      | some y =>
        obtain ⟨o', q1, q2, q3, q4⟩ := (hI.1.nt p hp).1 _ _ hfd
        have := (List.getElem?_eq_some_iff.1 q4).1
        simp only at q2 this
        rw [e2] at q2
        have : o' = p := by omega
        subst this
        omega
    have hr' : Run { ({ W.procs p with made := (W.procs p).made + 1 } : PS) with notes := putS (((W.procs p).self : Int), ((W.procs p).made : Int) + 1) (x.l, BitVec.twoPow 16 (W.procs p).self) (W.procs p).notes } S' := hr
    obtain ⟨g, q1, q2, q3, q4⟩ := put_run (S := { W.procs p with made := (W.procs p).made + 1 }) hr' (NG.put (D := 0#16) (.inl hnone)) (h2.mj p hp) (done0 (hI.1.ls p hp))
    refine h2.step hp g (q3.trans e1) (fun k y hy => ?_) (fun i hi m hm => ?_) (fun y hy => ?_) q2 q1
    · rw [q4] at hy
      split at hy
      · rename_i e
        injection hy with hy
        subst hy
        rw [e2]
        refine ⟨(two_bit (by omega)).2 rfl, fun j hj => ?_⟩
        rw [two_bit (by omega)] at hj
        exact ⟨by omega, .inl hj⟩
      · obtain ⟨b1, b2⟩ := h2.bt p hp _ _ hy
        exact ⟨b1, fun j hj => ⟨(b2 j hj).1, .inr (b2 j hj).2⟩⟩
    · by_cases e : i = p
      · subst e
        rw [upd_same, List.length_append, List.length_singleton] at hm
        by_cases e' : m < (W.sent i).length
        · exact .inl e'
        · right
          refine ⟨rfl, ?_⟩
          have : m = (W.sent i).length := by omega
          subst this
          rw [q4, if_pos (by rw [e2, e3])]
          exact fun e => by cases e
      · rw [upd_other e] at hm
        exact .inl hm
    · rcases List.mem_append.1 hy with hy | hy
      · exact .inl hy
      · right
        unfold bcO at hy
        obtain ⟨to, hto, hy⟩ := List.mem_filterMap.1 hy
        split at hy
        · cases hy
        · rename_i hself
          cases hy
          rw [e2] at hself
          refine ⟨.inl rfl, p, hp, by simp only; rw [e2], by simp only; rw [e2]; omega, ?_⟩
          rw [upd_same, q4, if_pos rfl]
          exact fun e => by cases e
  | @rc i0 t z S' ps hz hzt ht hd hr => exact hr.inv2 hI h2 hz ht hzt
  | @drop i0 => exact ⟨h2.bt, h2.own, fun z hz => h2.pk z (List.mem_of_mem_eraseIdx hz), h2.el, h2.mj⟩
  | dup hz hl =>
    refine ⟨h2.bt, h2.own, fun z hz' => ?_, h2.el, h2.mj⟩
    rcases List.mem_append.1 hz' with h' | h'
    · exact h2.pk z h'
    · simp at h'; subst h'; exact h2.pk _ (List.mem_of_getElem? hz)
  | crash hp => exact ⟨h2.bt, h2.own, h2.pk, h2.el, h2.mj⟩
  | @rs p ss hp hd hl hss =>
    refine ⟨h2.bt, h2.own, fun z hz' => ?_, h2.el, h2.mj⟩
    rcases List.mem_append.1 hz' with h' | h'
    · exact h2.pk z h'
    · exact rs_pk2 hI h2 hp z h'

def Pd (W : Wd) (i : Nat) : Prop := ∀ k x, findS k (W.procs i).notes = some x → ∀ j : Nat, j < W.n → W.down j = false → x.2.getLsbD j = false →
  ∃ z, z ∈ W.under ∧ z.o = k.1 ∧ z.n = k.2 ∧ ((z.k = 1 ∧ z.f = (i : Int) ∧ z.t = (j : Int)) ∨ (z.f = (j : Int) ∧ z.t = (i : Int)))
def wt (z : Pk) : Nat := if z.k = 1 then 2 else 1
def wts : List Pk → Nat
  | [] => 0
  | z :: r => wt z + wts r
def phi (W : Wd) : Nat := wts W.under + 10 * sumN (fun i => 305 - (W.procs i).notes.length) W.n
theorem wts_app : ∀ {a b : List Pk}, wts (a ++ b) = wts a + wts b
  | [], b => by simp [wts]
  | z :: r, b => by rw [List.cons_append, wts, wts, wts_app]; omega
theorem wt_le {z : Pk} : 1 ≤ wt z ∧ wt z ≤ 2 := by unfold wt; split <;> omega
theorem wts_le : ∀ {a : List Pk}, a.length ≤ wts a ∧ wts a ≤ 2 * a.length
  | [] => ⟨Nat.le_refl _, Nat.le_refl _⟩
  | z :: r => by
    have h1 := wts_le (a := r)
    have h2 := @wt_le z
    rw [wts, List.length_cons]
    omega
theorem wts_erase : ∀ {a : List Pk} {i : Nat} {z : Pk}, a[i]? = some z → wts (a.eraseIdx i) + wt z = wts a
  | [], i, z, h => by simp at h
  | y :: r, 0, z, h => by simp at h; subst h; rw [List.eraseIdx_cons_zero, wts]; omega
  | y :: r, i + 1, z, h => by
    have ih := wts_erase (a := r) (i := i) (z := z) (by simpa using h)
    rw [List.eraseIdx_cons_succ, wts, wts]
    omega
theorem mem_erase {a : List Pk} {i : Nat} {z y : Pk} (h : a[i]? = some z) (hy : y ∈ a) (hne : y ≠ z) : y ∈ a.eraseIdx i := by
  obtain ⟨j, hj⟩ := List.getElem?_of_mem hy
  have hji : j ≠ i := fun e => by rw [e, h] at hj; exact hne (Option.some.inj hj).symm
  rw [List.mem_iff_getElem?]
  by_cases hlt : j < i
  · exact ⟨j, by rw [List.getElem?_eraseIdx_of_lt hlt]; exact hj⟩
  · exact ⟨j - 1, by rw [List.getElem?_eraseIdx_of_ge (by omega), show j - 1 + 1 = j from by omega]; exact hj⟩
theorem Pd.more {W : Wd} {i : Nat} {u : List Pk} (h : Pd W i) (hu : ∀ z, z ∈ W.under → z ∈ u) : Pd { W with under := u } i := by
  intro k x hx j hj hd hb
  obtain ⟨z, h1, h2⟩ := h k x hx j hj hd hb
  exact ⟨z, hu z h1, h2⟩
theorem Pd.resend {W : Wd} {i : Nat} (hi : (W.procs i).n = W.n ∧ (W.procs i).self = i) {ss : List NP} (hss : ss.Perm ((W.procs i).notes.map (·.1))) : Pd { W with under := W.under ++ rsO (W.procs i) ss } i := by
  intro k x hx j hj hd hb
  have hk : k ∈ ss := by
    rw [hss.mem_iff]
    have : ¬ findS k (W.procs i).notes = none := by
      have hx' : findS k (W.procs i).notes = some x := hx
      rw [hx']; exact fun e => by cases e
    rw [findS_none] at this
    simpa using this
  have hx' : findS k (W.procs i).notes = some x := hx
  refine ⟨⟨1, (W.procs i).self, j, k.1, k.2, x.1⟩, List.mem_append_right _ (List.mem_flatMap.2 ⟨k, hk, List.mem_filterMap.2 ⟨j, List.mem_range.2 (by rw [hi.1]; exact hj), ?_⟩⟩), rfl, rfl, .inl ⟨rfl, by simp only; rw [hi.2], rfl⟩⟩
  rw [hx']
  obtain ⟨l, D⟩ := x
  simp only at hb ⊢
  rw [hb]
  rfl
theorem Inv0.more {W : Wd} (h : Inv0 W) {u : List Pk} (hu : ∀ z, z ∈ u → PkOk W.n W.sent z) : Inv0 { W with under := u } := ⟨h.1, hu⟩
theorem Inv2.more {W : Wd} (h : Inv2 W) {u : List Pk} (hu : ∀ z, z ∈ u → Pk2 W.n W.procs z) : Inv2 { W with under := u } := ⟨h.bt, h.own, hu, h.el, h.mj⟩
theorem Inv0.rc {W : Wd} (hI : Inv0 W) {i t : Nat} {z : Pk} (hzi : W.under[i]? = some z) (ht : t < W.n) {S' : PS} {ps : List Pk} (hR : RcR (W.procs t) z S' ps) : Inv0 { W with procs := upd W.procs t S', under := W.under.eraseIdx i ++ ps } := by
  obtain ⟨e1, e2, e3⟩ := hI.1.pn t ht
  obtain ⟨k1, k2, k3⟩ := hR.inv1 e1 (hI.2 z (List.mem_of_getElem? hzi)) (hI.1.nt t ht) (hI.1.ls t ht)
  obtain ⟨r1, r2, r3⟩ := hR.keep
  refine ⟨⟨hI.1.n1, fun j hj => ?_, hI.1.se, hI.1.sl, fun j hj => ?_, fun j hj => ?_, fun y hy => (by cases hy), hI.1.ul⟩, fun y hy => ?_⟩
  · by_cases e : j = t
    · subst e
      simp only [upd_same]
      exact ⟨r1.trans e1, r2.trans e2, r3.trans e3⟩
    · simp only [upd_other e]
      exact hI.1.pn j hj
  · by_cases e : j = t
    · subst e
      simp only [upd_same]
      exact k1
    · simp only [upd_other e]
      exact hI.1.nt j hj
  · by_cases e : j = t
    · subst e
      simp only [upd_same]
      exact k2
    · simp only [upd_other e]
      exact hI.1.ls j hj
  · rcases List.mem_append.1 hy with hy | hy
    · exact hI.2 y (List.mem_of_mem_eraseIdx hy)
    · exact k3 y hy
theorem putS_len {k : NP} {x : List Int × BitVec 16} {notes : List (NP × (List Int × BitVec 16))} : (putS k x notes).length = if findS k notes = none then notes.length + 1 else notes.length := by
  have h := congrArg List.length (putS_keys (k := k) (x := x) (notes := notes))
  rw [List.length_map] at h
  rw [h]
  by_cases hk : k ∈ notes.map (·.1)
  · rw [if_pos hk, if_neg (fun e => (findS_none.1 e) hk), List.length_map]
  · rw [if_neg hk, if_pos (findS_none.2 hk), List.length_append, List.length_map]; rfl
/-- One packet of a calm round. -/
theorem calm_step {W : Wd} (hI : Inv0 W) (h2 : Inv2 W) (hp : ∀ i, i < W.n → W.down i = false → Pd W i) {i0 t : Nat} {z : Pk} (hzi : W.under[i0]? = some z) (ht : t < W.n) (hzt : z.t = (t : Int)) {W' : Wd}
    (hW : if W.down t then W' = { W with under := W.under.eraseIdx i0 } else ∃ S' ps, RcR (W.procs t) z S' ps ∧ W' = { W with procs := upd W.procs t S', under := W.under.eraseIdx i0 ++ ps }) :
    Inv0 W' ∧ Inv2 W' ∧ (∀ i, i < W.n → W.down i = false → Pd W' i) ∧ phi W' < phi W ∧ W'.n = W.n ∧ W'.down = W.down ∧ W'.sent = W.sent := by
  have hwe := wts_erase hzi
  have hw1 := @wt_le z
  have er : ∀ y, y ∈ W.under.eraseIdx i0 → y ∈ W.under := fun y hy => List.mem_of_mem_eraseIdx hy
  cases hdt : W.down t
  rotate_left
  · rw [hdt, if_pos rfl] at hW
    subst hW
    refine ⟨hI.more fun y hy => hI.2 y (er y hy), h2.more fun y hy => h2.pk y (er y hy), fun i hi hd k x hx j hj hdj hb => ?_, ?_, rfl, rfl, rfl⟩
    · obtain ⟨y, h1, h3, h4, h5⟩ := hp i hi hd k x hx j hj hdj hb
      refine ⟨y, mem_erase hzi h1 (fun e => ?_), h3, h4, h5⟩
      subst e
      rcases h5 with ⟨_, _, h⟩ | ⟨_, h⟩
      · have : j = t := by omega
        subst this
        rw [hdj] at hdt; cases hdt
      · have : i = t := by omega
        subst this
        rw [hd] at hdt; cases hdt
    · unfold phi
      simp only
      omega
  · rw [hdt, if_neg (by decide)] at hW
    obtain ⟨S', ps, hR, rfl⟩ := hW
    have hzm := List.mem_of_getElem? hzi
    have hI' := hI.rc hzi ht hR
    refine ⟨hI', hR.inv2 hI h2 hzi ht hzt, ?_, ?_, rfl, rfl, rfl⟩
    · obtain ⟨f, o, hf, ho, hzf, hzo, hft, hz1, hzn, hnf, hc⟩ := rc_cases hI (hI.2 z hzm) (h2.pk z hzm) ht hzt hR
      obtain ⟨e1, e2, e3⟩ := hI.1.pn t ht
      simp only at e1 e2 e3
      have hn5 : W.n ≤ 5 := hI.1.n1.2
      intro i hi hd k x hx j hj hdj hb
      simp only at hx hj hdj
      by_cases hit : i = t
      · subst hit
        rw [upd_same] at hx
        -- an old note whose bit is not set: its old witness is not z
        have old : ∀ x0, findS k (W.procs i).notes = some x0 → x0.2.getLsbD j = false → (k = (z.o, z.n) → j ≠ f) → ∃ y, y ∈ W.under.eraseIdx i0 ++ ps ∧ y.o = k.1 ∧ y.n = k.2 ∧ ((y.k = 1 ∧ y.f = (i : Int) ∧ y.t = (j : Int)) ∨ (y.f = (j : Int) ∧ y.t = (i : Int))) := by
          intro x0 hx0 hb0 hjf
          obtain ⟨y, h1, h3, h4, h5⟩ := hp i hi hd k x0 hx0 j hj hdj hb0
          refine ⟨y, List.mem_append_left _ (mem_erase hzi h1 (fun e => ?_)), h3, h4, h5⟩
          subst e
          have hk : k = (y.o, y.n) := Prod.ext h3.symm h4.symm
          rcases h5 with ⟨_, h, _⟩ | ⟨h, _⟩
          · omega
          · exact hjf hk (by omega)
        have hR' := hR.keep
        rcases hc with ⟨_, hfd, rfl, rfl⟩ | ⟨l, D, _, hfd, hr, rfl⟩ | ⟨l, D, _, hfd, hr, rfl⟩ | ⟨_, hfd, hr, rfl⟩
        · exact old x hx hb (fun e => by rw [e] at hx; rw [hfd] at hx; cases hx)
        · rw [hr.keep.2.2.2] at hx
          simp only [putS_find] at hx
          by_cases e : k = (z.o, z.n)
          · rw [if_pos e] at hx
            injection hx with hx
            subst hx
            rw [BitVec.getLsbD_or, Bool.or_eq_false_iff] at hb
            refine old (l, D) (by rw [e]; exact hfd) hb.1 (fun _ e' => ?_)
            rw [e', (two_bit (by omega)).2 rfl] at hb
            exact absurd hb.2 (by decide)
          · rw [if_neg e] at hx
            exact old x hx hb (fun e' => absurd e' e)
        · rw [hr.keep.2.2.2] at hx
          simp only [putS_find] at hx
          by_cases e : k = (z.o, z.n)
          · rw [if_pos e] at hx
            injection hx with hx
            subst hx
            rw [BitVec.getLsbD_or, Bool.or_eq_false_iff, BitVec.getLsbD_or, Bool.or_eq_false_iff] at hb
            refine old (l, D) (by rw [e]; exact hfd) hb.1 (fun _ e' => ?_)
            rw [e', (two_bit (by omega)).2 rfl] at hb
            exact absurd hb.2.1 (by decide)
          · rw [if_neg e] at hx
            exact old x hx hb (fun e' => absurd e' e)
        · rw [hr.keep.2.2.2] at hx
          simp only [putS_find] at hx
          by_cases e : k = (z.o, z.n)
          · rw [if_pos e] at hx
            injection hx with hx
            subst hx
            rw [BitVec.getLsbD_or, Bool.or_eq_false_iff, BitVec.getLsbD_or, Bool.or_eq_false_iff] at hb
            have hji : j ≠ i := fun e' => by
              rw [e', (two_bit (by omega)).2 rfl] at hb
              exact absurd hb.1.1 (by decide)
            have hjf : ¬ ((j : Int) = z.f ∨ (j : Int) = z.o) := by
              rintro (h | h)
              · have : j = f := by omega
                rw [this, (two_bit (by omega)).2 rfl] at hb
                exact absurd hb.1.2 (by decide)
              · have : j = o := by omega
                rw [this, (two_bit (by omega)).2 rfl] at hb
                exact absurd hb.2 (by decide)
            refine ⟨⟨1, (W.procs i).self, j, z.o, z.n, z.l⟩, List.mem_append_right _ (List.mem_filterMap.2 ⟨j, List.mem_range.2 hj, ?_⟩), by rw [e], by rw [e], .inl ⟨rfl, by simp only; rw [e2], rfl⟩⟩
            rw [if_neg (by rw [e2]; exact hji), if_neg hjf]
          · rw [if_neg e] at hx
            exact old x hx hb (fun e' => absurd e' e)
      · rw [upd_other hit] at hx
        obtain ⟨y, h1, h3, h4, h5⟩ := hp i hi hd k x hx j hj hdj hb
        by_cases hyz : y = z
        · subst hyz
          rcases h5 with ⟨hk1, h6, h7⟩ | ⟨_, h7⟩
          · have hjt : j = t := by omega
            have hfi : f = i := by omega
            subst hjt
            subst hfi
            rcases hc with ⟨hk2, _⟩ | ⟨_, _, hk2, _⟩ | ⟨l, D, _, hfd, hr, rfl⟩ | ⟨_, hfd, hr, rfl⟩
            · rw [hk1] at hk2; exact absurd hk2 (by decide)
            · rw [hk1] at hk2; exact absurd hk2 (by decide)
            · exact ⟨⟨2, j, y.f, y.o, y.n, []⟩, List.mem_append_right _ (by simp), h3, h4, .inr ⟨rfl, by simp only; exact hzf⟩⟩
            · refine ⟨⟨2, (W.procs j).self, f, y.o, y.n, []⟩, List.mem_append_right _ (List.mem_filterMap.2 ⟨f, List.mem_range.2 hi, ?_⟩), h3, h4, .inr ⟨by simp only; rw [e2], rfl⟩⟩
              rw [if_neg (by rw [e2]; exact hft), if_pos (.inl hzf.symm)]
          · exact absurd (show i = t by omega) hit
        · exact ⟨y, List.mem_append_left _ (mem_erase hzi h1 hyz), h3, h4, h5⟩
    · obtain ⟨f, o, hf, ho, hzf, hzo, hft, hz1, hzn, hnf, hc⟩ := rc_cases hI (hI.2 z hzm) (h2.pk z hzm) ht hzt hR
      have hlen' := (hI'.1.lens (Nat.le_refl _) ht).1
      simp only [upd_same] at hlen'
      have same : S'.notes.length = (W.procs t).notes.length → sumN (fun i => 305 - (upd W.procs t S' i).notes.length) W.n = sumN (fun i => 305 - (W.procs i).notes.length) W.n := fun e => sumN_congr fun i _ => by
        by_cases e' : i = t
        · subst e'; rw [upd_same, e]
        · rw [upd_other e']
      unfold phi
      simp only [wts_app]
      rcases hc with ⟨hk, hfd, rfl, rfl⟩ | ⟨l, D, hk, hfd, hr, rfl⟩ | ⟨l, D, hk, hfd, hr, rfl⟩ | ⟨hk, hfd, hr, rfl⟩
      · rw [same rfl]
        simp only [wts]
        omega
      · rw [same (by rw [hr.keep.2.2.2]; simp only; rw [putS_len, if_neg (by rw [hfd]; exact fun e => by cases e)])]
        simp only [wts]
        omega
      · rw [same (by rw [hr.keep.2.2.2]; simp only; rw [putS_len, if_neg (by rw [hfd]; exact fun e => by cases e)])]
        have hz2 : wt z = 2 := by unfold wt; rw [if_pos hk]
        simp only [wts, wt, show ¬ ((2 : Int) = 1) from by decide, if_false]
        omega
      · have hl : S'.notes.length = (W.procs t).notes.length + 1 := by rw [hr.keep.2.2.2]; simp only; rw [putS_len, if_pos hfd]
        have hs : sumN (fun i => 305 - (W.procs i).notes.length) W.n = sumN (fun i => 305 - (upd W.procs t S' i).notes.length) W.n + 1 := by
          rw [← sumN_one ht]
          refine sumN_congr fun i _ => ?_
          by_cases e' : i = t
          · subst e'; rw [upd_same, if_pos rfl]; omega
          · rw [upd_other e', if_neg e']; rfl
        have hz2 : wt z = 2 := by unfold wt; rw [if_pos hk]
        have hrl := @rcO_length (W.procs t) z W.n
        have hrw := (@wts_le (rcO (W.procs t) z W.n)).2
        have hn5 : W.n ≤ 5 := hI.1.n1.2
        rw [hs]
        omega
/-- In the end each that lives knows that all that live know what it knows. -/
theorem calm_end {W : Wd} (hu : W.under = []) {i : Nat} (hp : Pd W i) {k : NP} {x : List Int × BitVec 16} (hx : findS k (W.procs i).notes = some x) {j : Nat} (hj : j < W.n) (hd : W.down j = false) : x.2.getLsbD j = true := by
  cases hb : x.2.getLsbD j with
  | true => rfl
  | false =>
    obtain ⟨z, h1, _⟩ := hp k x hx j hj hd hb
    rw [hu] at h1
    cases h1

/-- The end of a calm round. -/
structure Cm (W0 W : Wd) : Prop where
  i0 : Inv0 W
  i2 : Inv2 W
  pd : ∀ i, i < W.n → W.down i = false → Pd W i
  en : W.n = W0.n
  ed : W.down = W0.down
  es : W.sent = W0.sent
theorem Inv0.sane {W : Wd} (h : Inv0 W) {i : Nat} (hi : i < W.n) : Sane (W.procs i) := h.1.sane (Nat.le_refl _) hi
theorem Inv0.plen {W : Wd} (h : Inv0 W) {z : Pk} (hz : PkOk W.n W.sent z) : z.l.length ≤ 140737488351232 := h.1.plen hz
set_option maxHeartbeats 8000000 in
theorem calm_calls {base : Nat} {w : World} {H : Hp} {W : Wd} (h : WR base w H W) (h0 : Inv0 W) (h2 : Inv2 W) (hul : W.under.length ≤ 4000) (last : Bool) :
    Calls Try.prog 11 #[.pointer (some ⟨H.a, 0, none⟩), .bool last] w fun e w' => ∃ v, e = .returned v ∧ (v = .bool true ∧ ∃ H' W', WR base w' H' W' ∧ H'.a = H.a ∧ Cm W W' ∧ W'.under = [] ∧ Upd (fun b => base ≤ b) w w') := by
  refine calls_of_wr (args := [.pointer (some ⟨H.a, 0, none⟩), .bool last]) rs11 Try.func11 rfl ok11 rfl (R := fun v w' => v = .bool true ∧ ∃ H' W', WR base w' H' W' ∧ H'.a = H.a ∧ Cm W W' ∧ W'.under = [] ∧ Upd (fun b => base ≤ b) w w') ?_
  have hn12 := h.n12
  have hn5 : W.n ≤ 5 := h0.1.n1.2
  refine wr_seq (wr_of_w mixed ?_)
  simp (disch := omega) only [push_cast, Nat.reduceBEq, Nat.reduceEqDiff, Nat.reduceAdd, Nat.reduceMul, Nat.reduceSub, Nat.reduceLT, Int.reduceToNat, Int.reduceLT, Int.reduceLE, Int.reduceEq, Int.reduceAdd, Int.reduceSub, Int.reduceNeg, Int.reduceMul, KSr_nor]
  refine wr_seq (wr_seq (wr_of_w mixed ?_))
  simp (disch := omega) only [push_cast, Nat.reduceBEq, Nat.reduceEqDiff, Nat.reduceAdd, Nat.reduceMul, Nat.reduceSub, Nat.reduceLT, Int.reduceToNat, Int.reduceLT, Int.reduceLE, Int.reduceEq, Int.reduceAdd, Int.reduceSub, Int.reduceNeg, Int.reduceMul, KSr_nor]
  refine wr_block (wr_loop (fun k st w' => ∃ (i : Nat) (H' : Hp) (u : List Pk), k + i = W.n ∧ st = [.int .i64 (i : Int)] ∧ WR base w' H' { W with under := u } ∧ H'.a = H.a ∧ Inv0 { W with under := u } ∧ Inv2 { W with under := u } ∧ u.length ≤ 4000 + 1525 * i ∧
    (∀ j, j < i → W.down j = false → Pd { W with under := u } j) ∧ Upd (fun b => base ≤ b) w w') ?_ W.n ⟨0, H, W.under, rfl, rfl, h, rfl, h0, h2, by omega, fun j hj => by omega, Upd.refl⟩)
  rintro k st w1 ⟨i, H1, u1, hk, rfl, h1, ha1, hI1, hJ1, hl1, hp1, hu1⟩
  obtain ⟨ca, cc, hav0⟩ : ∃ a c, H1.allV = .slice a W.n c := own_slice h1.all
  have ho1 := h1.obj
  rw [hav0, ha1] at ho1
  by_cases hk0 : k = 0
  · obtain rfl : i = W.n := by omega
    refine wr_seq (wr_of_w mixed ?_)
    simp (disch := omega) only [push_cast, Nat.reduceBEq, Nat.reduceEqDiff, Nat.reduceAdd, Nat.reduceMul, Nat.reduceSub, Nat.reduceLT, Int.reduceToNat, Int.reduceLT, Int.reduceLE, Int.reduceEq, Int.reduceAdd, Int.reduceSub, Int.reduceNeg, Int.reduceMul, ho1.cell, KSr_exit, KJr_exit, KSr_nor]
    refine wr_of_w mixed ?_
    simp (disch := omega) only [push_cast, Nat.reduceBEq, Nat.reduceEqDiff, Nat.reduceAdd, Nat.reduceMul, Nat.reduceSub, Nat.reduceLT, Int.reduceToNat, Int.reduceLT, Int.reduceLE, Int.reduceEq, Int.reduceAdd, Int.reduceSub, Int.reduceNeg, Int.reduceMul]
    have hphi : phi { W with under := u1 } ≤ 90000 := by
      have q1 := (@wts_le u1).2
      have q2 : sumN (fun i => 305 - (W.procs i).notes.length) W.n ≤ W.n * 305 := sumN_le fun j _ => by omega
      have q3 : W.n * 305 ≤ 5 * 305 := Nat.mul_le_mul_right _ hn5
      unfold phi
      simp only
      omega
    refine loop_inv (I := fun k st w' => Bx (∃ (c : Nat) (H' : Hp) (W' : Wd), k = phi W' ∧ st = [.int .i64 (c : Int)] ∧ c + phi W' ≤ 90000 ∧ WR base w' H' W' ∧ H'.a = H.a ∧ Cm W W' ∧ Upd (fun b => base ≤ b) w w') ⟨⟩) ?_ (phi { W with under := u1 }) ⟨0, H1, _, rfl, rfl, by omega, h1, ha1, ⟨hI1, hJ1, hp1, rfl, rfl, rfl⟩, hu1⟩
    clear hphi h1 ha1 hI1 hJ1 hp1 ho1 hav0
    rintro k2 st w2 ⟨c, H2, W2, rfl, rfl, hc, h3, ha2, hC, hu2⟩
    have hc' : (c : Int) < 100000 := by omega
    have hulen := (@wts_le W2.under).1
    have hphi2 : wts W2.under ≤ phi W2 := by unfold phi; omega
    obtain ⟨ua, uc, huv⟩ := h3.und.form
    have ho2 := h3.obj
    rw [huv, ha2] at ho2
    by_cases hu0 : W2.under.length = 0
    · simp (disch := omega) only [push_cast, Nat.reduceBEq, Nat.reduceEqDiff, Nat.reduceAdd, Nat.reduceMul, Nat.reduceSub, Nat.reduceLT, Int.reduceToNat, Int.reduceLT, Int.reduceLE, Int.reduceEq, Int.reduceAdd, Int.reduceSub, Int.reduceNeg, Int.reduceMul, hc', ho2.cell, hu0]
      exact ⟨H2, W2, h3, ha2, hC, List.eq_nil_of_length_eq_zero hu0, hu2⟩
    have hu0' : ¬ (W2.under.length : Int) = 0 := by omega
    cases last
    · simp (disch := omega) only [push_cast, Nat.reduceBEq, Nat.reduceEqDiff, Nat.reduceAdd, Nat.reduceMul, Nat.reduceSub, Nat.reduceLT, Int.reduceToNat, Int.reduceLT, Int.reduceLE, Int.reduceEq, Int.reduceAdd, Int.reduceSub, Int.reduceNeg, Int.reduceMul, hc', ho2.cell, hu0']
      have hil : 0 < W2.under.length := by omega
      have hzi := List.getElem?_eq_getElem hil
      have hzm := hC.i0.2 _ (List.getElem_mem hil)
      generalize W2.under[0] = z at *
      have hrm := remove_ok h3.obj h3.und h3.ba hzi (by omega)
      rw [ha2, show ((0 : Nat) : Int) = 0 from rfl] at hrm
      refine Ok.use hrm ?_
      clear hrm
      rintro v w3 ⟨pv, uv3, rfl, hpv3, ho3, hu3, hup3, hf3⟩
      have h4 := h3.under (by rw [ha2]; exact hup3.mono fun _ _ h => .inl h) (by rw [ha2]; exact ho3) hu3
      have hpl := hC.i0.plen hzm
      obtain ⟨t, _, htn, hzt, _⟩ := id hzm
      have hrv := receive_ok h4 (z, pv) hpv3 (by simp only; omega) htn hzt (hC.i0.sane htn) (by simp only; rw [List.length_eraseIdx_of_lt hil]; omega)
      rw [show ({ H2 with uv := uv3 } : Hp).a = H.a from ha2] at hrv
      simp (disch := omega) only [push_cast, Nat.reduceBEq, Nat.reduceEqDiff, Nat.reduceAdd, Nat.reduceMul, Nat.reduceSub, Nat.reduceLT, Int.reduceToNat, Int.reduceLT, Int.reduceLE, Int.reduceEq, Int.reduceAdd, Int.reduceSub, Int.reduceNeg, Int.reduceMul]
      refine Ok.use hrv ?_
      clear hrv
      rintro v w4 ⟨rfl, H5, W5, h5, ha5, hW5, hup5⟩
      obtain ⟨s1, s2, s3, s4, s5, s6, s7⟩ := calm_step hC.i0 hC.i2 hC.pd hzi htn hzt hW5
      simp (disch := omega) only [push_cast, Nat.reduceBEq, Nat.reduceEqDiff, Nat.reduceAdd, Nat.reduceMul, Nat.reduceSub, Nat.reduceLT, Int.reduceToNat, Int.reduceLT, Int.reduceLE, Int.reduceEq, Int.reduceAdd, Int.reduceSub, Int.reduceNeg, Int.reduceMul]
      refine ⟨phi W5, s4, c + 1, H5, W5, rfl, by simp, by omega, h5, ha5, ⟨s1, s2, fun j hj hd => s3 j (by rw [← s5]; exact hj) (by rw [← s6]; exact hd), s5.trans hC.en, s6.trans hC.ed, s7.trans hC.es⟩, (hu2.trans hup3 (fun b _ hb => by rw [hb]; exact h.ba)).trans hup5 (fun _ _ h => h)⟩
    · simp (disch := omega) only [push_cast, Nat.reduceBEq, Nat.reduceEqDiff, Nat.reduceAdd, Nat.reduceMul, Nat.reduceSub, Nat.reduceLT, Int.reduceToNat, Int.reduceLT, Int.reduceLE, Int.reduceEq, Int.reduceAdd, Int.reduceSub, Int.reduceNeg, Int.reduceMul, hc', ho2.cell, hu0']
      have hil : W2.under.length - 1 < W2.under.length := by omega
      have hzi := List.getElem?_eq_getElem hil
      have hzm := hC.i0.2 _ (List.getElem_mem hil)
      generalize W2.under[W2.under.length - 1] = z at *
      have hrm := remove_ok h3.obj h3.und h3.ba hzi (by omega)
      rw [ha2, show ((W2.under.length - 1 : Nat) : Int) = (W2.under.length : Int) - 1 from by omega] at hrm
      refine Ok.use hrm ?_
      clear hrm
      rintro v w3 ⟨pv, uv3, rfl, hpv3, ho3, hu3, hup3, hf3⟩
      have h4 := h3.under (by rw [ha2]; exact hup3.mono fun _ _ h => .inl h) (by rw [ha2]; exact ho3) hu3
      have hpl := hC.i0.plen hzm
      obtain ⟨t, _, htn, hzt, _⟩ := id hzm
      have hrv := receive_ok h4 (z, pv) hpv3 (by simp only; omega) htn hzt (hC.i0.sane htn) (by simp only; rw [List.length_eraseIdx_of_lt hil]; omega)
      rw [show ({ H2 with uv := uv3 } : Hp).a = H.a from ha2] at hrv
      simp (disch := omega) only [push_cast, Nat.reduceBEq, Nat.reduceEqDiff, Nat.reduceAdd, Nat.reduceMul, Nat.reduceSub, Nat.reduceLT, Int.reduceToNat, Int.reduceLT, Int.reduceLE, Int.reduceEq, Int.reduceAdd, Int.reduceSub, Int.reduceNeg, Int.reduceMul]
      refine Ok.use hrv ?_
      clear hrv
      rintro v w4 ⟨rfl, H5, W5, h5, ha5, hW5, hup5⟩
      obtain ⟨s1, s2, s3, s4, s5, s6, s7⟩ := calm_step hC.i0 hC.i2 hC.pd hzi htn hzt hW5
      simp (disch := omega) only [push_cast, Nat.reduceBEq, Nat.reduceEqDiff, Nat.reduceAdd, Nat.reduceMul, Nat.reduceSub, Nat.reduceLT, Int.reduceToNat, Int.reduceLT, Int.reduceLE, Int.reduceEq, Int.reduceAdd, Int.reduceSub, Int.reduceNeg, Int.reduceMul]
      refine ⟨phi W5, s4, c + 1, H5, W5, rfl, by simp, by omega, h5, ha5, ⟨s1, s2, fun j hj hd => s3 j (by rw [← s5]; exact hj) (by rw [← s6]; exact hd), s5.trans hC.en, s6.trans hC.ed, s7.trans hC.es⟩, (hu2.trans hup3 (fun b _ hb => by rw [hb]; exact h.ba)).trans hup5 (fun _ _ h => h)⟩
  have hi : i < W.n := by omega
  refine wr_seq (wr_of_w mixed ?_)
  simp (disch := omega) only [push_cast, Nat.reduceBEq, Nat.reduceEqDiff, Nat.reduceAdd, Nat.reduceMul, Nat.reduceSub, Nat.reduceLT, Int.reduceToNat, Int.reduceLT, Int.reduceLE, Int.reduceEq, Int.reduceAdd, Int.reduceSub, Int.reduceNeg, Int.reduceMul, ho1.cell, KSr_nor]
  obtain ⟨dg, dc, hdv, hdc, hdb, hdl, hdcell⟩ := own1 h1.dwn hi
  obtain ⟨ag, ac, hav, hac, hab, hal, hacell⟩ := own1 h1.all hi
  have ho2 := h1.obj
  rw [hdv, hav, ha1] at ho2
  simp only at hdcell
  cases hdn : W.down i
  · rw [hdn] at hdcell
    refine wr_seq (wr_block (wr_seq (wr_region ?_)))
    refine wlr_step ?_
    simp (disch := omega) only [push_cast, Nat.reduceBEq, Nat.reduceEqDiff, Nat.reduceAdd, Nat.reduceMul, Nat.reduceSub, Nat.reduceLT, Int.reduceToNat, Int.reduceLT, Int.reduceLE, Int.reduceEq, Int.reduceAdd, Int.reduceSub, Int.reduceNeg, Int.reduceMul, ho2.cell, hdcell, hacell]
    refine wlr_step ?_
    simp (disch := omega) only [push_cast, Nat.reduceBEq, Nat.reduceEqDiff, Nat.reduceAdd, Nat.reduceMul, Nat.reduceSub, Nat.reduceLT, Int.reduceToNat, Int.reduceLT, Int.reduceLE, Int.reduceEq, Int.reduceAdd, Int.reduceSub, Int.reduceNeg, Int.reduceMul, ho2.cell, hdcell, hacell]
    refine wlr_step ?_
    simp (disch := omega) only [push_cast, Nat.reduceBEq, Nat.reduceEqDiff, Nat.reduceAdd, Nat.reduceMul, Nat.reduceSub, Nat.reduceLT, Int.reduceToNat, Int.reduceLT, Int.reduceLE, Int.reduceEq, Int.reduceAdd, Int.reduceSub, Int.reduceNeg, Int.reduceMul, ho2.cell, hdcell, hacell]
    refine wlr_step ?_
    simp (disch := omega) only [push_cast, Nat.reduceBEq, Nat.reduceEqDiff, Nat.reduceAdd, Nat.reduceMul, Nat.reduceSub, Nat.reduceLT, Int.reduceToNat, Int.reduceLT, Int.reduceLE, Int.reduceEq, Int.reduceAdd, Int.reduceSub, Int.reduceNeg, Int.reduceMul, ho2.cell, hdcell, hacell]
    refine wlr_step ?_
    simp (disch := omega) only [push_cast, Nat.reduceBEq, Nat.reduceEqDiff, Nat.reduceAdd, Nat.reduceMul, Nat.reduceSub, Nat.reduceLT, Int.reduceToNat, Int.reduceLT, Int.reduceLE, Int.reduceEq, Int.reduceAdd, Int.reduceSub, Int.reduceNeg, Int.reduceMul, ho2.cell, hdcell, hacell]
    refine wlr_step ?_
    simp (disch := omega) only [push_cast, Nat.reduceBEq, Nat.reduceEqDiff, Nat.reduceAdd, Nat.reduceMul, Nat.reduceSub, Nat.reduceLT, Int.reduceToNat, Int.reduceLT, Int.reduceLE, Int.reduceEq, Int.reduceAdd, Int.reduceSub, Int.reduceNeg, Int.reduceMul, ho2.cell, hdcell, hacell]
    refine wlr_step ?_
    simp (disch := omega) only [push_cast, Nat.reduceBEq, Nat.reduceEqDiff, Nat.reduceAdd, Nat.reduceMul, Nat.reduceSub, Nat.reduceLT, Int.reduceToNat, Int.reduceLT, Int.reduceLE, Int.reduceEq, Int.reduceAdd, Int.reduceSub, Int.reduceNeg, Int.reduceMul, ho2.cell, hdcell, hacell]
    refine wlr_step ?_
    simp (disch := omega) only [push_cast, Nat.reduceBEq, Nat.reduceEqDiff, Nat.reduceAdd, Nat.reduceMul, Nat.reduceSub, Nat.reduceLT, Int.reduceToNat, Int.reduceLT, Int.reduceLE, Int.reduceEq, Int.reduceAdd, Int.reduceSub, Int.reduceNeg, Int.reduceMul, ho2.cell, hdcell, hacell]
    refine wlr_step ?_
    simp (disch := omega) only [push_cast, Nat.reduceBEq, Nat.reduceEqDiff, Nat.reduceAdd, Nat.reduceMul, Nat.reduceSub, Nat.reduceLT, Int.reduceToNat, Int.reduceLT, Int.reduceLE, Int.reduceEq, Int.reduceAdd, Int.reduceSub, Int.reduceNeg, Int.reduceMul, ho2.cell, hdcell, hacell]
    refine wlr_step ?_
    simp (disch := omega) only [push_cast, Nat.reduceBEq, Nat.reduceEqDiff, Nat.reduceAdd, Nat.reduceMul, Nat.reduceSub, Nat.reduceLT, Int.reduceToNat, Int.reduceLT, Int.reduceLE, Int.reduceEq, Int.reduceAdd, Int.reduceSub, Int.reduceNeg, Int.reduceMul, ho2.cell, hdcell, hacell]
    refine wlr_step ?_
    simp (disch := omega) only [push_cast, Nat.reduceBEq, Nat.reduceEqDiff, Nat.reduceAdd, Nat.reduceMul, Nat.reduceSub, Nat.reduceLT, Int.reduceToNat, Int.reduceLT, Int.reduceLE, Int.reduceEq, Int.reduceAdd, Int.reduceSub, Int.reduceNeg, Int.reduceMul, ho2.cell, hdcell, hacell]
    refine wlr_step ?_
    simp (disch := omega) only [push_cast, Nat.reduceBEq, Nat.reduceEqDiff, Nat.reduceAdd, Nat.reduceMul, Nat.reduceSub, Nat.reduceLT, Int.reduceToNat, Int.reduceLT, Int.reduceLE, Int.reduceEq, Int.reduceAdd, Int.reduceSub, Int.reduceNeg, Int.reduceMul, ho2.cell, hdcell, hacell]
    refine wlr_step ?_
    simp (disch := omega) only [push_cast, Nat.reduceBEq, Nat.reduceEqDiff, Nat.reduceAdd, Nat.reduceMul, Nat.reduceSub, Nat.reduceLT, Int.reduceToNat, Int.reduceLT, Int.reduceLE, Int.reduceEq, Int.reduceAdd, Int.reduceSub, Int.reduceNeg, Int.reduceMul, ho2.cell, hdcell, hacell]
    refine wlr_step ?_
    simp (disch := omega) only [push_cast, Nat.reduceBEq, Nat.reduceEqDiff, Nat.reduceAdd, Nat.reduceMul, Nat.reduceSub, Nat.reduceLT, Int.reduceToNat, Int.reduceLT, Int.reduceLE, Int.reduceEq, Int.reduceAdd, Int.reduceSub, Int.reduceNeg, Int.reduceMul, ho2.cell, hdcell, hacell]
    refine wlr_step ?_
    simp (disch := omega) only [push_cast, Nat.reduceBEq, Nat.reduceEqDiff, Nat.reduceAdd, Nat.reduceMul, Nat.reduceSub, Nat.reduceLT, Int.reduceToNat, Int.reduceLT, Int.reduceLE, Int.reduceEq, Int.reduceAdd, Int.reduceSub, Int.reduceNeg, Int.reduceMul, ho2.cell, hdcell, hacell]
    refine wlr_step ?_
    simp (disch := omega) only [push_cast, Nat.reduceBEq, Nat.reduceEqDiff, Nat.reduceAdd, Nat.reduceMul, Nat.reduceSub, Nat.reduceLT, Int.reduceToNat, Int.reduceLT, Int.reduceLE, Int.reduceEq, Int.reduceAdd, Int.reduceSub, Int.reduceNeg, Int.reduceMul, ho2.cell, hdcell, hacell]
    refine wlr_step ?_
    simp (disch := omega) only [push_cast, Nat.reduceBEq, Nat.reduceEqDiff, Nat.reduceAdd, Nat.reduceMul, Nat.reduceSub, Nat.reduceLT, Int.reduceToNat, Int.reduceLT, Int.reduceLE, Int.reduceEq, Int.reduceAdd, Int.reduceSub, Int.reduceNeg, Int.reduceMul, ho2.cell, hdcell, hacell]
    refine wlr_step ?_
    simp (disch := omega) only [push_cast, Nat.reduceBEq, Nat.reduceEqDiff, Nat.reduceAdd, Nat.reduceMul, Nat.reduceSub, Nat.reduceLT, Int.reduceToNat, Int.reduceLT, Int.reduceLE, Int.reduceEq, Int.reduceAdd, Int.reduceSub, Int.reduceNeg, Int.reduceMul, ho2.cell, hdcell, hacell]
    have hsn := hI1.sane hi
    refine wlr_call (w1 := w1) (f := 13) (args := #[.pointer (some ⟨H1.p i, 0, none⟩)]) (by rfl) (by kernel_rfl) ?_
    refine (Resend_calls (h1.pr i hi) (by have := hsn.2.1; simp only at this ⊢; omega) hsn.2.2.2.1).mono ?_
    rintro e w3 ⟨u, rfl, ss, hss, _, hou, hu3⟩
    refine ⟨_, rfl, wlr_of_wl ?_⟩
    have h3 := h1.quiet hu3
    obtain ⟨oa, oc, rfl⟩ := hou.form
    have hpn := h1.pn i hi
    have hlen := (hI1.1.lens (Nat.le_refl _) hi).1
    simp only at hpn hlen
    have hol := @rsO_length (W.procs i) ss
    have hssl : ss.length ≤ 305 := by rw [hss.length_eq, List.length_map]; exact hlen
    have hmul : ss.length * (W.procs i).n ≤ 305 * 5 := Nat.mul_le_mul hssl (by rw [hpn.1]; exact hn5)
    have hal3 : ∃ aa ac, H1.allV = .slice aa W.n ac := ⟨_, _, hav0⟩
    have hsd := send_ok (n := W.n) h3.obj hal3 h3.und hou (fun g hg e => by have := (hou.ge hg).1; have := (h1.und.ge e).2; omega) h3.ba (i : Int) (fun y hy => by have hh := rsO_out y hy; rw [hpn.1, hpn.2] at hh; exact hh) (by simp only; omega) hn12
    rw [ha1] at hsd
    simp (disch := omega) only [push_cast, Nat.reduceBEq, Nat.reduceEqDiff, Nat.reduceAdd, Nat.reduceMul, Nat.reduceSub, Nat.reduceLT, Int.reduceToNat, Int.reduceLT, Int.reduceLE, Int.reduceEq, Int.reduceAdd, Int.reduceSub, Int.reduceNeg, Int.reduceMul]
    refine Ok.use hsd ?_
    rintro v w4 ⟨rfl, uv4, ho4, hu4, hup4, hf4⟩
    have h4 := h3.under (by rw [ha1]; exact hup4) (by rw [ha1]; exact ho4) hu4
    simp (disch := omega) only [push_cast, Nat.reduceBEq, Nat.reduceEqDiff, Nat.reduceAdd, Nat.reduceMul, Nat.reduceSub, Nat.reduceLT, Int.reduceToNat, Int.reduceLT, Int.reduceLE, Int.reduceEq, Int.reduceAdd, Int.reduceSub, Int.reduceNeg, Int.reduceMul, KSr_nor]
    refine wr_of_w mixed ?_
    simp (disch := omega) only [push_cast, Nat.reduceBEq, Nat.reduceEqDiff, Nat.reduceAdd, Nat.reduceMul, Nat.reduceSub, Nat.reduceLT, Int.reduceToNat, Int.reduceLT, Int.reduceLE, Int.reduceEq, Int.reduceAdd, Int.reduceSub, Int.reduceNeg, Int.reduceMul, KSr_nor]
    refine wr_of_w mixed ?_
    simp (disch := omega) only [push_cast, Nat.reduceBEq, Nat.reduceEqDiff, Nat.reduceAdd, Nat.reduceMul, Nat.reduceSub, Nat.reduceLT, Int.reduceToNat, Int.reduceLT, Int.reduceLE, Int.reduceEq, Int.reduceAdd, Int.reduceSub, Int.reduceNeg, Int.reduceMul, KJr_nor]
    have hrs : ∀ z, z ∈ rsO (W.procs i) ss → PkOk W.n W.sent z := rs_inv1 hpn.1 (hI1.1.nt i hi)
    have hrs2 : ∀ z, z ∈ rsO (W.procs i) ss → Pk2 W.n W.procs z := rs_pk2 hI1 hJ1 hi
    refine ⟨k - 1, by omega, i + 1, _, u1 ++ rsO (W.procs i) ss, by omega, by simp, h4, ha1, hI1.more (fun z hz => ?_), hJ1.more (fun z hz => ?_), by rw [List.length_append]; omega, fun j hj hd => ?_, ?_⟩
    · rcases List.mem_append.1 hz with hz | hz
      · exact hI1.2 z hz
      · exact hrs z hz
    · rcases List.mem_append.1 hz with hz | hz
      · exact hJ1.pk z hz
      · exact hrs2 z hz
    · by_cases e : j = i
      · subst e
        exact Pd.resend (W := { W with under := u1 }) hpn hss
      · exact (hp1 j (by omega) hd).more fun z hz => List.mem_append_left _ hz
    · refine (hu1.trans hu3 (fun _ _ h => h.elim)).trans hup4 (fun b _ hb => ?_)
      rcases hb with rfl | hb
      · exact h.ba
      · exact (h3.und.ge hb).1
  · rw [hdn] at hdcell
    refine wr_seq (wr_block (wr_seq (wr_of_w mixed ?_)))
    simp (disch := omega) only [push_cast, Nat.reduceBEq, Nat.reduceEqDiff, Nat.reduceAdd, Nat.reduceMul, Nat.reduceSub, Nat.reduceLT, Int.reduceToNat, Int.reduceLT, Int.reduceLE, Int.reduceEq, Int.reduceAdd, Int.reduceSub, Int.reduceNeg, Int.reduceMul, ho2.cell, hdcell, KSr_nor]
    refine wr_of_w mixed ?_
    simp (disch := omega) only [push_cast, Nat.reduceBEq, Nat.reduceEqDiff, Nat.reduceAdd, Nat.reduceMul, Nat.reduceSub, Nat.reduceLT, Int.reduceToNat, Int.reduceLT, Int.reduceLE, Int.reduceEq, Int.reduceAdd, Int.reduceSub, Int.reduceNeg, Int.reduceMul, KSr_nor]
    refine wr_of_w mixed ?_
    simp (disch := omega) only [push_cast, Nat.reduceBEq, Nat.reduceEqDiff, Nat.reduceAdd, Nat.reduceMul, Nat.reduceSub, Nat.reduceLT, Int.reduceToNat, Int.reduceLT, Int.reduceLE, Int.reduceEq, Int.reduceAdd, Int.reduceSub, Int.reduceNeg, Int.reduceMul, KJr_nor]
    refine ⟨k - 1, by omega, i + 1, H1, u1, by omega, by simp, h1, ha1, hI1, hJ1, by omega, fun j hj hd => ?_, hu1⟩
    by_cases e : j = i
    · subst e; rw [hdn] at hd; cases hd
    · exact hp1 j (by omega) hd
end Go.Proofs.Ytpgfokhpacdhjaa.Fd
