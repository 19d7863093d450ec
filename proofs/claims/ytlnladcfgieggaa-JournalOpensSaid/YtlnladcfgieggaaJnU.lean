/-
  A journal at work: what the laws' steps keep.
-/
import Derived.Test.YtlnladcfgieggaaJnT
namespace Go.Proofs.Ytlnladcfgieggaa.Fd
set_option linter.unusedSimpArgs false
set_option linter.unusedVariables false
open Go
set_option maxRecDepth 100000

theorem JW.opened {w w' : World} {D : Nat → Prop} {p : Nat} {d : DS} {u : Value} {j : JS} {e : Int} (h : IsDisk w D p d) (ho : OpenR w w' p u (some j, e)) (hu : Upd (fun _ => False) w w') :
    ∃ jb, u = .tuple #[.pointer (some ⟨jb, 0, none⟩), .int .i64 e] ∧ JW w' D (fun b => b = jb) p jb (d, j) ∧ w.heap.size ≤ jb := by
  obtain ⟨jb, rfl, h1, h2, sv, h3, h4, h5⟩ := ho
  refine ⟨jb, rfl, ⟨h.upd hu (fun _ _ h => h), ⟨sv, h3, ⟨h4.1.mono fun b hb hF => ?_, h4.2⟩, h5⟩, rfl, fun b hb => ⟨fun hD => ?_, by rw [hb]; exact h2⟩⟩, h1⟩
  · rcases hF with hF | hF
    · exact .inl (h.bd b hF)
    · exact .inr hF
  · have := h.bd b hD
    rw [hb] at this
    omega
/-- A journal on a disk that is new since w0, with all power on and nothing cached. -/
structure Run (w0 w : World) (D J : Nat → Prop) (p jb n f c s : Nat) (d : DS) (ls : List (List Int)) : Prop where
  jw : JW w D J p jb (d, jsOf f c s ls)
  good : GoodD n f c s d ls
  upd : Upd (fun _ => False) w0 w
  new : ∀ b, FF D J b → w0.heap.size ≤ b
theorem Run.quiet {w0 w w' : World} {D J : Nat → Prop} {p jb n f c s : Nat} {d : DS} {ls : List (List Int)} (h : Run w0 w D J p jb n f c s d ls) (hu : Upd (fun _ => False) w w') : Run w0 w' D J p jb n f c s d ls :=
  ⟨h.jw.quiet hu, h.good, h.upd.trans hu (fun _ _ h => h), h.new⟩
theorem new_step {w0 w w' : World} {D D' J : Nat → Prop} {jb : Nat} (hu : Upd (fun _ => False) w0 w) (hn : ∀ b, FF D J b → w0.heap.size ≤ b) (ht : JT w w' D D' jb) (hj : J jb) : Upd (fun _ => False) w0 w' ∧ ∀ b, FF D' J b → w0.heap.size ≤ b := by
  have hs := hu.size
  refine ⟨hu.trans ht.upd fun b hb h => ?_, fun b hb => ?_⟩
  · rcases h with h | h
    · have := hn b (.inl h); omega
    · have := hn b (.inr (by rw [h]; exact hj)); omega
  · rcases hb with hb | hb
    · rcases ht.new b hb with hb | hb
      · exact hn b (.inl hb)
      · omega
    · exact hn b (.inr hb)
theorem Run.content_len {w0 w : World} {D J : Nat → Prop} {p jb n f c s : Nat} {d : DS} {ls : List (List Int)} (h : Run w0 w D J p jb n f c s d ls) : ∀ a, a < d.dur.length → (d.content a).length = d.size := fun _ ha => h.jw.disk.content_len ha
theorem Run.left {w0 w : World} {D J : Nat → Prop} {p jb n f c s : Nat} {d : DS} {ls : List (List Int)} (h : Run w0 w D J p jb n f c s d ls) (hd : Dims n f c s) :
    Ok (den Try.prog 20 #[.pointer (some ⟨jb, 0, none⟩)] w) fun u w' => u = .int .i64 (leftI ((c - 1) * s - (stream ls).length)) ∧ Upd (fun _ => False) w w' :=
  Left_ok h.jw h.good.fit (Nat.le_trans hd.area (by omega))
theorem Run.records {w0 w : World} {D J : Nat → Prop} {p jb n f c s : Nat} {d : DS} {ls : List (List Int)} (h : Run w0 w D J p jb n f c s d ls) (hd : Dims n f c s) :
    Ok (den Try.prog 19 #[.pointer (some ⟨jb, 0, none⟩)] w) fun u w' => SlR w' (fun b => b < w.heap.size) u ls ∧ Upd (fun _ => False) w w' := by
  have hf := h.good.fit
  have ha := hd.area
  have := Records_ok h.jw (by show (stream ls).length ≤ 100000; omega)
  rw [show ((d, jsOf f c s ls) : DS × JS).2.stream = stream ls from rfl, h.good.spl hd] at this
  exact this
theorem Run.down {w0 w : World} {D J : Nat → Prop} {p jb n f c s : Nat} {d : DS} {ls : List (List Int)} (h : Run w0 w D J p jb n f c s d ls) :
    Ok (den Try.prog 22 #[.pointer (some ⟨jb, 0, none⟩)] w) fun u w' => u = .bool false ∧ w = w' := Down1_ok h.jw
/-- Open on a region that holds a list. -/
theorem open_run {w0 w : World} {D : Nat → Prop} {p : Nat} {d : DS} {n f c s : Nat} {ls : List (List Int)} (h : IsDisk w D p d) (hg : GoodD n f c s d ls) (hd : Dims n f c s) (hu0 : Upd (fun _ => False) w0 w) (hn : ∀ b, D b → w0.heap.size ≤ b) :
    Ok (den Try.prog 15 #[.pointer (some ⟨p, 0, none⟩), .int .i64 (f : Int), .int .i64 (c : Int)] w) fun u w' => ∃ jb, u = .tuple #[.pointer (some ⟨jb, 0, none⟩), .int .i64 0] ∧ Run w0 w' D (fun b => b = jb) p jb n f c s d ls ∧ Upd (fun _ => False) w w' ∧ w.heap.size ≤ jb := by
  have ho := open_ok h hg.sz (by omega) hd.s1 hd.s2 hg.rng hd.n1 hd.c1 hd.fc hd.ar
  rw [open_spec hg hd fun a ha => h.content_len ha] at ho
  refine Ok.mono ho ?_
  rintro u w' ⟨ho, hu⟩
  obtain ⟨jb, rfl, h1, h2⟩ := JW.opened h ho hu
  have hs := hu0.size
  exact ⟨jb, rfl, ⟨h1, hg, hu0.trans hu (fun _ _ h => h), fun b hb => hb.elim (hn b) fun e => by omega⟩, hu, h2⟩
/-- An operation without a failure. -/
theorem Run.do {w0 w : World} {D J : Nat → Prop} {p jb n f c s : Nat} {d : DS} {ls : List (List Int)} (h : Run w0 w D J p jb n f c s d ls) (hd : Dims n f c s) (hcnt : d.cnt = none) {x : OpJ} {ua : Option Addr} {un uc : Nat} (hy : SlR w (FF D J) (.slice ua un uc) x.recs) (hr : RngL x.recs) (hrl : (stream x.recs).length ≤ 50000) :
    Ok (den Try.prog 17 #[.pointer (some ⟨jb, 0, none⟩), .agg #[.bool x.reset, .slice ua un uc]] w) fun u w' => u = .int .i64 (afterP ls x ((c - 1) * s)).2 ∧ ∃ D' d', Run w0 w' D' J p jb n f c s d' (afterP ls x ((c - 1) * s)).1 ∧ d'.cnt = none ∧ JT w w' D D' jb ∧ (∀ a, a < n → (a < f ∨ f + c ≤ a) → DurL d' a = DurL d a) := by
  have hfc := hd.fc
  have hn1 := hd.n1
  have ho := do_ok h.jw h.good.sz (by omega) hd.s1 hd.s2 (by show f ≤ 100000; omega) h.good.fit hd.area hy hr hrl
  refine Ok.mono ho ?_
  rintro u w' ⟨rfl, D', hw, ht⟩
  obtain ⟨hsz, hres⟩ := do_spec h.good hd (x := x) hr
  rcases hres with ⟨h1, h2, h3, h4, h5, _⟩ | ⟨_, _, _, h4⟩
  · obtain ⟨g1, g2⟩ := new_step h.upd h.new ht h.jw.jj
    refine ⟨by rw [h1], D', _, ⟨?_, h2, g1, g2⟩, h4 hcnt, ht, h5⟩
    rw [← h3]
    exact hw
  · exact absurd hcnt h4
/-- Append without a failure. -/
theorem Run.append {w0 w : World} {D J : Nat → Prop} {p jb n f c s : Nat} {d : DS} {ls : List (List Int)} (h : Run w0 w D J p jb n f c s d ls) (hd : Dims n f c s) (hcnt : d.cnt = none) {recs : List (List Int)} {y : Value} (hy : SlR w (FF D J) y recs) (hr : RngL recs) (hrl : (stream recs).length ≤ 50000) :
    Ok (den Try.prog 23 #[.pointer (some ⟨jb, 0, none⟩), y] w) fun u w' => u = .int .i64 (afterP ls ⟨false, recs⟩ ((c - 1) * s)).2 ∧ ∃ D' d', Run w0 w' D' J p jb n f c s d' (afterP ls ⟨false, recs⟩ ((c - 1) * s)).1 ∧ d'.cnt = none ∧ JT w w' D D' jb ∧
      ((d' = d ∧ (afterP ls ⟨false, recs⟩ ((c - 1) * s)).1 = ls) ∨ DurL d' f = pad s (headL (stream (afterP ls ⟨false, recs⟩ ((c - 1) * s)).1).length)) := by
  have hfc := hd.fc
  have hn1 := hd.n1
  have ho := Append_ok h.jw h.good.sz (by omega) hd.s1 hd.s2 (by show f ≤ 100000; omega) h.good.fit hd.area hy hr hrl
  refine Ok.mono ho ?_
  rintro u w' ⟨rfl, D', hw, ht⟩
  obtain ⟨hsz, hres⟩ := do_spec h.good hd (x := ⟨false, recs⟩) hr
  have ej : jdo (d, jsOf f c s ls) ⟨false, recs⟩ = jappend (d, jsOf f c s ls) recs := rfl
  rw [ej] at hres
  rcases hres with ⟨h1, h2, h3, h4, _, h5⟩ | ⟨_, _, _, h4⟩
  · obtain ⟨g1, g2⟩ := new_step h.upd h.new ht h.jw.jj
    refine ⟨by rw [h1], D', _, ⟨?_, h2, g1, g2⟩, h4 hcnt, ht, h5⟩
    rw [← h3]
    exact hw
  · exact absurd hcnt h4
theorem Run.reset {w0 w : World} {D J : Nat → Prop} {p jb n f c s : Nat} {d : DS} {ls : List (List Int)} (h : Run w0 w D J p jb n f c s d ls) (hd : Dims n f c s) (hcnt : d.cnt = none) :
    Ok (den Try.prog 35 #[.pointer (some ⟨jb, 0, none⟩)] w) fun u w' => u = .int .i64 0 ∧ ∃ D' d', Run w0 w' D' J p jb n f c s d' [] ∧ d'.cnt = none ∧ JT w w' D D' jb := by
  have hfc := hd.fc
  have hn1 := hd.n1
  have ho := Reset_ok h.jw h.good.sz (by omega) hd.s1 hd.s2 (by show f ≤ 100000; omega)
  refine Ok.mono ho ?_
  rintro u w' ⟨rfl, D', hw, ht⟩
  rcases (reset_spec h.good hd).res with ⟨h1, h2, h3, h4, _⟩ | ⟨_, _, _, h4⟩
  · obtain ⟨g1, g2⟩ := new_step h.upd h.new ht h.jw.jj
    refine ⟨by rw [h1], D', _, ⟨?_, h2, g1, g2⟩, h4 hcnt, ht⟩
    rw [← h3]
    exact hw
  · exact absurd hcnt h4
theorem DS.new_cnt {n s : Nat} : (DS.new n s).cnt = none := rfl
end Go.Proofs.Ytlnladcfgieggaa.Fd
