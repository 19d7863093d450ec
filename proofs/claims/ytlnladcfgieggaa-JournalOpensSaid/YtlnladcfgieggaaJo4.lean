/-
  Two journals on one disk; the law JournalApart, as a reading.
-/
import Derived.Test.YtlnladcfgieggaaJnX
namespace Go.Proofs.Ytlnladcfgieggaa.Fd
set_option linter.unusedSimpArgs false
set_option linter.unusedVariables false
open Go
set_option maxRecDepth 100000

theorem settled_pre {ch : Nat → Bool} {c c2 : List (Nat × List Int)} {dur : List (List Int)} : ∀ {i : Nat}, i ≤ c.length → settled ch (c ++ c2) dur i = settled ch c dur i
  | 0, _ => rfl
  | i + 1, h => by
    simp only [settled]
    rw [List.getElem?_append_left (by omega), settled_pre (i := i) (by omega)]
theorem settled_app {c c2 : List (Nat × List Int)} {dur : List (List Int)} : ∀ {i : Nat}, i ≤ c2.length → settled (fun _ => true) (c ++ c2) dur (c.length + i) = settled (fun _ => true) c2 (settled (fun _ => true) c dur c.length) i
  | 0, _ => settled_pre (Nat.le_refl _)
  | i + 1, h => by
    rw [show c.length + (i + 1) = (c.length + i) + 1 from rfl]
    simp only [settled]
    rw [List.getElem?_append_right (by omega), Nat.add_sub_cancel_left, settled_app (i := i) (by omega)]
theorem lastOf_app {c c2 : List (Nat × List Int)} {a : Nat} : lastOf (c ++ c2) a = (lastOf c2 a).or (lastOf c a) := by
  unfold lastOf
  rw [List.reverse_append, List.find?_append]
  cases c2.reverse.find? (fun x => x.1 == a) <;> rfl
/-- A disk and the same disk with its first cached writes already made durable. -/
structure SimD (d d0 : DS) : Prop where
  off : d.off = d0.off
  cnt : d.cnt = d0.cnt
  size : d.size = d0.size
  ex : ∃ E, d.cache = E ++ d0.cache ∧ d0.dur = settled (fun _ => true) E d.dur E.length ∧ E.length ≤ 2
theorem SimD.len {d d0 : DS} (h : SimD d d0) : d0.dur.length = d.dur.length := by
  obtain ⟨E, _, h2, _⟩ := h.ex
  rw [h2, settled_length]
theorem SimD.content {d d0 : DS} (h : SimD d d0) {a : Nat} (ha : a < d.dur.length) : d.content a = d0.content a := by
  obtain ⟨E, h1, h2, _⟩ := h.ex
  unfold DS.content
  rw [h1, lastOf_app, h2, settled_all ha _ rfl]
  cases lastOf d0.cache a with
  | none => rfl
  | some l => rfl
theorem SimD.step {d d0 : DS} (h : SimD d d0) : d.step.1 = d0.step.1 ∧ SimD d.step.2 d0.step.2 := by
  unfold DS.step
  rw [h.off, h.cnt]
  split
  · exact ⟨rfl, h⟩
  · split
    · exact ⟨rfl, h⟩
    · exact ⟨rfl, ⟨rfl, rfl, h.size, h.ex⟩⟩
    · exact ⟨rfl, ⟨rfl, rfl, h.size, h.ex⟩⟩
theorem SimD.write {d d0 : DS} (h : SimD d d0) (x : Int) (l : List Int) : (d.write x l).2 = (d0.write x l).2 ∧ SimD (d.write x l).1 (d0.write x l).1 := by
  obtain ⟨h1, h2⟩ := h.step
  unfold DS.write
  rw [h.len, h.size, h1]
  split
  · split
    · refine ⟨rfl, ⟨h2.off, h2.cnt, h2.size, ?_⟩⟩
      obtain ⟨E, g1, g2, g3⟩ := h2.ex
      exact ⟨E, by show _ ++ _ = _; rw [g1, List.append_assoc], g2, g3⟩
    · exact ⟨rfl, h2⟩
  · exact ⟨rfl, h⟩
theorem SimD.sync {d d0 : DS} (h : SimD d d0) : d.sync.2 = d0.sync.2 ∧ SimD d.sync.1 d0.sync.1 := by
  obtain ⟨h1, h2⟩ := h.step
  unfold DS.sync
  rw [h1]
  split
  · refine ⟨rfl, ⟨h2.off, h2.cnt, h2.size, [], rfl, ?_, by simp⟩⟩
    obtain ⟨E, g1, g2, _⟩ := h2.ex
    show settled _ _ _ _ = settled (fun _ => true) [] (settled _ _ _ _) 0
    show settled (fun _ => true) d0.step.2.cache d0.step.2.dur d0.step.2.cache.length = settled (fun _ => true) d.step.2.cache d.step.2.dur d.step.2.cache.length
    rw [g1, List.length_append, settled_app (Nat.le_refl _), ← g2]
  · exact ⟨rfl, h2⟩
def JSim (z z0 : DS × JS) : Prop := SimD z.1 z0.1 ∧ z.2 = z0.2
theorem JSim.write {z z0 : DS × JS} (h : JSim z z0) (x : Int) (b : List Int) : JSim (jwrite z x b) (jwrite z0 x b) := by
  obtain ⟨h1, h2⟩ := h
  unfold jwrite JSim
  rw [h2, h1.size]
  obtain ⟨g1, g2⟩ := h1.write ((z0.2.first : Int) + x) (pad z0.1.size b)
  exact ⟨g2, by rw [g1]⟩
theorem JSim.sync {z z0 : DS × JS} (h : JSim z z0) : JSim (jsync z) (jsync z0) := by
  obtain ⟨h1, h2⟩ := h
  unfold jsync JSim
  obtain ⟨g1, g2⟩ := h1.sync
  exact ⟨g2, by rw [g1, h2]⟩
theorem JSim.commit {z z0 : DS × JS} (h : JSim z z0) (m : Nat) : JSim (jcommit z m) (jcommit z0 m) := by
  have h1 := h.write 0 (headL m)
  unfold jcommit
  rw [h1.2]
  split
  · exact h1
  · exact h1.sync
theorem JSim.ready {z z0 : DS × JS} (h : JSim z z0) : JSim (jready z) (jready z0) := by
  obtain ⟨h1, h2⟩ := h
  unfold jready JSim
  exact ⟨h1, by rw [h2, h1.off]⟩
theorem JSim.loop {next : List Int} : ∀ {k i : Nat} {z z0 : DS × JS}, JSim z z0 → JSim (jloop next k i z) (jloop next k i z0)
  | 0, _, _, _, h => h
  | k + 1, i, z, z0, h => by
    rw [jloop, jloop, h.1.size]
    split
    · have h1 := h.write ((1 + i : Nat) : Int) ((next.drop (i * z0.1.size)).take z0.1.size)
      rw [h1.2]
      split
      · exact h1
      · exact JSim.loop h1
    · exact h
theorem JSim.append {z z0 : DS × JS} (h : JSim z z0) (recs : List (List Int)) : JSim (jappend z recs).1 (jappend z0 recs).1 ∧ (jappend z recs).2 = (jappend z0 recs).2 := by
  have hr := h.ready
  unfold jappend
  rw [hr.2, h.2, h.1.size]
  have hl := JSim.loop (next := z0.2.stream ++ stream recs) (k := (z0.2.stream ++ stream recs).length) (i := z0.2.stream.length / z0.1.size) hr
  split
  · exact ⟨hr, rfl⟩
  · split
    · exact ⟨hr, rfl⟩
    · split
      · exact ⟨hr, rfl⟩
      · dsimp only
        rw [hl.2]
        have hs := hl.sync
        split
        · exact ⟨hl, rfl⟩
        · rw [hs.2]
          have hc := hs.commit (z0.2.stream ++ stream recs).length
          split
          · exact ⟨hs, rfl⟩
          · rw [hc.2]
            split
            · exact ⟨hc, rfl⟩
            · exact ⟨⟨hc.1, rfl⟩, rfl⟩
theorem JSim.reset {z z0 : DS × JS} (h : JSim z z0) : JSim (jreset z).1 (jreset z0).1 ∧ (jreset z).2 = (jreset z0).2 := by
  have hr := h.ready
  unfold jreset
  rw [hr.2]
  split
  · exact ⟨hr, rfl⟩
  · have hc := hr.commit 0
    rw [hc.2]
    split
    · exact ⟨hc, rfl⟩
    · exact ⟨⟨hc.1, rfl⟩, rfl⟩
theorem JSim.do {z z0 : DS × JS} (h : JSim z z0) (x : OpJ) : JSim (jdo z x).1 (jdo z0 x).1 ∧ (jdo z x).2 = (jdo z0 x).2 := by
  unfold jdo
  split
  · exact h.reset
  · exact h.append _
theorem secs_sim {d d0 : DS} (h : SimD d d0) {f : Nat} : ∀ {k : Nat}, f + k ≤ d.dur.length → secs d f k = secs d0 f k
  | 0, _ => rfl
  | k + 1, hk => by rw [secs, secs, secs_sim h (by omega), h.content (by omega)]
theorem jopen_sim {d d0 : DS} (h : SimD d d0) {f c : Nat} (hc : 2 ≤ c) (hfc : f + c ≤ d.dur.length) : jopen d f c = jopen d0 f c := by
  unfold jopen
  rw [h.off, h.content (by omega), secs_sim h (by omega), h.size]
/-- Two journals at work; mk: what two other sectors hold. -/
structure Two (w0 w : World) (D J : Nat → Prop) (p ja jb N f g n s : Nat) (d d0 : DS) (la lb : List (List Int)) (M1 M2 : Nat) (mk : List Int) : Prop where
  disk : IsDisk w D p d
  oa : JO w (FF D J) p ja (jsOf f n s la)
  ob : JO w (FF D J) p jb (jsOf g n s lb)
  ia : J ja
  ib : J jb
  ne : ja ≠ jb
  sep : ∀ b, J b → ¬ D b ∧ b < w.heap.size
  sim : SimD d d0
  ga : GoodD N f n s d0 la
  gb : GoodD N g n s d0 lb
  cnt : d0.cnt = none
  dis : f + n ≤ g ∨ g + n ≤ f
  out : ∀ a, a = M1 ∨ a = M2 → (a < f ∨ f + n ≤ a) ∧ (a < g ∨ g + n ≤ a) ∧ a < N
  mark : ∀ a, a = M1 ∨ a = M2 → DurL d0 a = mk
  upd : Upd (fun _ => False) w0 w
  new : ∀ b, FF D J b → w0.heap.size ≤ b
theorem Two.swap {w0 w : World} {D J : Nat → Prop} {p ja jb N f g n s : Nat} {d d0 : DS} {la lb : List (List Int)} {M1 M2 : Nat} {mk : List Int} (h : Two w0 w D J p ja jb N f g n s d d0 la lb M1 M2 mk) : Two w0 w D J p jb ja N g f n s d d0 lb la M1 M2 mk :=
  ⟨h.disk, h.ob, h.oa, h.ib, h.ia, h.ne.symm, h.sep, h.sim, h.gb, h.ga, h.cnt, h.dis.symm, fun a ha => ⟨(h.out a ha).2.1, (h.out a ha).1, (h.out a ha).2.2⟩, h.mark, h.upd, h.new⟩
theorem Two.jw {w0 w : World} {D J : Nat → Prop} {p ja jb N f g n s : Nat} {d d0 : DS} {la lb : List (List Int)} {M1 M2 : Nat} {mk : List Int} (h : Two w0 w D J p ja jb N f g n s d d0 la lb M1 M2 mk) : JW w D J p ja (d, jsOf f n s la) := ⟨h.disk, h.oa, h.ia, h.sep⟩
theorem JO.quiet {w w' : World} {F : Nat → Prop} {p jb : Nat} {j : JS} (h : JO w F p jb j) (hu : Upd (fun _ => False) w w') : JO w' F p jb j := by
  obtain ⟨sv, h1, h2, h3⟩ := h
  exact ⟨sv, h1.upd hu (fun h => h), h2.upd hu (fun _ h => h.elim), h3⟩
theorem Two.quiet {w0 w w' : World} {D J : Nat → Prop} {p ja jb N f g n s : Nat} {d d0 : DS} {la lb : List (List Int)} {M1 M2 : Nat} {mk : List Int} (h : Two w0 w D J p ja jb N f g n s d d0 la lb M1 M2 mk) (hu : Upd (fun _ => False) w w') : Two w0 w' D J p ja jb N f g n s d d0 la lb M1 M2 mk :=
  ⟨h.disk.upd hu (fun _ _ h => h), h.oa.quiet hu, h.ob.quiet hu, h.ia, h.ib, h.ne, fun b hb => ⟨(h.sep b hb).1, Nat.lt_of_lt_of_le (h.sep b hb).2 hu.size⟩, h.sim, h.ga, h.gb, h.cnt, h.dis, h.out, h.mark, h.upd.trans hu (fun _ _ h => h), h.new⟩
theorem SimD.sz {d d0 : DS} {N f n s : Nat} {ls : List (List Int)} (h : SimD d d0) (hg : GoodD N f n s d0 ls) : Sz N s 2 d := by
  obtain ⟨E, h1, _, h3⟩ := h.ex
  refine ⟨by rw [← h.len]; exact hg.sz.dur, by rw [h.size]; exact hg.sz.size, by rw [h1, hg.cache, List.append_nil]; exact h3, fun k hk => hg.sz.cnt k (by rw [← h.cnt]; exact hk)⟩
theorem Two.lt {w0 w : World} {D J : Nat → Prop} {p ja jb N f g n s : Nat} {d d0 : DS} {la lb : List (List Int)} {M1 M2 : Nat} {mk : List Int} (h : Two w0 w D J p ja jb N f g n s d d0 la lb M1 M2 mk) : ∀ b, FF D J b → b < w.heap.size := fun b hb => hb.elim (h.disk.bd b) fun hb => (h.sep b hb).2
theorem GoodD.frame {N f g n s : Nat} {d0 d1 : DS} {la lb : List (List Int)} (h : GoodD N g n s d0 lb) (h1 : GoodD N f n s d1 la) (hs : 0 < s) (hg : g + n ≤ N) (hn : 2 ≤ n) (hdis : f + n ≤ g ∨ g + n ≤ f) (hfr : ∀ a, a < N → (a < f ∨ f + n ≤ a) → DurL d1 a = DurL d0 a) : GoodD N g n s d1 lb := by
  refine ⟨h1.sz, h1.off, h1.cache, h1.rng, ⟨?_, fun p hp => ?_⟩, h.fit, h.rl⟩
  · rw [hfr g (by omega) (by omega)]; exact h.holds.1
  · have hq : p / s < n - 1 := Nat.div_lt_of_lt_mul (by rw [Nat.mul_comm]; exact Nat.lt_of_lt_of_le hp h.fit)
    have h9 := h.holds.2 p hp
    generalize p / s = q at hq h9 ⊢
    rw [hfr (g + 1 + q) (by omega) (by omega)]
    exact h9
/-- An operation of the first journal. -/
theorem Two.do {w0 w : World} {D J : Nat → Prop} {p ja jb N f g n s : Nat} {d d0 : DS} {la lb : List (List Int)} {M1 M2 : Nat} {mk : List Int} (h : Two w0 w D J p ja jb N f g n s d d0 la lb M1 M2 mk) (hd : Dims N f n s) (hd2 : Dims N g n s) {x : OpJ} {ua : Option Addr} {un uc : Nat} (hy : SlR w (FF D J) (.slice ua un uc) x.recs) (hr : RngL x.recs) (hrl : (stream x.recs).length ≤ 50000) :
    Ok (den Try.prog 17 #[.pointer (some ⟨ja, 0, none⟩), .agg #[.bool x.reset, .slice ua un uc]] w) fun u w' => (∃ e, u = .int .i64 e) ∧ ∃ D' d' d1, Two w0 w' D' J p ja jb N f g n s d' d1 (afterP la x ((n - 1) * s)).1 lb M1 M2 mk ∧ JT w w' D D' ja := by
  have hfc := hd.fc
  have hn1 := hd.n1
  have ho := do_ok h.jw (h.sim.sz h.ga) (by omega) hd.s1 hd.s2 (by show f ≤ 100000; omega) h.ga.fit hd.area hy hr hrl
  refine Ok.mono ho ?_
  rintro u w' ⟨rfl, D', hw, ht⟩
  obtain ⟨hs1, hs2⟩ := JSim.do (z := (d, jsOf f n s la)) (z0 := (d0, jsOf f n s la)) ⟨h.sim, rfl⟩ x
  obtain ⟨hsz, hres⟩ := do_spec h.ga hd (x := x) hr
  rcases hres with ⟨h1, h2, h3, h4, h5, _⟩ | ⟨_, _, _, h4⟩
  rotate_left
  · exact absurd h.cnt h4
  obtain ⟨g1, g2⟩ := new_step h.upd h.new ht h.ia
  have hwd := hw.disk
  have hwo := hw.obj
  rw [hs1.2, h3] at hwo
  have hgb := h.gb.frame h2 (by have := hd.s1; omega) hd2.fc hd.c1 h.dis h5
  refine ⟨⟨_, rfl⟩, D', _, _, ⟨hwd, hwo, ht.other h.ia h.ob h.ne.symm (h.sep jb h.ib).1, h.ia, h.ib, h.ne, hw.sep, hs1.1, h2, hgb, h4 h.cnt, h.dis, h.out, fun a ha => ?_, g1, g2⟩, ht⟩
  obtain ⟨o1, _, o3⟩ := h.out a ha
  rw [h5 a o3 o1]
  exact h.mark a ha
end Go.Proofs.Ytlnladcfgieggaa.Fd
