/-
  Append, Reset, Open on a region that holds a list: what they give.
-/
import Derived.Test.YtlnladcfgieggaaJnQ
namespace Go.Proofs.Ytlnladcfgieggaa.Fd
set_option linter.unusedSimpArgs false
set_option linter.unusedVariables false
open Go
set_option maxRecDepth 100000

/-- A disk with nothing cached, whose region holds a list. -/
structure GoodD (n f c s : Nat) (d : DS) (ls : List (List Int)) : Prop where
  sz : Sz n s 0 d
  off : d.off = false
  cache : d.cache = []
  rng : RngD d
  holds : HoldsL (DurL d) f s (stream ls)
  fit : (stream ls).length ≤ (c - 1) * s
  rl : RngL ls
structure Dims (n f c s : Nat) : Prop where
  s1 : 16 ≤ s
  s2 : s ≤ 4096
  c1 : 2 ≤ c
  fc : f + c ≤ n
  n1 : n ≤ 65536
  ar : c * s ≤ 50000
theorem Dims.area {n f c s : Nat} (h : Dims n f c s) : (c - 1) * s ≤ 50000 := Nat.le_trans (Nat.mul_le_mul_right _ (by omega)) h.ar
def jsOf (f c s : Nat) (ls : List (List Int)) : JS := ⟨f, (c - 1) * s, stream ls, false⟩
/-- The disk of an interrupted operation: what a crash leaves. -/
structure BadD (n f c s i : Nat) (d : DS) (Q : List (List Int) → Prop) : Prop where
  sz : Sz n s i d
  off : d.off = true
  rng : RngD d
  safe : Safe d f s fun st => ∃ ls, Q ls ∧ st = stream ls ∧ (stream ls).length ≤ (c - 1) * s ∧ RngL ls
theorem BadD.crash {n f c s i : Nat} {d : DS} {Q : List (List Int) → Prop} (h : BadD n f c s i d Q) (keep : List Bool) : ∃ ls, Q ls ∧ GoodD n f c s (d.crash keep) ls := by
  obtain ⟨st, ⟨ls, h1, rfl, h3, h4⟩, h2⟩ := h.safe.crash keep
  exact ⟨ls, h1, h.sz.crash keep, rfl, rfl, h.rng.crash keep, h2, h3, h4⟩
theorem GoodD.crash {n f c s : Nat} {d : DS} {ls : List (List Int)} (h : GoodD n f c s d ls) (keep : List Bool) : GoodD n f c s (d.crash keep) ls := by
  obtain ⟨st, h1, h2⟩ := (safe_nil (Q := (· = stream ls)) h.cache h.holds rfl).crash keep
  subst h1
  exact ⟨h.sz.crash keep, rfl, rfl, h.rng.crash keep, h2, h.fit, h.rl⟩
theorem GoodD.fail {n f c s : Nat} {d : DS} {ls : List (List Int)} (h : GoodD n f c s d ls) {k : Int} (hk : k < 9223372036854775808) : GoodD n f c s (d.fail k) ls := by
  have e : d.fail k = { d with cnt := some (max k 0).toNat } := by unfold DS.fail; rw [h.off]; rfl
  have hs := h.sz.fail (x := k) hk
  have hr := h.rng.fail k
  rw [e] at hs hr ⊢
  exact ⟨hs, h.off, h.cache, hr, h.holds, h.fit, h.rl⟩
theorem GoodD.new {n f c s : Nat} (h : Dims n f c s) : GoodD n f c s (DS.new n s) [] := by
  refine ⟨Sz.new, rfl, rfl, RngD.new, ⟨?_, fun p hp => by rw [stream_nil] at hp; simp at hp⟩, by rw [stream_nil]; simp, fun l hl => by simp at hl⟩
  have hf := h.fc
  have hc := h.c1
  have e : DurL (DS.new n s) f = List.replicate s 0 := by
    unfold DurL DS.new
    simp only
    rw [List.getD_eq_getElem?_getD, List.getElem?_replicate, if_pos (by omega)]
    rfl
  rw [e, headD_zero, stream_nil]
  rfl
theorem stream_rng {ls : List (List Int)} (h : RngL ls) : Rng (stream ls) := by
  intro x hx
  obtain ⟨l, hl, hx⟩ := List.mem_flatMap.1 hx
  rcases List.mem_append.1 hx with hx | hx
  · exact encU_rng _ x hx
  · exact h l hl x hx
theorem RngL.append {a b : List (List Int)} (h1 : RngL a) (h2 : RngL b) : RngL (a ++ b) := by
  intro l hl
  rcases List.mem_append.1 hl with hl | hl
  · exact h1 l hl
  · exact h2 l hl
theorem GoodD.jready {n f c s : Nat} {d : DS} {ls : List (List Int)} (h : GoodD n f c s d ls) : jready (d, jsOf f c s ls) = (d, jsOf f c s ls) := by
  unfold Fd.jready jsOf
  rw [h.off]
  rfl
theorem sec_lt {d : DS} {f s p : Nat} {x : Int} (h : (DurL d (f + 1 + p / s))[p % s]? = some x) : f + 1 + p / s < d.dur.length := by
  refine Classical.byContradiction fun hlt => ?_
  unfold DurL at h
  rw [List.getD_eq_getElem?_getD, List.getElem?_eq_none (Nat.le_of_not_lt hlt)] at h
  simp at h
/-- What an operation gives. -/
structure OpRes (n f c s : Nat) (d : DS) (ls next : List (List Int)) (r : (DS × JS) × Int) : Prop where
  sz : Sz n s 60000 r.1.1
  res : (r.2 = 0 ∧ GoodD n f c s r.1.1 next ∧ r.1.2 = jsOf f c s next ∧ (d.cnt = none → r.1.1.cnt = none) ∧ (∀ a, a < n → (a < f ∨ f + c ≤ a) → DurL r.1.1 a = DurL d a) ∧ ((r.1.1 = d ∧ next = ls) ∨ DurL r.1.1 f = pad s (headL (stream next).length))) ∨
    (r.2 = 8 ∧ r.1.2 = { jsOf f c s ls with down := true } ∧ BadD n f c s 60000 r.1.1 (fun x => x = ls ∨ x = next) ∧ d.cnt ≠ none)
theorem reset_spec {n f c s : Nat} {d : DS} {ls : List (List Int)} (h : GoodD n f c s d ls) (hd : Dims n f c s) : OpRes n f c s d ls [] (jreset (d, jsOf f c s ls)) := by
  have hs1 := hd.s1
  have hf := hd.fc
  have hc := hd.c1
  have hsz := (Sz.jreset (z := (d, jsOf f c s ls)) h.sz).mono (show 0 + 1 ≤ 60000 by omega)
  have hcs := commit_spec (z := (d, jsOf f c s ls)) (f := f) (s := s) (old := stream ls) (new := []) h.off h.cache h.holds (fun p hp => by simp at hp) rfl rfl (by rw [show (d, jsOf f c s ls).1.dur.length = n from h.sz.dur]; omega) h.sz.size (by omega) (by simp)
  have hrng := jcommit_rng (z := (d, jsOf f c s ls)) h.rng (n := 0)
  have hcsz := Sz.jcommit (s := (d, jsOf f c s ls)) h.sz (m := 0)
  have e : jreset (d, jsOf f c s ls) = if (jcommit (d, jsOf f c s ls) 0).2.down then (jcommit (d, jsOf f c s ls) 0, 8) else (((jcommit (d, jsOf f c s ls) 0).1, { (jcommit (d, jsOf f c s ls) 0).2 with stream := [] }), 0) := by
    unfold jreset
    rw [h.jready]
    rfl
  refine ⟨hsz, ?_⟩
  rw [e]
  rcases hcs with ⟨h1, h2, h3, h4, h5, h6, h7⟩ | ⟨h1, h2, h3, h4⟩
  · left
    have h1 : (jcommit (d, jsOf f c s ls) 0).2 = jsOf f c s ls := h1
    have h2 : (jcommit (d, jsOf f c s ls) 0).1.off = false := h2
    have h3 : (jcommit (d, jsOf f c s ls) 0).1.cache = [] := h3
    rw [if_neg (by rw [h1]; exact Bool.noConfusion)]
    refine ⟨rfl, ⟨⟨hcsz.dur, hcsz.size, by rw [h3]; exact Nat.le_refl _, hcsz.cnt⟩, h2, h3, hrng, h4, by rw [stream_nil]; simp, fun l hl => by simp at hl⟩, by rw [h1]; rfl, h5, fun a ha hout => ?_, .inr h7⟩
    exact h6 a (by rw [show (d, jsOf f c s ls).1.dur.length = n from h.sz.dur]; exact ha) (by omega)
  · right
    have h1 : (jcommit (d, jsOf f c s ls) 0).2 = { jsOf f c s ls with down := true } := h1
    rw [if_pos (by rw [h1])]
    refine ⟨rfl, h1, ⟨hcsz.mono (by omega), h2, hrng, fun L hL => ?_⟩, h4⟩
    obtain ⟨st, g1, g2⟩ := h3 L hL
    rcases g1 with rfl | rfl
    · exact ⟨_, ⟨ls, .inl rfl, rfl, h.fit, h.rl⟩, g2⟩
    · exact ⟨_, ⟨[], .inr rfl, rfl, by rw [stream_nil]; simp, fun l hl => by simp at hl⟩, g2⟩
theorem append_full {n f c s : Nat} {d : DS} {ls recs : List (List Int)} (h : GoodD n f c s d ls) (hfull : (c - 1) * s < (stream (ls ++ recs)).length) : jappend (d, jsOf f c s ls) recs = ((d, jsOf f c s ls), 7) := by
  have hne : recs ≠ [] := by
    intro e
    subst e
    rw [List.append_nil] at hfull
    have := h.fit
    omega
  unfold jappend
  rw [h.jready]
  have hdn : ¬ (jsOf f c s ls).down = true := Bool.false_ne_true
  rw [if_neg hdn, if_neg hne, if_pos]
  rw [stream_append, List.length_append] at hfull
  have := h.fit
  show (c - 1) * s - (stream ls).length < (stream recs).length
  omega
theorem append_spec {n f c s : Nat} {d : DS} {ls recs : List (List Int)} (h : GoodD n f c s d ls) (hd : Dims n f c s) (hr : RngL recs) (hfit : (stream (ls ++ recs)).length ≤ (c - 1) * s) : OpRes n f c s d ls (ls ++ recs) (jappend (d, jsOf f c s ls) recs) := by
  have hs1 := hd.s1
  have hfc := hd.fc
  have hc1 := hd.c1
  have har := hd.area
  have hnext : stream (ls ++ recs) = stream ls ++ stream recs := stream_append
  have hszA := Sz.jappend (z := (d, jsOf f c s ls)) h.sz recs
  have hszA' : Sz n s 60000 (jappend (d, jsOf f c s ls) recs).1.1 := hszA.mono (by
    show 0 + (stream ls ++ stream recs).length + 1 ≤ 60000
    rw [← hnext]
    omega)
  refine ⟨hszA', ?_⟩
  have hdn : ¬ (jsOf f c s ls).down = true := Bool.false_ne_true
  have hA : jappend (d, jsOf f c s ls) recs = _ := rfl
  conv at hA => rhs; unfold jappend
  rw [h.jready, if_neg hdn] at hA
  by_cases hr0 : recs = []
  · rw [if_pos hr0] at hA
    rw [hA]
    subst hr0
    rw [List.append_nil]
    exact .inl ⟨rfl, h, rfl, fun h => h, fun _ _ _ => rfl, .inl ⟨rfl, rfl⟩⟩
  rw [if_neg hr0, if_neg (by
    show ¬ (c - 1) * s - (stream ls).length < (stream recs).length
    have := h.fit
    rw [hnext, List.length_append] at hfit
    omega)] at hA
  have hNe : (jsOf f c s ls).stream ++ stream recs = stream (ls ++ recs) := hnext.symm
  have hsize : d.size = s := h.sz.size
  have hdl : d.dur.length = n := h.sz.dur
  rw [show ((d, jsOf f c s ls) : DS × JS).2.stream = stream ls from rfl, show ((d, jsOf f c s ls) : DS × JS).1.size = s from hsize, ← hnext] at hA
  dsimp only at hA
  have hrl := h.rl.append hr
  have hNr := stream_rng hrl
  obtain ⟨N, hN⟩ : ∃ N, N = stream (ls ++ recs) := ⟨_, rfl⟩
  have hpre : ∀ p, p < (stream ls).length → N[p]? = (stream ls)[p]? := by
    intro p hp
    rw [hN, hnext, List.getElem?_append_left hp]
  have hlen : (stream ls).length ≤ N.length := by rw [hN, hnext, List.length_append]; omega
  rw [← hN] at hA hfit hNr
  have hmid0 : Mid d d f c s (stream ls) := ⟨rfl, rfl, fun a b hab => by rw [h.cache] at hab; cases hab⟩
  have hloop := jloop_spec (d0 := d) (f := f) (c := c) (s := s) (st := stream ls) (next := N) (by omega) hpre hfit (by rw [hdl]; exact hfc) hsize (k := N.length) (i := (stream ls).length / s) (z := (d, jsOf f c s ls))
    (by
      have : N.length * 1 ≤ N.length * s := Nat.mul_le_mul_left _ (by omega)
      rw [Nat.add_mul]
      omega) hmid0 h.off rfl rfl
    (fun p hp hlt => by
      have hd0 := Nat.div_mul_le_self (stream ls).length s
      have hps : p < (stream ls).length := Nat.lt_of_lt_of_le hlt hd0
      rw [hpre p hps]
      show (d.content _)[_]? = _
      rw [content_nil h.cache]
      exact h.holds.2 p hps)
    (by show d.content f = _; rw [content_nil h.cache])
  have hlrng := jloop_rng (next := N) hNr (k := N.length) (i := (stream ls).length / s) (z := (d, jsOf f c s ls)) h.rng
  have hlsz := Sz.jloop (next := N) (k := N.length) (i0 := (stream ls).length / s) (z := (d, jsOf f c s ls)) h.sz
  have hkeep := jloop_keep (next := N) (k := N.length) (i := (stream ls).length / s) (s := (d, jsOf f c s ls))
  have hlsz' := hlsz.mono (show 0 + N.length ≤ 60000 by omega)
  obtain ⟨k1, k2, k3⟩ := hkeep
  generalize jloop N N.length ((stream ls).length / s) (d, jsOf f c s ls) = z2 at *
  obtain ⟨hmid, hcnt2, hcase⟩ := hloop
  have js2 : ∀ b, z2.2.down = b → z2.2 = { jsOf f c s ls with down := b } := by
    intro b hb
    obtain ⟨d2, first, area, st, dn⟩ := z2
    simp only at hb k1 k2 k3
    subst hb k1 k2 k3
    rfl
  have hQold : ∀ {x : DS}, Safe x f s (· = stream ls) → Safe x f s fun st => ∃ l, (l = ls ∨ l = ls ++ recs) ∧ st = stream l ∧ (stream l).length ≤ (c - 1) * s ∧ RngL l := by
    intro x hx L hL
    obtain ⟨st, g1, g2⟩ := hx L hL
    exact ⟨st, ⟨ls, .inl rfl, g1, h.fit, h.rl⟩, g2⟩
  rcases hcase with ⟨h1, h2, h3⟩ | ⟨h1, h2, h3, h4⟩
  · rw [if_pos h2] at hA
    rw [hA]
    exact .inr ⟨rfl, js2 true h2, ⟨hlsz', h1, hlrng, hQold (hmid.safe (by omega) h.holds)⟩, h3⟩
  have hj2 := js2 false h2
  rw [if_neg (by rw [h2]; decide)] at hA
  have hdl2 : z2.1.dur.length = n := hlsz.dur
  rcases sync_cases z2.1 h1 with ⟨g1, g2, g3, g4, g5, g6, g7⟩ | ⟨g1, g2, g3, g4, g5, g6⟩
  rotate_left
  · have hjs : jsync z2 = (z2.1.sync.1, { jsOf f c s ls with down := true }) := by
      unfold jsync
      rw [g1, hj2]
      rfl
    rw [hjs, if_pos rfl] at hA
    rw [hA]
    refine .inr ⟨rfl, rfl, ⟨hlsz'.sync, g2, hlrng.sync, hQold ((hmid.safe (by omega) h.holds).same g3 g4)⟩, fun h => g6 (hcnt2 h)⟩
  have hjs : jsync z2 = (z2.1.sync.1, jsOf f c s ls) := by
    unfold jsync
    rw [g1, hj2]
    rfl
  rw [hjs, if_neg hdn] at hA
  have hsz3 := hlsz'.sync
  have hrg3 := hlrng.sync
  generalize z2.1.sync.1 = d3 at *
  have hd3 : ∀ a, a < n → DurL d3 a = z2.1.content a := fun a ha => g3 a (by rw [hdl2]; exact ha)
  have hnew3 : ∀ p, p < N.length → (DurL d3 (f + 1 + p / s))[p % s]? = N[p]? := by
    intro p hp
    have h9 := h3 p hp
    have hlt : f + 1 + p / s < n := by
      have h8 : p / s < c - 1 := Nat.div_lt_of_lt_mul (by rw [Nat.mul_comm]; omega)
      generalize p / s = q at h8 ⊢
      omega
    rw [hd3 _ hlt]
    exact h9
  have hold3 : HoldsL (DurL d3) f s (stream ls) := by
    refine ⟨?_, fun p hp => by rw [hnew3 p (by omega), hpre p hp]⟩
    rw [hd3 f (by omega), h4]
    exact h.holds.1
  have hcs := commit_spec (z := (d3, jsOf f c s ls)) (f := f) (s := s) (old := stream ls) (new := N) g2 g5 hold3 hnew3 rfl rfl (by show f < d3.dur.length; rw [hsz3.dur]; omega) hsz3.size (by omega) (by omega)
  have hcrng := jcommit_rng (z := (d3, jsOf f c s ls)) hrg3 (n := N.length)
  have hcsz := Sz.jcommit (s := (d3, jsOf f c s ls)) ((show Sz n s 0 d3 from ⟨hsz3.dur, hsz3.size, by rw [g5]; exact Nat.le_refl _, hsz3.cnt⟩)) (m := N.length)
  rcases hcs with ⟨q1, q2, q3, q4, q5, q6, q7⟩ | ⟨q1, q2, q3, q4⟩
  · rw [if_neg (by rw [q1]; exact hdn)] at hA
    rw [hA]
    refine .inl ⟨rfl, ⟨⟨hcsz.dur, hcsz.size, by rw [q3]; exact Nat.le_refl _, hcsz.cnt⟩, q2, q3, hcrng, by rw [← hN]; exact q4, by rw [← hN]; exact hfit, hrl⟩, by rw [q1, hN]; rfl, fun h => q5 (g7 (hcnt2 h)), fun a ha hout => ?_, .inr (by rw [← hN]; exact q7)⟩
    have e1 := q6 a (by show a < d3.dur.length; rw [hsz3.dur]; exact ha) (by omega)
    rw [e1]
    show DurL d3 a = _
    rw [hd3 a ha, content_free (fun b hab => ?_), hmid.dur]
    · rfl
    · obtain ⟨i, e2, e3, _⟩ := hmid.only a b hab
      omega
  · rw [if_pos (by rw [q1])] at hA
    rw [hA]
    refine .inr ⟨rfl, q1, ⟨hcsz.mono (by omega), q2, hcrng, fun L hL => ?_⟩, fun h => q4 (g7 (hcnt2 h))⟩
    obtain ⟨st, p1, p2⟩ := q3 L hL
    rcases p1 with rfl | rfl
    · exact ⟨_, ⟨ls, .inl rfl, rfl, h.fit, h.rl⟩, p2⟩
    · exact ⟨_, ⟨ls ++ recs, .inr rfl, hN, by rw [← hN]; exact hfit, hrl⟩, p2⟩
end Go.Proofs.Ytlnladcfgieggaa.Fd
