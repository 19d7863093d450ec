/-
  Append, Reset, Open on a region that holds a list: plain facts.
-/
import Derived.Test.YtlnladcfgieggaaJnP
namespace Go.Proofs.Ytlnladcfgieggaa.Fd
set_option linter.unusedSimpArgs false
set_option linter.unusedVariables false
open Go
set_option maxRecDepth 100000

theorem RngD.write {d : DS} (h : RngD d) {x : Int} {l : List Int} (hl : Rng l) : RngD (d.write x l).1 := by
  have hs : RngD d.step.2 := by
    unfold DS.step
    split
    · exact h
    · split <;> exact ⟨h.dur, h.cache⟩
  unfold DS.write
  split
  · split
    · refine ⟨hs.dur, fun y hy => ?_⟩
      rcases List.mem_append.1 hy with hy | hy
      · exact hs.cache y hy
      · rw [List.mem_singleton] at hy
        rw [hy]; exact hl
    · exact hs
  · exact h
theorem settled_rng {ch : Nat → Bool} {c : List (Nat × List Int)} {dur : List (List Int)} (hd : ∀ l, l ∈ dur → Rng l) (hc : ∀ x, x ∈ c → Rng x.2) : ∀ {i : Nat} l, l ∈ settled ch c dur i → Rng l
  | 0, l, h => hd l h
  | i + 1, l, h => by
    simp only [settled] at h
    split at h
    · rename_i x hx
      split at h
      · rcases List.mem_or_eq_of_mem_set h with h | h
        · exact settled_rng hd hc l h
        · rw [h]; exact hc x (List.mem_of_getElem? hx)
      · exact settled_rng hd hc l h
    · exact settled_rng hd hc l h
theorem RngD.settle {d : DS} (h : RngD d) (ch : Nat → Bool) : RngD (d.settle ch) := ⟨fun l hl => settled_rng h.dur h.cache l hl, fun x hx => by cases hx⟩
theorem RngD.step {d : DS} (h : RngD d) : RngD d.step.2 := by
  unfold DS.step
  split
  · exact h
  · split <;> exact ⟨h.dur, h.cache⟩
theorem RngD.sync {d : DS} (h : RngD d) : RngD d.sync.1 := by
  unfold DS.sync
  split
  · exact h.step.settle _
  · exact h.step
theorem RngD.crash {d : DS} (h : RngD d) (keep : List Bool) : RngD (d.crash keep) := ⟨(h.settle fun i => keep.getD i false).dur, fun x hx => by cases hx⟩
theorem RngD.fail {d : DS} (h : RngD d) (k : Int) : RngD (d.fail k) := by
  unfold DS.fail
  split
  · exact h
  · exact ⟨h.dur, h.cache⟩
theorem RngD.new {n s : Nat} : RngD (DS.new n s) := ⟨fun l hl => by rw [List.eq_of_mem_replicate hl]; exact Rng.zeros, fun x hx => by cases hx⟩
theorem Rng.pad {s : Nat} {l : List Int} (h : Rng l) : Rng (pad s l) := h.append Rng.zeros
theorem headL_rng {n : Nat} : Rng (headL n) := by
  unfold headL
  rw [encB_title]
  refine Rng.append (fun x hx => ?_) (encU_rng n)
  simp at hx
  omega
theorem jwrite_rng {z : DS × JS} (h : RngD z.1) {x : Int} {b : List Int} (hb : Rng b) : RngD (jwrite z x b).1 := h.write hb.pad
theorem jsync_rng {z : DS × JS} (h : RngD z.1) : RngD (jsync z).1 := h.sync
theorem jcommit_rng {z : DS × JS} (h : RngD z.1) {n : Nat} : RngD (jcommit z n).1 := by
  unfold jcommit
  split
  · exact jwrite_rng h headL_rng
  · exact jsync_rng (jwrite_rng h headL_rng)
theorem jloop_rng {next : List Int} (hn : Rng next) : ∀ {k i : Nat} {z : DS × JS}, RngD z.1 → RngD (jloop next k i z).1
  | 0, _, _, h => h
  | k + 1, i, z, h => by
    rw [jloop]
    split
    · split
      · exact jwrite_rng h ((hn.drop _).take _)
      · exact jloop_rng hn (jwrite_rng h ((hn.drop _).take _))
    · exact h
theorem Sz.jsync {n sz i : Nat} {s : DS × JS} (h : Sz n sz i s.1) : Sz n sz i (jsync s).1 := h.sync
theorem Sz.jcommit {n sz i : Nat} {s : DS × JS} (h : Sz n sz i s.1) {m : Nat} : Sz n sz (i + 1) (jcommit s m).1 := by
  unfold Fd.jcommit
  split
  · exact h.jwrite _ _
  · exact (h.jwrite _ _).jsync
theorem Sz.jloop {n sz : Nat} {next : List Int} : ∀ {k i0 i : Nat} {z : DS × JS}, Sz n sz i z.1 → Sz n sz (i + k) (jloop next k i0 z).1
  | 0, _, _, _, h => h
  | k + 1, i0, i, z, h => by
    rw [Fd.jloop]
    split
    · split
      · exact (h.jwrite _ _).mono (by omega)
      · have := Sz.jloop (next := next) (k := k) (i0 := i0 + 1) (h.jwrite ((1 + i0 : Nat) : Int) ((next.drop (i0 * z.1.size)).take z.1.size))
        exact this.mono (by omega)
    · exact h.mono (by omega)
theorem Sz.jappend {n sz i : Nat} {z : DS × JS} (h : Sz n sz i z.1) (recs : List (List Int)) : Sz n sz (i + (z.2.stream ++ stream recs).length + 1) (jappend z recs).1.1 := by
  unfold Fd.jappend
  have h0 : Sz n sz i (jready z).1 := h
  split
  · exact h0.mono (by omega)
  · split
    · exact h0.mono (by omega)
    · split
      · exact h0.mono (by omega)
      · have h1 := Sz.jloop (next := z.2.stream ++ stream recs) (k := (z.2.stream ++ stream recs).length) (i0 := z.2.stream.length / z.1.size) h0
        dsimp only
        split
        · exact h1.mono (by omega)
        · split
          · exact h1.jsync.mono (by omega)
          · split
            · exact h1.jsync.jcommit
            · exact h1.jsync.jcommit
theorem Sz.jreset {n sz i : Nat} {z : DS × JS} (h : Sz n sz i z.1) : Sz n sz (i + 1) (jreset z).1.1 := by
  unfold Fd.jreset
  have h0 : Sz n sz i (jready z).1 := h
  split
  · exact h0.mono (by omega)
  · split
    · exact h0.jcommit
    · exact h0.jcommit
theorem content_free {d : DS} {a : Nat} (h : ∀ b, (a, b) ∉ d.cache) : d.content a = d.dur.getD a [] := by
  unfold DS.content
  cases hl : lastOf d.cache a with
  | none => rfl
  | some l => exact absurd (lastOf_mem hl) (h l)
theorem poss_nil {d : DS} (h : d.cache = []) {L : Nat → List Int} (hL : ∀ a, Poss d a (L a)) (a : Nat) : L a = DurL d a := by
  rcases hL a with e | e
  · exact e
  · rw [h] at e; cases e
theorem safe_nil {d : DS} (h : d.cache = []) {f s : Nat} {st : List Int} {Q : List Int → Prop} (hh : HoldsL (DurL d) f s st) (hQ : Q st) : Safe d f s Q := by
  intro L hL
  have : L = DurL d := funext fun a => poss_nil h hL a
  rw [this]
  exact ⟨st, hQ, hh⟩
/-- The head is written, then synced. -/
theorem commit_spec {z : DS × JS} {f s : Nat} {old new : List Int} (hoff : z.1.off = false) (hca : z.1.cache = []) (hold : HoldsL (DurL z.1) f s old) (hnew : ∀ p, p < new.length → (DurL z.1 (f + 1 + p / s))[p % s]? = new[p]?)
    (hdn : z.2.down = false) (hf : z.2.first = f) (hfl : f < z.1.dur.length) (hsz : z.1.size = s) (hs : 11 ≤ s) (hnl : new.length < 2 ^ 21) :
    ((jcommit z new.length).2 = z.2 ∧ (jcommit z new.length).1.off = false ∧ (jcommit z new.length).1.cache = [] ∧ HoldsL (DurL (jcommit z new.length).1) f s new ∧ (z.1.cnt = none → (jcommit z new.length).1.cnt = none) ∧ (∀ a, a < z.1.dur.length → a ≠ f → DurL (jcommit z new.length).1 a = DurL z.1 a) ∧ DurL (jcommit z new.length).1 f = pad s (headL new.length)) ∨
    ((jcommit z new.length).2 = { z.2 with down := true } ∧ (jcommit z new.length).1.off = true ∧ Safe (jcommit z new.length).1 f s (fun st => st = old ∨ st = new) ∧ z.1.cnt ≠ none) := by
  have hhl := headL_le (k := new.length) hnl
  have hbl : (headL new.length).length ≤ s := by omega
  have hhd : headD (pad s (headL new.length)) = some new.length := headD_head (by omega) hbl
  have ejw : jwrite z 0 (headL new.length) = ((z.1.write (f : Int) (pad s (headL new.length))).1, { z.2 with down := decide ((z.1.write (f : Int) (pad s (headL new.length))).2 ≠ 0) }) := by
    unfold jwrite
    rw [hsz, hf, Int.add_zero, hdn]
    simp
  have hz2 : z.2 = { z.2 with down := false } := by rw [← hdn]
  have ne1 : ∀ q, f + 1 + q ≠ f := fun q => by omega
  rcases write_cases z.1 hoff (x := f) (l := pad s (headL new.length)) hfl (by rw [pad_length hbl, hsz]) with ⟨h1, h2, h3, h4, h5, h6⟩ | ⟨h1, h2, h3, h4, h5, h6⟩
  · rw [hca, List.nil_append] at h4
    have ejw' : jwrite z 0 (headL new.length) = ((z.1.write (f : Int) (pad s (headL new.length))).1, z.2) := by
      rw [ejw, h1]
      rw [show decide ((0 : Int) ≠ 0) = false from rfl, ← hz2]
    have ejc : jcommit z new.length = jsync (jwrite z 0 (headL new.length)) := by
      unfold jcommit
      rw [if_neg (by rw [ejw']; show ¬ z.2.down = true; rw [hdn]; decide)]
    rw [ejc, ejw']
    generalize (z.1.write (f : Int) (pad s (headL new.length))).1 = d1 at *
    have hpos : ∀ {L : Nat → List Int}, (∀ a, Poss d1 a (L a)) → ∀ a, a ≠ f → L a = DurL z.1 a := by
      intro L hL a ha
      rcases hL a with e | e
      · rw [e, h3]; rfl
      · rw [h4, List.mem_singleton] at e
        injection e with e1 _
        exact absurd e1 ha
    have hct : ∀ a, d1.content a = if f = a then pad s (headL new.length) else DurL z.1 a := by
      intro a
      rw [content_snoc (d := z.1) h3 (by rw [h4, hca]; rfl), content_nil hca]
      rfl
    rcases sync_cases d1 h2 with ⟨g1, g2, g3, g4, g5, g6, g7⟩ | ⟨g1, g2, g3, g4, g5, g6⟩
    · left
      have ejs : jsync (d1, z.2) = (d1.sync.1, z.2) := by
        unfold jsync
        rw [g1, hdn]
        rw [show (false || decide ((0 : Int) ≠ 0)) = false from rfl, ← hz2]
      rw [ejs]
      have hdl : ∀ a, a < z.1.dur.length → DurL d1.sync.1 a = if f = a then pad s (headL new.length) else DurL z.1 a := by
        intro a ha
        show d1.sync.1.dur.getD a [] = _
        rw [g3 a (by rw [h3]; exact ha), hct]
      refine ⟨rfl, g2, g5, ⟨by rw [hdl f hfl, if_pos rfl]; exact hhd, fun p hp => ?_⟩, fun h => g7 (h6 h), fun a ha hne => by rw [hdl a ha, if_neg (Ne.symm hne)], by rw [hdl f hfl, if_pos rfl]⟩
      have hn := hnew p hp
      have hlt : f + 1 + p / s < z.1.dur.length := by
        refine Classical.byContradiction fun hlt => ?_
        unfold DurL at hn
        rw [List.getD_eq_getElem?_getD, List.getElem?_eq_none (Nat.le_of_not_lt hlt), List.getElem?_eq_getElem hp] at hn
        simp at hn
      rw [hdl _ hlt, if_neg (Ne.symm (ne1 _))]
      exact hn
    · right
      have ejs : jsync (d1, z.2) = (d1.sync.1, { z.2 with down := true }) := by
        unfold jsync
        rw [g1]
        simp
      rw [ejs]
      refine ⟨rfl, g2, ?_, fun h => g6 (h6 h)⟩
      refine Safe.same (d := d1) (fun L hL => ?_) g3 g4
      rcases hL f with e | e
      · refine ⟨old, .inl rfl, ?_, fun p hp => ?_⟩
        · rw [e, h3]; exact hold.1
        · rw [hpos hL _ (ne1 _)]; exact hold.2 p hp
      · refine ⟨new, .inr rfl, ?_, fun p hp => ?_⟩
        · rw [h4, List.mem_singleton] at e
          injection e with _ e
          rw [e]; exact hhd
        · rw [hpos hL _ (ne1 _)]; exact hnew p hp
  · right
    have ejw' : jwrite z 0 (headL new.length) = ((z.1.write (f : Int) (pad s (headL new.length))).1, { z.2 with down := true }) := by
      rw [ejw, h1]; rfl
    have ejc : jcommit z new.length = jwrite z 0 (headL new.length) := by
      unfold jcommit
      rw [if_pos (by rw [ejw'])]
    rw [ejc, ejw']
    exact ⟨rfl, h2, (safe_nil hca hold (.inl rfl)).same h3 h4, h6⟩
end Go.Proofs.Ytlnladcfgieggaa.Fd
