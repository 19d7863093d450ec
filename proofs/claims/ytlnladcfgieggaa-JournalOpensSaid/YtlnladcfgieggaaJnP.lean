/-
  The journal's operations on a disk that may lose its power: plain facts.
-/
import Derived.Test.YtlnladcfgieggaaJnE
namespace Go.Proofs.Ytlnladcfgieggaa.Fd
set_option linter.unusedSimpArgs false
set_option linter.unusedVariables false
open Go
set_option maxRecDepth 100000

theorem settled_prefix {ch : Nat → Bool} {c : List (Nat × List Int)} {x : Nat × List Int} {dur : List (List Int)} : ∀ {i : Nat}, i ≤ c.length → settled ch (c ++ [x]) dur i = settled ch c dur i
  | 0, _ => rfl
  | i + 1, h => by
    simp only [settled]
    rw [List.getElem?_append_left (by omega), settled_prefix (i := i) (by omega)]
theorem settled_snoc {ch : Nat → Bool} {c : List (Nat × List Int)} {x : Nat × List Int} {dur : List (List Int)} : settled ch (c ++ [x]) dur (c.length + 1) = if ch c.length then (settled ch c dur c.length).set x.1 x.2 else settled ch c dur c.length := by
  simp only [settled]
  rw [List.getElem?_append_right (Nat.le_refl _), Nat.sub_self, settled_prefix (Nat.le_refl _)]
  simp
/-- What a sector may hold behind a crash. -/
def Poss (d : DS) (a : Nat) (b : List Int) : Prop := b = d.dur.getD a [] ∨ (a, b) ∈ d.cache
theorem settled_poss {ch : Nat → Bool} {dur : List (List Int)} {a : Nat} : ∀ {c : List (Nat × List Int)} (k : Nat), k = c.length → (settled ch c dur k).getD a [] = dur.getD a [] ∨ (a, (settled ch c dur k).getD a []) ∈ c := by
  intro c k
  induction k generalizing c with
  | zero => intro _; exact .inl rfl
  | succ k ih =>
    intro hk
    obtain ⟨c', x, rfl⟩ : ∃ c' x, c = c' ++ [x] := by
      have hne : c ≠ [] := by intro e; subst e; simp at hk
      exact ⟨c.dropLast, c.getLast hne, (List.dropLast_concat_getLast hne).symm⟩
    have hk' : k = c'.length := by simp at hk; omega
    subst hk'
    rw [settled_snoc]
    have h := ih (c := c') rfl
    split
    · by_cases e : x.1 = a
      · by_cases hl : a < (settled ch c' dur c'.length).length
        · right
          rw [List.getD_eq_getElem?_getD, e, List.getElem?_set_self hl, Option.getD_some]
          refine List.mem_append.2 (.inr ?_)
          rw [List.mem_singleton, ← e]
        · left
          have hl2 := hl
          rw [settled_length] at hl2
          rw [List.getD_eq_getElem?_getD, List.getElem?_eq_none (by rw [List.length_set]; omega), List.getD_eq_getElem?_getD, List.getElem?_eq_none (by omega)]
      · rw [List.getD_eq_getElem?_getD, List.getElem?_set_ne e, ← List.getD_eq_getElem?_getD]
        rcases h with h | h
        · exact .inl h
        · exact .inr (List.mem_append.2 (.inl h))
    · rcases h with h | h
      · exact .inl h
      · exact .inr (List.mem_append.2 (.inl h))
theorem crash_poss {d : DS} {keep : List Bool} {a : Nat} : Poss d a ((d.crash keep).dur.getD a []) := settled_poss _ rfl
theorem lastOf_snoc {c : List (Nat × List Int)} {x : Nat × List Int} {a : Nat} : lastOf (c ++ [x]) a = if x.1 = a then some x.2 else lastOf c a := by
  unfold lastOf
  rw [List.reverse_append, List.reverse_singleton, List.singleton_append, List.find?_cons]
  by_cases h : x.1 = a
  · simp [h]
  · have : (x.1 == a) = false := by simpa using h
    rw [this]
    simp [h]
theorem settled_all {dur : List (List Int)} {a : Nat} (ha : a < dur.length) : ∀ {c : List (Nat × List Int)} (k : Nat), k = c.length → (settled (fun _ => true) c dur k).getD a [] = (lastOf c a).getD (dur.getD a []) := by
  intro c k
  induction k generalizing c with
  | zero =>
    intro hk
    obtain rfl : c = [] := List.eq_nil_of_length_eq_zero hk.symm
    rfl
  | succ k ih =>
    intro hk
    obtain ⟨c', x, rfl⟩ : ∃ c' x, c = c' ++ [x] := by
      have hne : c ≠ [] := by intro e; subst e; simp at hk
      exact ⟨c.dropLast, c.getLast hne, (List.dropLast_concat_getLast hne).symm⟩
    have hk' : k = c'.length := by simp at hk; omega
    subst hk'
    rw [settled_snoc, if_pos rfl, lastOf_snoc]
    by_cases e : x.1 = a
    · rw [if_pos e, List.getD_eq_getElem?_getD, e, List.getElem?_set_self (by rw [settled_length]; exact ha)]
      rfl
    · rw [if_neg e, List.getD_eq_getElem?_getD, List.getElem?_set_ne e, ← List.getD_eq_getElem?_getD]
      exact ih rfl
/-! one operation of the disk -/
theorem step_cases (d : DS) (hoff : d.off = false) : (d.step.1 = true ∧ d.step.2.off = false ∧ d.step.2.dur = d.dur ∧ d.step.2.cache = d.cache ∧ d.step.2.size = d.size ∧ (d.cnt = none → d.step.2.cnt = none)) ∨
    (d.step.1 = false ∧ d.step.2.off = true ∧ d.step.2.dur = d.dur ∧ d.step.2.cache = d.cache ∧ d.step.2.size = d.size ∧ d.cnt ≠ none) := by
  unfold DS.step
  rw [hoff]
  simp only [Bool.false_eq_true, if_false]
  cases hc : d.cnt with
  | none => exact .inl ⟨rfl, by first | rfl | exact hoff, rfl, rfl, rfl, fun _ => hc⟩
  | some k =>
    cases k with
    | zero => exact .inr ⟨rfl, rfl, rfl, rfl, rfl, by simp⟩
    | succ k => exact .inl ⟨rfl, by first | rfl | exact hoff, rfl, rfl, rfl, by simp⟩
/-- A write that is within the disk. -/
theorem write_cases (d : DS) (hoff : d.off = false) {x : Nat} {l : List Int} (hx : x < d.dur.length) (hl : l.length = d.size) :
    ((d.write x l).2 = 0 ∧ (d.write x l).1.off = false ∧ (d.write x l).1.dur = d.dur ∧ (d.write x l).1.cache = d.cache ++ [(x, l)] ∧ (d.write x l).1.size = d.size ∧ (d.cnt = none → (d.write x l).1.cnt = none)) ∨
    ((d.write x l).2 = 8 ∧ (d.write x l).1.off = true ∧ (d.write x l).1.dur = d.dur ∧ (d.write x l).1.cache = d.cache ∧ (d.write x l).1.size = d.size ∧ d.cnt ≠ none) := by
  have e : d.write x l = if d.step.1 then ({ d.step.2 with cache := d.step.2.cache ++ [(x, l)] }, 0) else (d.step.2, 8) := by
    unfold DS.write
    rw [if_pos ⟨by omega, by omega, hl⟩, Int.toNat_natCast]
  rw [e]
  rcases step_cases d hoff with ⟨h1, h2, h3, h4, h5, h6⟩ | ⟨h1, h2, h3, h4, h5, h6⟩
  · rw [h1]
    exact .inl ⟨rfl, h2, h3, by rw [if_pos rfl]; simp only [h4], h5, h6⟩
  · rw [h1]
    exact .inr ⟨rfl, h2, h3, h4, h5, h6⟩
theorem sync_cases (d : DS) (hoff : d.off = false) :
    (d.sync.2 = 0 ∧ d.sync.1.off = false ∧ (∀ a, a < d.dur.length → d.sync.1.dur.getD a [] = d.content a) ∧ d.sync.1.dur.length = d.dur.length ∧ d.sync.1.cache = [] ∧ d.sync.1.size = d.size ∧ (d.cnt = none → d.sync.1.cnt = none)) ∨
    (d.sync.2 = 8 ∧ d.sync.1.off = true ∧ d.sync.1.dur = d.dur ∧ d.sync.1.cache = d.cache ∧ d.sync.1.size = d.size ∧ d.cnt ≠ none) := by
  unfold DS.sync
  rcases step_cases d hoff with ⟨h1, h2, h3, h4, h5, h6⟩ | ⟨h1, h2, h3, h4, h5, h6⟩
  · rw [h1]
    refine .inl ⟨rfl, h2, fun a ha => ?_, ?_, rfl, h5, h6⟩
    · show (settled (fun _ => true) d.step.2.cache d.step.2.dur d.step.2.cache.length).getD a [] = _
      rw [h3, h4, settled_all ha _ rfl]
      rfl
    · show (settled _ _ _ _).length = _
      rw [settled_length, h3]
  · rw [h1]
    exact .inr ⟨rfl, h2, h3, h4, h5, h6⟩
theorem content_snoc {d d' : DS} {x : Nat} {l : List Int} (hd : d'.dur = d.dur) (hc : d'.cache = d.cache ++ [(x, l)]) {a : Nat} : d'.content a = if x = a then l else d.content a := by
  unfold DS.content
  rw [hc, hd, lastOf_snoc]
  by_cases h : x = a
  · simp [h]
  · simp [h]
theorem content_nil {d : DS} (h : d.cache = []) {a : Nat} : d.content a = d.dur.getD a [] := by
  unfold DS.content; rw [h]; rfl
/-! regions -/
def HoldsL (L : Nat → List Int) (f s : Nat) (st : List Int) : Prop := headD (L f) = some st.length ∧ ∀ p, p < st.length → (L (f + 1 + p / s))[p % s]? = st[p]?
def DurL (d : DS) (a : Nat) : List Int := d.dur.getD a []
/-- Whatever a crash keeps, the region holds one of the streams. -/
def Safe (d : DS) (f s : Nat) (Q : List Int → Prop) : Prop := ∀ L : Nat → List Int, (∀ a, Poss d a (L a)) → ∃ st, Q st ∧ HoldsL L f s st
theorem Safe.crash {d : DS} {f s : Nat} {Q : List Int → Prop} (h : Safe d f s Q) (keep : List Bool) : ∃ st, Q st ∧ HoldsL (DurL (d.crash keep)) f s st := h _ fun _ => crash_poss
theorem Safe.same {d d' : DS} {f s : Nat} {Q : List Int → Prop} (h : Safe d f s Q) (h1 : d'.dur = d.dur) (h2 : d'.cache = d.cache) : Safe d' f s Q := by
  intro L hL
  refine h L fun a => ?_
  have := hL a
  unfold Poss at *
  rwa [h1, h2] at this
theorem HoldsL.take {L : Nat → List Int} {f s : Nat} {st st' : List Int} (h : HoldsL L f s st) (h2 : ∀ p, p < st'.length → (L (f + 1 + p / s))[p % s]? = st'[p]?) (hl : st'.length = st.length) : HoldsL L f s st' := ⟨by rw [hl]; exact h.1, h2⟩
/-- While the sectors of an area are written: they agree with the stream that is held. -/
structure Mid (d0 d : DS) (f c s : Nat) (st : List Int) : Prop where
  dur : d.dur = d0.dur
  size : d.size = d0.size
  only : ∀ a b, (a, b) ∈ d.cache → ∃ i, a = f + 1 + i ∧ i < c - 1 ∧ ∀ o, o < s → i * s + o < st.length → b[o]? = st[i * s + o]?
theorem Mid.safe {d0 d : DS} {f c s : Nat} {st : List Int} (h : Mid d0 d f c s st) (hs : 0 < s) (hh : HoldsL (DurL d0) f s st) : Safe d f s (· = st) := by
  intro L hL
  refine ⟨st, rfl, ?_, fun p hp => ?_⟩
  · rcases hL f with e | e
    · rw [e, h.dur]; exact hh.1
    · obtain ⟨i, h1, _⟩ := h.only _ _ e; omega
  · rcases hL (f + 1 + p / s) with e | e
    · rw [e, h.dur]; exact hh.2 p hp
    · obtain ⟨i, h1, _, h2⟩ := h.only _ _ e
      have hi : p / s = i := by omega
      have hm := Nat.mod_lt p hs
      have hd : i * s + p % s = p := by rw [← hi, Nat.mul_comm]; exact Nat.div_add_mod p s
      rw [h2 (p % s) hm (by omega), hd]
theorem blk_get {next : List Int} {s i o : Nat} (ho : o < s) (hp : i * s + o < next.length) : (pad s ((next.drop (i * s)).take s))[o]? = next[i * s + o]? := by
  have hl : o < ((next.drop (i * s)).take s).length := by rw [List.length_take, List.length_drop]; omega
  rw [pad, List.getElem?_append_left hl, List.getElem?_take_of_lt ho, List.getElem?_drop]
theorem div_split {p s : Nat} (hs : 0 < s) : p / s * s + p % s = p := by rw [Nat.mul_comm]; exact Nat.div_add_mod p s
/-- The loop of Append: behind it all sectors are written, or the power is off. -/
theorem jloop_spec {d0 : DS} {f c s : Nat} {st next : List Int} (hs : 0 < s) (hpre : ∀ p, p < st.length → next[p]? = st[p]?) (hfit : next.length ≤ (c - 1) * s) (hn : f + c ≤ d0.dur.length) (hsz : d0.size = s) :
    ∀ {k i : Nat} {z : DS × JS}, next.length ≤ (i + k) * s → Mid d0 z.1 f c s st → z.1.off = false → z.2.down = false → z.2.first = f →
      (∀ p, p < next.length → p < i * s → (z.1.content (f + 1 + p / s))[p % s]? = next[p]?) → z.1.content f = d0.dur.getD f [] →
      Mid d0 (jloop next k i z).1 f c s st ∧ (z.1.cnt = none → (jloop next k i z).1.cnt = none) ∧ (((jloop next k i z).1.off = true ∧ (jloop next k i z).2.down = true ∧ z.1.cnt ≠ none) ∨ ((jloop next k i z).1.off = false ∧ (jloop next k i z).2.down = false ∧
        (∀ p, p < next.length → ((jloop next k i z).1.content (f + 1 + p / s))[p % s]? = next[p]?) ∧ (jloop next k i z).1.content f = d0.dur.getD f []))
  | 0, i, z, hk, hm, hoff, hdn, _, hc, hcf => by
    rw [jloop]
    rw [Nat.add_zero] at hk
    exact ⟨hm, fun h => h, .inr ⟨hoff, hdn, fun p hp => hc p hp (by omega), hcf⟩⟩
  | k + 1, i, z, hk, hm, hoff, hdn, hf, hc, hcf => by
    rw [jloop]
    have hzs : z.1.size = s := by rw [hm.size]; exact hsz
    rw [hzs]
    by_cases hi : i * s < next.length
    rotate_left
    · rw [if_neg hi]
      exact ⟨hm, fun h => h, .inr ⟨hoff, hdn, fun p hp => hc p hp (by omega), hcf⟩⟩
    rw [if_pos hi]
    have hic : i < c - 1 := by
      refine Nat.lt_of_mul_lt_mul_right (a := s) ?_
      omega
    have hbl : ((next.drop (i * s)).take s).length ≤ s := List.length_take_le _ _
    have hx : f + (1 + i) < z.1.dur.length := by rw [hm.dur]; omega
    have hw := write_cases z.1 hoff (x := f + (1 + i)) (l := pad s ((next.drop (i * s)).take s)) hx (by rw [pad_length hbl, hzs])
    have ejw : jwrite z ((1 + i : Nat) : Int) ((next.drop (i * s)).take s) = ((z.1.write ((f + (1 + i) : Nat) : Int) (pad s ((next.drop (i * s)).take s))).1, { z.2 with down := z.2.down || decide ((z.1.write ((f + (1 + i) : Nat) : Int) (pad s ((next.drop (i * s)).take s))).2 ≠ 0) }) := by
      unfold jwrite
      rw [hzs, hf, ← Int.natCast_add]
    rcases hw with ⟨h1, h2, h3, h4, h5, h6⟩ | ⟨h1, h2, h3, h4, h5, h6⟩
    · have hd' : (jwrite z ((1 + i : Nat) : Int) ((next.drop (i * s)).take s)).2.down = false := by rw [ejw, h1, hdn]; rfl
      rw [if_neg (by rw [hd']; decide)]
      have hm' : Mid d0 (jwrite z ((1 + i : Nat) : Int) ((next.drop (i * s)).take s)).1 f c s st := by
        rw [ejw]
        refine ⟨h3.trans hm.dur, h5.trans hm.size, fun a b hab => ?_⟩
        rw [h4] at hab
        rcases List.mem_append.1 hab with hab | hab
        · exact hm.only a b hab
        · rw [List.mem_singleton] at hab
          injection hab with ea eb
          refine ⟨i, by omega, hic, fun o ho hp => ?_⟩
          rw [eb, blk_get ho (by
            have : (i * s + o) < next.length := by
              have := hpre (i * s + o) hp
              rw [List.getElem?_eq_getElem hp] at this
              exact (List.getElem?_eq_some_iff.1 this).1
            exact this)]
          exact hpre _ hp
      have hct : ∀ a, (jwrite z ((1 + i : Nat) : Int) ((next.drop (i * s)).take s)).1.content a = if f + (1 + i) = a then pad s ((next.drop (i * s)).take s) else z.1.content a := by
        intro a
        rw [ejw]
        exact content_snoc h3 h4
      have := jloop_spec (st := st) hs hpre hfit hn hsz (k := k) (i := i + 1) (z := jwrite z ((1 + i : Nat) : Int) ((next.drop (i * s)).take s)) (by rw [show i + 1 + k = i + (k + 1) from by omega]; exact hk) hm' (by rw [ejw]; exact h2) hd' hf
        (fun p hp hlt => by
          rw [hct]
          have hds := div_split (p := p) hs
          have hm2 := Nat.mod_lt p hs
          by_cases e : p / s = i
          · rw [if_pos (by omega), blk_get hm2 (by rw [← e]; omega), ← e, hds]
          · rw [if_neg (by omega)]
            refine hc p hp ?_
            have : p / s < i + 1 := Nat.div_lt_of_lt_mul (by rw [Nat.mul_comm]; exact hlt)
            have h9 : (p / s + 1) * s ≤ i * s := Nat.mul_le_mul_right _ (by omega)
            rw [Nat.add_mul, Nat.one_mul] at h9
            omega)
        (by rw [hct, if_neg (by omega)]; exact hcf)
      refine ⟨this.1, fun h => this.2.1 (by rw [ejw]; exact h6 h), ?_⟩
      rcases this.2.2 with ⟨g1, g2, g3⟩ | g
      · refine .inl ⟨g1, g2, fun h => g3 ?_⟩
        rw [ejw]; exact h6 h
      · exact .inr g
    · have hd' : (jwrite z ((1 + i : Nat) : Int) ((next.drop (i * s)).take s)).2.down = true := by rw [ejw, h1]; simp
      rw [if_pos hd']
      refine ⟨?_, fun h => absurd h h6, .inl ⟨by rw [ejw]; exact h2, hd', h6⟩⟩
      rw [ejw]
      refine ⟨h3.trans hm.dur, h5.trans hm.size, fun a b hab => hm.only a b ?_⟩
      rw [h4] at hab
      exact hab
end Go.Proofs.Ytlnladcfgieggaa.Fd
