/-
  A disk that may lose its power: plain facts.
-/
import Derived.Test.YtkceoefmhppddaaDoorSt7
namespace Go.Proofs.YtkceoefmhppddaaDoor.Fd
set_option linter.unusedSimpArgs false
set_option linter.unusedVariables false
open Go
set_option maxRecDepth 100000

theorem settled_prefix {ch : Nat → Bool} {c : List (Nat × List Int)} {x : Nat × List Int} {dur : List (List Int)} : ∀ {i : Nat}, i ≤ c.length → settled ch (c ++ [x]) dur i = settled ch c dur i
  | 0, _ => rfl
  | i + 1, h => by
    simp only [settled]
    rw [List.getElem?_append_left (by omega), settled_prefix (i := i) (by omega)]
theorem settled_snoc {ch : Nat → Bool} {c : List (Nat × List Int)} {x : Nat × List Int} {dur : List (List Int)} : settled ch (c ++ [x]) dur (c.length + 1) = if ch c.length then (settled ch c dur c.length).set x.1 x.2 else settled ch c dur c.length := by
  simp only [settled]
  rw [List.getElem?_append_right (Nat.le_refl _), Nat.sub_self, settled_prefix (Nat.le_refl _)]
  simp
/-- What a sector may hold behind a crash. -/
def Poss (d : DS) (a : Nat) (b : List Int) : Prop := b = d.dur.getD a [] ∨ (a, b) ∈ d.cache
theorem settled_poss {ch : Nat → Bool} {dur : List (List Int)} {a : Nat} : ∀ {c : List (Nat × List Int)} (k : Nat), k = c.length → (settled ch c dur k).getD a [] = dur.getD a [] ∨ (a, (settled ch c dur k).getD a []) ∈ c := by
  intro c k
  induction k generalizing c with
  | zero => intro _; exact .inl rfl
  | succ k ih =>
    intro hk
    obtain ⟨c', x, rfl⟩ : ∃ c' x, c = c' ++ [x] := by
      have hne : c ≠ [] := by intro e; subst e; simp at hk
      exact ⟨c.dropLast, c.getLast hne, (List.dropLast_concat_getLast hne).symm⟩
    have hk' : k = c'.length := by simp at hk; omega
    subst hk'
    rw [settled_snoc]
    have h := ih (c := c') rfl
    split
    · by_cases e : x.1 = a
      · by_cases hl : a < (settled ch c' dur c'.length).length
        · right
          rw [List.getD_eq_getElem?_getD, e, List.getElem?_set_self hl, Option.getD_some]
          refine List.mem_append.2 (.inr ?_)
          rw [List.mem_singleton, ← e]
        · left
          have hl2 := hl
          rw [settled_length] at hl2
          rw [List.getD_eq_getElem?_getD, List.getElem?_eq_none (by rw [List.length_set]; omega), List.getD_eq_getElem?_getD, List.getElem?_eq_none (by omega)]
      · rw [List.getD_eq_getElem?_getD, List.getElem?_set_ne e, ← List.getD_eq_getElem?_getD]
        rcases h with h | h
        · exact .inl h
        · exact .inr (List.mem_append.2 (.inl h))
    · rcases h with h | h
      · exact .inl h
      · exact .inr (List.mem_append.2 (.inl h))
theorem crash_poss {d : DS} {keep : List Bool} {a : Nat} : Poss d a ((d.crash keep).dur.getD a []) := settled_poss _ rfl
theorem lastOf_snoc {c : List (Nat × List Int)} {x : Nat × List Int} {a : Nat} : lastOf (c ++ [x]) a = if x.1 = a then some x.2 else lastOf c a := by
  unfold lastOf
  rw [List.reverse_append, List.reverse_singleton, List.singleton_append, List.find?_cons]
  by_cases h : x.1 = a
  · simp [h]
  · have : (x.1 == a) = false := by simpa using h
    rw [this]
    simp [h]
theorem settled_all {dur : List (List Int)} {a : Nat} (ha : a < dur.length) : ∀ {c : List (Nat × List Int)} (k : Nat), k = c.length → (settled (fun _ => true) c dur k).getD a [] = (lastOf c a).getD (dur.getD a []) := by
  intro c k
  induction k generalizing c with
  | zero =>
    intro hk
    obtain rfl : c = [] := List.eq_nil_of_length_eq_zero hk.symm
    rfl
  | succ k ih =>
    intro hk
    obtain ⟨c', x, rfl⟩ : ∃ c' x, c = c' ++ [x] := by
      have hne : c ≠ [] := by intro e; subst e; simp at hk
      exact ⟨c.dropLast, c.getLast hne, (List.dropLast_concat_getLast hne).symm⟩
    have hk' : k = c'.length := by simp at hk; omega
    subst hk'
    rw [settled_snoc, if_pos rfl, lastOf_snoc]
    by_cases e : x.1 = a
    · rw [if_pos e, List.getD_eq_getElem?_getD, e, List.getElem?_set_self (by rw [settled_length]; exact ha)]
      rfl
    · rw [if_neg e, List.getD_eq_getElem?_getD, List.getElem?_set_ne e, ← List.getD_eq_getElem?_getD]
      exact ih rfl
/-! one operation of the disk -/
theorem step_cases (d : DS) (hoff : d.off = false) : (d.step.1 = true ∧ d.step.2.off = false ∧ d.step.2.dur = d.dur ∧ d.step.2.cache = d.cache ∧ d.step.2.size = d.size ∧ (d.cnt = none → d.step.2.cnt = none)) ∨
    (d.step.1 = false ∧ d.step.2.off = true ∧ d.step.2.dur = d.dur ∧ d.step.2.cache = d.cache ∧ d.step.2.size = d.size ∧ d.cnt ≠ none) := by
  unfold DS.step
  rw [hoff]
  simp only [Bool.false_eq_true, if_false]
  cases hc : d.cnt with
  | none => exact .inl ⟨rfl, by first | rfl | exact hoff, rfl, rfl, rfl, fun _ => hc⟩
  | some k =>
    cases k with
    | zero => exact .inr ⟨rfl, rfl, rfl, rfl, rfl, by simp⟩
    | succ k => exact .inl ⟨rfl, by first | rfl | exact hoff, rfl, rfl, rfl, by simp⟩
/-- A write that is within the disk. -/
theorem write_cases (d : DS) (hoff : d.off = false) {x : Nat} {l : List Int} (hx : x < d.dur.length) (hl : l.length = d.size) :
    ((d.write x l).2 = 0 ∧ (d.write x l).1.off = false ∧ (d.write x l).1.dur = d.dur ∧ (d.write x l).1.cache = d.cache ++ [(x, l)] ∧ (d.write x l).1.size = d.size ∧ (d.cnt = none → (d.write x l).1.cnt = none)) ∨
    ((d.write x l).2 = 8 ∧ (d.write x l).1.off = true ∧ (d.write x l).1.dur = d.dur ∧ (d.write x l).1.cache = d.cache ∧ (d.write x l).1.size = d.size ∧ d.cnt ≠ none) := by
  have e : d.write x l = if d.step.1 then ({ d.step.2 with cache := d.step.2.cache ++ [(x, l)] }, 0) else (d.step.2, 8) := by
    unfold DS.write
    rw [if_pos ⟨by omega, by omega, hl⟩, Int.toNat_natCast]
  rw [e]
  rcases step_cases d hoff with ⟨h1, h2, h3, h4, h5, h6⟩ | ⟨h1, h2, h3, h4, h5, h6⟩
  · rw [h1]
    exact .inl ⟨rfl, h2, h3, by rw [if_pos rfl]; simp only [h4], h5, h6⟩
  · rw [h1]
    exact .inr ⟨rfl, h2, h3, h4, h5, h6⟩
theorem sync_cases (d : DS) (hoff : d.off = false) :
    (d.sync.2 = 0 ∧ d.sync.1.off = false ∧ (∀ a, a < d.dur.length → d.sync.1.dur.getD a [] = d.content a) ∧ d.sync.1.dur.length = d.dur.length ∧ d.sync.1.cache = [] ∧ d.sync.1.size = d.size ∧ (d.cnt = none → d.sync.1.cnt = none)) ∨
    (d.sync.2 = 8 ∧ d.sync.1.off = true ∧ d.sync.1.dur = d.dur ∧ d.sync.1.cache = d.cache ∧ d.sync.1.size = d.size ∧ d.cnt ≠ none) := by
  unfold DS.sync
  rcases step_cases d hoff with ⟨h1, h2, h3, h4, h5, h6⟩ | ⟨h1, h2, h3, h4, h5, h6⟩
  · rw [h1]
    refine .inl ⟨rfl, h2, fun a ha => ?_, ?_, rfl, h5, h6⟩
    · show (settled (fun _ => true) d.step.2.cache d.step.2.dur d.step.2.cache.length).getD a [] = _
      rw [h3, h4, settled_all ha _ rfl]
      rfl
    · show (settled _ _ _ _).length = _
      rw [settled_length, h3]
  · rw [h1]
    exact .inr ⟨rfl, h2, h3, h4, h5, h6⟩
theorem content_snoc {d d' : DS} {x : Nat} {l : List Int} (hd : d'.dur = d.dur) (hc : d'.cache = d.cache ++ [(x, l)]) {a : Nat} : d'.content a = if x = a then l else d.content a := by
  unfold DS.content
  rw [hc, hd, lastOf_snoc]
  by_cases h : x = a
  · simp [h]
  · simp [h]
theorem content_nil {d : DS} (h : d.cache = []) {a : Nat} : d.content a = d.dur.getD a [] := by
  unfold DS.content; rw [h]; rfl
theorem lastOf_mem {c : List (Nat × List Int)} {s : Nat} {l : List Int} (h : lastOf c s = some l) : (s, l) ∈ c := by
  unfold lastOf at h
  cases hf : c.reverse.find? fun x => x.1 == s with
  | none => rw [hf] at h; cases h
  | some x =>
    rw [hf] at h
    simp at h
    have h1 := List.mem_of_find?_eq_some hf
    have h2 := List.find?_some hf
    simp at h2
    rw [← h, ← h2]
    exact List.mem_reverse.1 h1
def DurL (d : DS) (a : Nat) : List Int := d.dur.getD a []
theorem content_free {d : DS} {a : Nat} (h : ∀ b, (a, b) ∉ d.cache) : d.content a = d.dur.getD a [] := by
  unfold DS.content
  cases hl : lastOf d.cache a with
  | none => rfl
  | some l => exact absurd (lastOf_mem hl) (h l)
theorem poss_nil {d : DS} (h : d.cache = []) {L : Nat → List Int} (hL : ∀ a, Poss d a (L a)) (a : Nat) : L a = DurL d a := by
  rcases hL a with e | e
  · exact e
  · rw [h] at e; cases e

/-- A disk with good sectors. -/
structure WfD (n s i : Nat) (d : DS) : Prop where
  sz : Sz n s i d
  dur : ∀ l, l ∈ d.dur → l.length = s ∧ Rng l
  cache : ∀ x, x ∈ d.cache → x.2.length = s ∧ Rng x.2
theorem WfD.step {n s i : Nat} {d : DS} (h : WfD n s i d) : WfD n s i d.step.2 := by
  refine ⟨h.sz.step, ?_, by rw [d.step_cache]; exact h.cache⟩
  unfold DS.step
  split
  · exact h.dur
  · split <;> exact h.dur
theorem WfD.mono {n s i j : Nat} {d : DS} (h : WfD n s i d) (hij : i ≤ j) : WfD n s j d := ⟨h.sz.mono hij, h.dur, h.cache⟩
theorem WfD.write {n s i : Nat} {d : DS} (h : WfD n s i d) {x : Int} {l : List Int} (hl : Rng l) : WfD n s (i + 1) (d.write x l).1 := by
  have hs := h.step
  refine ⟨h.sz.write x l, ?_, ?_⟩
  · unfold DS.write
    split
    · split
      · exact hs.dur
      · exact hs.dur
    · exact h.dur
  · unfold DS.write
    split
    · rename_i hc
      split
      · intro y hy
        rcases List.mem_append.1 hy with hy | hy
        · exact hs.cache y hy
        · rw [List.mem_singleton] at hy
          rw [hy]; exact ⟨by rw [← h.sz.size]; exact hc.2.2, hl⟩
      · exact hs.cache
    · exact h.cache
theorem settled_good {s : Nat} {ch : Nat → Bool} {c : List (Nat × List Int)} {dur : List (List Int)} (hd : ∀ l, l ∈ dur → l.length = s ∧ Rng l) (hc : ∀ x, x ∈ c → x.2.length = s ∧ Rng x.2) : ∀ {i : Nat} l, l ∈ settled ch c dur i → l.length = s ∧ Rng l
  | 0, l, h => hd l h
  | i + 1, l, h => by
    simp only [settled] at h
    split at h
    · rename_i x hx
      split at h
      · rcases List.mem_or_eq_of_mem_set h with h | h
        · exact settled_good hd hc l h
        · rw [h]; exact hc x (List.mem_of_getElem? hx)
      · exact settled_good hd hc l h
    · exact settled_good hd hc l h
theorem WfD.sync {n s i : Nat} {d : DS} (h : WfD n s i d) : WfD n s i d.sync.1 := by
  refine ⟨h.sz.sync, ?_, ?_⟩
  · unfold DS.sync
    split
    · exact fun l hl => settled_good h.step.dur h.step.cache l hl
    · exact h.step.dur
  · unfold DS.sync
    split
    · exact fun x hx => by cases hx
    · exact h.step.cache
theorem WfD.crash {n s i : Nat} {d : DS} (h : WfD n s i d) (keep : List Bool) : WfD n s 0 (d.crash keep) :=
  ⟨h.sz.crash keep, fun l hl => settled_good h.dur h.cache l hl, fun x hx => by cases hx⟩
theorem WfD.fail {n s i : Nat} {d : DS} (h : WfD n s i d) {k : Int} (hk : k < 9223372036854775808) : WfD n s i (d.fail k) := by
  refine ⟨h.sz.fail hk, ?_, ?_⟩
  · unfold DS.fail
    split <;> exact h.dur
  · unfold DS.fail
    split <;> exact h.cache
theorem WfD.new {n s : Nat} : WfD n s 0 (DS.new n s) := ⟨Sz.new, fun l hl => by rw [List.eq_of_mem_replicate hl]; exact ⟨by simp, Rng.zeros⟩, fun x hx => by cases hx⟩
theorem WfD.content {n s i : Nat} {d : DS} (h : WfD n s i d) {y : Nat} (hy : y < n) : (d.content y).length = s ∧ Rng (d.content y) := by
  unfold DS.content
  cases hl : lastOf d.cache y with
  | none =>
    have hyd : y < d.dur.length := by rw [h.sz.dur]; exact hy
    show (d.dur.getD y []).length = s ∧ Rng (d.dur.getD y [])
    rw [List.getD_eq_getElem?_getD, List.getElem?_eq_getElem hyd]
    exact h.dur _ (List.getElem_mem hyd)
  | some l => exact h.cache _ (lastOf_mem hl)
theorem WfD.op {n s i : Nat} {d : DS} (h : WfD n s i d) {o : DOp} (ho : ∀ x, o = some x → Rng x.2) : WfD n s (i + 1) (d.op o).1 := by
  cases o with
  | none => exact h.sync.mono (by omega)
  | some x => exact h.write (ho x rfl)
theorem WfD.ops {n s : Nat} : ∀ {l : List DOp} {i : Nat} {d : DS}, WfD n s i d → (∀ x, some x ∈ l → Rng x.2) → WfD n s (i + l.length) (runOps d l).1
  | [], i, d, h, _ => h
  | o :: r, i, d, h, ho => by
    have h1 := h.op (o := o) fun x hx => ho x (by rw [← hx]; exact List.mem_cons_self)
    unfold runOps
    split
    · exact (WfD.ops (l := r) h1 fun x hx => ho x (List.mem_cons_of_mem _ hx)).mono (by simp; omega)
    · exact h1.mono (by simp)
theorem chunk_rng {sz i : Nat} {b : List Int} (h : Rng b) : Rng (chunk sz b i) := pad_rng ((h.drop _).take _)
theorem putOps_rng {sz at_ : Nat} {b : List Int} (h : Rng b) : ∀ x, some x ∈ putOps sz at_ b → Rng x.2 := by
  intro x hx
  rcases List.mem_append.1 hx with hx | hx
  · obtain ⟨i, _, e⟩ := List.mem_map.1 hx
    cases e
    exact chunk_rng h
  · simp at hx
theorem saveOps_rng {sz at_ g : Nat} {b : List Int} (h : Rng b) : ∀ x, some x ∈ saveOps sz at_ b g → Rng x.2 := by
  intro x hx
  rcases List.mem_append.1 hx with hx | hx
  · rcases List.mem_append.1 hx with hx | hx
    · exact putOps_rng Rng.zeros x hx
    · exact putOps_rng h x hx
  · exact putOps_rng hdrP_rng x hx
/-- One put on a disk with an empty cache. -/
theorem put_spec {sz : Nat} (hz : 0 < sz) {at_ : Nat} {b : List Int} {d : DS} (hoff : d.off = false) (hca : d.cache = []) (hsz : d.size = sz) (hN : at_ + nch sz b.length ≤ d.dur.length) :
    ((runOps d (putOps sz at_ b)).2 = 0 ∧ (runOps d (putOps sz at_ b)).1.off = false ∧ (runOps d (putOps sz at_ b)).1.cache = [] ∧ (runOps d (putOps sz at_ b)).1.dur.length = d.dur.length ∧ (runOps d (putOps sz at_ b)).1.size = sz ∧ (d.cnt = none → (runOps d (putOps sz at_ b)).1.cnt = none) ∧
      (∀ a, a < d.dur.length → DurL (runOps d (putOps sz at_ b)).1 a = if at_ ≤ a ∧ a < at_ + nch sz b.length then chunk sz b (a - at_) else DurL d a)) ∨
    ((runOps d (putOps sz at_ b)).2 ≠ 0 ∧ (runOps d (putOps sz at_ b)).1.off = true ∧ (runOps d (putOps sz at_ b)).1.dur = d.dur ∧ (runOps d (putOps sz at_ b)).1.size = sz ∧ d.cnt ≠ none ∧
      (∀ a x, (a, x) ∈ (runOps d (putOps sz at_ b)).1.cache → ∃ i, i < nch sz b.length ∧ a = at_ + i ∧ x = chunk sz b i)) := by
  have key : ∀ k t (d' : DS), k + t = nch sz b.length → d'.off = false → d'.dur = d.dur → d'.size = sz → (d.cnt = none → d'.cnt = none) → d'.cache = (List.range t).map (fun i => (at_ + i, chunk sz b i)) →
      (((runOps d' ((chL sz b at_).drop t ++ [none])).2 = 0 ∧ (runOps d' ((chL sz b at_).drop t ++ [none])).1.off = false ∧ (runOps d' ((chL sz b at_).drop t ++ [none])).1.cache = [] ∧ (runOps d' ((chL sz b at_).drop t ++ [none])).1.dur.length = d.dur.length ∧ (runOps d' ((chL sz b at_).drop t ++ [none])).1.size = sz ∧ (d.cnt = none → (runOps d' ((chL sz b at_).drop t ++ [none])).1.cnt = none) ∧
        (∀ a, a < d.dur.length → DurL (runOps d' ((chL sz b at_).drop t ++ [none])).1 a = if at_ ≤ a ∧ a < at_ + nch sz b.length then chunk sz b (a - at_) else DurL d a)) ∨
      ((runOps d' ((chL sz b at_).drop t ++ [none])).2 ≠ 0 ∧ (runOps d' ((chL sz b at_).drop t ++ [none])).1.off = true ∧ (runOps d' ((chL sz b at_).drop t ++ [none])).1.dur = d.dur ∧ (runOps d' ((chL sz b at_).drop t ++ [none])).1.size = sz ∧ d.cnt ≠ none ∧
        (∀ a x, (a, x) ∈ (runOps d' ((chL sz b at_).drop t ++ [none])).1.cache → ∃ i, i < nch sz b.length ∧ a = at_ + i ∧ x = chunk sz b i))) := by
    intro k
    induction k with
    | zero =>
      intro t d' hk h1 h2 h3 h4 h5
      have ht : t = nch sz b.length := by omega
      rw [List.drop_of_length_le (by rw [chL_length]; omega), List.nil_append]
      have hop : d'.op none = d'.sync := rfl
      have hmem : ∀ a x, (a, x) ∈ d'.cache → ∃ i, i < nch sz b.length ∧ a = at_ + i ∧ x = chunk sz b i := by
        intro a x hx
        rw [h5] at hx
        obtain ⟨i, hi, e⟩ := List.mem_map.1 hx
        cases e
        exact ⟨i, by rw [← ht]; exact List.mem_range.1 hi, rfl, rfl⟩
      rcases sync_cases d' h1 with ⟨s1, s2, s3, s4, s5, s6, s7⟩ | ⟨s1, s2, s3, s4, s5, s6⟩
      · rw [runOps_ok (by rw [hop]; exact s1), hop]
        refine .inl ⟨rfl, s2, s5, by show d'.sync.1.dur.length = _; rw [s4, h2], s6.trans h3, fun h => s7 (h4 h), fun a ha => ?_⟩
        show d'.sync.1.dur.getD a [] = _
        rw [s3 a (by rw [h2]; exact ha)]
        by_cases hr : at_ ≤ a ∧ a < at_ + nch sz b.length
        · rw [if_pos hr]
          have : ∀ m, m ≤ nch sz b.length → a - at_ < m → lastOf ((List.range m).map (fun i => (at_ + i, chunk sz b i))) a = some (chunk sz b (a - at_)) := by
            intro m
            induction m with
            | zero => intro _ h; omega
            | succ m ih =>
              intro hm hlt
              rw [List.range_succ, List.map_append, List.map_singleton, lastOf_snoc]
              by_cases e : at_ + m = a
              · rw [if_pos e, show a - at_ = m by omega]
              · rw [if_neg e]; exact ih (by omega) (by omega)
          unfold DS.content
          rw [h5, this t (by omega) (by omega)]
          rfl
        · rw [if_neg hr, content_free fun x hx => by
            obtain ⟨i, hi, e, _⟩ := hmem a x hx
            omega, h2]
          rfl
      · rw [runOps_bad (by rw [hop, s1]; decide), hop]
        refine .inr ⟨by rw [s1]; decide, s2, s3.trans h2, s5.trans h3, fun h => s6 (h4 h), ?_⟩
        rw [s4]
        exact hmem
    | succ k ih =>
      intro t d' hk h1 h2 h3 h4 h5
      rw [chL_drop (by omega), List.cons_append]
      have hop : d'.op (some (at_ + t, chunk sz b t)) = d'.write ((at_ + t : Nat) : Int) (chunk sz b t) := rfl
      rcases write_cases d' h1 (x := at_ + t) (l := chunk sz b t) (by rw [h2]; omega) (by rw [h3, chunk_length]) with ⟨s1, s2, s3, s4, s5, s6⟩ | ⟨s1, s2, s3, s4, s5, s6⟩
      · rw [runOps_ok (by rw [hop]; exact s1), hop]
        refine ih (t + 1) _ (by omega) s2 (s3.trans h2) (s5.trans h3) (fun h => s6 (h4 h)) ?_
        rw [s4, h5, List.range_succ, List.map_append]
        rfl
      · rw [runOps_bad (by rw [hop, s1]; decide), hop]
        refine .inr ⟨by rw [s1]; decide, s2, s3.trans h2, s5.trans h3, fun h => s6 (h4 h), ?_⟩
        rw [s4, h5]
        intro a x hx
        obtain ⟨i, hi, e⟩ := List.mem_map.1 hx
        cases e
        have := List.mem_range.1 hi
        exact ⟨i, by omega, rfl, rfl⟩
  have := key (nch sz b.length) 0 d (by omega) hoff rfl hsz (fun h => h) (by rw [hca]; rfl)
  rw [List.drop_zero] at this
  exact this
end Go.Proofs.YtkceoefmhppddaaDoor.Fd
