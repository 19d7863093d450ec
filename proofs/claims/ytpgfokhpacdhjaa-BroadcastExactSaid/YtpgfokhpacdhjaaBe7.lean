/-
  Plain: the program's process and the reference's answer alike.
-/
import Derived.Test.YtpgfokhpacdhjaaBe4
namespace Go.Proofs.Ytpgfokhpacdhjaa.Fd
set_option linter.unusedSimpArgs false
set_option linter.unusedVariables false
open Go Go.ChangeMaps
set_option maxRecDepth 100000

abbrev Nt := List (NP × (List Int × BitVec 16))
theorem findE_none {b : NP} : ∀ {notes : Nt}, findS b notes = none ↔ b ∉ notes.map (·.1)
  | [] => by simp [findS]
  | (k, x) :: r => by
    unfold findS
    by_cases e : b = k
    · simp [e]
    · rw [if_neg e, findE_none]
      simp [e]
theorem putE_keys {k : NP} {x : List Int × BitVec 16} : ∀ {notes : Nt}, (putS k x notes).map (·.1) = if k ∈ notes.map (·.1) then notes.map (·.1) else notes.map (·.1) ++ [k]
  | [] => by simp [putS]
  | (k', x') :: r => by
    unfold putS
    by_cases e : k = k'
    · simp [e]
    · rw [if_neg e]
      rw [List.map_cons, putE_keys]
      by_cases h : k ∈ r.map (·.1)
      · rw [if_pos h, if_pos (by simp only [List.map_cons]; exact List.mem_cons_of_mem _ h)]
        rfl
      · rw [if_neg h, if_neg (by simp only [List.map_cons, List.mem_cons, not_or]; exact ⟨e, h⟩)]
        rfl
theorem eligE_some {S : PS} {o : Nat} {l : List Int} {D : BitVec 16} (h : elig S o = some (l, D)) : findS ((o : Int), S.done o + 1) S.notes = some (l, D) := by
  unfold elig at h
  split at h
  · rename_i x hx
    split at h
    · injection h with h
      subst h
      exact hx
    · cases h
  · cases h
theorem Run.keepE {S S' : PS} (h : Run S S') : S'.n = S.n ∧ S'.self = S.self ∧ S'.made = S.made ∧ S'.notes = S.notes := by
  induction h with
  | done _ => exact ⟨rfl, rfl, rfl, rfl⟩
  | step _ _ _ _ ih => exact ih
theorem Run.invE {S S' : PS} (h : Run S S') : ((∀ o, o < S.n → elig S o = none) ∧ S' = S) ∨ ∃ o l D, o < S.n ∧ elig S o = some (l, D) ∧ (∀ i, i < o → elig S i = none) ∧ Run (delS S o l) S' := by
  cases h with
  | done h => exact .inl ⟨h, rfl⟩
  | step h1 h2 h3 h4 => exact .inr ⟨_, _, _, h1, h2, h3, h4⟩
def leadN (k : NP) : Nt → Nat
  | [] => 0
  | z :: r => if ltN z.1 k then leadN k r + 1 else 0
def insN (k : NP) (x : List Int × BitVec 16) (l : Nt) : Nt := l.take (leadN k l) ++ (k, x) :: l.drop (leadN k l)
theorem findS_app {b : NP} : ∀ {l1 l2 : Nt}, findS b (l1 ++ l2) = (findS b l1).or (findS b l2)
  | [], l2 => by simp [findS]
  | (k, x) :: r, l2 => by
    rw [List.cons_append]
    unfold findS
    by_cases e : b = k
    · simp [e]
    · rw [if_neg e, if_neg e, findS_app]
      cases findS b r with
      | none => cases l2 with
        | nil => rfl
        | cons _ _ => rfl
      | some y => rfl
theorem insN_find {k b : NP} {x : List Int × BitVec 16} {l : Nt} (h : findS k l = none) : findS b (insN k x l) = if b = k then some x else findS b l := by
  have e : l.take (leadN k l) ++ l.drop (leadN k l) = l := List.take_append_drop _ _
  unfold insN
  rw [findS_app]
  by_cases hb : b = k
  · subst hb
    have h1 : findS b (l.take (leadN b l)) = none := by
      rw [← e, findS_app] at h
      cases h2 : findS b (l.take (leadN b l)) with
      | none => rfl
      | some y => rw [h2] at h; cases h
    rw [h1, if_pos rfl]
    simp [findS]
  · rw [if_neg hb]
    conv => rhs; rw [← e, findS_app]
    congr 1
    rw [findS, if_neg hb]
theorem insN_perm {k : NP} {x : List Int × BitVec 16} {l : Nt} : ((insN k x l).map (·.1)).Perm (k :: l.map (·.1)) := by
  have e : l.take (leadN k l) ++ l.drop (leadN k l) = l := List.take_append_drop _ _
  unfold insN
  have := (List.perm_middle (a := (k, x)) (l₁ := l.take (leadN k l)) (l₂ := l.drop (leadN k l))).map (·.1)
  rw [e] at this
  exact this
theorem insN_length {k : NP} {x : List Int × BitVec 16} {l : Nt} : (insN k x l).length = l.length + 1 := by
  have := (insN_perm (k := k) (x := x) (l := l)).length_eq
  simpa using this
def Srt (l : Nt) : Prop := (l.map (·.1)).Pairwise fun a b => ltN a b = true
theorem insN_cons {k : NP} {x : List Int × BitVec 16} {z : NP × (List Int × BitVec 16)} {r : Nt} : insN k x (z :: r) = if ltN z.1 k then z :: insN k x r else (k, x) :: z :: r := by
  by_cases h : ltN z.1 k = true
  · have e : leadN k (z :: r) = leadN k r + 1 := by rw [leadN, if_pos h]
    unfold insN
    rw [e, if_pos h]
    rfl
  · have e : leadN k (z :: r) = 0 := by rw [leadN, if_neg h]
    unfold insN
    rw [e, if_neg h]
    rfl
theorem insN_srt {k : NP} {x : List Int × BitVec 16} : ∀ {l : Nt}, Srt l → findS k l = none → Srt (insN k x l)
  | [], _, _ => by simp [insN, leadN, Srt]
  | z :: r, h, hn => by
    rw [insN_cons]
    have hz : k ∉ (z :: r).map (·.1) := findE_none.1 hn
    simp only [List.map_cons, List.mem_cons, not_or] at hz
    unfold Srt at h ⊢
    rw [List.map_cons, List.pairwise_cons] at h
    by_cases hl : ltN z.1 k = true
    · rw [if_pos hl, List.map_cons, List.pairwise_cons]
      refine ⟨fun b hb => ?_, insN_srt h.2 (findE_none.2 hz.2)⟩
      rcases List.mem_cons.1 ((insN_perm (k := k) (x := x) (l := r)).mem_iff.1 hb) with hb | hb
      · rw [hb]; exact hl
      · exact h.1 b hb
    · rw [if_neg hl, List.map_cons, List.map_cons, List.pairwise_cons, List.pairwise_cons]
      have hkz : ltN k z.1 = true := by
        rw [ltN_iff] at hl ⊢
        have := hz.1
        by_cases e1 : k.1 = z.1.1
        · by_cases e2 : k.2 = z.1.2
          · exact absurd (Prod.ext e1 e2) this
          · omega
        · omega
      refine ⟨fun b hb => ?_, h⟩
      rcases List.mem_cons.1 hb with hb | hb
      · rw [hb]; exact hkz
      · have h2 := h.1 b hb
        rw [ltN_iff] at h2 hkz ⊢
        simp only
        omega
theorem Srt.nodup {l : Nt} (h : Srt l) : (l.map (·.1)).Nodup := by
  unfold Srt at h
  refine h.imp fun {a b} hab e => ?_
  subst e
  rw [ltN_iff] at hab
  omega
theorem idx_put {k : NP} {x : List Int × BitVec 16} : ∀ {l : Nt} {i : Nat}, idxN k l = some i → putS k x l = l.set i (k, x)
  | [], i, h => by cases h
  | (k', y) :: r, i, h => by
    unfold idxN at h
    unfold putS
    by_cases e : k = k'
    · rw [if_pos e] at h ⊢
      injection h with h
      subst h
      rw [e]; rfl
    · rw [if_neg e] at h ⊢
      cases hr : idxN k r with
      | none => rw [hr] at h; cases h
      | some j =>
        rw [hr] at h
        injection h with h
        subst h
        rw [idx_put hr]
        rfl
theorem find_put_keys {k : NP} {x y : List Int × BitVec 16} {l : Nt} (h : findS k l = some y) : (putS k x l).map (·.1) = l.map (·.1) := by
  rw [putE_keys, if_pos]
  exact List.mem_map.2 ⟨(k, y), findS_mem h, rfl⟩
theorem find_ins_none {k : NP} {x : List Int × BitVec 16} {l : Nt} (h : findS k l = none) : ((putS k x l).map (·.1)).Perm (k :: l.map (·.1)) := by
  rw [putE_keys, if_neg (findE_none.1 h)]
  exact List.perm_append_comm.trans (List.Perm.refl _)
/-- The two processes agree. -/
structure Eqv (S R : PS) : Prop where
  n : S.n = R.n
  self : S.self = R.self
  made : S.made = R.made
  done : S.done = R.done
  list : S.list = R.list
  fnd : ∀ k, findS k S.notes = findS k R.notes
  prm : (S.notes.map (·.1)).Perm (R.notes.map (·.1))
  srt : Srt R.notes
theorem Eqv.len {S R : PS} (h : Eqv S R) : S.notes.length = R.notes.length := by have := h.prm.length_eq; simpa using this
theorem Eqv.elig {S R : PS} (h : Eqv S R) (o : Nat) : elig S o = elig R o := by
  unfold Fd.elig
  rw [h.fnd, h.done, h.n]
theorem Eqv.del {S R : PS} (h : Eqv S R) (o : Nat) (l : List Int) : Eqv (delS S o l) (delS R o l) :=
  ⟨h.n, h.self, h.made, by show (fun i => if i = o then S.done o + 1 else S.done i) = (fun i => if i = o then R.done o + 1 else R.done i); rw [h.done], by show S.list ++ _ = R.list ++ _; rw [h.list, h.done], h.fnd, h.prm, h.srt⟩
theorem Eqv.run {S S' : PS} (hs : Run S S') : ∀ {R R' : PS}, Eqv S R → Run R R' → Eqv S' R' := by
  induction hs with
  | @done S h1 =>
    intro R R' h hr
    rcases hr.invE with ⟨_, rfl⟩ | ⟨o, l, D, ho, he, _, _⟩
    · exact h
    · have := h1 o (by rw [h.n]; exact ho)
      rw [h.elig, he] at this
      cases this
  | @step S S' o l D ho h1 h2 _ ih =>
    intro R R' h hr
    rcases hr.invE with ⟨hn, _⟩ | ⟨o', l', D', ho', he, hm, hrun⟩
    · have := hn o (by rw [← h.n]; exact ho)
      rw [← h.elig, h1] at this
      cases this
    · have : o = o' := by
        rcases Nat.lt_trichotomy o o' with hlt | e | hlt
        · have := hm o hlt
          rw [← h.elig, h1] at this
          cases this
        · exact e
        · have := h2 o' hlt
          rw [h.elig, he] at this
          cases this
      subst this
      rw [h.elig, he] at h1
      simp only [Option.some.injEq, Prod.mk.injEq] at h1
      obtain ⟨rfl, rfl⟩ := h1
      exact ih (h.del o l') hrun
/-- A new note. -/
theorem Eqv.ins {S R : PS} (h : Eqv S R) {k : NP} (x : List Int × BitVec 16) (hk : findS k R.notes = none) (m : Nat) : Eqv { S with made := m, notes := putS k x S.notes } { R with made := m, notes := insN k x R.notes } :=
  ⟨h.n, h.self, rfl, h.done, h.list, fun b => by show findS b (putS k x S.notes) = findS b (insN k x R.notes); rw [putS_find, insN_find hk, h.fnd],
    (find_ins_none (by rw [h.fnd]; exact hk)).trans ((h.prm.cons k).trans insN_perm.symm), insN_srt h.srt hk⟩
/-- A note that was there. -/
theorem Eqv.put {S R : PS} (h : Eqv S R) {k : NP} (x : List Int × BitVec 16) {y : List Int × BitVec 16} (hk : findS k R.notes = some y) : Eqv { S with notes := putS k x S.notes } { R with notes := putS k x R.notes } :=
  ⟨h.n, h.self, h.made, h.done, h.list, fun b => by show findS b (putS k x S.notes) = findS b (putS k x R.notes); rw [putS_find, putS_find, h.fnd],
    by show ((putS k x S.notes).map (·.1)).Perm ((putS k x R.notes).map (·.1)); rw [find_put_keys (by rw [h.fnd]; exact hk), find_put_keys hk]; exact h.prm,
    by show Srt (putS k x R.notes); unfold Srt; rw [find_put_keys hk]; exact h.srt⟩
def rbS (R : PS) (l : List Int) : PS := { R with made := R.made + 1, notes := insN ((R.self : Int), (R.made : Int) + 1) (l, BitVec.twoPow 16 R.self) R.notes }
def rrS (S : PS) (z : Pk) : Option (PS × List Pk) :=
  if propP S z then
    match findS (z.o, z.n) S.notes with
    | none => if z.k = 2 then none else some ({ S with notes := insN (z.o, z.n) (z.l, BitVec.twoPow 16 S.self ||| tw z.f ||| tw z.o) S.notes }, rcO S z S.n)
    | some (l, D) => if z.k = 2 then some ({ S with notes := putS (z.o, z.n) (l, D ||| tw z.f) S.notes }, [])
      else if l = z.l then some ({ S with notes := putS (z.o, z.n) (l, D ||| (tw z.f ||| tw z.o)) S.notes }, [⟨2, S.self, z.f, z.o, z.n, []⟩])
      else none
  else none
def RrR (S : PS) (z : Pk) (S' : PS) (ps : List Pk) : Prop := match rrS S z with
  | none => S' = S ∧ ps = []
  | some (S1, o) => Run S1 S' ∧ ps = o
theorem Eqv.bc {S R : PS} (h : Eqv S R) {l : List Int} (hk : findS ((R.self : Int), (R.made : Int) + 1) R.notes = none) {S' R' : PS} (hs : Run (bcS S l) S') (hr : Run (rbS R l) R') : Eqv S' R' ∧ bcO S l S.n = bcO R l R.n := by
  have e : bcS S l = { S with made := R.made + 1, notes := putS ((R.self : Int), (R.made : Int) + 1) (l, BitVec.twoPow 16 R.self) S.notes } := by
    unfold bcS
    rw [h.made, h.self]
  rw [e] at hs
  refine ⟨Eqv.run hs (h.ins _ hk _) hr, ?_⟩
  unfold bcO
  rw [h.n, h.self, h.made]
theorem Eqv.rc {S R : PS} (h : Eqv S R) {z : Pk} {S' R' : PS} {p1 p2 : List Pk} (hs : RcR S z S' p1) (hr : RrR R z R' p2) : Eqv S' R' ∧ p1 = p2 := by
  have hp : propP S z = propP R z := by
    unfold propP insI
    rw [h.n, h.self, h.made]
  have ho : rcO S z S.n = rcO R z R.n := by
    unfold rcO
    rw [h.n, h.self]
  unfold RcR rcS at hs
  unfold RrR rrS at hr
  rw [hp, h.fnd] at hs
  cases hpp : propP R z
  · rw [hpp] at hs hr
    simp only [Bool.false_eq_true, if_false] at hs hr
    rw [hs.1, hs.2, hr.1, hr.2]
    exact ⟨h, rfl⟩
  · rw [hpp] at hs hr
    simp only [if_true] at hs hr
    cases hf : findS (z.o, z.n) R.notes with
    | none =>
      rw [hf] at hs hr
      simp only at hs hr
      by_cases h2 : z.k = 2
      · rw [if_pos h2] at hs hr
        simp only at hs hr
        rw [hs.1, hs.2, hr.1, hr.2]
        exact ⟨h, rfl⟩
      · rw [if_neg h2] at hs hr
        simp only at hs hr
        rw [hs.2, hr.2]
        have := h.ins (z.l, BitVec.twoPow 16 R.self ||| tw z.f ||| tw z.o) hf R.made
        have e : ({ S with notes := putS (z.o, z.n) (z.l, BitVec.twoPow 16 S.self ||| tw z.f ||| tw z.o) S.notes } : PS) = { S with made := R.made, notes := putS (z.o, z.n) (z.l, BitVec.twoPow 16 R.self ||| tw z.f ||| tw z.o) S.notes } := by rw [← h.made, h.self]
        rw [e] at hs
        exact ⟨Eqv.run hs.1 this hr.1, ho⟩
    | some y =>
      obtain ⟨l, D⟩ := y
      rw [hf] at hs hr
      simp only at hs hr
      by_cases h2 : z.k = 2
      · rw [if_pos h2] at hs hr
        simp only at hs hr
        rw [hs.2, hr.2]
        exact ⟨Eqv.run hs.1 (h.put _ hf) hr.1, rfl⟩
      · rw [if_neg h2] at hs hr
        by_cases hl : l = z.l
        · rw [if_pos hl] at hs hr
          simp only at hs hr
          rw [hs.2, hr.2, h.self]
          exact ⟨Eqv.run hs.1 (h.put _ hf) hr.1, rfl⟩
        · rw [if_neg hl] at hs hr
          simp only at hs hr
          rw [hs.1, hs.2, hr.1, hr.2]
          exact ⟨h, rfl⟩
/-- The reference's Resend. -/
def rrB (R : PS) (z : NP × (List Int × BitVec 16)) (n : Nat) : List Pk := (List.range n).filterMap fun to => if z.2.2.getLsbD to then none else some ⟨1, R.self, to, z.1.1, z.1.2, z.2.1⟩
def rrO (R : PS) (l : Nt) : List Pk := l.flatMap fun z => rrB R z R.n
theorem find_of_mem {l : Nt} (h : (l.map (·.1)).Nodup) : ∀ {z}, z ∈ l → findS z.1 l = some z.2 := by
  induction l with
  | nil => intro z hz; cases hz
  | cons a r ih =>
    intro z hz
    rw [List.map_cons, List.nodup_cons] at h
    obtain ⟨k, x⟩ := a
    unfold findS
    rcases List.mem_cons.1 hz with rfl | hz
    · simp
    · rw [if_neg, ih h.2 hz]
      intro e
      exact h.1 (by rw [← e]; exact List.mem_map.2 ⟨z, hz, rfl⟩)
theorem flatMap_congr' {α β : Type} {f g : α → List β} : ∀ {l : List α}, (∀ x, x ∈ l → f x = g x) → l.flatMap f = l.flatMap g
  | [], _ => rfl
  | a :: r, h => by rw [List.flatMap_cons, List.flatMap_cons, h a List.mem_cons_self, flatMap_congr' fun x hx => h x (List.mem_cons_of_mem _ hx)]
theorem Eqv.rs {S R : PS} (h : Eqv S R) {ss : List NP} (hp : ss.Perm (S.notes.map (·.1))) (hw : ss.Pairwise fun a b => ltN b a = false) : rsO S ss = rrO R R.notes := by
  have e : ss = R.notes.map (·.1) := by
    refine List.Perm.eq_of_pairwise (le := fun a b => ltN b a = false) (fun a b _ _ h1 h2 => ?_) hw (h.srt.imp fun {a b} hab => ?_) (hp.trans h.prm)
    · rw [ltN_false] at h1 h2
      exact Prod.ext (by omega) (by omega)
    · rw [ltN_iff] at hab
      rw [ltN_false]
      omega
  rw [e]
  unfold rsO rrO
  rw [List.flatMap_map]
  refine flatMap_congr' fun z hz => ?_
  unfold rsB rrB
  rw [h.fnd, find_of_mem h.srt.nodup hz, h.n, h.self]
/-- What holds of the two after i steps. -/
structure EInv (i : Nat) (S R : PS) : Prop where
  eq : Eqv S R
  dn : ∀ o, 0 ≤ R.done o ∧ R.done o ≤ R.list.length
  nt : R.notes.length ≤ i
  ls : R.list.length + remS R ≤ i
  md : R.made ≤ i
  own : ∀ k x, findS k R.notes = some x → k.1 = (R.self : Int) → k.2 ≤ (R.made : Int)
  bt : Bits R
  pl : ∀ k x, findS k R.notes = some x → x.1.length ≤ 140737488355328
  lp : ∀ d, d ∈ R.list → d.2.length ≤ 140737488355328
  sn : R.self < R.n
  all : ∀ n : Int, 1 ≤ n → n ≤ R.made → findS ((R.self : Int), n) R.notes ≠ none
theorem remS_keys {R : PS} : remS R = ((R.notes.map (·.1)).filter fun k => decide (R.done k.1.toNat < k.2)).length := by
  unfold remS
  rw [List.filter_map, List.length_map]
  rfl
theorem Run.invs {R R' : PS} (h : Run R R') : (∀ o, 0 ≤ R.done o ∧ R.done o ≤ R.list.length) → (∀ k x, findS k R.notes = some x → x.1.length ≤ 140737488355328) → (∀ d, d ∈ R.list → d.2.length ≤ 140737488355328) →
    (∀ o, 0 ≤ R'.done o ∧ R'.done o ≤ R'.list.length) ∧ R'.list.length + remS R' ≤ R.list.length + remS R ∧ ∀ d, d ∈ R'.list → d.2.length ≤ 140737488355328 := by
  induction h with
  | done _ => exact fun h1 _ h3 => ⟨h1, Nat.le_refl _, h3⟩
  | @step R R' o l D ho h1 h2 _ ih =>
    intro g1 g2 g3
    have hf := eligE_some h1
    obtain ⟨a, b, c⟩ := ih (fun j => by
      have := g1 j
      have := g1 o
      simp only [delS]
      split <;> simp <;> omega) g2 (fun d hd => by
      simp only [delS] at hd
      rcases List.mem_append.1 hd with hd | hd
      · exact g3 d hd
      · rw [List.mem_singleton.1 hd]
        exact g2 _ _ hf)
    refine ⟨a, ?_, c⟩
    have := remS_del h1
    have e : (delS R o l).list.length = R.list.length + 1 := by simp [delS]
    omega
theorem EInv.run {i : Nat} {S R S' R' : PS} (h : EInv i S R) (hs : Run S S') (hr : Run R R') : EInv i S' R' := by
  obtain ⟨k1, k2, k3, k4⟩ := hr.keepE
  obtain ⟨d, l, p⟩ := hr.invs h.dn h.pl h.lp
  refine ⟨h.eq.run hs hr, d, by rw [k4]; exact h.nt, Nat.le_trans l h.ls, by rw [k3]; exact h.md, by rw [k4, k3, k2]; exact h.own, ?_, by rw [k4]; exact h.pl, p, by rw [k1, k2]; exact h.sn, by rw [k4, k3, k2]; exact h.all⟩
  unfold Bits
  rw [k4, k1]
  exact h.bt
theorem remS_perm {R : PS} {notes : Nt} {k : NP} (h : (notes.map (·.1)).Perm (k :: R.notes.map (·.1))) (m : Nat) : remS { R with made := m, notes := notes } ≤ remS R + 1 := by
  rw [remS_keys, remS_keys]
  have := (h.filter fun k => decide (R.done k.1.toNat < k.2)).length_eq
  simp only at this ⊢
  rw [this, List.filter_cons]
  split <;> simp
theorem tw_bit {a j : Nat} (h : (BitVec.twoPow 16 a).getLsbD j = true) : j = a := by
  rw [BitVec.getLsbD_twoPow] at h
  simp only [Bool.and_eq_true, decide_eq_true_eq] at h
  exact h.2.symm
/-- The two after a new note. -/
theorem EInv.ins {i : Nat} {S R : PS} (h : EInv i S R) {k : NP} (x : List Int × BitVec 16) (hk : findS k R.notes = none) (m : Nat) (hm : m ≤ i + 1) (hm2 : R.made ≤ m) (hown : k.1 = (R.self : Int) → k.2 ≤ (m : Int)) (hx : x.1.length ≤ 140737488355328) (hb : ∀ j, x.2.getLsbD j = true → j < R.n) (hm3 : ∀ n : Int, (R.made : Int) < n → n ≤ m → k = ((R.self : Int), n)) :
    EInv (i + 1) { S with made := m, notes := putS k x S.notes } { R with made := m, notes := insN k x R.notes } := by
  refine ⟨h.eq.ins x hk m, h.dn, ?_, ?_, hm, fun b y hy hs => ?_, fun b y hy j hj => ?_, fun b y hy => ?_, h.lp, h.sn, fun n h1 h2 => ?_⟩
  · show (insN k x R.notes).length ≤ _
    rw [insN_length]
    have := h.nt
    omega
  · have := remS_perm (R := R) (notes := insN k x R.notes) (k := k) insN_perm m
    have := h.ls
    simp only
    omega
  · simp only [insN_find hk] at hy
    split at hy
    · rename_i e
      rw [e] at hs ⊢
      exact hown hs
    · have := h.own b y hy hs
      simp only
      omega
  · simp only [insN_find hk] at hy
    split at hy
    · injection hy with hy
      rw [← hy] at hj
      exact hb j hj
    · exact h.bt b y hy j hj
  · simp only [insN_find hk] at hy
    split at hy
    · injection hy with hy
      rw [← hy]
      exact hx
    · exact h.pl b y hy
  · simp only [insN_find hk]
    by_cases e : ((R.self : Int), n) = k
    · rw [if_pos e]
      simp
    · rw [if_neg e]
      by_cases h3 : n ≤ R.made
      · exact h.all n h1 h3
      · exact absurd (hm3 n (by omega) h2).symm e
theorem EInv.put {i : Nat} {S R : PS} (h : EInv i S R) {k : NP} (x : List Int × BitVec 16) {y : List Int × BitVec 16} (hk : findS k R.notes = some y) (hx : x.1.length ≤ 140737488355328) (hb : ∀ j, x.2.getLsbD j = true → j < R.n) :
    EInv i { S with notes := putS k x S.notes } { R with notes := putS k x R.notes } := by
  refine ⟨h.eq.put x hk, h.dn, ?_, ?_, h.md, fun b y' hy hs => ?_, fun b y hy j hj => ?_, fun b y hy => ?_, h.lp, h.sn, fun n h1 h2 => ?_⟩
  · have := congrArg List.length (find_put_keys (x := x) hk)
    rw [List.length_map, List.length_map] at this
    show (putS k x R.notes).length ≤ i
    rw [this]; exact h.nt
  · have e : remS { R with notes := putS k x R.notes } = remS R := by
      rw [remS_keys, remS_keys]
      simp only
      rw [find_put_keys hk]
    rw [e]; exact h.ls
  · simp only [putS_find] at hy
    split at hy
    · rename_i e
      rw [e] at hs ⊢
      exact h.own k y hk hs
    · exact h.own b y' hy hs
  · simp only [putS_find] at hy
    split at hy
    · injection hy with hy
      rw [← hy] at hj
      exact hb j hj
    · exact h.bt b y hy j hj
  · simp only [putS_find] at hy
    split at hy
    · injection hy with hy
      rw [← hy]
      exact hx
    · exact h.pl b y hy
  · simp only [putS_find]
    split
    · simp
    · exact h.all n h1 h2
theorem EInv.mono {i : Nat} {S R : PS} (h : EInv i S R) : EInv (i + 1) S R :=
  ⟨h.eq, h.dn, by have := h.nt; omega, by have := h.ls; omega, by have := h.md; omega, h.own, h.bt, h.pl, h.lp, h.sn, h.all⟩
theorem EInv.fresh {i : Nat} {S R : PS} (h : EInv i S R) : findS ((R.self : Int), (R.made : Int) + 1) R.notes = none := by
  cases hf : findS ((R.self : Int), (R.made : Int) + 1) R.notes with
  | none => rfl
  | some x => have := h.own _ _ hf rfl; simp only at this; omega
theorem EInv.bc {i : Nat} {S R : PS} (h : EInv i S R) {l : List Int} (hl : l.length ≤ 140737488355328) {S' R' : PS} (hs : Run (bcS S l) S') (hr : Run (rbS R l) R') : EInv (i + 1) S' R' ∧ bcO S l S.n = bcO R l R.n := by
  refine ⟨?_, (h.eq.bc h.fresh hs hr).2⟩
  have e : bcS S l = { S with made := R.made + 1, notes := putS ((R.self : Int), (R.made : Int) + 1) (l, BitVec.twoPow 16 R.self) S.notes } := by
    unfold bcS
    rw [h.eq.made, h.eq.self]
  rw [e] at hs
  refine EInv.run (h.ins (l, BitVec.twoPow 16 R.self) h.fresh (R.made + 1) ?_ (by omega) (fun _ => ?_) hl (fun j hj => ?_) (fun n h1 h2 => ?_)) hs hr
  · have := h.md; omega
  · simp only; omega
  · rw [tw_bit hj]; exact h.sn
  · exact Prod.ext rfl (by simp only; omega)
theorem tw_lt {z : Int} {n : Nat} (hz : 0 ≤ z ∧ z < n) {j : Nat} (hj : (tw z).getLsbD j = true) : j < n := by
  have := tw_bit hj
  omega
theorem EInv.rc {i : Nat} {S R : PS} (h : EInv i S R) {z : Pk} (hz : z.l.length ≤ 140737488355328) {S' R' : PS} {p1 p2 : List Pk} (hs : RcR S z S' p1) (hr : RrR R z R' p2) : EInv (i + 1) S' R' ∧ p1 = p2 := by
  refine ⟨?_, (h.eq.rc hs hr).2⟩
  have hp : propP S z = propP R z := by
    unfold propP insI
    rw [h.eq.n, h.eq.self, h.eq.made]
  unfold RcR rcS at hs
  unfold RrR rrS at hr
  rw [hp, h.eq.fnd] at hs
  cases hpp : propP R z
  · rw [hpp] at hs hr
    simp only [Bool.false_eq_true, if_false] at hs hr
    rw [hs.1, hr.1]
    exact h.mono
  · rw [hpp] at hs hr
    simp only [if_true] at hs hr
    obtain ⟨pk, pt, pf, pfs, po, pn, pl, pm⟩ := propP_of hpp
    cases hf : findS (z.o, z.n) R.notes with
    | none =>
      rw [hf] at hs hr
      simp only at hs hr
      by_cases h2 : z.k = 2
      · rw [if_pos h2] at hs hr
        simp only at hs hr
        rw [hs.1, hr.1]
        exact h.mono
      · rw [if_neg h2] at hs hr
        simp only at hs hr
        have e : ({ S with notes := putS (z.o, z.n) (z.l, BitVec.twoPow 16 S.self ||| tw z.f ||| tw z.o) S.notes } : PS) = { S with made := R.made, notes := putS (z.o, z.n) (z.l, BitVec.twoPow 16 R.self ||| tw z.f ||| tw z.o) S.notes } := by rw [← h.eq.made, h.eq.self]
        rw [e] at hs
        refine EInv.run (h.ins (z.l, BitVec.twoPow 16 R.self ||| tw z.f ||| tw z.o) hf R.made (by have := h.md; omega) (Nat.le_refl _) (fun e => pm e) hz (fun j hj => ?_) (fun n h1 h2 => by omega)) hs.1 hr.1
        simp only [BitVec.getLsbD_or, Bool.or_eq_true] at hj
        rcases hj with (hj | hj) | hj
        · rw [tw_bit hj]; exact h.sn
        · exact tw_lt pf hj
        · exact tw_lt po hj
    | some y =>
      obtain ⟨l, D⟩ := y
      rw [hf] at hs hr
      simp only at hs hr
      by_cases h2 : z.k = 2
      · rw [if_pos h2] at hs hr
        simp only at hs hr
        refine (EInv.run (h.put (l, D ||| tw z.f) hf (h.pl _ (l, D) hf) fun j hj => ?_) hs.1 hr.1).mono
        simp only [BitVec.getLsbD_or, Bool.or_eq_true] at hj
        rcases hj with hj | hj
        · exact h.bt _ _ hf j hj
        · exact tw_lt pf hj
      · rw [if_neg h2] at hs hr
        by_cases hl : l = z.l
        · rw [if_pos hl] at hs hr
          simp only at hs hr
          refine (EInv.run (h.put (l, D ||| (tw z.f ||| tw z.o)) hf (h.pl _ (l, D) hf) fun j hj => ?_) hs.1 hr.1).mono
          simp only [BitVec.getLsbD_or, Bool.or_eq_true] at hj
          rcases hj with hj | hj | hj
          · exact h.bt _ _ hf j hj
          · exact tw_lt pf hj
          · exact tw_lt po hj
        · rw [if_neg hl] at hs hr
          simp only at hs hr
          rw [hs.1, hr.1]
          exact h.mono
end Go.Proofs.Ytpgfokhpacdhjaa.Fd
