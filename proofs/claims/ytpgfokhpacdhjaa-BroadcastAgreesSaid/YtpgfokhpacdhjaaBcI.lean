/-
  What holds in every run (plain): integrity and order.
-/
import Derived.Test.YtpgfokhpacdhjaaBcH
namespace Go.Proofs.Ytpgfokhpacdhjaa.Fd
set_option linter.unusedSimpArgs false
set_option linter.unusedVariables false
open Go Go.ChangeMaps
set_option maxRecDepth 100000

def NtOk (n : Nat) (sent : Nat → List (List Int)) (S : PS) : Prop :=
  (∀ k x, findS k S.notes = some x → ∃ o : Nat, o < n ∧ k.1 = (o : Int) ∧ 1 ≤ k.2 ∧ (sent o)[k.2.toNat - 1]? = some x.1) ∧ (S.notes.map (·.1)).Nodup
def LsOk (n : Nat) (sent : Nat → List (List Int)) (S : PS) : Prop := DelOk n sent S.list ∧ ∀ o : Nat, S.done o = (cnt S.list (o : Int) : Int)
def PkOk (n : Nat) (sent : Nat → List (List Int)) (z : Pk) : Prop :=
  ∃ t o : Nat, t < n ∧ z.t = (t : Int) ∧ o < n ∧ z.o = (o : Int) ∧ 1 ≤ z.n ∧ (z.k = 1 → (sent o)[z.n.toNat - 1]? = some z.l) ∧ (z.k ≠ 1 → z.l = [])
def Gr (sent sent' : Nat → List (List Int)) : Prop := ∀ (o j : Nat) (l : List Int), (sent o)[j]? = some l → (sent' o)[j]? = some l
theorem Gr.refl {s : Nat → List (List Int)} : Gr s s := fun _ _ _ h => h
theorem NtOk.gr {n : Nat} {s s' : Nat → List (List Int)} {S : PS} (h : NtOk n s S) (g : Gr s s') : NtOk n s' S :=
  ⟨fun k x hx => by obtain ⟨o, h1, h2, h3, h4⟩ := h.1 k x hx; exact ⟨o, h1, h2, h3, g _ _ _ h4⟩, h.2⟩
theorem LsOk.gr {n : Nat} {s s' : Nat → List (List Int)} {S : PS} (h : LsOk n s S) (g : Gr s s') : LsOk n s' S :=
  ⟨fun j d hd => by obtain ⟨o, h1, h2, h3, h4⟩ := h.1 j d hd; exact ⟨o, h1, h2, h3, g _ _ _ h4⟩, h.2⟩
theorem PkOk.gr {n : Nat} {s s' : Nat → List (List Int)} {z : Pk} (h : PkOk n s z) (g : Gr s s') : PkOk n s' z := by
  obtain ⟨t, o, h1, h2, h3, h4, h5, h6, h7⟩ := h
  exact ⟨t, o, h1, h2, h3, h4, h5, fun e => g _ _ _ (h6 e), h7⟩
theorem findS_none {b : NP} : ∀ {notes : List (NP × (List Int × BitVec 16))}, findS b notes = none ↔ b ∉ notes.map (·.1)
  | [] => by simp [findS]
  | (k, x) :: r => by
    unfold findS
    by_cases e : b = k
    · simp [e]
    · rw [if_neg e, findS_none]
      simp [e]
theorem putS_keys {k : NP} {x : List Int × BitVec 16} : ∀ {notes : List (NP × (List Int × BitVec 16))}, (putS k x notes).map (·.1) = if k ∈ notes.map (·.1) then notes.map (·.1) else notes.map (·.1) ++ [k]
  | [] => by simp [putS]
  | (k', x') :: r => by
    unfold putS
    by_cases e : k = k'
    · simp [e]
    · rw [if_neg e]
      rw [List.map_cons, putS_keys]
      by_cases h : k ∈ r.map (·.1)
      · rw [if_pos h, if_pos (by simp only [List.map_cons]; exact List.mem_cons_of_mem _ h)]
        rfl
      · rw [if_neg h, if_neg (by simp only [List.map_cons, List.mem_cons, not_or]; exact ⟨e, h⟩)]
        rfl
theorem putS_nodup {k : NP} {x : List Int × BitVec 16} {notes : List (NP × (List Int × BitVec 16))} (h : (notes.map (·.1)).Nodup) : ((putS k x notes).map (·.1)).Nodup := by
  rw [putS_keys]
  split
  · exact h
  · rename_i hk
    rw [List.nodup_append]
    refine ⟨h, by simp, fun a ha b hb e => ?_⟩
    simp at hb
    rw [e, hb] at ha
    exact hk ha
theorem NtOk.put {n : Nat} {s : Nat → List (List Int)} {S : PS} (h : NtOk n s S) {k : NP} {x : List Int × BitVec 16} (hk : ∃ o : Nat, o < n ∧ k.1 = (o : Int) ∧ 1 ≤ k.2 ∧ (s o)[k.2.toNat - 1]? = some x.1) : NtOk n s { S with notes := putS k x S.notes } := by
  refine ⟨fun k' x' hx => ?_, putS_nodup h.2⟩
  simp only [putS_find] at hx
  split at hx
  · rename_i e
    subst e
    injection hx with hx
    subst hx
    exact hk
  · exact h.1 k' x' hx
theorem NtOk.congr {n : Nat} {s : Nat → List (List Int)} {S S' : PS} (h : NtOk n s S) (e : S'.notes = S.notes) : NtOk n s S' := by unfold NtOk at h ⊢; rw [e]; exact h
theorem LsOk.congr {n : Nat} {s : Nat → List (List Int)} {S S' : PS} (h : LsOk n s S) (e : S'.list = S.list) (e2 : S'.done = S.done) : LsOk n s S' := by unfold LsOk at h ⊢; rw [e, e2]; exact h
theorem cnt_app {xs : List (NP × List Int)} {d : NP × List Int} {o : Int} : cnt (xs ++ [d]) o = cnt xs o + (if d.1.1 = o then 1 else 0) := by
  unfold cnt
  rw [List.filter_append, List.length_append]
  congr 1
  by_cases e : d.1.1 = o <;> simp [e]
theorem elig_some {S : PS} {o : Nat} {l : List Int} {D : BitVec 16} (h : elig S o = some (l, D)) : findS ((o : Int), S.done o + 1) S.notes = some (l, D) ∧ S.n < 2 * ones D := by
  unfold elig at h
  split at h
  · rename_i x hx
    split at h
    · injection h with h
      subst h
      exact ⟨hx, by assumption⟩
    · cases h
  · cases h
theorem LsOk.del {n : Nat} {s : Nat → List (List Int)} {S : PS} (hN : NtOk n s S) (h : LsOk n s S) {o : Nat} {l : List Int} {D : BitVec 16} (he : elig S o = some (l, D)) : LsOk n s (delS S o l) := by
  obtain ⟨hf, _⟩ := elig_some he
  obtain ⟨o', ho', e1, h1, h2⟩ := hN.1 _ _ hf
  simp only at e1 h1 h2
  have eo : o = o' := by omega
  subst eo
  have hdn := h.2 o
  refine ⟨fun j d hj => ?_, fun i => ?_⟩
  · simp only [delS] at hj ⊢
    rw [List.getElem?_append] at hj
    split at hj
    · rename_i hjl
      obtain ⟨o2, q1, q2, q3, q4⟩ := h.1 j d hj
      rw [List.take_append_of_le_length (by omega)]
      exact ⟨o2, q1, q2, q3, q4⟩
    · rename_i hjl
      have hj0 : j - S.list.length = 0 := by
        rw [List.getElem?_eq_some_iff] at hj
        obtain ⟨hj, _⟩ := hj
        simp at hj
        omega
      rw [hj0] at hj
      simp only [List.getElem?_cons_zero, Option.some.injEq] at hj
      subst hj
      rw [show j = S.list.length from by omega, List.take_left]
      refine ⟨o, rfl, ho', by simp only; rw [hdn], ?_⟩
      rw [hdn] at h2
      rw [show ((cnt S.list (o : Int) : Int) + 1).toNat - 1 = cnt S.list (o : Int) from by omega] at h2
      exact h2
  · simp only [delS]
    rw [cnt_app]
    have hi := h.2 i
    by_cases e : i = o
    · subst e
      rw [if_pos rfl, if_pos rfl, hdn]
      omega
    · rw [if_neg e, if_neg (by simp only; omega), hi]
      rfl
theorem Run.inv1 {n : Nat} {s : Nat → List (List Int)} {S S' : PS} (h : Run S S') : NtOk n s S → LsOk n s S → NtOk n s S' ∧ LsOk n s S' := by
  induction h with
  | done _ => exact fun h1 h2 => ⟨h1, h2⟩
  | step _ he _ _ ih => exact fun h1 h2 => ih (h1.congr rfl) (h2.del h1 he)
theorem RcR.inv1 {n : Nat} {s : Nat → List (List Int)} {S S' : PS} {z : Pk} {ps : List Pk} (h : RcR S z S' ps) (hn : S.n = n) (hz : PkOk n s z) (h1 : NtOk n s S) (h2 : LsOk n s S) :
    NtOk n s S' ∧ LsOk n s S' ∧ ∀ y, y ∈ ps → PkOk n s y := by
  subst hn
  obtain ⟨t, o, ht, hzt, ho, hzo, hz1, hk1, hk2⟩ := hz
  unfold RcR at h
  split at h
  · obtain ⟨rfl, rfl⟩ := h
    exact ⟨h1, h2, fun y hy => by simp at hy⟩
  · rename_i S1 out hrc
    obtain ⟨hr, rfl⟩ := h
    unfold rcS at hrc
    split at hrc
    · rename_i hP
      obtain ⟨pk, pt, pf, pfs, po, pn, pl, pm⟩ := propP_of hP
      obtain ⟨f, hf⟩ : ∃ f : Nat, z.f = (f : Int) := ⟨z.f.toNat, by omega⟩
      split at hrc
      · split at hrc
        · cases hrc
        · rename_i hk
          have hk1' : z.k = 1 := pk.resolve_right hk
          cases hrc
          have hN : NtOk S.n s { S with notes := putS (z.o, z.n) (z.l, BitVec.twoPow 16 S.self ||| tw z.f ||| tw z.o) S.notes } := h1.put ⟨o, ho, hzo, hz1, hk1 hk1'⟩
          obtain ⟨q1, q2⟩ := hr.inv1 hN (h2.congr rfl rfl)
          refine ⟨q1, q2, fun y hy => ?_⟩
          unfold rcO at hy
          obtain ⟨to, hto, hy⟩ := List.mem_filterMap.1 hy
          have hto := List.mem_range.1 hto
          split at hy
          · cases hy
          · split at hy
            · cases hy; exact ⟨to, o, hto, rfl, ho, hzo, hz1, fun e => absurd (show (2 : Int) = 1 from e) (by decide), fun _ => rfl⟩
            · cases hy; exact ⟨to, o, hto, rfl, ho, hzo, hz1, fun _ => hk1 hk1', fun e => absurd rfl e⟩
      · rename_i l D hfd
        have hold := h1.1 _ _ hfd
        split at hrc
        · cases hrc
          obtain ⟨q1, q2⟩ := hr.inv1 (h1.put (x := (l, D ||| tw z.f)) hold) (h2.congr rfl rfl)
          exact ⟨q1, q2, fun y hy => by simp at hy⟩
        · split at hrc
          · cases hrc
            obtain ⟨q1, q2⟩ := hr.inv1 (h1.put (x := (l, D ||| (tw z.f ||| tw z.o))) hold) (h2.congr rfl rfl)
            refine ⟨q1, q2, fun y hy => ?_⟩
            simp at hy
            subst hy
            exact ⟨f, o, by omega, hf, ho, hzo, hz1, fun e => absurd (show (2 : Int) = 1 from e) (by decide), fun _ => rfl⟩
          · cases hrc
    · cases hrc
structure Inv1 (E : Nat) (W : Wd) : Prop where
  n1 : 1 ≤ W.n ∧ W.n ≤ 5
  pn : ∀ i, i < W.n → (W.procs i).n = W.n ∧ (W.procs i).self = i ∧ (W.procs i).made = (W.sent i).length
  se : ∀ i, i < W.n → (W.sent i).length ≤ E
  sl : ∀ i, i < W.n → ∀ l, l ∈ W.sent i → l.length ≤ 140737488351232
  nt : ∀ i, i < W.n → NtOk W.n W.sent (W.procs i)
  ls : ∀ i, i < W.n → LsOk W.n W.sent (W.procs i)
  pk : ∀ z, z ∈ W.under → PkOk W.n W.sent z
  ul : W.under.length ≤ 3500 + 6 * E
theorem nodupN : ∀ (m : Nat) (l : List Nat), l.Nodup → (∀ x, x ∈ l → x < m) → l.length ≤ m
  | 0, l, _, h => by
    cases l with
    | nil => exact Nat.le_refl _
    | cons x r => exact absurd (h x List.mem_cons_self) (by omega)
  | m + 1, l, hn, h => by
    have h1 : (l.erase m).length ≤ m := nodupN m (l.erase m) (hn.erase m) fun x hx => by
      have h2 := h x (List.mem_of_mem_erase hx)
      have h3 : x ≠ m := fun e => by rw [e] at hx; exact (List.Nodup.not_mem_erase hn) hx
      omega
    have h2 := List.length_erase (a := m) (l := l)
    split at h2 <;> omega
theorem notes_len {n : Nat} {s : Nat → List (List Int)} {S : PS} (h : NtOk n s S) {E : Nat} (hs : ∀ i, i < n → (s i).length ≤ E) : S.notes.length ≤ n * (E + 1) := by
  have h1 := nodupN (n * (E + 1)) (S.notes.map fun x => x.1.1.toNat * (E + 1) + x.1.2.toNat) ?_ ?_
  · rw [List.length_map] at h1; exact h1
  · have key : ∀ (ks : List (NP × (List Int × BitVec 16))), (ks.map (·.1)).Nodup → (∀ x, x ∈ ks → ∃ o : Nat, x.1.1 = (o : Int) ∧ 1 ≤ x.1.2 ∧ x.1.2.toNat ≤ E) → (ks.map fun x => x.1.1.toNat * (E + 1) + x.1.2.toNat).Nodup := by
      intro ks
      induction ks with
      | nil => intro _ _; simp
      | cons a r ih =>
        intro hnd hx
        rw [List.map_cons, List.nodup_cons] at hnd ⊢
        refine ⟨fun hm => ?_, ih hnd.2 fun x hxr => hx x (List.mem_cons_of_mem _ hxr)⟩
        obtain ⟨b, hb, e⟩ := List.mem_map.1 hm
        obtain ⟨o1, a1, a2, a3⟩ := hx a List.mem_cons_self
        obtain ⟨o2, b1, b2, b3⟩ := hx b (List.mem_cons_of_mem _ hb)
        have eo : o1 = o2 ∧ a.1.2.toNat = b.1.2.toNat := by
          rw [a1, b1] at e
          simp only [Int.toNat_natCast] at e
          have c1 : (o2 * (E + 1) + b.1.2.toNat) / (E + 1) = o2 := by rw [Nat.mul_comm, Nat.mul_add_div (by omega), Nat.div_eq_of_lt (by omega), Nat.add_zero]
          have c2 : (o1 * (E + 1) + a.1.2.toNat) / (E + 1) = o1 := by rw [Nat.mul_comm, Nat.mul_add_div (by omega), Nat.div_eq_of_lt (by omega), Nat.add_zero]
          have eo : o1 = o2 := by rw [← c1, ← c2, e]
          subst eo
          exact ⟨rfl, by omega⟩
        have e1 : a.1 = b.1 := by
          apply Prod.ext
          · rw [a1, b1, eo.1]
          · omega
        exact hnd.1 (List.mem_map.2 ⟨b, hb, e1.symm⟩)
    refine key S.notes h.2 fun x hx => ?_
    obtain ⟨y, hy⟩ := findS_some (b := x.1) (List.mem_map.2 ⟨x, hx, rfl⟩)
    obtain ⟨o, q1, q2, q3, q4⟩ := h.1 _ _ hy
    have := (List.getElem?_eq_some_iff.1 q4).1
    have := hs o q1
    exact ⟨o, q2, q3, by omega⟩
  · intro v hv
    obtain ⟨x, hx, rfl⟩ := List.mem_map.1 hv
    obtain ⟨y, hy⟩ := findS_some (b := x.1) (List.mem_map.2 ⟨x, hx, rfl⟩)
    obtain ⟨o, q1, q2, q3, q4⟩ := h.1 _ _ hy
    have := (List.getElem?_eq_some_iff.1 q4).1
    have := hs o q1
    rw [q2, Int.toNat_natCast]
    have h5 : (o + 1) * (E + 1) ≤ n * (E + 1) := Nat.mul_le_mul_right _ q1
    rw [Nat.succ_mul] at h5
    omega
end Go.Proofs.Ytpgfokhpacdhjaa.Fd
