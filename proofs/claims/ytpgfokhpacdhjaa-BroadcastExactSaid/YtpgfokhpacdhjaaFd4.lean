/-
  What 'run' computes is what the machine does (III): a drawn region as a whole; a function's body; 'den_of_run'.
-/
import Derived.Test.YtpgfokhpacdhjaaFd3
namespace Go.Proofs.Ytpgfokhpacdhjaa.Fd
set_option linter.unusedSimpArgs false
set_option linter.unusedVariables false
open Go

section
variable {P : Program} {D : Den} {N : Nat} {ops : Array Oper} {effs : List Nat} {fwd bwd : List (Nat × List Nat)} {V : List Nat} {es : Nat → Env} {vs : Nat → Value} {ws : Nat → World} {S : Nat → Bool} {a : Act} {w : World}

/-- Of a slot that an operation names, just the operations before it in the text have written. -/
theorem Inv.names (C : Chk N ops effs fwd bwd V) (I : Inv N ops effs V (es 0) vs ws S a w) {i : Nat} {o : Oper} (ho : ops[i]? = some o) (hS : S i = false)
    (hr : ∀ e ∈ o.after, bindsA e = true → S e.on = true) {d : Nat} (hd : d ∈ namesOf ops o) {j : Nat} (hj : j < ops.size) (hji : j ≠ i) (hdj : dstN ops j = some d) :
    S j = decide (j < i) := by
  have hi : i < ops.size := by rw [Array.getElem?_eq_some_iff] at ho; exact ho.1
  have hb := C.name i o j d ho hj hji hdj hd
  by_cases hlt : j < i
  · rw [show max i j = i from by omega, show min i j = j from by omega] at hb
    rw [I.downReady C ho hr hb]; simp [hlt]
  · rw [show max i j = j from by omega, show min i j = i from by omega] at hb
    cases hs : S j with
    | false => simp [hlt]
    | true =>
      have := I.down C (j + 1) j (by omega) hj hs i hb
      rw [hS] at this; cases this

theorem Inv.effsIn (C : Chk N ops effs fwd bwd V) (I : Inv N ops effs V (es 0) vs ws S a w) {i : Nat} {o : Oper} (ho : ops[i]? = some o) (hS : S i = false)
    (hr : ∀ e ∈ o.after, bindsA e = true → S e.on = true) (he : i ∈ effs) {j : Nat} (hj : j < ops.size) (hji : j ≠ i) (hej : j ∈ effs) :
    S j = decide (j < i) := by
  have hi : i < ops.size := by rw [Array.getElem?_eq_some_iff] at ho; exact ho.1
  have hb := C.effe i j hi hj he hej hji
  by_cases hlt : j < i
  · rw [show max i j = i from by omega, show min i j = j from by omega] at hb
    rw [I.downReady C ho hr hb]; simp [hlt]
  · rw [show max i j = j from by omega, show min i j = i from by omega] at hb
    cases hs : S j with
    | false => simp [hlt]
    | true =>
      have := I.down C (j + 1) j (by omega) hj hs i hb
      rw [hS] at this; cases this

theorem stepO_env {P : Program} {D : Den} {ops : Array Oper} {o : Oper} {ρ ρ' : Env} {w : World} (ho : okOp o.op = true) (h : ∀ t ∈ namesOf ops o, ρ t = ρ' t) :
    stepO P D ops o ρ w = stepO P D ops o ρ' w := by
  have h1 : execOp (ev ρ) o = execOp (ev ρ') o := by
    refine execOp_congr o (fun cs b hc => by rw [hc] at ho; simp [okOp] at ho) fun x hm => ?_
    cases x with
    | tmp t =>
      refine h t ?_
      unfold namesOf
      refine List.mem_append_left _ (List.mem_append_right _ (List.mem_filterMap.2 ⟨.tmp t, Array.mem_toList_iff.2 hm, rfl⟩))
    | _ => rfl
  have h2 : Region.wanted o (yE ops ρ) = Region.wanted o (yE ops ρ') := by
    unfold Region.wanted
    cases hg : o.guard with
    | none => rfl
    | some g =>
      obtain ⟨j, b⟩ := g
      simp only
      unfold yE
      cases hd : (ops[j]?).bind (·.dst) with
      | none => rfl
      | some d =>
        simp only
        rw [h d (by
          unfold namesOf
          refine List.mem_append_right _ ?_
          rw [hg]
          simp [dstN, hd])]
  unfold stepO opS
  rw [h1, h2]

theorem stepO_pure {P : Program} {D : Den} {ops : Array Oper} {o : Oper} {ρ : Env} {w w1 w2 : World} {v : Value} (hp : pureOp o.op = true)
    (h : stepO P D ops o ρ w = some (v, w1)) : stepO P D ops o ρ w2 = some (v, w2) := by
  unfold stepO at h ⊢
  split at h
  · rename_i hw
    rw [if_pos hw]
    exact (pureOp_spec hp h).2 w2
  · rename_i hw
    rw [if_neg hw]
    simp only [Option.some.injEq, Prod.mk.injEq] at h
    rw [h.1]

/-- The greatest of some numbers below k. -/
theorem greatest {p : Nat → Prop} : ∀ {k : Nat}, (∃ j, j < k ∧ p j) → ∃ j, j < k ∧ p j ∧ ∀ i, j < i → i < k → ¬ p i := by
  intro k
  induction k with
  | zero => rintro ⟨j, h, _⟩; omega
  | succ k ih =>
    rintro ⟨j, hj, hp⟩
    by_cases hk : p k
    · exact ⟨k, by omega, hk, fun i h1 h2 => by omega⟩
    · obtain ⟨m, h1, h2, h3⟩ := ih ⟨j, by
        by_cases e : j = k
        · subst e; exact absurd hp hk
        · omega, hp⟩
      refine ⟨m, by omega, h2, fun i h4 h5 => ?_⟩
      by_cases e : i = k
      · subst e; exact hk
      · exact h3 i h4 (by omega)
theorem least {p : Nat → Prop} : ∀ {k : Nat}, p k → ∃ j, j ≤ k ∧ p j ∧ ∀ i, i < j → ¬ p i := by
  intro k
  induction k using Nat.strongRecOn with
  | _ k ih =>
    intro hp
    by_cases h : ∃ j, j < k ∧ p j
    · obtain ⟨j, hj, hpj⟩ := h
      obtain ⟨m, h1, h2, h3⟩ := ih j hj hpj
      exact ⟨m, by omega, h2, h3⟩
    · exact ⟨k, Nat.le_refl _, hp, fun i hi hpi => h ⟨i, hi, hpi⟩⟩

theorem wA_last {S : Nat → Bool} {i : Nat} (hi : S i = true) (he : i ∈ effs) : ∀ {k : Nat}, i < k → (∀ j, i < j → j < k → j ∈ effs → S j = false) → wA effs ws S k = ws (i + 1) := by
  intro k
  induction k with
  | zero => intro h; omega
  | succ k ih =>
    intro hk h
    simp only [wA]
    by_cases e : i = k
    · subst e; simp [hi, he]
    · by_cases hk2 : k ∈ effs
      · rw [h k (by omega) (by omega) hk2]
        simp only [Bool.false_and, Bool.false_eq_true, if_false]
        exact ih (by omega) fun j h1 h2 => h j h1 (by omega)
      · simp only [show (effs.contains k) = false from by simpa using hk2, Bool.and_false, Bool.false_eq_true, if_false]
        exact ih (by omega) fun j h1 h2 => h j h1 (by omega)

/-- An operation that may run next gives what it gave in the order of the text. -/
theorem Inv.next (C : Chk N ops effs fwd bwd V) (T : Trc P D ops effs fwd bwd 0 ops.size es vs ws) (I : Inv N ops effs V (es 0) vs ws S a w) {i : Nat} {o : Oper} (ho : ops[i]? = some o) (hS : S i = false)
    (hr : ∀ e ∈ o.after, bindsA e = true → S e.on = true) :
    stepO P D ops o (envA ops vs (es 0) S ops.size) w = some (vs i, wA effs ws (fun j => S j || j == i) ops.size) := by
  have hi : i < ops.size := by rw [Array.getElem?_eq_some_iff] at ho; exact ho.1
  obtain ⟨W, hok, _⟩ := C.oper i o ho
  have hop : okOp o.op = true := by simp only [okOper, Bool.and_eq_true] at hok; exact hok.1.1.1
  have henv : ∀ t ∈ namesOf ops o, envA ops vs (es 0) S ops.size t = es i t := by
    intro t ht
    rw [← envA_all T (Nat.le_of_lt hi), ← envA_below (k := ops.size) (Nat.le_of_lt hi)]
    refine envA_congr fun j hj hd => ?_
    by_cases e : j = i
    · subst e; rw [hS]; simp
    · exact I.names C ho hS hr ht hj e hd
  rw [stepO_env hop henv]
  have hst := T.st i o (Nat.zero_le _) hi ho
  by_cases he : i ∈ effs
  · have hw : w = ws i := by
      rw [I.wld, wA_congr (S' := fun j => decide (j < i)), wA_below T (Nat.le_refl _), show min i ops.size = i from by omega]
      intro j hj hej
      by_cases e : j = i
      · subst e; rw [hS]; simp
      · exact I.effsIn C ho hS hr he hj e hej
    have hw' : wA effs ws (fun j => S j || j == i) ops.size = ws (i + 1) := by
      refine wA_last (by simp) he hi fun j h1 h2 h3 => ?_
      have := I.effsIn C ho hS hr he h2 (by omega) h3
      simp [this]
      omega
    rw [hw, hw']
    exact hst
  · have hw' : wA effs ws (fun j => S j || j == i) ops.size = w := by
      rw [I.wld]
      refine wA_congr fun j hj hej => ?_
      have : j ≠ i := fun e => he (e ▸ hej)
      simp [this]
    rw [hw']
    have hne := T.ne i (Nat.zero_le _) hi he
    rw [hne] at hst
    by_cases hp : pureOp o.op = true
    · exact stepO_pure hp hst
    by_cases hA : ∃ j, j < ops.size ∧ (i < j ∧ j ∈ effs ∧ S j = true)
    · obtain ⟨j, hj, ⟨hij, hje, hSj⟩, hmax⟩ := greatest hA
      have hw : w = ws (j + 1) := by
        rw [I.wld]
        refine wA_last hSj hje hj fun m h1 h2 h3 => ?_
        cases hs : S m with
        | false => rfl
        | true => exact absurd ⟨by omega, h3, hs⟩ (hmax m h1 h2)
      rcases C.effn i o j ho hj he hje (by omega) with h | ⟨_, h⟩ | ⟨h, _⟩
      · exact absurd h hp
      · rcases h with h | h
        · have := I.down C (j + 1) j (by omega) hj hSj i h
          rw [hS] at this; cases this
        · obtain ⟨oj, ho', hfw⟩ := T.fw j ops[j] i (Nat.zero_le _) hj (by simp [hj]) h
          rw [ho] at ho'
          cases ho'
          rw [hw]
          exact hfw
      · omega
    · have hA' : ∀ j, j < ops.size → i < j → j ∈ effs → S j = false := by
        intro j h1 h2 h3
        cases hs : S j with
        | false => rfl
        | true => exact absurd ⟨j, h1, h2, h3, hs⟩ hA
      by_cases hB : ∃ j, j < i ∧ j ∈ effs ∧ S j = false
      · obtain ⟨j0, hj0, hej0, hSj0⟩ := hB
        obtain ⟨j, hj, ⟨hji, hje, hSj⟩, hmin⟩ := least (p := fun j => j < i ∧ j ∈ effs ∧ S j = false) ⟨hj0, hej0, hSj0⟩
        have hw : w = ws j := by
          rw [I.wld, wA_congr (S' := fun m => decide (m < j)), wA_below T (Nat.le_refl _), show min j ops.size = j from by omega]
          intro m hm hem
          by_cases hmj : m < j
          · cases hs : S m with
            | true => simp [hmj]
            | false => exact absurd ⟨by omega, hem, hs⟩ (hmin m hmj)
          · cases hs : S m with
            | false => simp [hmj]
            | true =>
              exfalso
              by_cases e : m = j
              · subst e; rw [hSj] at hs; cases hs
              · have hb := C.effe m j hm (by omega) hem hje (by omega)
                rw [show max m j = m from by omega, show min m j = j from by omega] at hb
                have := I.down C (m + 1) m (by omega) hm hs j hb
                rw [hSj] at this; cases this
        rcases C.effn i o j ho (by omega) he hje (by omega) with h | ⟨h, _⟩ | ⟨_, h⟩
        · exact absurd h hp
        · omega
        · rcases h with h | h
          · have := I.downReady C ho hr h
            rw [hSj] at this; cases this
          · rw [hw]
            exact T.bw i o j (Nat.zero_le _) hi ho h
      · have hw : w = ws i := by
          rw [I.wld, wA_congr (S' := fun m => decide (m < i)), wA_below T (Nat.le_refl _), show min i ops.size = i from by omega]
          intro m hm hem
          by_cases hmi : m < i
          · cases hs : S m with
            | true => simp [hmi]
            | false => exact absurd ⟨m, hmi, hem, hs⟩ hB
          · by_cases e : m = i
            · subst e; rw [hS]; simp
            · rw [hA' m hm (by omega) hem]; simp [hmi]
        rw [hw]
        exact hst
end
end Go.Proofs.Ytpgfokhpacdhjaa.Fd
