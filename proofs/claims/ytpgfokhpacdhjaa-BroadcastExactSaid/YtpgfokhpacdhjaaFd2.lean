/-
  What 'run' computes is what the machine does (I): the flow of valid slots; regions in the order of the text.
-/
import Derived.Test.YtpgfokhpacdhjaaFd1
namespace Go.Proofs.Ytpgfokhpacdhjaa.Fd
set_option linter.unusedSimpArgs false
set_option linter.unusedVariables false
open Go

def dstsOf (ops : List Oper) : List Nat := ops.filterMap (·.dst)
def writes : Code → List Nat
  | .region _ ops _ => dstsOf ops.toList
  | .seq a b => writes a ++ writes b
  | .cond _ a b => writes a ++ writes b
  | .block _ c => writes c
  | .loop c => writes c
  | _ => []
def okOp : Op → Bool
  | .select .. => false
  | _ => true
def opnd (V : List Nat) : Operand → Bool
  | .tmp t => V.contains t
  | _ => true
def okOper (N : Nat) (ops : Array Oper) (o : Oper) (V : List Nat) : Bool :=
  okOp o.op && o.op.operands.toList.all (opnd V) &&
  (match o.dst with | some d => decide (d < N) | none => true) &&
  (match o.guard with
    | none => true
    | some (j, _) => match (ops[j]?).bind (·.dst) with
      | some d => V.contains d
      | none => true)
def addD (d : Option Nat) (V : List Nat) : List Nat :=
  match d with
  | some d => d :: V
  | none => V
def okReg (N : Nat) (ops : Array Oper) : List Oper → List Nat → Option (List Nat)
  | [], V => some V
  | o :: r, V => if okOper N ops o V then okReg N ops r (addD o.dst V) else none

structure Sim (N : Nat) (V : List Nat) (a : Act) (ρ : Env) : Prop where
  size : a.tmps.size = N
  defers : a.defers = []
  val : ∀ t ∈ V, a.tmps.getD t undef = ρ t

theorem put_getD {a : Act} {d : Option Nat} {v : Value} {t : Nat} (h : ∀ k, d = some k → k < a.tmps.size) :
    (a.put d v).tmps.getD t undef = if d = some t then v else a.tmps.getD t undef := by
  cases d with
  | none => simp [Act.put]
  | some k =>
    have hk := h k rfl
    simp only [Act.put, Option.some.injEq]
    by_cases e : k = t
    · subst e
      simp [hk]
    · simp [Array.getElem?_setIfInBounds_ne e, e]

theorem put_size {a : Act} {d : Option Nat} {v : Value} : (a.put d v).tmps.size = a.tmps.size := by
  cases d <;> simp [Act.put]
theorem put_defers {a : Act} {d : Option Nat} {v : Value} : (a.put d v).defers = a.defers := by
  cases d <;> simp [Act.put]

theorem Env.put_eq {ρ : Env} {d : Option Nat} {v : Value} {t : Nat} : ρ.put d v t = if d = some t then v else ρ t := by
  cases d with
  | none => simp [Env.put]
  | some k => simp only [Env.put, Env.set, Option.some.injEq]; by_cases e : t = k <;> simp [e, eq_comm]

theorem Sim.put {N : Nat} {V : List Nat} {a : Act} {ρ : Env} (h : Sim N V a ρ) {d : Option Nat} (hd : ∀ k, d = some k → k < N) (v : Value) :
    Sim N (addD d V) (a.put d v) (ρ.put d v) := by
  refine ⟨by rw [put_size]; exact h.size, by rw [put_defers]; exact h.defers, ?_⟩
  intro t ht
  rw [put_getD (by rw [h.size]; exact hd), Env.put_eq]
  by_cases e : d = some t
  · simp [e]
  · rw [if_neg e, if_neg e]
    refine h.val t ?_
    cases d with
    | none => exact ht
    | some k =>
      cases ht with
      | head => exact absurd rfl e
      | tail _ hm => exact hm

theorem eval_eq {V : List Nat} {a : Act} {ρ : Env} (h : ∀ t ∈ V, a.tmps.getD t undef = ρ t) {x : Operand} (hx : opnd V x = true) : a.eval x = ev ρ x := by
  cases x with
  | tmp t => exact h t (by simpa [opnd] using hx)
  | _ => rfl

theorem yE_eq {V : List Nat} {a : Act} {ρ : Env} (h : ∀ t ∈ V, a.tmps.getD t undef = ρ t) {ops : Array Oper} {j : Nat}
    (hj : ∀ d, (ops[j]?).bind (·.dst) = some d → d ∈ V) : yielded ops a.tmps j = yE ops ρ j := by
  unfold yielded yE
  cases hd : (ops[j]?).bind (·.dst) with
  | none => simp
  | some d =>
    have := h d (hj d hd)
    simp only [Option.bind_some]
    rw [← this]
    cases ht : a.tmps[d]? with
    | none => simp [ht, undef]
    | some v => simp only [Array.getD_eq_getD_getElem?, ht, Option.getD_some]; cases v <;> rfl

theorem opS_wp {P : Program} {D : Den} (hD : SoundD P D) {o : Oper} {a : Act} {e : Operand → Value} {w w' : World} {v : Value}
    (he : execOp a.eval o = execOp e o) (h : opS P D o e w = some (v, w')) {next : Act → World → Prop} {Q : Exit → Act → World → Prop}
    (hn : next (a.put o.dst v) w') : o.wp P a w next Q := by
  unfold Oper.wp
  rw [he]
  unfold opS at h
  split at h
  · rename_i x w1 hr
    rw [hr]
    simp only [Option.some.injEq, Prod.mk.injEq] at h
    obtain ⟨rfl, rfl⟩ := h
    exact hn
  · rename_i w1 hr
    rw [hr]
    simp only [Option.some.injEq, Prod.mk.injEq] at h
    obtain ⟨rfl, rfl⟩ := h
    exact hn
  · rename_i f args w1 hr
    rw [hr]
    rw [Oper.upon_enter]
    refine Calls.mono (hD _ _ _ _ _ h) ?_
    rintro e1 w2 ⟨rfl, rfl⟩
    exact hn
  · cases h

theorem exec_eq {V : List Nat} {a : Act} {ρ : Env} (h : ∀ t ∈ V, a.tmps.getD t undef = ρ t) {o : Oper} (ho : okOp o.op = true)
    (hx : o.op.operands.toList.all (opnd V) = true) : execOp a.eval o = execOp (ev ρ) o := by
  refine execOp_congr o (fun cs b hc => by rw [hc] at ho; simp [okOp] at ho) fun x hm => eval_eq h ?_
  exact List.all_eq_true.1 hx x (Array.mem_toList_iff.2 hm)

theorem step_wp {P : Program} {D : Den} (hD : SoundD P D) {N : Nat} {V : List Nat} {ops : Array Oper} {o : Oper} {a : Act} {ρ : Env} {w w' : World} {v : Value}
    (h : ∀ t ∈ V, a.tmps.getD t undef = ρ t) (hok : okOper N ops o V = true) (hs : stepO P D ops o ρ w = some (v, w'))
    {next : Act → World → Prop} {Q : Exit → Act → World → Prop} (hn : next (a.put o.dst v) w') :
    if Region.wanted o (yielded ops a.tmps) then o.wp P a w next Q ∨ (o.asks P a w ∧ LetsOut Q) else next (a.put o.dst undef) w := by
  simp only [okOper, Bool.and_eq_true] at hok
  obtain ⟨⟨⟨h1, h2⟩, _⟩, h4⟩ := hok
  have hw : Region.wanted o (yielded ops a.tmps) = Region.wanted o (yE ops ρ) := by
    unfold Region.wanted
    cases hg : o.guard with
    | none => rfl
    | some g =>
      obtain ⟨j, b⟩ := g
      simp only
      rw [yE_eq h]
      intro d hd
      rw [hg] at h4
      simp only [hd] at h4
      simpa using h4
  rw [hw]
  unfold stepO at hs
  split
  · rename_i hwt
    rw [if_pos hwt] at hs
    exact .inl (opS_wp hD (exec_eq h h1 h2) hs hn)
  · rename_i hwt
    rw [if_neg hwt] at hs
    simp only [Option.some.injEq, Prod.mk.injEq] at hs
    obtain ⟨rfl, rfl⟩ := hs
    exact hn

theorem okOper_dst {N : Nat} {ops : Array Oper} {o : Oper} {V : List Nat} (h : okOper N ops o V = true) : ∀ k, o.dst = some k → k < N := by
  intro k hk
  simp only [okOper, Bool.and_eq_true, hk, decide_eq_true_eq] at h
  exact h.1.2

theorem runL_wp {P : Program} {D : Den} (hD : SoundD P D) {N : Nat} {ops : Array Oper} : ∀ {l : List Oper} {V V' : List Nat} {a : Act} {ρ ρ' : Env} {w w' : World},
    okReg N ops l V = some V' → Sim N V a ρ → runL P D ops l ρ w = some (ρ', w') →
    ∃ a', Sim N V' a' ρ' ∧ (∀ t, t ∉ dstsOf l → a'.tmps.getD t undef = a.tmps.getD t undef) ∧ ∀ Q, Q .normal a' w' → wpList P ops Q l a w := by
  intro l
  induction l with
  | nil =>
    intro V V' a ρ ρ' w w' hV hs hr
    simp only [okReg, Option.some.injEq] at hV
    simp only [runL, Option.some.injEq, Prod.mk.injEq] at hr
    obtain ⟨rfl, rfl⟩ := hr
    subst hV
    exact ⟨a, hs, fun _ _ => rfl, fun Q hq => hq⟩
  | cons o r ih =>
    intro V V' a ρ ρ' w w' hV hs hr
    simp only [okReg] at hV
    split at hV
    · rename_i hok
      simp only [runL] at hr
      cases hst : stepO P D ops o ρ w with
      | none => rw [hst] at hr; cases hr
      | some x =>
        obtain ⟨v, w1⟩ := x
        rw [hst] at hr
        simp only [Option.bind_some] at hr
        obtain ⟨a', s', f', q'⟩ := ih hV (hs.put (okOper_dst hok) v) hr
        refine ⟨a', s', ?_, ?_⟩
        · intro t ht
          have ht1 : t ∉ dstsOf r := fun hm => ht (by
            unfold dstsOf at hm ⊢
            rw [List.filterMap_cons]
            split
            · exact hm
            · exact List.mem_cons_of_mem _ hm)
          rw [f' t ht1, put_getD (by rw [hs.size]; exact okOper_dst hok), if_neg]
          intro e
          exact ht (by unfold dstsOf; rw [List.filterMap_cons, e]; exact List.mem_cons_self)
        · intro Q hq
          exact step_wp hD hs.val hok hst (q' Q hq)
    · cases hV

structure Fl where
  nor : Option (List Nat)
  exs : List (Nat × List Nat)
  ret : Option (List Nat)
def meet (x y : Option (List Nat)) : Option (List Nat) :=
  match x, y with
  | none, y => y
  | some a, none => some a
  | some a, some b => some (a.filter (b.contains ·))
def meets (x : Option (List Nat)) (id : Nat) : List (Nat × List Nat) → Option (List Nat)
  | [] => x
  | (i, V) :: r => if i = id then meet (some V) (meets x id r) else meets x id r

theorem Sim.mono {N : Nat} {V V' : List Nat} {a : Act} {ρ : Env} (h : Sim N V a ρ) (hV : ∀ t ∈ V', t ∈ V) : Sim N V' a ρ :=
  ⟨h.size, h.defers, fun t ht => h.val t (hV t ht)⟩
theorem meet_left {N : Nat} {V : List Nat} {y : Option (List Nat)} {a : Act} {ρ : Env} (h : Sim N V a ρ) : ∃ V', meet (some V) y = some V' ∧ Sim N V' a ρ := by
  cases y with
  | none => exact ⟨V, rfl, h⟩
  | some b => exact ⟨_, rfl, h.mono fun t ht => (List.mem_filter.1 ht).1⟩
theorem meet_right {N : Nat} {V : List Nat} {x : Option (List Nat)} {a : Act} {ρ : Env} (h : Sim N V a ρ) : ∃ V', meet x (some V) = some V' ∧ Sim N V' a ρ := by
  cases x with
  | none => exact ⟨V, rfl, h⟩
  | some b => exact ⟨_, rfl, h.mono fun t ht => by simpa using (List.mem_filter.1 ht).2⟩
theorem meets_nor {N : Nat} {V : List Nat} {id : Nat} {a : Act} {ρ : Env} (h : Sim N V a ρ) : ∀ {l : List (Nat × List Nat)}, ∃ V', meets (some V) id l = some V' ∧ Sim N V' a ρ := by
  intro l
  induction l with
  | nil => exact ⟨V, rfl, h⟩
  | cons p r ih =>
    obtain ⟨i, W⟩ := p
    obtain ⟨V1, e1, s1⟩ := ih
    simp only [meets]
    split
    · rw [e1]; exact meet_right s1
    · exact ⟨V1, e1, s1⟩
theorem meets_ex {N : Nat} {V : List Nat} {x : Option (List Nat)} {id : Nat} {a : Act} {ρ : Env} (h : Sim N V a ρ) : ∀ {l : List (Nat × List Nat)}, (id, V) ∈ l →
    ∃ V', meets x id l = some V' ∧ Sim N V' a ρ := by
  intro l
  induction l with
  | nil => intro hm; cases hm
  | cons p r ih =>
    intro hm
    obtain ⟨i, W⟩ := p
    simp only [meets]
    cases hm with
    | head => rw [if_pos rfl]; exact meet_left h
    | tail _ hm =>
      obtain ⟨V1, e1, s1⟩ := ih hm
      split
      · rw [e1]; exact meet_right s1
      · exact ⟨V1, e1, s1⟩

def SimAt (N : Nat) (F : Fl) (a : Act) (ρ : Env) : Exit → Prop
  | .normal => ∃ V, F.nor = some V ∧ Sim N V a ρ
  | .exit id => ∃ V, (id, V) ∈ F.exs ∧ Sim N V a ρ
  | .ret => ∃ V, F.ret = some V ∧ Sim N V a ρ
  | _ => False

theorem keepE_in {keep : List Nat} {ρ ρ' : Env} {t : Nat} (h : t ∈ keep) : keepE keep ρ ρ' t = ρ' t := by
  induction keep with
  | nil => cases h
  | cons k r ih =>
    simp only [keepE, Env.set]
    by_cases e : t = k
    · simp [e]
    · rw [if_neg e]
      exact ih (by cases h with | head => exact absurd rfl e | tail _ hm => exact hm)
theorem keepE_out {keep : List Nat} {ρ ρ' : Env} {t : Nat} (h : t ∉ keep) : keepE keep ρ ρ' t = ρ t := by
  induction keep with
  | nil => rfl
  | cons k r ih =>
    simp only [keepE, Env.set]
    rw [if_neg (fun e => h (by rw [e]; exact List.mem_cons_self))]
    exact ih fun hm => h (List.mem_cons_of_mem _ hm)
theorem setE_in {vs : List Nat} {ρ ρ' : Env} {t : Nat} (h : t ∈ vs) : setE vs (getE vs ρ') ρ t = ρ' t := by
  induction vs with
  | nil => cases h
  | cons k r ih =>
    simp only [setE, getE, Env.set]
    by_cases e : t = k
    · simp [e]
    · rw [if_neg e]
      exact ih (by cases h with | head => exact absurd rfl e | tail _ hm => exact hm)
theorem setE_out {vs : List Nat} {st : List Value} {ρ : Env} {t : Nat} (h : t ∉ vs) : setE vs st ρ t = ρ t := by
  induction vs generalizing st with
  | nil => rfl
  | cons k r ih =>
    cases st with
    | nil => rfl
    | cons v s =>
      simp only [setE, Env.set]
      rw [if_neg (fun e => h (by rw [e]; exact List.mem_cons_self))]
      exact ih fun hm => h (List.mem_cons_of_mem _ hm)
end Go.Proofs.Ytpgfokhpacdhjaa.Fd
