/-
  Bodies with one call whose outcome is told by a relation only (a contract of 'Calls' with several outcomes): weakest preconditions beside the functional reading.
-/
import Derived.Test.YtpgfokhpacdhjaaFd7
namespace Go.Proofs.Ytpgfokhpacdhjaa.Fd
set_option linter.unusedSimpArgs false
set_option linter.unusedVariables false
open Go

/-- Weakest precondition of the machine, in terms of environments. -/
def Wr (P : Program) (c : Code) (p : Plan) (ρ : Env) (w : World) (K : Out → Prop) : Prop :=
  ∀ (N : Nat) (V : List Nat) (F : Fl), flow N c p V = some F → ∀ a : Act, Sim N V a ρ → ∀ Q : Exit → Act → World → Prop,
    (∀ e ρ' w' a', K (e, ρ', w') → SimAt N F a' ρ' e → (∀ t, t ∉ writes c → a'.tmps.getD t undef = a.tmps.getD t undef) → Q e a' w') → c.wp P Q a w
def KSr (P : Program) (b : Code) (q : Plan) (K : Out → Prop) : Out → Prop
  | (.normal, ρ, w) => Wr P b q ρ w K
  | o => K o
/-- The same of a row of operations. -/
def WLr (P : Program) (ops : Array Oper) (l : List Oper) (ρ : Env) (w : World) (K : Env × World → Prop) : Prop :=
  ∀ (N : Nat) (V V' : List Nat), okReg N ops l V = some V' → ∀ a : Act, Sim N V a ρ → ∀ Q : Exit → Act → World → Prop,
    (∀ ρ' w' a', K (ρ', w') → Sim N V' a' ρ' → (∀ t, t ∉ dstsOf l → a'.tmps.getD t undef = a.tmps.getD t undef) → Q .normal a' w') → wpList P ops Q l a w
theorem KSr_nor {P : Program} {b : Code} {q : Plan} {K : Out → Prop} {ρ : Env} {w : World} : KSr P b q K (.normal, ρ, w) = Wr P b q ρ w K := _root_.id rfl
theorem KSr_exit {P : Program} {b : Code} {q : Plan} {K : Out → Prop} {ρ : Env} {w : World} {id : Nat} : KSr P b q K (.exit id, ρ, w) = K (.exit id, ρ, w) := _root_.id rfl
theorem KSr_ret {P : Program} {b : Code} {q : Plan} {K : Out → Prop} {ρ : Env} {w : World} : KSr P b q K (.ret, ρ, w) = K (.ret, ρ, w) := _root_.id rfl

section
variable {P : Program} {ρ : Env} {w : World}
theorem wr_of_w {c : Code} {p : Plan} {K : Out → Prop} (hm : P.follows .mixedOrders = true) (h : W P (den P) c p ρ w K) : Wr P c p ρ w K := by
  intro N V F hF a hs Q hQ
  obtain ⟨⟨e, ρ', w'⟩, h1, h2⟩ := h
  exact run_sound (den_sound P) hm c hF h1 hs Q fun a' s' f' => hQ e ρ' w' a' h2 s' f'

theorem wr_seq {x y : Code} {p q : Plan} {K : Out → Prop} (h : Wr P x p ρ w (KSr P y q K)) : Wr P (.seq x y) (.two p q) ρ w K := by
  intro N V F hF a hs Q hQ
  simp only [flow] at hF
  cases hfx : flow N x p V with
  | none => rw [hfx] at hF; cases hF
  | some f =>
    rw [hfx] at hF
    simp only at hF
    refine wp_seq (h N V f hfx a hs _ fun e1 ρ1 w1 a1 k1 s1 f1 => ?_)
    cases hn : f.nor with
    | none =>
      rw [hn] at hF
      simp only [Option.some.injEq] at hF
      subst hF
      cases e1 with
      | normal =>
        obtain ⟨V1, h1, _⟩ := s1
        rw [hn] at h1; cases h1
      | _ => exact hQ _ ρ1 w1 a1 k1 s1 fun t ht => f1 t fun hm => ht (List.mem_append_left _ hm)
    | some V1 =>
      rw [hn] at hF
      simp only at hF
      cases hfy : flow N y q V1 with
      | none => rw [hfy] at hF; cases hF
      | some g =>
        rw [hfy] at hF
        simp only [Option.some.injEq] at hF
        subst hF
        cases e1 with
        | normal =>
          obtain ⟨V2, h1, s1⟩ := s1
          rw [hn, Option.some.injEq] at h1
          subst h1
          refine (k1 : Wr P y q ρ1 w1 K) N V1 g hfy a1 s1 Q fun e ρ' w' a' k' s' f' => hQ e ρ' w' a' k' ?_ fun t ht => ?_
          · cases e with
            | normal => exact s'
            | exit id =>
              obtain ⟨W, h1, h2⟩ := s'
              exact ⟨W, List.mem_append_right _ h1, h2⟩
            | ret =>
              obtain ⟨W, h1, h2⟩ := s'
              simp only [SimAt, h1]
              exact meet_right h2
            | goto l => exact s'
            | panic ch => exact s'
            | outgrown => exact s'
          · rw [f' t fun hm => ht (List.mem_append_right _ hm), f1 t fun hm => ht (List.mem_append_left _ hm)]
        | _ =>
          refine hQ _ ρ1 w1 a1 k1 ?_ fun t ht => f1 t fun hm => ht (List.mem_append_left _ hm)
          first
            | (obtain ⟨W, h1, h2⟩ := s1; exact ⟨W, List.mem_append_left _ h1, h2⟩)
            | (obtain ⟨W, h1, h2⟩ := s1; simp only [SimAt, h1]; exact meet_left h2)
            | exact s1

theorem wr_block {id : Nat} {c : Code} {p : Plan} {K : Out → Prop} (h : Wr P c p ρ w (KB id K)) : Wr P (.block id c) (.blk p) ρ w K := by
  intro N V F hF a hs Q hQ
  simp only [flow] at hF
  cases hfx : flow N c p V with
  | none => rw [hfx] at hF; cases hF
  | some f =>
    rw [hfx] at hF
    simp only [Option.some.injEq] at hF
    subst hF
    refine wp_block (h N V f hfx a hs _ fun e1 ρ1 w1 a1 k1 s1 f1 => ?_)
    cases e1 with
    | normal =>
      obtain ⟨W, h1, h2⟩ := s1
      refine hQ _ ρ1 w1 a1 k1 ?_ f1
      simp only [SimAt, h1]
      exact meets_nor h2
    | exit i =>
      simp only [Exit.inBlock]
      split
      · rename_i hid
        subst hid
        obtain ⟨W, h1, h2⟩ := s1
        rw [KB_exit, if_pos rfl] at k1
        refine hQ _ ρ1 w1 a1 k1 ?_ f1
        exact meets_ex h2 h1
      · rename_i hid
        rw [KB_exit, if_neg hid] at k1
        exact hQ _ ρ1 w1 a1 k1 s1 f1
    | _ => exact hQ _ ρ1 w1 a1 k1 s1 f1

theorem wr_cond {cnd : Operand} {x y : Code} {p q : Plan} {K : Out → Prop} {t : Bool} (hc : ev ρ cnd = .bool t) (h : if t then Wr P x p ρ w K else Wr P y q ρ w K) :
    Wr P (.cond cnd x y) (.two p q) ρ w K := by
  intro N V F hF a hs Q hQ
  simp only [flow] at hF
  split at hF
  · rename_i hcn
    cases hfx : flow N x p V with
    | none => rw [hfx] at hF; simp at hF
    | some f =>
      cases hfy : flow N y q V with
      | none => rw [hfx, hfy] at hF; simp at hF
      | some g =>
        rw [hfx, hfy] at hF
        simp only [Option.some.injEq] at hF
        subst hF
        have hev := eval_eq hs.val hcn
        refine wp_cond (t := t) (by rw [hev, hc]) ?_
        cases t with
        | true =>
          simp only [if_true] at h ⊢
          refine h N V f hfx a hs Q fun e ρ' w' a' k' s' f' => hQ e ρ' w' a' k' ?_ fun t ht => f' t fun hm => ht (List.mem_append_left _ hm)
          cases e with
          | normal =>
            obtain ⟨W, h1, h2⟩ := s'
            simp only [SimAt, h1]
            exact meet_left h2
          | exit id =>
            obtain ⟨W, h1, h2⟩ := s'
            exact ⟨W, List.mem_append_left _ h1, h2⟩
          | ret =>
            obtain ⟨W, h1, h2⟩ := s'
            simp only [SimAt, h1]
            exact meet_left h2
          | goto l => exact s'
          | panic ch => exact s'
          | outgrown => exact s'
        | false =>
          simp only [Bool.false_eq_true, if_false] at h ⊢
          refine h N V g hfy a hs Q fun e ρ' w' a' k' s' f' => hQ e ρ' w' a' k' ?_ fun t ht => f' t fun hm => ht (List.mem_append_right _ hm)
          cases e with
          | normal =>
            obtain ⟨W, h1, h2⟩ := s'
            simp only [SimAt, h1]
            exact meet_right h2
          | exit id =>
            obtain ⟨W, h1, h2⟩ := s'
            exact ⟨W, List.mem_append_right _ h1, h2⟩
          | ret =>
            obtain ⟨W, h1, h2⟩ := s'
            simp only [SimAt, h1]
            exact meet_right h2
          | goto l => exact s'
          | panic ch => exact s'
          | outgrown => exact s'
  · cases hF

theorem wr_region {id : Nat} {ops : Array Oper} {keep : List Nat} {K : Out → Prop} (h : WLr P ops ops.toList ρ w (KR keep ρ K)) : Wr P (.region id ops false) (.reg keep) ρ w K := by
  intro N V F hF a hs Q hQ
  simp only [flow] at hF
  cases hV : okReg N ops ops.toList V with
  | none => rw [hV] at hF; cases hF
  | some V' =>
    rw [hV] at hF
    simp only at hF
    split at hF
    · rename_i hsub
      simp only [Option.some.injEq] at hF
      subst hF
      refine wp_region_list (h N V V' hV a hs Q fun ρ1 w1 a1 k1 s1 f1 => ?_)
      exact hQ _ _ _ a1 k1 ⟨_, rfl, keep_sim hs s1.size s1.defers (fun t ht => s1.val t (sub_spec hsub t ht)) f1⟩ f1
    · cases hF

theorem dsts_cons {o : Oper} {r : List Oper} {t : Nat} (h : t ∉ dstsOf (o :: r)) : t ∉ dstsOf r ∧ o.dst ≠ some t := by
  unfold dstsOf at *
  rw [List.filterMap_cons] at h
  refine ⟨fun hm => h ?_, fun e => h ?_⟩
  · split
    · exact hm
    · exact List.mem_cons_of_mem _ hm
  · rw [e]; exact List.mem_cons_self

theorem wlr_of_wl {ops : Array Oper} {l : List Oper} {K : Env × World → Prop} (h : WL P (den P) ops l ρ w K) : WLr P ops l ρ w K := by
  intro N V V' hV a hs Q hQ
  obtain ⟨⟨ρ', w'⟩, h1, h2⟩ := h
  obtain ⟨a', s', f', q'⟩ := runL_wp (den_sound P) hV hs h1
  exact q' Q (hQ ρ' w' a' h2 s' f')

theorem wlr_step {ops : Array Oper} {o : Oper} {r : List Oper} {K : Env × World → Prop} (h : Okk (stepO P (den P) ops o ρ w) fun x => WLr P ops r (ρ.put o.dst x.1) x.2 K) : WLr P ops (o :: r) ρ w K := by
  intro N V V' hV a hs Q hQ
  obtain ⟨⟨v, w1⟩, h1, h2⟩ := h
  simp only [okReg] at hV
  split at hV
  · rename_i hok
    refine step_wp (den_sound P) hs.val hok h1 ?_
    refine h2 N _ V' hV _ (hs.put (okOper_dst hok) v) Q fun ρ' w' a' k' s' f' => hQ ρ' w' a' k' s' fun t ht => ?_
    obtain ⟨t1, t2⟩ := dsts_cons ht
    rw [f' t t1, put_getD (by rw [hs.size]; exact okOper_dst hok), if_neg t2]
  · cases hV

theorem wlr_call {ops : Array Oper} {o : Oper} {r : List Oper} {K : Env × World → Prop} {f : FuncId} {args : Array Value} {w1 : World} (hw : Region.wanted o (yE ops ρ) = true)
    (hop : (execOp (ev ρ) o).run P w = .ok (.enter f args) w1) (hc : Calls P f args w1 fun e w' => ∃ v, e = .returned v ∧ WLr P ops r (ρ.put o.dst v) w' K) : WLr P ops (o :: r) ρ w K := by
  intro N V V' hV a hs Q hQ
  simp only [okReg] at hV
  split at hV
  · rename_i hok
    have hok2 := hok
    simp only [okOper, Bool.and_eq_true] at hok2
    obtain ⟨⟨⟨h1, h2⟩, _⟩, h4⟩ := hok2
    have hwt : Region.wanted o (yielded ops a.tmps) = Region.wanted o (yE ops ρ) := by
      unfold Region.wanted
      cases hg : o.guard with
      | none => rfl
      | some g =>
        obtain ⟨j, b⟩ := g
        simp only
        rw [yE_eq hs.val]
        intro d hd
        rw [hg] at h4
        simp only [hd] at h4
        simpa using h4
    show if Region.wanted o (yielded ops a.tmps) then o.wp P a w (wpList P ops Q r) Q ∨ (o.asks P a w ∧ LetsOut Q) else wpList P ops Q r (a.put o.dst undef) w
    rw [if_pos (by rw [hwt, hw])]
    left
    unfold Oper.wp
    rw [exec_eq hs.val h1 h2, hop, Oper.upon_enter]
    refine Calls.mono hc ?_
    rintro e1 w2 ⟨v, rfl, h⟩
    refine h N _ V' hV _ (hs.put (okOper_dst hok) v) Q fun ρ' w' a' k' s' f' => hQ ρ' w' a' k' s' fun t ht => ?_
    obtain ⟨t1, t2⟩ := dsts_cons ht
    rw [f' t t1, put_getD (by rw [hs.size]; exact okOper_dst hok), if_neg t2]
  · cases hV

theorem calls_of_wr {f : FuncId} {fn : Func} {c : Code} {p : Plan} {args : List Value} (S : List Nat) {R : Value → World → Prop}
    (hf : P.funcs[f]? = some fn) (hb : fn.body = some c)
    (hok : okFn fn c p args.length = true) (hr : fn.results = (S.map ResultVar.tmp).toArray)
    (h : Wr P c p (env0 args) w (retK S R)) : Calls P f args.toArray w fun e w' => ∃ v, e = .returned v ∧ R v w' := by
  refine calls_of_wp hf hb ?_
  unfold okFn at hok
  simp only [Bool.and_eq_true, decide_eq_true_eq] at hok
  obtain ⟨hn, hok⟩ := hok
  split at hok
  · rename_i F hF
    simp only [Bool.and_eq_true] at hok
    have hs : Sim fn.ntmps (List.range fn.ntmps) { tmps := args.toArray ++ Array.replicate (fn.ntmps - args.toArray.size) undef, defers := [] } (env0 args) := by
      refine ⟨by simp; omega, rfl, ?_⟩
      intro t ht
      unfold env0
      simp only [Array.getD_eq_getD_getElem?, List.getD_eq_getElem?_getD]
      by_cases hlt : t < args.length
      · rw [Array.getElem?_append_left (by simpa using hlt)]
        simp
      · rw [Array.getElem?_append_right (by simpa using hlt)]
        rw [Array.getElem?_replicate]
        split <;> simp [hlt]
    refine h _ _ F hF _ hs _ fun e ρ w1 a' k' s' _ => ?_
    have fin : ∀ V, okV fn (some V) = true → Sim fn.ntmps V a' ρ → R (retV S ρ) w1 →
        a'.defers = [] ∧ ∃ v1, (results fn a'.tmps).run P w1 = .ok v1 w1 ∧ ∃ v, Ending.returned v1 = .returned v ∧ R v w1 := by
      intro V hV s h
      refine ⟨s.defers, ?_⟩
      rw [results_eq (ρ := ρ) fun t ht => s.val t (sub_spec hV t ht)]
      exact ⟨_, resE_tmps fn ρ S hr P w1, _, rfl, h⟩
    cases e with
    | normal =>
      obtain ⟨V, h1, h2⟩ := s'
      rw [h1] at hok
      exact fin V hok.1 h2 k'
    | ret =>
      obtain ⟨V, h1, h2⟩ := s'
      rw [h1] at hok
      exact fin V hok.2 h2 k'
    | _ => exact k'.elim
  · cases hok

theorem leastN {p : Nat → Prop} (h : ∃ k, p k) : ∃ k, p k ∧ ∀ j, p j → k ≤ j := by
  obtain ⟨k, hk⟩ := h
  induction k using Nat.strongRecOn with
  | _ k ih =>
    by_cases h : ∃ j, j < k ∧ p j
    · obtain ⟨j, h1, h2⟩ := h
      exact ih j h1 h2
    · refine ⟨k, hk, fun j hj => ?_⟩
      by_cases hlt : j < k
      · exact absurd ⟨j, hlt, hj⟩ h
      · omega
theorem wp_loopk {c : Code} {Q : Exit → Act → World → Prop} {a : Act} (I : Nat → Act → World → Prop) {k0 : Nat} (h0 : I k0 a w)
    (round : ∀ k a w, I k a w → c.wp P (Exit.then (fun a' w' => ∃ k', k' < k ∧ I k' a' w') Q) a w) : (Code.loop c).wp P Q a w := by
  have hm : ∀ a w, ∃ n, (∃ k, I k a w) → I n a w ∧ ∀ j, I j a w → n ≤ j := by
    intro a w
    by_cases h : ∃ k, I k a w
    · obtain ⟨n, hn⟩ := leastN h
      exact ⟨n, fun _ => hn⟩
    · exact ⟨0, fun h' => absurd h' h⟩
  refine wp_loop (fun a w => ∃ k, I k a w) (fun a w => Classical.choose (hm a w)) ⟨k0, h0⟩ fun a w hI => ?_
  have h1 := Classical.choose_spec (hm a w) hI
  refine Code.wp_mono (fun e a' w' q => ?_) (round _ a w h1.1)
  cases e with
  | normal =>
    obtain ⟨k', hk, hI'⟩ := q
    exact ⟨⟨k', hI'⟩, Nat.lt_of_le_of_lt ((Classical.choose_spec (hm a' w') ⟨k', hI'⟩).2 k' hI') hk⟩
  | _ => exact q
def KJr (I : Nat → List Value → World → Prop) (k : Nat) (vs : List Nat) (K : Out → Prop) : Out → Prop
  | (.normal, ρ, w) => ∃ k', k' < k ∧ I k' (getE vs ρ) w
  | o => K o
theorem KJr_nor {I : Nat → List Value → World → Prop} {k : Nat} {vs : List Nat} {K : Out → Prop} {ρ : Env} {w : World} : KJr I k vs K (.normal, ρ, w) = ∃ k', k' < k ∧ I k' (getE vs ρ) w := _root_.id rfl
theorem KJr_exit {I : Nat → List Value → World → Prop} {k id : Nat} {vs : List Nat} {K : Out → Prop} {ρ : Env} {w : World} : KJr I k vs K (.exit id, ρ, w) = K (.exit id, ρ, w) := _root_.id rfl
theorem KJr_ret {I : Nat → List Value → World → Prop} {k : Nat} {vs : List Nat} {K : Out → Prop} {ρ : Env} {w : World} : KJr I k vs K (.ret, ρ, w) = K (.ret, ρ, w) := _root_.id rfl
theorem wr_loop {c : Code} {vs : List Nat} {p : Plan} {K : Out → Prop} (I : Nat → List Value → World → Prop)
    (step : ∀ k st w, I k st w → Wr P c p (setE vs st ρ) w (KJr I k vs K)) (k : Nat) (h0 : I k (getE vs ρ) w) : Wr P (.loop c) (.lop vs p) ρ w K := by
  intro N V F hF a hs Q hQ
  simp only [flow] at hF
  split at hF
  · rename_i hsub
    cases hfx : flow N c p (vs ++ V.filter fun t => !((writes c).contains t)) with
    | none => rw [hfx] at hF; cases hF
    | some f =>
      rw [hfx] at hF
      simp only at hF
      have hF' : F = ⟨none, f.exs, f.ret⟩ ∧ ∀ V1, f.nor = some V1 → sub vs V1 = true := by
        cases hn : f.nor with
        | none => rw [hn] at hF; simp only [Option.some.injEq] at hF; exact ⟨hF.symm, fun _ h => by cases h⟩
        | some V1 =>
          rw [hn] at hF
          simp only at hF
          split at hF
          · rename_i hs1
            simp only [Option.some.injEq] at hF
            exact ⟨hF.symm, fun W h => by cases h; exact hs1⟩
          · cases hF
      obtain ⟨rfl, hsub1⟩ := hF'
      refine wp_loopk (fun k a1 w1 => ∃ st, I k st w1 ∧ Sim N (vs ++ V.filter fun t => !((writes c).contains t)) a1 (setE vs st ρ) ∧ ∀ t, t ∉ writes c → a1.tmps.getD t undef = a.tmps.getD t undef) (k0 := k) ⟨getE vs ρ, h0, ⟨hs.size, hs.defers, ?_⟩, fun _ _ => rfl⟩ ?_
      · intro t ht
        by_cases hv : t ∈ vs
        · rw [setE_in hv]; exact hs.val t (sub_spec hsub t hv)
        · rw [setE_out hv]
          rcases List.mem_append.1 ht with h | h
          · exact absurd h hv
          · exact hs.val t (List.mem_filter.1 h).1
      · rintro k1 a1 w1 ⟨st, hI, hs1, hf1⟩
        refine step k1 st w1 hI N _ f hfx a1 hs1 _ fun e2 ρ2 w3 a2 k2 s2 f2 => ?_
        cases e2 with
        | normal =>
          obtain ⟨k', hk, hI'⟩ := k2
          obtain ⟨V1, hv1, s2⟩ := s2
          refine ⟨k', hk, getE vs ρ2, hI', ⟨s2.size, s2.defers, ?_⟩, fun t ht => by rw [f2 t ht, hf1 t ht]⟩
          intro t ht
          by_cases hv : t ∈ vs
          · rw [setE_in hv]
            exact s2.val t (sub_spec (hsub1 V1 hv1) t hv)
          · rw [setE_out hv]
            rcases List.mem_append.1 ht with h | h
            · exact absurd h hv
            · obtain ⟨h3, h4⟩ := List.mem_filter.1 h
              have h5 : t ∉ writes c := by simpa using h4
              rw [f2 t h5, hf1 t h5]
              exact hs.val t h3
        | goto l => exact s2.elim
        | panic ch => exact s2.elim
        | outgrown => exact s2.elim
        | _ => exact hQ _ ρ2 w3 a2 k2 s2 fun t ht => by rw [f2 t ht, hf1 t ht]
  · cases hF
end
end Go.Proofs.Ytpgfokhpacdhjaa.Fd
