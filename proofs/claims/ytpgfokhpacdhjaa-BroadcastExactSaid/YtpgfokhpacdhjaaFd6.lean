/-
  What 'run' computes is what the machine does (V): a function's body; 'den_of_run': from a run of the body to the call.
-/
import Derived.Test.YtpgfokhpacdhjaaFd5
namespace Go.Proofs.Ytpgfokhpacdhjaa.Fd
set_option linter.unusedSimpArgs false
set_option linter.unusedVariables false
open Go

def sub (xs V : List Nat) : Bool := xs.all (V.contains ·)
theorem sub_spec {xs V : List Nat} (h : sub xs V = true) : ∀ t ∈ xs, t ∈ V := fun t ht => by
  simpa using List.all_eq_true.1 h t ht
def outV (ds keep V : List Nat) : List Nat := keep ++ V.filter fun t => !(ds.contains t)
def flow (N : Nat) : Code → Plan → List Nat → Option Fl
  | .skip, _, V => some ⟨some V, [], none⟩
  | .region _ ops false, .reg keep, V =>
    match okReg N ops ops.toList V with
    | some V' => if sub keep V' then some ⟨some (outV (dstsOf ops.toList) keep V), [], none⟩ else none
    | none => none
  | .region _ ops true, .drw keep effs fwd bwd, V =>
    match okReg N ops ops.toList V with
    | some _ => if sub keep (dstsOf ops.toList ++ V) && okDraw ops effs fwd bwd then some ⟨some (outV (dstsOf ops.toList) keep V), [], none⟩ else none
    | none => none
  | .seq a b, .two p q, V =>
    match flow N a p V with
    | none => none
    | some f => match f.nor with
      | none => some f
      | some V1 => match flow N b q V1 with
        | none => none
        | some g => some ⟨g.nor, f.exs ++ g.exs, meet f.ret g.ret⟩
  | .cond c a b, .two p q, V =>
    if opnd V c then
      match flow N a p V, flow N b q V with
      | some f, some g => some ⟨meet f.nor g.nor, f.exs ++ g.exs, meet f.ret g.ret⟩
      | _, _ => none
    else none
  | .block id c, .blk p, V =>
    match flow N c p V with
    | some f => some ⟨meets f.nor id f.exs, f.exs, f.ret⟩
    | none => none
  | .loop c, .lop vs p, V =>
    if sub vs V then
      match flow N c p (vs ++ V.filter fun t => !((writes c).contains t)) with
      | some f => match f.nor with
        | none => some ⟨none, f.exs, f.ret⟩
        | some V1 => if sub vs V1 then some ⟨none, f.exs, f.ret⟩ else none
      | none => none
    else none
  | .exit id, _, V => some ⟨none, [(id, V)], none⟩
  | .ret, _, V => some ⟨none, [], some V⟩
  | _, _, _ => none

theorem keep_sim {N : Nat} {V keep ds : List Nat} {a a' : Act} {ρ ρ' : Env} (hs : Sim N V a ρ) (h1 : a'.tmps.size = N) (h2 : a'.defers = [])
    (hk : ∀ t ∈ keep, a'.tmps.getD t undef = ρ' t) (hf : ∀ t, t ∉ ds → a'.tmps.getD t undef = a.tmps.getD t undef) : Sim N (outV ds keep V) a' (keepE keep ρ ρ') := by
  refine ⟨h1, h2, ?_⟩
  intro t ht
  by_cases e : t ∈ keep
  · rw [keepE_in e]; exact hk t e
  · rw [keepE_out e]
    unfold outV at ht
    rcases List.mem_append.1 ht with h | h
    · exact absurd h e
    · obtain ⟨h3, h4⟩ := List.mem_filter.1 h
      rw [hf t (by simpa using h4)]
      exact hs.val t h3

section
variable {P : Program} {D : Den} {N : Nat}

theorem run_sound (hD : SoundD P D) (hm : P.follows .mixedOrders = true) : ∀ (c : Code) {p : Plan} {V : List Nat} {F : Fl}, flow N c p V = some F →
    ∀ {ρ ρ' : Env} {w w' : World} {e : Exit}, run P D c p ρ w = some (e, ρ', w') → ∀ {a : Act}, Sim N V a ρ →
    ∀ Q : Exit → Act → World → Prop, (∀ a', SimAt N F a' ρ' e → (∀ t, t ∉ writes c → a'.tmps.getD t undef = a.tmps.getD t undef) → Q e a' w') → c.wp P Q a w := by
  intro c
  induction c with
  | skip =>
    intro p V F hF ρ ρ' w w' e hr a hs Q hQ
    simp only [flow, Option.some.injEq] at hF
    simp only [run, Option.some.injEq, Prod.mk.injEq] at hr
    obtain ⟨rfl, rfl, rfl⟩ := hr
    subst hF
    exact wp_skip (hQ a ⟨V, rfl, hs⟩ fun _ _ => rfl)
  | region id ops draw =>
    intro p V F hF ρ ρ' w w' e hr a hs Q hQ
    cases draw with
    | false =>
      cases p <;> simp only [flow] at hF <;> try cases hF
      rename_i keep
      simp only [run] at hr
      cases hV : okReg N ops ops.toList V with
      | none => rw [hV] at hF; cases hF
      | some V' =>
        rw [hV] at hF
        simp only at hF
        split at hF
        · rename_i hsub
          simp only [Option.some.injEq] at hF
          cases hl : runL P D ops ops.toList ρ w with
          | none => rw [hl] at hr; cases hr
          | some x =>
            obtain ⟨ρ1, w1⟩ := x
            rw [hl] at hr
            simp only [regK, Option.some.injEq, Prod.mk.injEq] at hr
            obtain ⟨rfl, rfl, rfl⟩ := hr
            subst hF
            obtain ⟨a', s', f', q'⟩ := runL_wp hD hV hs hl
            refine wp_region_list (q' Q ?_)
            exact hQ a' ⟨_, rfl, keep_sim hs s'.size s'.defers (fun t ht => s'.val t (sub_spec hsub t ht)) f'⟩ f'
        · cases hF
    | true =>
      cases p <;> simp only [flow] at hF <;> try cases hF
      rename_i keep effs fwd bwd
      simp only [run] at hr
      cases hV : okReg N ops ops.toList V with
      | none => rw [hV] at hF; cases hF
      | some V' =>
        rw [hV] at hF
        simp only at hF
        split at hF
        · rename_i hsub
          simp only [Bool.and_eq_true] at hsub
          simp only [Option.some.injEq] at hF
          cases hl : runD P D ops effs fwd bwd 0 ops.toList ρ w.drew [] with
          | none => rw [hl] at hr; cases hr
          | some x =>
            obtain ⟨ρ1, w1⟩ := x
            rw [hl] at hr
            simp only [regK, Option.some.injEq, Prod.mk.injEq] at hr
            obtain ⟨rfl, rfl, rfl⟩ := hr
            subst hF
            refine draw_wp hD hm hsub.2 hV hs hl Q fun a' h1 h2 h3 h4 => ?_
            refine hQ a' ⟨_, rfl, keep_sim hs h1 h2 (fun t ht => h3 t ?_) h4⟩ h4
            rcases List.mem_append.1 (sub_spec hsub.1 t ht) with h | h
            · exact .inr h
            · exact .inl h
        · cases hF
  | seq x y ihx ihy =>
    intro p V F hF ρ ρ' w w' e hr a hs Q hQ
    cases p <;> simp only [flow] at hF <;> try cases hF
    rename_i p q
    simp only [run] at hr
    cases hfx : flow N x p V with
    | none => rw [hfx] at hF; cases hF
    | some f =>
      rw [hfx] at hF
      simp only at hF
      cases hrx : run P D x p ρ w with
      | none => rw [hrx] at hr; cases hr
      | some o =>
        obtain ⟨e1, ρ1, w1⟩ := o
        rw [hrx] at hr
        refine wp_seq (ihx hfx hrx hs _ fun a1 s1 f1 => ?_)
        cases hn : f.nor with
        | none =>
          rw [hn] at hF
          simp only [Option.some.injEq] at hF
          subst hF
          cases e1 with
          | normal =>
            obtain ⟨V1, h1, _⟩ := s1
            rw [hn] at h1; cases h1
          | _ =>
            simp only [seqK, Option.some.injEq, Prod.mk.injEq] at hr
            obtain ⟨rfl, rfl, rfl⟩ := hr
            exact hQ a1 s1 fun t ht => f1 t fun hm => ht (List.mem_append_left _ hm)
        | some V1 =>
          rw [hn] at hF
          simp only at hF
          cases hfy : flow N y q V1 with
          | none => rw [hfy] at hF; cases hF
          | some g =>
            rw [hfy] at hF
            simp only [Option.some.injEq] at hF
            subst hF
            cases e1 with
            | normal =>
              obtain ⟨V2, h1, s1⟩ := s1
              rw [hn, Option.some.injEq] at h1
              subst h1
              simp only [seqK] at hr
              refine ihy hfy hr s1 Q fun a' s' f' => hQ a' ?_ fun t ht => ?_
              · cases e with
                | normal => exact s'
                | exit id =>
                  obtain ⟨W, h1, h2⟩ := s'
                  exact ⟨W, List.mem_append_right _ h1, h2⟩
                | ret =>
                  obtain ⟨W, h1, h2⟩ := s'
                  simp only [SimAt, h1]
                  exact meet_right h2
                | goto l => exact s'
                | panic ch => exact s'
                | outgrown => exact s'
              · rw [f' t fun hm => ht (List.mem_append_right _ hm), f1 t fun hm => ht (List.mem_append_left _ hm)]
            | _ =>
              simp only [seqK, Option.some.injEq, Prod.mk.injEq] at hr
              obtain ⟨rfl, rfl, rfl⟩ := hr
              refine hQ a1 ?_ fun t ht => f1 t fun hm => ht (List.mem_append_left _ hm)
              first
                | (obtain ⟨W, h1, h2⟩ := s1; exact ⟨W, List.mem_append_left _ h1, h2⟩)
                | (obtain ⟨W, h1, h2⟩ := s1; simp only [SimAt, h1]; exact meet_left h2)
                | exact s1
  | cond cnd x y ihx ihy =>
    intro p V F hF ρ ρ' w w' e hr a hs Q hQ
    cases p <;> simp only [flow] at hF <;> try cases hF
    rename_i p q
    split at hF
    · rename_i hc
      simp only [run] at hr
      cases hfx : flow N x p V with
      | none => rw [hfx] at hF; simp at hF
      | some f =>
        cases hfy : flow N y q V with
        | none => rw [hfx, hfy] at hF; simp at hF
        | some g =>
          rw [hfx, hfy] at hF
          simp only [Option.some.injEq] at hF
          subst hF
          have hev := eval_eq hs.val hc
          cases hcv : ev ρ cnd <;> rw [hcv] at hr <;> simp only [condK] at hr <;> try cases hr
          rename_i t
          refine wp_cond (t := t) (by rw [hev, hcv]) ?_
          cases t with
          | true =>
            simp only [if_true] at hr ⊢
            refine ihx hfx hr hs Q fun a' s' f' => hQ a' ?_ fun t ht => f' t fun hm => ht (List.mem_append_left _ hm)
            cases e with
            | normal =>
              obtain ⟨W, h1, h2⟩ := s'
              simp only [SimAt, h1]
              exact meet_left h2
            | exit id =>
              obtain ⟨W, h1, h2⟩ := s'
              exact ⟨W, List.mem_append_left _ h1, h2⟩
            | ret =>
              obtain ⟨W, h1, h2⟩ := s'
              simp only [SimAt, h1]
              exact meet_left h2
            | goto l => exact s'
            | panic ch => exact s'
            | outgrown => exact s'
          | false =>
            simp only [Bool.false_eq_true, if_false] at hr ⊢
            refine ihy hfy hr hs Q fun a' s' f' => hQ a' ?_ fun t ht => f' t fun hm => ht (List.mem_append_right _ hm)
            cases e with
            | normal =>
              obtain ⟨W, h1, h2⟩ := s'
              simp only [SimAt, h1]
              exact meet_right h2
            | exit id =>
              obtain ⟨W, h1, h2⟩ := s'
              exact ⟨W, List.mem_append_right _ h1, h2⟩
            | ret =>
              obtain ⟨W, h1, h2⟩ := s'
              simp only [SimAt, h1]
              exact meet_right h2
            | goto l => exact s'
            | panic ch => exact s'
            | outgrown => exact s'
    · cases hF
  | block id c ih =>
    intro p V F hF ρ ρ' w w' e hr a hs Q hQ
    cases p <;> simp only [flow] at hF <;> try cases hF
    rename_i p
    simp only [run] at hr
    cases hfx : flow N c p V with
    | none => rw [hfx] at hF; cases hF
    | some f =>
      rw [hfx] at hF
      simp only [Option.some.injEq] at hF
      subst hF
      cases hrx : run P D c p ρ w with
      | none => rw [hrx] at hr; cases hr
      | some o =>
        obtain ⟨e1, ρ1, w1⟩ := o
        rw [hrx] at hr
        refine wp_block (ih hfx hrx hs _ fun a1 s1 f1 => ?_)
        cases e1 with
        | normal =>
          simp only [blkK, Option.some.injEq, Prod.mk.injEq] at hr
          obtain ⟨rfl, rfl, rfl⟩ := hr
          obtain ⟨W, h1, h2⟩ := s1
          refine hQ a1 ?_ f1
          simp only [SimAt, h1]
          exact meets_nor h2
        | exit i =>
          simp only [blkK] at hr
          simp only [Exit.inBlock]
          split at hr
          · rename_i hid
            subst hid
            simp only [Option.some.injEq, Prod.mk.injEq] at hr
            obtain ⟨rfl, rfl, rfl⟩ := hr
            obtain ⟨W, h1, h2⟩ := s1
            rw [if_pos rfl]
            refine hQ a1 ?_ f1
            exact meets_ex h2 h1
          · rename_i hid
            simp only [Option.some.injEq, Prod.mk.injEq] at hr
            obtain ⟨rfl, rfl, rfl⟩ := hr
            rw [if_neg hid]
            exact hQ a1 s1 f1
        | _ =>
          simp only [blkK, Option.some.injEq, Prod.mk.injEq] at hr
          obtain ⟨rfl, rfl, rfl⟩ := hr
          exact hQ a1 s1 f1
  | loop c ih =>
    intro p V F hF ρ ρ' w w' e hr a hs Q hQ
    cases p <;> simp only [flow] at hF <;> try cases hF
    rename_i vs p
    split at hF
    · rename_i hsub
      simp only [run] at hr
      cases hfx : flow N c p (vs ++ V.filter fun t => !((writes c).contains t)) with
      | none => rw [hfx] at hF; cases hF
      | some f =>
        rw [hfx] at hF
        simp only at hF
        have hF' : F = ⟨none, f.exs, f.ret⟩ ∧ ∀ V1, f.nor = some V1 → sub vs V1 = true := by
          cases hn : f.nor with
          | none => rw [hn] at hF; simp only [Option.some.injEq] at hF; exact ⟨hF.symm, fun _ h => by cases h⟩
          | some V1 =>
            rw [hn] at hF
            simp only at hF
            split at hF
            · rename_i hs1
              simp only [Option.some.injEq] at hF
              exact ⟨hF.symm, fun W h => by cases h; exact hs1⟩
            · cases hF
        obtain ⟨rfl, hsub1⟩ := hF'
        cases hlr : loopR (fun st w => lopK vs (run P D c p (setE vs st ρ) w)) (getE vs ρ) w with
        | none => rw [hlr] at hr; cases hr
        | some x =>
          obtain ⟨⟨e1, ρ1⟩, w1⟩ := x
          rw [hlr] at hr
          simp only [outK, Option.some.injEq, Prod.mk.injEq] at hr
          obtain ⟨rfl, rfl, rfl⟩ := hr
          obtain ⟨n, hn⟩ := loopR_spec.1 hlr
          refine wp_loop_rounds n ?_
          have key : ∀ (n : Nat) (ρh : Env) (a1 : Act) (w2 : World), (∀ t, t ∉ vs → ρh t = ρh t) →
              loopN (fun st w => lopK vs (run P D c p (setE vs st ρ) w)) n (getE vs ρh) w2 = some ((e1, ρ1), w1) →
              Sim N (vs ++ V.filter fun t => !((writes c).contains t)) a1 (setE vs (getE vs ρh) ρ) →
              (∀ t, t ∉ writes c → a1.tmps.getD t undef = a.tmps.getD t undef) → Code.rounds P c Q n a1 w2 := by
            intro n
            induction n with
            | zero => intro ρh a1 w2 _ hl; cases hl
            | succ n ihn =>
              intro ρh a1 w2 _ hl hs1 hf1
              rw [rounds_succ]
              rw [loopN] at hl
              cases hrb : run P D c p (setE vs (getE vs ρh) ρ) w2 with
              | none => rw [hrb] at hl; simp [lopK] at hl
              | some o =>
                obtain ⟨e2, ρ2, w3⟩ := o
                rw [hrb] at hl
                refine ih hfx hrb hs1 _ fun a2 s2 f2 => ?_
                cases e2 with
                | normal =>
                  simp only [lopK] at hl
                  obtain ⟨V1, hv1, s2⟩ := s2
                  refine ihn ρ2 a2 w3 (fun _ _ => rfl) hl ⟨s2.size, s2.defers, ?_⟩ fun t ht => by rw [f2 t ht, hf1 t ht]
                  intro t ht
                  by_cases hv : t ∈ vs
                  · rw [setE_in hv]
                    exact s2.val t (sub_spec (hsub1 V1 hv1) t hv)
                  · rw [setE_out hv]
                    rcases List.mem_append.1 ht with h | h
                    · exact absurd h hv
                    · obtain ⟨h3, h4⟩ := List.mem_filter.1 h
                      have h5 : t ∉ writes c := by simpa using h4
                      rw [f2 t h5, hf1 t h5]
                      exact hs.val t h3
                | exit i =>
                  simp only [lopK, Option.some.injEq, Prod.mk.injEq] at hl
                  obtain ⟨⟨rfl, rfl⟩, rfl⟩ := hl
                  exact hQ a2 s2 fun t ht => by rw [f2 t ht, hf1 t ht]
                | ret =>
                  simp only [lopK, Option.some.injEq, Prod.mk.injEq] at hl
                  obtain ⟨⟨rfl, rfl⟩, rfl⟩ := hl
                  exact hQ a2 s2 fun t ht => by rw [f2 t ht, hf1 t ht]
                | goto l => exact s2.elim
                | panic ch => exact s2.elim
                | outgrown => exact s2.elim
          refine key n ρ a w (fun _ _ => rfl) hn ⟨hs.size, hs.defers, ?_⟩ fun _ _ => rfl
          intro t ht
          by_cases hv : t ∈ vs
          · rw [setE_in hv]; exact hs.val t (sub_spec hsub t hv)
          · rw [setE_out hv]
            rcases List.mem_append.1 ht with h | h
            · exact absurd h hv
            · exact hs.val t (List.mem_filter.1 h).1
    · cases hF
  | exit id =>
    intro p V F hF ρ ρ' w w' e hr a hs Q hQ
    simp only [flow, Option.some.injEq] at hF
    simp only [run, Option.some.injEq, Prod.mk.injEq] at hr
    obtain ⟨rfl, rfl, rfl⟩ := hr
    subst hF
    exact wp_exit (hQ a ⟨V, by simp, hs⟩ fun _ _ => rfl)
  | ret =>
    intro p V F hF ρ ρ' w w' e hr a hs Q hQ
    simp only [flow, Option.some.injEq] at hF
    simp only [run, Option.some.injEq, Prod.mk.injEq] at hr
    obtain ⟨rfl, rfl, rfl⟩ := hr
    subst hF
    exact wp_ret (hQ a ⟨V, rfl, hs⟩ fun _ _ => rfl)
  | rangeFunc f ps x y _ _ => intro p V F hF; simp [flow] at hF
  | scope c _ => intro p V F hF; simp [flow] at hF
  | label l => intro p V F hF; simp [flow] at hF
  | goto l => intro p V F hF; simp [flow] at hF
  | refuse s => intro p V F hF; simp [flow] at hF
end

def resT : ResultVar → Nat
  | .tmp t => t
  | .cell a _ => a
def okV (fn : Func) (V : Option (List Nat)) : Bool :=
  match V with
  | none => true
  | some V => sub (fn.results.toList.map resT) V
/-- The closed check of a function under its plan. -/
def okFn (fn : Func) (c : Code) (p : Plan) (nargs : Nat) : Bool :=
  decide (nargs ≤ fn.ntmps) &&
  match flow fn.ntmps c p (List.range fn.ntmps) with
  | some f => okV fn f.nor && okV fn f.ret
  | none => false

theorem results_eq {fn : Func} {tmps : Array Value} {ρ : Env} (h : ∀ t ∈ fn.results.toList.map resT, tmps.getD t undef = ρ t) : results fn tmps = resE fn ρ := by
  unfold results resE
  congr 1
  rw [Array.mapM_eq_mapM_toList, Array.mapM_eq_mapM_toList]
  congr 1
  have : ∀ (l : List ResultVar), (∀ t ∈ l.map resT, tmps.getD t undef = ρ t) →
      (l.mapM fun | .tmp t => pure (tmps.getD t undef) | .cell a t => do loadVar t (← asAddr (tmps.getD a undef)) : Sem (List Value)) =
      (l.mapM (resS ρ) : Sem (List Value)) := by
    intro l
    induction l with
    | nil => intro _; rfl
    | cons x r ih =>
      intro hx
      rw [List.mapM_cons, List.mapM_cons, ih fun t ht => hx t (by simp only [List.map_cons]; exact List.mem_cons_of_mem _ ht)]
      have h0 := hx (resT x) (by simp)
      cases x with
      | tmp t => simp only [resT] at h0; dsimp only [resS]; rw [h0]
      | cell a t => simp only [resT] at h0; dsimp only [resS]; rw [h0]
  exact this _ h

theorem den_of_run {P : Program} {f : FuncId} {fn : Func} {c : Code} {p : Plan} {args : List Value} {w w' : World} {v : Value}
    (hf : P.funcs[f]? = some fn) (hb : fn.body = some c) (hm : P.follows .mixedOrders = true) (hi : P.inits.idxOf? f = none)
    (hok : okFn fn c p args.length = true) (h : runFn P (den P) fn c p args w = some (v, w')) : den P f args.toArray w = some (v, w') := by
  refine den_of_exa hi (calls_of_wp hf hb ?_)
  unfold okFn at hok
  simp only [Bool.and_eq_true, decide_eq_true_eq] at hok
  obtain ⟨hn, hok⟩ := hok
  split at hok
  · rename_i F hF
    simp only [Bool.and_eq_true] at hok
    unfold runFn at h
    cases hr : run P (den P) c p (env0 args) w with
    | none => rw [hr] at h; cases h
    | some o =>
      obtain ⟨e, ρ, w1⟩ := o
      rw [hr] at h
      have hs : Sim fn.ntmps (List.range fn.ntmps) { tmps := args.toArray ++ Array.replicate (fn.ntmps - args.toArray.size) undef, defers := [] } (env0 args) := by
        refine ⟨by simp; omega, rfl, ?_⟩
        intro t ht
        unfold env0
        simp only [Array.getD_eq_getD_getElem?, List.getD_eq_getElem?_getD]
        by_cases hlt : t < args.length
        · rw [Array.getElem?_append_left (by simpa using hlt)]
          simp
        · rw [Array.getElem?_append_right (by simpa using hlt)]
          rw [Array.getElem?_replicate]
          split <;> simp [hlt]
      refine run_sound (den_sound P) hm c hF hr hs _ fun a' s' _ => ?_
      have fin : ∀ V, okV fn (some V) = true → Sim fn.ntmps V a' ρ → (resK P fn (some (.normal, ρ, w1)) = some (v, w')) →
          a'.defers = [] ∧ ∃ v1, (results fn a'.tmps).run P w1 = .ok v1 w1 ∧ (Ending.returned v1 = .returned v ∧ w1 = w') := by
        intro V hV s h
        refine ⟨s.defers, ?_⟩
        rw [results_eq (ρ := ρ) fun t ht => s.val t (sub_spec hV t ht)]
        simp only [resK] at h
        split at h
        · rename_i v1 w2 hres
          simp only [Option.bind_eq_some_iff, grd_spec] at h
          obtain ⟨_, rfl, h⟩ := h
          simp only [Option.some.injEq, Prod.mk.injEq] at h
          exact ⟨v1, hres, by rw [h.1], h.2⟩
        · cases h
      cases e with
      | normal =>
        obtain ⟨V, h1, h2⟩ := s'
        rw [h1] at hok
        exact fin V hok.1 h2 h
      | ret =>
        obtain ⟨V, h1, h2⟩ := s'
        rw [h1] at hok
        exact fin V hok.2 h2 h
      | _ => simp [resK] at h
  · cases hok
end Go.Proofs.Ytpgfokhpacdhjaa.Fd
