/-
  What 'run' computes is what the machine does (IV): drawn regions, bodies, calls.
-/
import Derived.Test.YtpgfokhpacdhjaaFd4
namespace Go.Proofs.Ytpgfokhpacdhjaa.Fd
set_option linter.unusedSimpArgs false
set_option linter.unusedVariables false
open Go

section
variable {P : Program} {D : Den} {N : Nat} {ops : Array Oper} {effs : List Nat} {fwd bwd : List (Nat × List Nat)} {V : List Nat} {es : Nat → Env} {vs : Nat → Value} {ws : Nat → World}

/-- From a state of a drawn region every order comes to the state behind the text's order. -/
theorem any_of_inv (hD : SoundD P D) (C : Chk N ops effs fwd bwd V) (T : Trc P D ops effs fwd bwd 0 ops.size es vs ws) {Q : Exit → Act → World → Prop} {F : Act → Prop}
    (hF : ∀ (a : Act) (i : Nat) (o : Oper) (v : Value), ops[i]? = some o → a.tmps.size = N → (∀ k, o.dst = some k → k < N) → F a → F (a.put o.dst v))
    (hQ : ∀ a, F a → Inv N ops effs V (es 0) vs ws (fun i => decide (i < ops.size)) a (ws ops.size) → Q .normal a (ws ops.size)) :
    ∀ (fuel : Nat) (listed : Array Bool) (a : Act) (w : World), listed.size = ops.size → listed.toList.count false = fuel → F a →
      Inv N ops effs V (es 0) vs ws (fun i => listed.getD i false) a w → wpAny P .any ops Q fuel listed a w := by
  have rdy : ∀ (listed : Array Bool), listed.size = ops.size → ∀ i, i ∈ Region.ready .any ops listed ↔
      ∃ o, ops[i]? = some o ∧ listed.getD i false = false ∧ ∀ e ∈ o.after, bindsA e = true → listed.getD e.on false = true := by
    intro listed hs i
    unfold Region.ready
    simp only [List.mem_filter, List.mem_range, Bool.and_eq_true, Bool.not_eq_true']
    constructor
    · rintro ⟨hi, hl, ho⟩
      have hoi : ops[i]? = some ops[i] := by simp [hi]
      refine ⟨_, hoi, ?_, ?_⟩
      · have : i < listed.size := by omega
        simpa [Array.getD, this] using hl
      · rw [hoi] at ho
        simp only [Option.map_some, Option.getD_some, Array.all_eq_true_iff_forall_mem] at ho
        intro e he hb
        have := ho e he
        rw [show Region.binds .any e = bindsA e from rfl, hb] at this
        simpa using this
    · rintro ⟨o, ho, hl, hr⟩
      have hi : i < ops.size := by rw [Array.getElem?_eq_some_iff] at ho; exact ho.1
      refine ⟨hi, ?_, ?_⟩
      · have : i < listed.size := by omega
        simpa [Array.getD, this] using hl
      · rw [ho]
        simp only [Option.map_some, Option.getD_some, Array.all_eq_true_iff_forall_mem]
        intro e he
        cases hb : bindsA e with
        | false => rw [show Region.binds .any e = bindsA e from rfl, hb]; rfl
        | true => rw [hr e he hb]; simp
  have full : ∀ (listed : Array Bool) (a : Act) (w : World), listed.size = ops.size → F a → Inv N ops effs V (es 0) vs ws (fun i => listed.getD i false) a w →
      Region.ready .any ops listed = [] → Q .normal a w := by
    intro listed a w hs hf I hr
    have hall : ∀ n, ∀ i, i < n → i < ops.size → listed.getD i false = true := by
      intro n
      induction n with
      | zero => intro i h; omega
      | succ n ih =>
        intro i hin hi
        cases hl : listed.getD i false with
        | true => rfl
        | false =>
          exfalso
          have : i ∈ Region.ready .any ops listed := (rdy listed hs i).2 ⟨ops[i], by simp [hi], hl, fun e he hb => by
            have := C.edge i ops[i] e (by simp [hi]) he hb
            exact ih e.on (by omega) (by omega)⟩
          rw [hr] at this
          cases this
    have hSe : ∀ i, i < ops.size → listed.getD i false = decide (i < ops.size) := fun i hi => by rw [hall (i + 1) i (by omega) hi]; simp [hi]
    have hw : w = ws ops.size := by
      rw [I.wld, wA_congr (S' := fun m => decide (m < ops.size)) (fun j hj _ => hSe j hj), wA_below T (Nat.le_refl _), Nat.min_self]
    subst hw
    refine hQ a hf ⟨I.size, I.defers, ?_, ?_, ?_⟩
    · intro i o e hi ho he hb
      have := C.edge i o e ho he hb
      have hi' : i < ops.size := by simpa using hi
      simp
      omega
    · intro t ht
      rw [I.val t ?_]
      · exact envA_congr fun j hj _ => hSe j hj
      · rcases ht with h | ⟨j, h1, h2, h3⟩
        · exact .inl h
        · exact .inr ⟨j, h1, by rw [hSe j h1]; exact h2, h3⟩
    · rw [wA_below T (Nat.le_refl _), Nat.min_self]
  intro fuel
  induction fuel with
  | zero =>
    intro listed a w hs hc hf I
    have hr : Region.ready .any ops listed = [] := by
      cases hrr : Region.ready .any ops listed with
      | nil => rfl
      | cons i r =>
        exfalso
        have hm : i ∈ Region.ready .any ops listed := by rw [hrr]; exact List.mem_cons_self
        obtain ⟨o, ho, hl, _⟩ := (rdy listed hs i).1 hm
        have hi : i < ops.size := by rw [Array.getElem?_eq_some_iff] at ho; exact ho.1
        have hi' : i < listed.size := by omega
        rw [List.count_eq_zero] at hc
        refine hc ?_
        simp [Array.getD, hi'] at hl
        exact Array.mem_toList_iff.2 (hl ▸ Array.getElem_mem hi')
    exact ⟨hr, full listed a w hs hf I hr⟩
  | succ fuel ih =>
    intro listed a w hs hc hf I
    refine ⟨full listed a w hs hf I, ?_⟩
    intro i hm
    obtain ⟨o, ho, hl, hr⟩ := (rdy listed hs i).1 hm
    have hi : i < ops.size := by rw [Array.getElem?_eq_some_iff] at ho; exact ho.1
    have hi' : i < listed.size := by omega
    have hnext := I.next C T ho hl hr
    obtain ⟨W, hok, hW⟩ := C.oper i o ho
    have hval : ∀ t ∈ W, t ∈ namesOf ops o → a.tmps.getD t undef = envA ops vs (es 0) (fun i => listed.getD i false) ops.size t := by
      intro t ht hn
      refine I.val t ?_
      rcases hW t ht with h | ⟨j, h1, h2⟩
      · exact .inl h
      · refine .inr ⟨j, by omega, ?_, h2⟩
        have := I.names C ho hl hr hn (j := j) (by omega) (by omega) h2
        simpa [h1] using this
    have hok' : okOper N ops o (W.filter fun t => (namesOf ops o).contains t) = true := by
      simp only [okOper, Bool.and_eq_true] at hok ⊢
      refine ⟨⟨⟨hok.1.1.1, ?_⟩, hok.1.2⟩, ?_⟩
      · refine List.all_eq_true.2 fun x hx => ?_
        have := List.all_eq_true.1 hok.1.1.2 x hx
        cases x with
        | tmp t =>
          simp only [opnd] at this ⊢
          simp only [List.contains_eq_mem, List.mem_filter, decide_eq_true_eq] at this ⊢
          refine ⟨this, ?_⟩
          unfold namesOf
          exact List.mem_append_left _ (List.mem_append_right _ (List.mem_filterMap.2 ⟨.tmp t, hx, rfl⟩))
        | _ => rfl
      · have h4 := hok.2
        cases hg : o.guard with
        | none => rfl
        | some g =>
          obtain ⟨j, b⟩ := g
          rw [hg] at h4
          simp only at h4 ⊢
          cases hd : (ops[j]?).bind (·.dst) with
          | none => rfl
          | some d =>
            rw [hd] at h4
            simp only [List.contains_eq_mem, List.mem_filter, decide_eq_true_eq] at h4 ⊢
            refine ⟨h4, ?_⟩
            unfold namesOf
            refine List.mem_append_right _ ?_
            rw [hg]
            simp [dstN, hd]
    have hSnew : ∀ k, (listed.setIfInBounds i true).getD k false = (listed.getD k false || k == i) := by
      intro k
      by_cases e : i = k
      · subst e; simp [hi']
      · have : (k == i) = false := by simp; exact fun h => e h.symm
        simp [Array.getElem?_setIfInBounds_ne e, this]
    have hfun : (fun k => (listed.setIfInBounds i true).getD k false) = fun k => (listed.getD k false || k == i) := funext hSnew
    unfold wpOp
    rw [ho]
    refine step_wp hD (V := W.filter fun t => (namesOf ops o).contains t) (fun t ht => hval t (List.mem_filter.1 ht).1 (by simpa using (List.mem_filter.1 ht).2)) hok' hnext ?_
    refine ih _ _ _ (by simpa using hs) ?_ (hF a i o _ ho I.size (okOper_dst hok) hf) ?_
    · rw [Array.toList_setIfInBounds, List.count_set (by simpa using hi')]
      simp [Array.getD, hi'] at hl
      simp [hl, hc]
    · rw [hfun]
      refine ⟨by rw [put_size]; exact I.size, by rw [put_defers]; exact I.defers, ?_, ?_, rfl⟩
      · intro k ok e hk hok hm hb
        by_cases e1 : k = i
        · subst e1
          rw [ho] at hok
          cases hok
          rw [hr e hm hb]; rfl
        · have hk' : listed.getD k false = true := by simpa [e1] using hk
          have := I.closed k ok e hk' hok hm hb
          rw [this]; rfl
      · intro t ht
        have hbnd : ∀ k, o.dst = some k → k < a.tmps.size := by rw [I.size]; exact okOper_dst hok
        rw [put_getD hbnd]
        by_cases hd : o.dst = some t
        · rw [if_pos hd]
          refine (envA_last (i := i) (by simp) (by simp [dstN, ho, hd]) hi fun j h1 h2 h3 h4 => ?_).symm
          have hn : t ∈ namesOf ops o := by
            unfold namesOf
            rw [hd]
            exact List.mem_append_left _ (List.mem_append_left _ (by simp))
          have := I.names C ho hl hr hn (j := j) h2 (by omega) h4
          have h5 : (j == i) = false := by simp; omega
          rw [h5, Bool.or_false] at h3
          rw [this] at h3
          simp at h3
          omega
        · rw [if_neg hd]
          have hcg : envA ops vs (es 0) (fun k => (listed.getD k false || k == i)) ops.size t = envA ops vs (es 0) (fun i => listed.getD i false) ops.size t := by
            refine envA_congr fun j hj hdj => ?_
            by_cases e : j = i
            · subst e
              exfalso
              refine hd ?_
              simpa [dstN, ho] using hdj
            · simp [e]
          rw [hcg]
          refine I.val t ?_
          rcases ht with h | ⟨j, h1, h2, h3⟩
          · exact .inl h
          · refine .inr ⟨j, h1, ?_, h3⟩
            by_cases e : j = i
            · subst e
              exfalso
              refine hd ?_
              simpa [dstN, ho] using h3
            · simpa [e] using h2

theorem draw_wp (hD : SoundD P D) (hm : P.follows .mixedOrders = true) {V' : List Nat} {a : Act} {ρ ρ' : Env} {w w' : World} {id : Nat}
    (hok : okDraw ops effs fwd bwd = true) (hV : okReg N ops ops.toList V = some V') (hs : Sim N V a ρ)
    (hr : runD P D ops effs fwd bwd 0 ops.toList ρ w.drew [] = some (ρ', w')) (Q : Exit → Act → World → Prop)
    (hQ : ∀ a', a'.tmps.size = N → a'.defers = [] → (∀ t, (t ∈ V ∨ t ∈ dstsOf ops.toList) → a'.tmps.getD t undef = ρ' t) →
      (∀ t, t ∉ dstsOf ops.toList → a'.tmps.getD t undef = a.tmps.getD t undef) → Q .normal a' w') :
    (Code.region id ops true).wp P Q a w := by
  have C := chk_of hok hV
  obtain ⟨es, vs, ws, T, e1, e2, e3, e4, _⟩ := runD_trc hr rfl (fun i o hi => by simpa using hi)
  simp only [Nat.zero_add, Array.length_toList] at T e3 e4
  refine wp_region_any hm (any_of_inv hD C T (F := fun a' => ∀ t, t ∉ dstsOf ops.toList → a'.tmps.getD t undef = a.tmps.getD t undef) ?_ ?_ _ _ _ _ (by simp) ?_ ?_ ?_)
  · intro a1 i o v ho h1 h2 h3 t ht
    rw [put_getD (by rw [h1]; exact h2), if_neg]
    · exact h3 t ht
    · intro e
      refine ht ?_
      unfold dstsOf
      exact List.mem_filterMap.2 ⟨o, Array.mem_toList_iff.2 (Array.mem_of_getElem? ho), e⟩
  · intro a' hf I
    rw [e4]
    refine hQ a' I.size I.defers (fun t ht => ?_) hf
    rw [I.val t ?_, envA_below (Nat.le_refl _), envA_all T (Nat.le_refl _), e3]
    rcases ht with h | h
    · exact .inl h
    · unfold dstsOf at h
      rw [List.mem_filterMap] at h
      obtain ⟨o, ho, hd⟩ := h
      obtain ⟨j, hj, hjo⟩ := Array.mem_iff_getElem.1 (Array.mem_toList_iff.1 ho)
      exact .inr ⟨j, hj, by simp [hj], by simp [dstN, hj, hjo, hd]⟩
  · simp
  · exact fun _ _ => rfl
  · refine ⟨hs.size, hs.defers, ?_, ?_, ?_⟩
    · intro i o e hi
      simp [Array.getD] at hi
    · intro t ht
      have hS : (fun i => (Array.replicate ops.size false).getD i false) = fun _ => false := by
        funext i
        simp [Array.getD]
      rw [hS]
      have hno : ∀ k, envA ops vs (es 0) (fun _ => false) k = es 0 := by
        intro k
        induction k with
        | zero => rfl
        | succ k ih => simp [envA, ih]
      rw [hno, e1]
      rcases ht with h | ⟨j, _, h2, _⟩
      · exact hs.val t h
      · simp [Array.getD] at h2
    · have hS : (fun i => (Array.replicate ops.size false).getD i false) = fun _ => false := by
        funext i
        simp [Array.getD]
      rw [hS]
      have hno : ∀ k, wA effs ws (fun _ => false) k = ws 0 := by
        intro k
        induction k with
        | zero => rfl
        | succ k ih => simp [wA, ih]
      rw [hno, e2]
      rfl
end
end Go.Proofs.Ytpgfokhpacdhjaa.Fd
