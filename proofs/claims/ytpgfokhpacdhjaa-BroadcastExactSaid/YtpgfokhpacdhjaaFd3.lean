/-
  What 'run' computes is what the machine does (II): regions whose order is drawn: every order that the edges allow comes to the same end.
-/
import Derived.Test.YtpgfokhpacdhjaaFd2
namespace Go.Proofs.Ytpgfokhpacdhjaa.Fd
set_option linter.unusedSimpArgs false
set_option linter.unusedVariables false
open Go

/-- The kinds of operations that look at no memory. -/
def pureOp : Op → Bool
  | .move _ | .assign _ | .pick .. | .extract .. => true
  | _ => false
theorem pureOp_spec {P : Program} {D : Den} {o : Oper} {e : Operand → Value} {w w1 : World} {v : Value} (hp : pureOp o.op = true)
    (h : opS P D o e w = some (v, w1)) : w1 = w ∧ ∀ w2, opS P D o e w2 = some (v, w2) := by
  obtain ⟨dst, op, type, pos, after, guard⟩ := o
  cases op <;> simp only [pureOp] at hp <;> try cases hp
  case move x => simp_all [opS, execOp]
  case assign x => simp_all [opS, execOp]
  case pick c a b =>
    simp only [opS, execOp] at h ⊢
    cases hc : e c <;> simp_all [asBool]
  case extract t ix =>
    simp only [opS, execOp, Instr.extract] at h ⊢
    cases ht : e t <;> simp_all
    rename_i xs
    cases hx : xs[ix]? <;> simp_all

def dstN (ops : Array Oper) (i : Nat) : Option Nat := (ops[i]?).bind (·.dst)
def opTmp : Operand → Option Nat
  | .tmp t => some t
  | _ => none
def namesOf (ops : Array Oper) (o : Oper) : List Nat :=
  o.dst.toList ++ o.op.operands.toList.filterMap opTmp ++
  (match o.guard with
    | none => []
    | some (j, _) => (dstN ops j).toList)
def bef (B : Array Nat) (i j : Nat) : Bool := decide (j < i) && (B.getD i 0).testBit j
def allN (n : Nat) (p : Nat → Bool) : Bool := (List.range n).all p
theorem allN_spec {n : Nat} {p : Nat → Bool} (h : allN n p = true) {i : Nat} (hi : i < n) : p i = true := List.all_eq_true.1 h i (List.mem_range.2 hi)
def bindsA (e : Edge) : Bool := Region.binds .any e
/-- The check of a region whose order is drawn. -/
def okDraw (ops : Array Oper) (effs : List Nat) (fwd bwd : List (Nat × List Nat)) : Bool :=
  let n := ops.size
  let B := Region.before ops
  (allN n fun i => match ops[i]? with
    | none => false
    | some o =>
      (o.after.toList.all fun e => !bindsA e || decide (e.on < i)) &&
      (allN n fun j => !(bef B i j) || (o.after.toList.any fun e => bindsA e && (e.on == j || bef B e.on j))) &&
      (allN n fun j => j == i || match dstN ops j with
        | none => true
        | some d => !((namesOf ops o).contains d) || bef B (max i j) (min i j)) &&
      (allN n fun j => !(effs.contains j) || j == i ||
        (if effs.contains i then bef B (max i j) (min i j)
         else pureOp o.op || (if i < j then bef B j i || (lookL fwd j).contains i else bef B i j || (lookL bwd i).contains j))) &&
      ((lookL fwd i).all fun j => decide (j < i)) && ((lookL bwd i).all fun j => decide (j < i)))

/-- What a run in the order of the text has seen. -/
structure Trc (P : Program) (D : Den) (ops : Array Oper) (effs : List Nat) (fwd bwd : List (Nat × List Nat)) (k n : Nat) (es : Nat → Env) (vs : Nat → Value) (ws : Nat → World) : Prop where
  put : ∀ i, k ≤ i → i < n → es (i + 1) = (es i).put (dstN ops i) (vs i)
  st : ∀ i o, k ≤ i → i < n → ops[i]? = some o → stepO P D ops o (es i) (ws i) = some (vs i, ws (i + 1))
  ne : ∀ i, k ≤ i → i < n → i ∉ effs → ws (i + 1) = ws i
  fw : ∀ i o j, k ≤ i → i < n → ops[i]? = some o → j ∈ lookL fwd i → ∃ oj, ops[j]? = some oj ∧ stepO P D ops oj (es j) (ws (i + 1)) = some (vs j, ws (i + 1))
  bw : ∀ i o j, k ≤ i → i < n → ops[i]? = some o → j ∈ lookL bwd i → stepO P D ops o (es i) (ws j) = some (vs i, ws j)

theorem runD_trc {P : Program} {D : Den} {ops : Array Oper} {effs : List Nat} {fwd bwd : List (Nat × List Nat)} : ∀ {l : List Oper} {k : Nat} {ρ ρ' : Env} {w w' : World} {h : List (Value × World × Env)},
    runD P D ops effs fwd bwd k l ρ w h = some (ρ', w') → h.length = k → (∀ i o, l[i]? = some o → ops[k + i]? = some o) →
    ∃ es vs ws, Trc P D ops effs fwd bwd k (k + l.length) es vs ws ∧ es k = ρ ∧ ws k = w ∧ es (k + l.length) = ρ' ∧ ws (k + l.length) = w' ∧
      ∀ i y, h[i]? = some y → vs i = y.1 ∧ ws i = y.2.1 ∧ es i = y.2.2 := by
  intro l
  induction l with
  | nil =>
    intro k ρ ρ' w w' h hr hk _
    simp only [runD, Option.some.injEq, Prod.mk.injEq] at hr
    obtain ⟨rfl, rfl⟩ := hr
    refine ⟨fun i => if i = k then ρ else ((h[i]?).map (·.2.2)).getD ρ, fun i => ((h[i]?).map (·.1)).getD undef, fun i => if i = k then w else ((h[i]?).map (·.2.1)).getD w, ⟨?_, ?_, ?_, ?_, ?_⟩, by simp, by simp, by simp, by simp, ?_⟩
    · intro i h1 h2; simp at h2; omega
    · intro i o h1 h2; simp at h2; omega
    · intro i h1 h2; simp at h2; omega
    · intro i o j h1 h2; simp at h2; omega
    · intro i o j h1 h2; simp at h2; omega
    · intro i y hy
      have : i ≠ k := by
        intro e
        subst e
        rw [← hk] at hy
        simp at hy
      simp [hy, this]
  | cons o r ih =>
    intro k ρ ρ' w w' h hr hk hl
    simp only [runD, Option.bind_eq_some_iff] at hr
    obtain ⟨⟨v, w1⟩, hst, u1, g1, u2, g2, u3, g3, hr⟩ := hr
    rw [grd_spec] at g1 g2 g3
    obtain ⟨es, vs, ws, T, e1, e2, e3, e4, e5⟩ := ih hr (by simp [hk]) (fun i o' hi => by
      have := hl (i + 1) o' (by simpa using hi)
      rwa [show k + 1 + i = k + (i + 1) from by omega])
    have hk0 : ops[k]? = some o := by simpa using hl 0 o (by simp)
    have hvk : vs k = v ∧ ws k = w ∧ es k = ρ := e5 k (v, w, ρ) (by rw [← hk]; simp)
    have hold : ∀ (i : Nat) (y : Value × World × Env), h[i]? = some y → vs i = y.1 ∧ ws i = y.2.1 ∧ es i = y.2.2 := by
      intro i y hy
      refine e5 i y ?_
      rw [List.getElem?_append_left (by
        have := List.getElem?_eq_some_iff.1 hy
        exact this.1)]
      exact hy
    have hlen : k + (o :: r).length = k + 1 + r.length := by simp; omega
    rw [hlen]
    refine ⟨es, vs, ws, ⟨?_, ?_, ?_, ?_, ?_⟩, hvk.2.2, hvk.2.1, e3, e4, hold⟩
    · intro i h1 h2
      by_cases e : i = k
      · subst e
        simp [e1, dstN, hk0, hvk.1, hvk.2.2]
      · exact T.put i (by omega) h2
    · intro i o' h1 h2 ho
      by_cases e : i = k
      · subst e
        rw [hk0] at ho
        cases ho
        rw [e2, hvk.1, hvk.2.1, hvk.2.2]
        exact hst
      · exact T.st i o' (by omega) h2 ho
    · intro i h1 h2 he
      by_cases e : i = k
      · subst e
        rcases g1 with g1 | g1
        · exact absurd g1 he
        · rw [e2, hvk.2.1]; exact g1
      · exact T.ne i (by omega) h2 he
    · intro i o' j h1 h2 ho hj
      by_cases e : i = k
      · subst e
        obtain ⟨oj, y, hoj, hy, hs⟩ := allP_mem g2 j hj
        refine ⟨oj, hoj, ?_⟩
        have := hold j y hy
        rw [e2, this.1, this.2.2]
        exact hs
      · exact T.fw i o' j (by omega) h2 ho hj
    · intro i o' j h1 h2 ho hj
      by_cases e : i = k
      · subst e
        rw [hk0] at ho
        cases ho
        obtain ⟨y, hy, hs⟩ := allP_mem g3 j hj
        have := hold j y hy
        rw [hvk.1, hvk.2.2, this.2.1]
        exact hs
      · exact T.bw i o' j (by omega) h2 ho hj

/-! the state behind a set of operations -/
def envA (ops : Array Oper) (vs : Nat → Value) (ρ : Env) (S : Nat → Bool) : Nat → Env
  | 0 => ρ
  | k + 1 => if S k then (envA ops vs ρ S k).put (dstN ops k) (vs k) else envA ops vs ρ S k
def wA (effs : List Nat) (ws : Nat → World) (S : Nat → Bool) : Nat → World
  | 0 => ws 0
  | k + 1 => if S k && effs.contains k then ws (k + 1) else wA effs ws S k

theorem envA_congr {ops : Array Oper} {vs : Nat → Value} {ρ : Env} {S S' : Nat → Bool} {t : Nat} : ∀ {k : Nat},
    (∀ j, j < k → dstN ops j = some t → S j = S' j) → envA ops vs ρ S k t = envA ops vs ρ S' k t := by
  intro k
  induction k with
  | zero => intro _; rfl
  | succ k ih =>
    intro h
    have ih' := ih fun j hj => h j (by omega)
    have key : ∀ S, envA ops vs ρ S (k + 1) t = if S k = true ∧ dstN ops k = some t then vs k else envA ops vs ρ S k t := by
      intro S
      simp only [envA]
      by_cases hs : S k = true
      · simp [hs, Env.put_eq]
      · simp [hs]
    rw [key S, key S', ih']
    by_cases hd : dstN ops k = some t
    · rw [h k (by omega) hd]
    · simp [hd]

theorem envA_last {ops : Array Oper} {vs : Nat → Value} {ρ : Env} {S : Nat → Bool} {t i : Nat} (hi : S i = true) (hd : dstN ops i = some t) : ∀ {k : Nat},
    i < k → (∀ j, i < j → j < k → S j = true → dstN ops j ≠ some t) → envA ops vs ρ S k t = vs i := by
  intro k
  induction k with
  | zero => intro h; omega
  | succ k ih =>
    intro hk h
    simp only [envA]
    by_cases e : i = k
    · subst e
      simp [hi, Env.put_eq, hd]
    · have ih' := ih (by omega) fun j h1 h2 => h j h1 (by omega)
      by_cases hs : S k = true
      · rw [if_pos hs, Env.put_eq, if_neg (h k (by omega) (by omega) hs)]
        exact ih'
      · rw [if_neg hs]
        exact ih'

theorem envA_all {P : Program} {D : Den} {ops : Array Oper} {effs : List Nat} {fwd bwd : List (Nat × List Nat)} {n : Nat} {es : Nat → Env} {vs : Nat → Value} {ws : Nat → World}
    (T : Trc P D ops effs fwd bwd 0 n es vs ws) : ∀ {k : Nat}, k ≤ n → envA ops vs (es 0) (fun _ => true) k = es k := by
  intro k
  induction k with
  | zero => intro _; rfl
  | succ k ih =>
    intro hk
    simp only [envA, if_true]
    rw [ih (by omega), T.put k (by omega) (by omega)]

theorem envA_below {ops : Array Oper} {vs : Nat → Value} {ρ : Env} {i t : Nat} : ∀ {k : Nat}, i ≤ k →
    envA ops vs ρ (fun j => decide (j < i)) k t = envA ops vs ρ (fun _ => true) i t := by
  intro k
  induction k with
  | zero => intro h; rw [show i = 0 from by omega]; rfl
  | succ k ih =>
    intro h
    by_cases e : i = k + 1
    · subst e
      exact envA_congr fun j hj _ => by simp [hj]
    · have := ih (by omega)
      simp only [envA]
      rw [if_neg (by simp; omega)]
      exact this

theorem wA_congr {effs : List Nat} {ws : Nat → World} {S S' : Nat → Bool} : ∀ {k : Nat}, (∀ j, j < k → j ∈ effs → S j = S' j) → wA effs ws S k = wA effs ws S' k := by
  intro k
  induction k with
  | zero => intro _; rfl
  | succ k ih =>
    intro h
    simp only [wA]
    rw [ih fun j hj => h j (by omega)]
    by_cases he : k ∈ effs
    · rw [h k (by omega) he]
    · simp [he]

theorem wA_below {P : Program} {D : Den} {ops : Array Oper} {effs : List Nat} {fwd bwd : List (Nat × List Nat)} {n : Nat} {es : Nat → Env} {vs : Nat → Value} {ws : Nat → World}
    (T : Trc P D ops effs fwd bwd 0 n es vs ws) {i : Nat} : ∀ {k : Nat}, k ≤ n → wA effs ws (fun j => decide (j < i)) k = ws (min i k) := by
  intro k
  induction k with
  | zero => intro _; simp [wA]
  | succ k ih =>
    intro hk
    have ih' := ih (by omega)
    simp only [wA]
    by_cases hki : k < i
    · rw [show min i (k + 1) = k + 1 from by omega]
      by_cases he : k ∈ effs
      · simp [hki, he]
      · rw [if_neg (by simp [he]), ih', show min i k = k from by omega]
        exact (T.ne k (by omega) (by omega) he).symm
    · rw [if_neg (by simp [hki]), ih']
      congr 1
      omega

/-- The state of the machine when the operations S have run. -/
structure Inv (N : Nat) (ops : Array Oper) (effs : List Nat) (V : List Nat) (ρ : Env) (vs : Nat → Value) (ws : Nat → World) (S : Nat → Bool) (a : Act) (w : World) : Prop where
  size : a.tmps.size = N
  defers : a.defers = []
  closed : ∀ i o e, S i = true → ops[i]? = some o → e ∈ o.after → bindsA e = true → S e.on = true
  val : ∀ t, (t ∈ V ∨ ∃ j, j < ops.size ∧ S j = true ∧ dstN ops j = some t) → a.tmps.getD t undef = envA ops vs ρ S ops.size t
  wld : w = wA effs ws S ops.size

structure Chk (N : Nat) (ops : Array Oper) (effs : List Nat) (fwd bwd : List (Nat × List Nat)) (V : List Nat) : Prop where
  edge : ∀ i o e, ops[i]? = some o → e ∈ o.after → bindsA e = true → e.on < i
  befs : ∀ i o j, ops[i]? = some o → j < i → bef (Region.before ops) i j = true → ∃ e ∈ o.after, bindsA e = true ∧ (e.on = j ∨ bef (Region.before ops) e.on j = true)
  name : ∀ i o j d, ops[i]? = some o → j < ops.size → j ≠ i → dstN ops j = some d → d ∈ namesOf ops o → bef (Region.before ops) (max i j) (min i j) = true
  effe : ∀ i j, i < ops.size → j < ops.size → i ∈ effs → j ∈ effs → j ≠ i → bef (Region.before ops) (max i j) (min i j) = true
  effn : ∀ i o j, ops[i]? = some o → j < ops.size → i ∉ effs → j ∈ effs → j ≠ i → pureOp o.op = true ∨ (i < j ∧ (bef (Region.before ops) j i = true ∨ i ∈ lookL fwd j)) ∨ (j < i ∧ (bef (Region.before ops) i j = true ∨ j ∈ lookL bwd i))
  oper : ∀ i o, ops[i]? = some o → ∃ W, okOper N ops o W = true ∧ ∀ t ∈ W, t ∈ V ∨ ∃ j, j < i ∧ dstN ops j = some t

theorem okReg_oper {N : Nat} {ops : Array Oper} {V0 : List Nat} : ∀ {l : List Oper} {k : Nat} {V V' : List Nat}, okReg N ops l V = some V' →
    (∀ i o, l[i]? = some o → ops[k + i]? = some o) → (∀ t ∈ V, t ∈ V0 ∨ ∃ j, j < k ∧ dstN ops j = some t) →
    ∀ i o, l[i]? = some o → ∃ W, okOper N ops o W = true ∧ ∀ t ∈ W, t ∈ V0 ∨ ∃ j, j < k + i ∧ dstN ops j = some t := by
  intro l
  induction l with
  | nil => intro k V V' _ _ _ i o hi; simp at hi
  | cons x r ih =>
    intro k V V' h hl hV i o hi
    simp only [okReg] at h
    split at h
    · rename_i hok
      cases i with
      | zero =>
        simp at hi
        subst hi
        exact ⟨V, hok, hV⟩
      | succ i =>
        have := ih (k := k + 1) h (fun i o hi => by
          have := hl (i + 1) o (by simpa using hi)
          rwa [show k + 1 + i = k + (i + 1) from by omega]) (fun t ht => by
          have hx : ops[k]? = some x := by simpa using hl 0 x (by simp)
          cases hd : x.dst with
          | none =>
            rw [hd] at ht
            rcases hV t ht with h | ⟨j, h1, h2⟩
            · exact .inl h
            · exact .inr ⟨j, by omega, h2⟩
          | some d =>
            rw [hd] at ht
            cases ht with
            | head => exact .inr ⟨k, by omega, by simp [dstN, hx, hd]⟩
            | tail _ hm =>
              rcases hV t hm with h | ⟨j, h1, h2⟩
              · exact .inl h
              · exact .inr ⟨j, by omega, h2⟩) i o (by simpa using hi)
        rwa [show k + 1 + i = k + (i + 1) from by omega] at this
    · cases h

theorem chk_of {N : Nat} {ops : Array Oper} {effs : List Nat} {fwd bwd : List (Nat × List Nat)} {V V' : List Nat}
    (h : okDraw ops effs fwd bwd = true) (hV : okReg N ops ops.toList V = some V') : Chk N ops effs fwd bwd V := by
  have row : ∀ {i : Nat} {o : Oper}, ops[i]? = some o → i < ops.size ∧ _ := fun {i o} ho => by
    have hi : i < ops.size := by
      rw [Array.getElem?_eq_some_iff] at ho
      exact ho.1
    have := allN_spec h hi
    rw [ho] at this
    simp only [Bool.and_eq_true] at this
    exact ⟨hi, this⟩
  refine ⟨?_, ?_, ?_, ?_, ?_, ?_⟩
  · intro i o e ho he hb
    obtain ⟨_, ⟨⟨⟨⟨⟨h1, _⟩, _⟩, _⟩, _⟩, _⟩⟩ := row ho
    have := List.all_eq_true.1 h1 e (Array.mem_toList_iff.2 he)
    simpa [hb] using this
  · intro i o j ho hj hb
    obtain ⟨hi, ⟨⟨⟨⟨⟨_, h2⟩, _⟩, _⟩, _⟩, _⟩⟩ := row ho
    have := allN_spec h2 (i := j) (by omega)
    simp only [hb, Bool.not_true, Bool.false_or, List.any_eq_true, Array.mem_toList_iff, Bool.and_eq_true, Bool.or_eq_true, beq_iff_eq] at this
    exact this
  · intro i o j d ho hj hji hd hm
    obtain ⟨hi, ⟨⟨⟨⟨⟨_, _⟩, h3⟩, _⟩, _⟩, _⟩⟩ := row ho
    have := allN_spec h3 hj
    simp only [hd] at this
    simpa [hji, hm] using this
  · intro i j hi hj he1 he2 hji
    obtain ⟨o, ho⟩ : ∃ o, ops[i]? = some o := ⟨ops[i], by simp [hi]⟩
    obtain ⟨_, ⟨⟨⟨⟨⟨_, _⟩, _⟩, h4⟩, _⟩, _⟩⟩ := row ho
    have := allN_spec h4 hj
    simpa [hji, he1, he2] using this
  · intro i o j ho hj he1 he2 hji
    obtain ⟨_, ⟨⟨⟨⟨⟨_, _⟩, _⟩, h4⟩, _⟩, _⟩⟩ := row ho
    have := allN_spec h4 hj
    by_cases hlt : i < j
    · simp [hji, he1, he2, hlt] at this
      rcases this with h | h | h
      · exact .inl h
      · exact .inr (.inl ⟨hlt, .inl h⟩)
      · exact .inr (.inl ⟨hlt, .inr h⟩)
    · simp [hji, he1, he2, hlt] at this
      rcases this with h | h | h
      · exact .inl h
      · exact .inr (.inr ⟨by omega, .inl h⟩)
      · exact .inr (.inr ⟨by omega, .inr h⟩)
  · intro i o ho
    have := okReg_oper (V0 := V) (k := 0) hV (fun i o hi => by simpa using hi) (fun t ht => .inl ht) i o (by simpa using ho)
    simpa using this

theorem Inv.down {N : Nat} {ops : Array Oper} {effs : List Nat} {fwd bwd : List (Nat × List Nat)} {V : List Nat} {ρ : Env} {vs : Nat → Value} {ws : Nat → World} {S : Nat → Bool} {a : Act} {w : World}
    (C : Chk N ops effs fwd bwd V) (I : Inv N ops effs V ρ vs ws S a w) : ∀ (n i : Nat), i < n → i < ops.size → S i = true → ∀ j, bef (Region.before ops) i j = true → S j = true := by
  intro n
  induction n with
  | zero => intro i h; omega
  | succ n ih =>
    intro i hin hi hS j hb
    have hji : j < i := by simp [bef] at hb; exact hb.1
    have ho : ops[i]? = some ops[i] := by simp [hi]
    obtain ⟨e, he, hbe, hor⟩ := C.befs i _ j ho hji hb
    have hS' := I.closed i _ e hS ho he hbe
    have hlt := C.edge i _ e ho he hbe
    rcases hor with h | h
    · rw [← h]; exact hS'
    · exact ih e.on (by omega) (by omega) hS' j h

/-- An operation that may run next has seen just what it depends on. -/
theorem Inv.downReady {N : Nat} {ops : Array Oper} {effs : List Nat} {fwd bwd : List (Nat × List Nat)} {V : List Nat} {ρ : Env} {vs : Nat → Value} {ws : Nat → World} {S : Nat → Bool} {a : Act} {w : World}
    (C : Chk N ops effs fwd bwd V) (I : Inv N ops effs V ρ vs ws S a w) {i : Nat} {o : Oper} (ho : ops[i]? = some o)
    (hr : ∀ e ∈ o.after, bindsA e = true → S e.on = true) {j : Nat} (hb : bef (Region.before ops) i j = true) : S j = true := by
  have hi : i < ops.size := by rw [Array.getElem?_eq_some_iff] at ho; exact ho.1
  have hji : j < i := by simp [bef] at hb; exact hb.1
  obtain ⟨e, he, hbe, hor⟩ := C.befs i _ j ho hji hb
  have hlt := C.edge i _ e ho he hbe
  rcases hor with h | h
  · rw [← h]; exact hr e he hbe
  · exact I.down C (e.on + 1) e.on (by omega) (by omega) (hr e he hbe) j h
end Go.Proofs.Ytpgfokhpacdhjaa.Fd
