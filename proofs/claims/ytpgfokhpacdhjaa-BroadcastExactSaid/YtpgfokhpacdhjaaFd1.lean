/-
  A functional reading of a function's code: 'run' computes, in the option monad over worlds, what a body does; 'run_sound': what it computes is what the machine does. No program is named here.
-/
import Derived.Test.YtpgfokhpacdhjaaRows
import Derived.WalkKit
namespace Go.Proofs.Ytpgfokhpacdhjaa.Fd
set_option linter.unusedSimpArgs false
set_option linter.unusedVariables false
open Go

/-- The values of a function's slots. -/
abbrev Env := Nat → Value
def Env.set (ρ : Env) (k : Nat) (v : Value) : Env := fun t => if t = k then v else ρ t
def Env.put (ρ : Env) (d : Option Nat) (v : Value) : Env :=
  match d with
  | some d => ρ.set d v
  | none => ρ
def ev (ρ : Env) : Operand → Value
  | .tmp t => ρ t
  | .const v => v
  | .global g => .pointer (some ⟨g, 0, none⟩)
  | .func f => .func (.func f) #[] #[]
abbrev Den := FuncId → Array Value → World → Option (Value × World)

/-- One operation, as a function of the world. -/
def opS (P : Program) (D : Den) (o : Oper) (e : Operand → Value) (w : World) : Option (Value × World) :=
  match (execOp e o).run P w with
  | .ok (.value v) w' => some (v, w')
  | .ok .skip w' => some (undef, w')
  | .ok (.enter f args) w' => D f args w'
  | _ => none

def Exa (P : Program) (f : FuncId) (args : Array Value) (w : World) (v : Value) (w' : World) : Prop :=
  Calls P f args w fun e w1 => e = .returned v ∧ w1 = w'
def SoundD (P : Program) (D : Den) : Prop := ∀ f args w v w', D f args w = some (v, w') → Exa P f args w v w'

noncomputable def den (P : Program) : Den := fun f args w =>
  open Classical in if h : ∃ r : Value × World, Exa P f args w r.1 r.2 then some h.choose else none

theorem den_sound (P : Program) : SoundD P (den P) := by
  intro f args w v w' h
  unfold den at h
  split at h
  · rename_i hex
    have := hex.choose_spec
    simp only [Option.some.injEq] at h
    rw [h] at this
    exact this
  · cases h

theorem runN_stays {P : Program} {m : Machine} {o : Outcome} {w : World} : ∀ {n k : Nat}, runN P n m = .ended o w → n ≤ k → runN P k m = .ended o w := by
  intro n k h hk
  obtain ⟨d, rfl⟩ := Nat.exists_eq_add_of_le hk
  rw [runN_add, h]

theorem exa_unique {P : Program} {f : FuncId} {args : Array Value} {w : World} {v1 v2 : Value} {w1 w2 : World} (hi : P.inits.idxOf? f = none)
    (h1 : Exa P f args w v1 w1) (h2 : Exa P f args w v2 w2) : v1 = v2 ∧ w1 = w2 := by
  have g1 := Calls.done (R := fun v w' => v = v1 ∧ w' = w1) (Calls.mono h1 (by rintro e w' ⟨rfl, rfl⟩; exact ⟨rfl, rfl⟩)) hi
  have g2 := Calls.done (R := fun v w' => v = v2 ∧ w' = w2) (Calls.mono h2 (by rintro e w' ⟨rfl, rfl⟩; exact ⟨rfl, rfl⟩)) hi
  obtain ⟨n1, x1, y1, r1, rfl, rfl⟩ := g1
  obtain ⟨n2, x2, y2, r2, rfl, rfl⟩ := g2
  have s1 := runN_stays r1 (Nat.le_max_left n1 n2)
  have s2 := runN_stays r2 (Nat.le_max_right n1 n2)
  rw [s1] at s2
  simp only [Stepped.ended.injEq, Outcome.done.injEq] at s2
  exact s2

theorem den_of_exa {P : Program} {f : FuncId} {args : Array Value} {w : World} {v : Value} {w' : World} (hi : P.inits.idxOf? f = none)
    (h : Exa P f args w v w') : den P f args w = some (v, w') := by
  unfold den
  have hex : ∃ r : Value × World, Exa P f args w r.1 r.2 := ⟨(v, w'), h⟩
  rw [dif_pos hex]
  obtain ⟨e1, e2⟩ := exa_unique hi hex.choose_spec h
  rw [Option.some.injEq]
  exact Prod.ext e1 e2

/-! loops -/
def loopN {σ τ : Type} (body : σ → World → Option ((σ ⊕ τ) × World)) : Nat → σ → World → Option (τ × World)
  | 0, _, _ => none
  | n + 1, s, w =>
    match body s w with
    | some (.inl s', w') => loopN body n s' w'
    | some (.inr t, w') => some (t, w')
    | none => none
noncomputable def loopR {σ τ : Type} (body : σ → World → Option ((σ ⊕ τ) × World)) (s : σ) (w : World) : Option (τ × World) :=
  open Classical in if h : ∃ r : τ × World, ∃ n, loopN body n s w = some r then some h.choose else none

theorem loopN_succ {σ τ : Type} {body : σ → World → Option ((σ ⊕ τ) × World)} : ∀ {n : Nat} {s : σ} {w : World} {r : τ × World},
    loopN body n s w = some r → loopN body (n + 1) s w = some r := by
  intro n
  induction n with
  | zero => intro s w r h; cases h
  | succ n ih =>
    intro s w r h
    rw [loopN] at h ⊢
    split at h
    · rename_i s' w' hb
      exact ih h
    · exact h
    · cases h

theorem loopN_le {σ τ : Type} {body : σ → World → Option ((σ ⊕ τ) × World)} {n k : Nat} {s : σ} {w : World} {r : τ × World}
    (h : loopN body n s w = some r) (hk : n ≤ k) : loopN body k s w = some r := by
  obtain ⟨d, rfl⟩ := Nat.exists_eq_add_of_le hk
  induction d with
  | zero => exact h
  | succ d ih => exact loopN_succ (ih (by omega))

theorem loopN_unique {σ τ : Type} {body : σ → World → Option ((σ ⊕ τ) × World)} {n k : Nat} {s : σ} {w : World} {r q : τ × World}
    (h : loopN body n s w = some r) (g : loopN body k s w = some q) : r = q := by
  have a := loopN_le h (Nat.le_max_left n k)
  have b := loopN_le g (Nat.le_max_right n k)
  rw [a] at b
  exact Option.some.inj b

theorem loopR_spec {σ τ : Type} {body : σ → World → Option ((σ ⊕ τ) × World)} {s : σ} {w : World} {r : τ × World} :
    loopR body s w = some r ↔ ∃ n, loopN body n s w = some r := by
  unfold loopR
  constructor
  · intro h
    split at h
    · rename_i hex
      obtain ⟨n, hn⟩ := hex.choose_spec
      exact ⟨n, by rw [hn]; exact h⟩
    · cases h
  · rintro ⟨n, hn⟩
    have hex : ∃ r : τ × World, ∃ n, loopN body n s w = some r := ⟨r, n, hn⟩
    rw [dif_pos hex]
    obtain ⟨k, hk⟩ := hex.choose_spec
    rw [loopN_unique hk hn]

theorem loopR_inl {σ τ : Type} {body : σ → World → Option ((σ ⊕ τ) × World)} {s s' : σ} {w w' : World} (h : body s w = some (.inl s', w')) :
    loopR body s w = loopR body s' w' := by
  apply Option.ext
  intro r
  rw [loopR_spec, loopR_spec]
  constructor
  · rintro ⟨n, hn⟩
    cases n with
    | zero => cases hn
    | succ n => rw [loopN, h] at hn; exact ⟨n, hn⟩
  · rintro ⟨n, hn⟩
    exact ⟨n + 1, by rw [loopN, h]; exact hn⟩

theorem loopR_inr {σ τ : Type} {body : σ → World → Option ((σ ⊕ τ) × World)} {s : σ} {t : τ} {w w' : World} (h : body s w = some (.inr t, w')) :
    loopR body s w = some (t, w') := loopR_spec.2 ⟨1, by rw [loopN, h]⟩

/-! plans, regions -/
/-- One order of a region with two effects that the text leaves unordered: the operations in that order. -/
structure Alt where
  ops : Array Oper
  perm : List Nat
  effs : List Nat
  fwd : List (Nat × List Nat)
  bwd : List (Nat × List Nat)
/-- Alternatives told apart by the order of two operations at a time. -/
inductive ATree where
  | leaf (A : Alt)
  | node (i j : Nat) (s t : ATree)
inductive Plan where
  | lf
  | reg (keep : List Nat)
  | drw (keep effs : List Nat) (fwd bwd : List (Nat × List Nat))
  | alt (f i j : Nat) (keep : List Nat) (A B : Alt)
  | alts (f : Nat) (keep : List Nat) (T : ATree)
  | two (p q : Plan)
  | blk (p : Plan)
  | lop (vs : List Nat) (p : Plan)

def yE (ops : Array Oper) (ρ : Env) (j : Nat) : Option Bool :=
  match (ops[j]?).bind (·.dst) with
  | some d => match ρ d with
    | .bool b => some b
    | _ => none
  | none => none
def stepO (P : Program) (D : Den) (ops : Array Oper) (o : Oper) (ρ : Env) (w : World) : Option (Value × World) :=
  if Region.wanted o (yE ops ρ) then opS P D o (ev ρ) w else some (undef, w)
def runL (P : Program) (D : Den) (ops : Array Oper) : List Oper → Env → World → Option (Env × World)
  | [], ρ, w => some (ρ, w)
  | o :: r, ρ, w => (stepO P D ops o ρ w).bind fun x => runL P D ops r (ρ.put o.dst x.1) x.2

def lookL (l : List (Nat × List Nat)) (k : Nat) : List Nat :=
  match l with
  | [] => []
  | (i, xs) :: r => if i = k then xs else lookL r k
noncomputable def grd (p : Prop) : Option Unit := open Classical in if p then some () else none
theorem grd_spec {p : Prop} {u : Unit} : grd p = some u ↔ p := by unfold grd; split <;> simp_all
theorem grd_true {p : Prop} (h : p) : grd p = some () := grd_spec.2 h
def allP (l : List Nat) (p : Nat → Prop) : Prop :=
  match l with
  | [] => True
  | i :: r => p i ∧ allP r p
theorem allP_mem {l : List Nat} {p : Nat → Prop} (h : allP l p) : ∀ i ∈ l, p i := by
  induction l with
  | nil => intro i hi; cases hi
  | cons a r ih =>
    intro i hi
    cases hi with
    | head => exact h.1
    | tail _ hm => exact ih h.2 i hm
/-- The operations of a region whose order is drawn, in the order of the text; 'h': what each gave, and the world before it. -/
noncomputable def runD (P : Program) (D : Den) (ops : Array Oper) (effs : List Nat) (fwd bwd : List (Nat × List Nat)) :
    Nat → List Oper → Env → World → List (Value × World × Env) → Option (Env × World)
  | _, [], ρ, w, _ => some (ρ, w)
  | k, o :: r, ρ, w, h =>
    (stepO P D ops o ρ w).bind fun x =>
    (grd (k ∈ effs ∨ x.2 = w)).bind fun _ =>
    (grd (allP (lookL fwd k) fun i => ∃ oi y, ops[i]? = some oi ∧ h[i]? = some y ∧ stepO P D ops oi y.2.2 x.2 = some (y.1, x.2))).bind fun _ =>
    (grd (allP (lookL bwd k) fun j => ∃ y, h[j]? = some y ∧ stepO P D ops o ρ y.2.1 = some (x.1, y.2.1))).bind fun _ =>
    runD P D ops effs fwd bwd (k + 1) r (ρ.put o.dst x.1) x.2 (h ++ [(x.1, w, ρ)])

def keepE (keep : List Nat) (ρ ρ' : Env) : Env :=
  match keep with
  | [] => ρ
  | k :: r => (keepE r ρ ρ').set k (ρ' k)
def setE (vs : List Nat) (st : List Value) (ρ : Env) : Env :=
  match vs, st with
  | k :: r, v :: s => (setE r s ρ).set k v
  | _, _ => ρ
def getE (vs : List Nat) (ρ : Env) : List Value :=
  match vs with
  | [] => []
  | k :: r => ρ k :: getE r ρ

abbrev Out := Exit × Env × World
def seqK (r : Option Out) (k : Env → World → Option Out) : Option Out :=
  match r with
  | some (.normal, ρ, w) => k ρ w
  | x => x
def blkK (id : Nat) (r : Option Out) : Option Out :=
  match r with
  | some (.exit i, ρ, w) => if i = id then some (.normal, ρ, w) else some (.exit i, ρ, w)
  | x => x
def lopK (vs : List Nat) (r : Option Out) : Option ((List Value ⊕ (Exit × Env)) × World) :=
  match r with
  | some (.normal, ρ, w) => some (.inl (getE vs ρ), w)
  | some (e, ρ, w) => some (.inr (e, ρ), w)
  | none => none
def outK (r : Option ((Exit × Env) × World)) : Option Out :=
  match r with
  | some ((e, ρ), w) => some (e, ρ, w)
  | none => none
def regK (keep : List Nat) (ρ : Env) (r : Option (Env × World)) : Option Out :=
  match r with
  | some (ρ', w') => some (.normal, keepE keep ρ ρ', w')
  | none => none
def condK (v : Value) (x y : Option Out) : Option Out :=
  match v with
  | .bool t => if t then x else y
  | _ => none

/-- Does the order that is drawn come to i ahead of j? (in the function f) -/
def pick (f id : Nat) (ops : Array Oper) (i j : Nat) (w : World) : Bool :=
  decide ((Region.linearise .any ops (w.tape w.drawn (.order f id))).idxOf i < (Region.linearise .any ops (w.tape w.drawn (.order f id))).idxOf j)
noncomputable def runA (P : Program) (D : Den) (b : Bool) (A B : Alt) (ρ : Env) (w : World) : Option (Env × World) :=
  if b then runD P D A.ops A.effs A.fwd A.bwd 0 A.ops.toList ρ w [] else runD P D B.ops B.effs B.fwd B.bwd 0 B.ops.toList ρ w []
noncomputable def runT (P : Program) (D : Den) (o : List Nat) : ATree → Env → World → Option (Env × World)
  | .leaf A, ρ, w => runD P D A.ops A.effs A.fwd A.bwd 0 A.ops.toList ρ w []
  | .node i j s t, ρ, w => if o.idxOf i < o.idxOf j then runT P D o s ρ w else runT P D o t ρ w
noncomputable def run (P : Program) (D : Den) : Code → Plan → Env → World → Option Out
  | .skip, _, ρ, w => some (.normal, ρ, w)
  | .region _ ops false, .reg keep, ρ, w => regK keep ρ (runL P D ops ops.toList ρ w)
  | .region _ ops true, .drw keep effs fwd bwd, ρ, w => regK keep ρ (runD P D ops effs fwd bwd 0 ops.toList ρ w.drew [])
  | .region id ops true, .alt f i j keep A B, ρ, w => regK keep ρ (runA P D (pick f id ops i j w) A B ρ w.drew)
  | .region id ops true, .alts f keep T, ρ, w => regK keep ρ (runT P D (Region.linearise .any ops (w.tape w.drawn (.order f id))) T ρ w.drew)
  | .seq a b, .two p q, ρ, w => seqK (run P D a p ρ w) fun ρ' w' => run P D b q ρ' w'
  | .cond c a b, .two p q, ρ, w => condK (ev ρ c) (run P D a p ρ w) (run P D b q ρ w)
  | .block id c, .blk p, ρ, w => blkK id (run P D c p ρ w)
  | .loop c, .lop vs p, ρ, w => outK (loopR (fun st w => lopK vs (run P D c p (setE vs st ρ) w)) (getE vs ρ) w)
  | .exit id, _, ρ, w => some (.exit id, ρ, w)
  | .ret, _, ρ, w => some (.ret, ρ, w)
  | _, _, _, _ => none

def resS (ρ : Env) : ResultVar → Sem Value
  | .tmp t => pure (ρ t)
  | .cell a t => do loadVar t (← asAddr (ρ a))
def resE (fn : Func) (ρ : Env) : Sem Value := do
  let vs ← fn.results.mapM (resS ρ)
  pure (if h : vs.size = 1 then vs[0] else .tuple vs)
noncomputable def resK (P : Program) (fn : Func) (r : Option Out) : Option (Value × World) :=
  match r with
  | some (.normal, ρ, w) | some (.ret, ρ, w) =>
    match (resE fn ρ).run P w with
    | .ok v w' => (grd (w' = w)).bind fun _ => some (v, w)
    | _ => none
  | _ => none
def env0 (args : List Value) : Env := fun t => args.getD t undef
noncomputable def runFn (P : Program) (D : Den) (fn : Func) (c : Code) (p : Plan) (args : List Value) (w : World) : Option (Value × World) :=
  resK P fn (run P D c p (env0 args) w)
end Go.Proofs.Ytpgfokhpacdhjaa.Fd
