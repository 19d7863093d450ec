/-
  The functional reading as a calculus of weakest preconditions ('W', 'Okk'), and what the plain operations give.
-/
import Derived.Test.YtpgfokhpacdhjaaFd6
import Derived.IntWalk
namespace Go.Proofs.Ytpgfokhpacdhjaa.Fd
set_option linter.unusedSimpArgs false
set_option linter.unusedVariables false
open Go

/-- The value is there, and meets K. -/
def Okk {α : Type} (m : Option α) (K : α → Prop) : Prop := ∃ x, m = some x ∧ K x
theorem Okk_some {α : Type} {x : α} {K : α → Prop} : Okk (some x) K = K x := by simp [Okk]
theorem Okk_bind {α β : Type} {m : Option α} {f : α → Option β} {K : β → Prop} : Okk (m.bind f) K = Okk m fun x => Okk (f x) K := by
  unfold Okk
  cases m <;> simp
theorem Okk.mono {α : Type} {m : Option α} {K L : α → Prop} (h : Okk m K) (hk : ∀ x, K x → L x) : Okk m L := by
  obtain ⟨x, h1, h2⟩ := h
  exact ⟨x, h1, hk x h2⟩
theorem Okk_congr {α : Type} {m m' : Option α} (K : α → Prop) (h : m = m') : Okk m K = Okk m' K := by rw [h]

section
variable (P : Program) (D : Den)
def W (c : Code) (p : Plan) (ρ : Env) (w : World) (K : Out → Prop) : Prop := Okk (run P D c p ρ w) K
def WL (ops : Array Oper) (l : List Oper) (ρ : Env) (w : World) (K : Env × World → Prop) : Prop := Okk (runL P D ops l ρ w) K
def WD (ops : Array Oper) (effs : List Nat) (fwd bwd : List (Nat × List Nat)) (k : Nat) (l : List Oper) (ρ : Env) (w : World) (h : List (Value × World × Env)) (K : Env × World → Prop) : Prop :=
  Okk (runD P D ops effs fwd bwd k l ρ w h) K
def KS (b : Code) (q : Plan) (K : Out → Prop) : Out → Prop
  | (.normal, ρ, w) => W P D b q ρ w K
  | o => K o
def KB (id : Nat) (K : Out → Prop) : Out → Prop
  | (.exit i, ρ, w) => if i = id then K (.normal, ρ, w) else K (.exit i, ρ, w)
  | o => K o
def KR (keep : List Nat) (ρ : Env) (K : Out → Prop) (x : Env × World) : Prop := K (.normal, keepE keep ρ x.1, x.2)
def WC (v : Value) (A B : Prop) : Prop :=
  match v with
  | .bool t => if t then A else B
  | _ => False
def KL (ops : Array Oper) (r : List Oper) (ρ : Env) (d : Option Nat) (K : Env × World → Prop) (x : Value × World) : Prop := WL P D ops r (ρ.put d x.1) x.2 K
def KD (ops : Array Oper) (effs : List Nat) (fwd bwd : List (Nat × List Nat)) (k : Nat) (o : Oper) (r : List Oper) (ρ : Env) (w : World) (h : List (Value × World × Env)) (K : Env × World → Prop) (x : Value × World) : Prop :=
  (k ∈ effs ∨ x.2 = w) ∧
  (allP (lookL fwd k) fun i => ∃ oi y, ops[i]? = some oi ∧ h[i]? = some y ∧ stepO P D ops oi y.2.2 x.2 = some (y.1, x.2)) ∧
  (allP (lookL bwd k) fun j => ∃ y, h[j]? = some y ∧ stepO P D ops o ρ y.2.1 = some (x.1, y.2.1)) ∧
  WD P D ops effs fwd bwd (k + 1) r (ρ.put o.dst x.1) x.2 (h ++ [(x.1, w, ρ)]) K
noncomputable def loopB (c : Code) (vs : List Nat) (p : Plan) (ρ : Env) (st : List Value) (w : World) : Option ((List Value ⊕ (Exit × Env)) × World) := lopK vs (run P D c p (setE vs st ρ) w)
def KO (K : Out → Prop) (x : (Exit × Env) × World) : Prop := K (x.1.1, x.1.2, x.2)
end

section
variable {P : Program} {D : Den} {ρ : Env} {w : World} {K : Out → Prop}
theorem W_seq {a b : Code} {p q : Plan} : W P D (.seq a b) (.two p q) ρ w K = W P D a p ρ w (KS P D b q K) := by
  unfold W Okk
  simp only [run]
  cases h : run P D a p ρ w with
  | none => simp [seqK]
  | some o =>
    obtain ⟨e, ρ', w'⟩ := o
    cases e <;> simp [seqK, KS, W, Okk]
theorem W_cond {c : Operand} {a b : Code} {p q : Plan} : W P D (.cond c a b) (.two p q) ρ w K = WC (ev ρ c) (W P D a p ρ w K) (W P D b q ρ w K) := by
  unfold W Okk WC
  simp only [run]
  cases ev ρ c <;> simp [condK]
  rename_i t
  cases t <;> simp
theorem W_block {id : Nat} {c : Code} {p : Plan} : W P D (.block id c) (.blk p) ρ w K = W P D c p ρ w (KB id K) := by
  unfold W
  simp only [run]
  cases h : run P D c p ρ w with
  | none => simp [blkK, Okk]
  | some o =>
    obtain ⟨e, ρ', w'⟩ := o
    cases e <;> simp only [blkK, Okk_some, KB]
    split <;> rw [Okk_some]
theorem W_loop {c : Code} {vs : List Nat} {p : Plan} : W P D (.loop c) (.lop vs p) ρ w K = Okk (loopR (loopB P D c vs p ρ) (getE vs ρ) w) (KO K) := by
  unfold W Okk
  simp only [run]
  show (∃ x, outK (loopR (loopB P D c vs p ρ) (getE vs ρ) w) = some x ∧ K x) = _
  cases loopR (loopB P D c vs p ρ) (getE vs ρ) w with
  | none => simp [outK]
  | some x => obtain ⟨⟨e, ρ'⟩, w'⟩ := x; simp [outK, KO]
theorem W_reg {id : Nat} {ops : Array Oper} {keep : List Nat} : W P D (.region id ops false) (.reg keep) ρ w K = WL P D ops ops.toList ρ w (KR keep ρ K) := by
  unfold W WL Okk
  simp only [run]
  cases runL P D ops ops.toList ρ w with
  | none => simp [regK]
  | some x => obtain ⟨ρ', w'⟩ := x; simp [regK, KR]
theorem W_drw {id : Nat} {ops : Array Oper} {keep effs : List Nat} {fwd bwd : List (Nat × List Nat)} :
    W P D (.region id ops true) (.drw keep effs fwd bwd) ρ w K = WD P D ops effs fwd bwd 0 ops.toList ρ w.drew [] (KR keep ρ K) := by
  unfold W WD Okk
  simp only [run]
  cases runD P D ops effs fwd bwd 0 ops.toList ρ w.drew [] with
  | none => simp [regK]
  | some x => obtain ⟨ρ', w'⟩ := x; simp [regK, KR]
theorem W_ret {p : Plan} : W P D .ret p ρ w K = K (.ret, ρ, w) := by unfold W; rw [show run P D .ret p ρ w = some (.ret, ρ, w) from by cases p <;> rfl, Okk_some]
theorem W_skip {p : Plan} : W P D .skip p ρ w K = K (.normal, ρ, w) := by unfold W; rw [show run P D .skip p ρ w = some (.normal, ρ, w) from by cases p <;> rfl, Okk_some]
theorem W_exit {id : Nat} {p : Plan} : W P D (.exit id) p ρ w K = K (.exit id, ρ, w) := by unfold W; rw [show run P D (.exit id) p ρ w = some (.exit id, ρ, w) from by cases p <;> rfl, Okk_some]
theorem KS_nor {b : Code} {q : Plan} : KS P D b q K (.normal, ρ, w) = W P D b q ρ w K := _root_.id rfl
theorem KS_exit {b : Code} {q : Plan} {id : Nat} : KS P D b q K (.exit id, ρ, w) = K (.exit id, ρ, w) := _root_.id rfl
theorem KS_ret {b : Code} {q : Plan} : KS P D b q K (.ret, ρ, w) = K (.ret, ρ, w) := _root_.id rfl
theorem KB_nor {id : Nat} : KB id K (.normal, ρ, w) = K (.normal, ρ, w) := _root_.id rfl
theorem KB_ret {id : Nat} : KB id K (.ret, ρ, w) = K (.ret, ρ, w) := _root_.id rfl
theorem KB_exit {id i : Nat} : KB id K (.exit i, ρ, w) = if i = id then K (.normal, ρ, w) else K (.exit i, ρ, w) := _root_.id rfl
theorem KR_mk {keep : List Nat} {ρ' : Env} : KR keep ρ K (ρ', w) = K (.normal, keepE keep ρ ρ', w) := _root_.id rfl
theorem KO_mk {e : Exit} : KO K ((e, ρ), w) = K (e, ρ, w) := _root_.id rfl
theorem WL_nil {ops : Array Oper} {K : Env × World → Prop} : WL P D ops [] ρ w K = K (ρ, w) := by simp [WL, runL, Okk]
theorem WL_cons {ops : Array Oper} {o : Oper} {r : List Oper} {K : Env × World → Prop} : WL P D ops (o :: r) ρ w K = Okk (stepO P D ops o ρ w) (KL P D ops r ρ o.dst K) := by
  unfold WL
  rw [runL, Okk_bind]
  rfl
theorem KL_mk {ops : Array Oper} {r : List Oper} {d : Option Nat} {K : Env × World → Prop} {v : Value} : KL P D ops r ρ d K (v, w) = WL P D ops r (ρ.put d v) w K := _root_.id rfl
theorem WD_nil {ops : Array Oper} {effs : List Nat} {fwd bwd : List (Nat × List Nat)} {k : Nat} {h : List (Value × World × Env)} {K : Env × World → Prop} :
    WD P D ops effs fwd bwd k [] ρ w h K = K (ρ, w) := by simp [WD, runD, Okk]
theorem WD_cons {ops : Array Oper} {effs : List Nat} {fwd bwd : List (Nat × List Nat)} {k : Nat} {o : Oper} {r : List Oper} {h : List (Value × World × Env)} {K : Env × World → Prop} :
    WD P D ops effs fwd bwd k (o :: r) ρ w h K = Okk (stepO P D ops o ρ w) (KD P D ops effs fwd bwd k o r ρ w h K) := by
  unfold WD
  rw [runD, Okk_bind]
  congr 1
  funext x
  have g : ∀ {p : Prop} {β : Type} {f : Option β} {L : β → Prop}, Okk ((grd p).bind fun _ => f) L = (p ∧ Okk f L) := by
    intro p β f L
    unfold Okk grd
    by_cases hp : p <;> simp [hp]
  rw [g, g, g]
  rfl

def opX (P : Program) (D : Den) (op : Op) (ty : TypeId) (e : Operand → Value) (w : World) : Option (Value × World) := opS P D ⟨none, op, ty, "", #[], none⟩ e w
def WG (y : Option Bool) (b : Bool) (A : Option (Value × World)) (B : Option (Value × World)) : Option (Value × World) := if y = some b then A else B
theorem stepO_none {ops : Array Oper} {d : Option Nat} {op : Op} {ty : TypeId} {pos : String} {af : Array Edge} :
    stepO P D ops ⟨d, op, ty, pos, af, none⟩ ρ w = opX P D op ty (ev ρ) w := by
  simp only [stepO, Region.wanted, if_true]
  rfl
theorem stepO_guard {ops : Array Oper} {d : Option Nat} {op : Op} {ty : TypeId} {pos : String} {af : Array Edge} {j : Nat} {b : Bool} :
    stepO P D ops ⟨d, op, ty, pos, af, some (j, b)⟩ ρ w = WG (yE ops ρ j) b (opX P D op ty (ev ρ) w) (some (undef, w)) := by
  simp only [stepO, Region.wanted, WG, beq_iff_eq]
  rfl
end

theorem set_at {ρ : Env} {k : Nat} {v : Value} {t : Nat} : (ρ.set k v) t = if t = k then v else ρ t := _root_.id rfl
theorem put_some {ρ : Env} {k : Nat} {v : Value} : ρ.put (some k) v = ρ.set k v := _root_.id rfl
theorem put_none {ρ : Env} {v : Value} : ρ.put none v = ρ := _root_.id rfl
theorem keepE_nil {ρ ρ' : Env} : keepE [] ρ ρ' = ρ := _root_.id rfl
theorem keepE_cons {k : Nat} {r : List Nat} {ρ ρ' : Env} : keepE (k :: r) ρ ρ' = (keepE r ρ ρ').set k (ρ' k) := _root_.id rfl
theorem setE_cons {k : Nat} {r : List Nat} {v : Value} {s : List Value} {ρ : Env} : setE (k :: r) (v :: s) ρ = (setE r s ρ).set k v := _root_.id rfl
theorem setE_nil {s : List Value} {ρ : Env} : setE [] s ρ = ρ := _root_.id rfl
theorem getE_cons {k : Nat} {r : List Nat} {ρ : Env} : getE (k :: r) ρ = ρ k :: getE r ρ := _root_.id rfl
theorem getE_nil {ρ : Env} : getE [] ρ = [] := _root_.id rfl
theorem ev_tmp {ρ : Env} {t : Nat} : ev ρ (.tmp t) = ρ t := _root_.id rfl
theorem ev_const {ρ : Env} {v : Value} : ev ρ (.const v) = v := _root_.id rfl
theorem ev_func {ρ : Env} {f : FuncId} : ev ρ (.func f) = .func (.func f) #[] #[] := _root_.id rfl
theorem ev_global {ρ : Env} {g : Nat} : ev ρ (.global g) = .pointer (some ⟨g, 0, none⟩) := _root_.id rfl
theorem env0_at {args : List Value} {t : Nat} : env0 args t = args.getD t undef := _root_.id rfl

/-! what a run of a function's body says of the call -/
def retV (S : List Nat) (ρ : Env) : Value :=
  match S with
  | [t] => ρ t
  | S => .tuple (getE S ρ).toArray
def retK (S : List Nat) (K : Value → World → Prop) : Out → Prop
  | (.normal, ρ, w) => K (retV S ρ) w
  | (.ret, ρ, w) => K (retV S ρ) w
  | _ => False
theorem retK_nor {S : List Nat} {K : Value → World → Prop} {ρ : Env} {w : World} : retK S K (.normal, ρ, w) = K (retV S ρ) w := _root_.id rfl
theorem retK_ret {S : List Nat} {K : Value → World → Prop} {ρ : Env} {w : World} : retK S K (.ret, ρ, w) = K (retV S ρ) w := _root_.id rfl
theorem retV_0 {ρ : Env} : retV [] ρ = .tuple #[] := _root_.id rfl
theorem retV_1 {ρ : Env} {t : Nat} : retV [t] ρ = ρ t := _root_.id rfl
theorem retV_2 {ρ : Env} {t u : Nat} : retV [t, u] ρ = .tuple #[ρ t, ρ u] := _root_.id rfl
theorem retV_3 {ρ : Env} {t u v : Nat} : retV [t, u, v] ρ = .tuple #[ρ t, ρ u, ρ v] := _root_.id rfl
def Ok (m : Option (Value × World)) (K : Value → World → Prop) : Prop := Okk m fun x => K x.1 x.2
theorem Ok_iff {m : Option (Value × World)} {K : Value → World → Prop} : Ok m K ↔ ∃ v w, m = some (v, w) ∧ K v w := by
  unfold Ok Okk
  constructor
  · rintro ⟨⟨v, w⟩, h1, h2⟩; exact ⟨v, w, h1, h2⟩
  · rintro ⟨v, w, h1, h2⟩; exact ⟨(v, w), h1, h2⟩
theorem Ok.mono {m : Option (Value × World)} {K L : Value → World → Prop} (h : Ok m K) (hk : ∀ v w, K v w → L v w) : Ok m L := Okk.mono h fun _ hx => hk _ _ hx
/-- A callee's contract at its call. -/
theorem Ok.use {m : Option (Value × World)} {K : Value → World → Prop} {L : Value × World → Prop} (h : Ok m K) (hk : ∀ v w, K v w → L (v, w)) : Okk m L := Okk.mono h fun _ hx => hk _ _ hx

theorem resE_tmps (fn : Func) (ρ : Env) (S : List Nat) (h : fn.results = (S.map ResultVar.tmp).toArray) (P : Program) (w : World) :
    (resE fn ρ).run P w = .ok (retV S ρ) w := by
  have e : ∀ S : List Nat, (S.map ResultVar.tmp).mapM (resS ρ) = (pure (getE S ρ) : Sem (List Value)) := by
    intro S
    induction S with
    | nil => rfl
    | cons t r ih =>
      rw [List.map_cons, List.mapM_cons, ih]
      simp [getE, resS]
  unfold resE
  rw [h, Array.mapM_eq_mapM_toList]
  dsimp only
  rw [e S]
  match S with
  | [] => simp [getE, retV]
  | [t] => simp [getE, retV]
  | t :: u :: r => simp [getE, retV]

theorem den_ok {P : Program} {f : FuncId} {fn : Func} {c : Code} {p : Plan} {args : List Value} {w : World} (S : List Nat) {K : Value → World → Prop}
    (hf : P.funcs[f]? = some fn) (hb : fn.body = some c) (hm : P.follows .mixedOrders = true) (hi : P.inits.idxOf? f = none)
    (hok : okFn fn c p args.length = true) (hr : fn.results = (S.map ResultVar.tmp).toArray)
    (h : W P (den P) c p (env0 args) w (retK S K)) : Ok (den P f args.toArray w) K := by
  obtain ⟨⟨e, ρ, w1⟩, h1, h2⟩ := h
  have fin : ∀ v, retV S ρ = v → (e = .normal ∨ e = .ret) → den P f args.toArray w = some (v, w1) := by
    intro v hv he
    refine den_of_run hf hb hm hi hok ?_
    unfold runFn
    rw [h1]
    have hres := resE_tmps fn ρ S hr P w1
    rw [hv] at hres
    rcases he with rfl | rfl <;> simp [resK, hres, grd]
  cases e with
  | normal => exact ⟨_, fin _ rfl (.inl rfl), h2⟩
  | ret => exact ⟨_, fin _ rfl (.inr rfl), h2⟩
  | _ => exact h2.elim
end Go.Proofs.Ytpgfokhpacdhjaa.Fd
