/-
  What the plain operations give, as equations.
-/
import Derived.Test.YtpgfokhpacdhjaaFd7
namespace Go.Proofs.Ytpgfokhpacdhjaa.Fd
set_option linter.unusedSimpArgs false
set_option linter.unusedVariables false
open Go

def lift (r : Result Value) : Option (Value × World) :=
  match r with
  | .ok v w => some (v, w)
  | _ => none
/-- Closed facts of a type: aggregate or one cell; its cells; its bytes; its zero. -/
def knd (P : Program) (t : TypeId) : Option Bool :=
  match P.underlying t with
  | some (.struct _) => some true
  | some (.array _ _) => some true
  | some _ => some false
  | none => none
def siz (P : Program) (t : TypeId) : Option Nat := (P.info? t).map (·.size)
def byt (P : Program) (t : TypeId) : Option Nat := (P.info? t).map (·.bytes)
def zer (P : Program) (t : TypeId) : Option Value := (P.info? t).bind (·.zero)
def elt (P : Program) (t : TypeId) : Option TypeId :=
  match P.underlying t with
  | some (.slice e) => some e
  | _ => none
def arrOf (P : Program) (t : TypeId) : Option (Nat × TypeId) :=
  match P.underlying t with
  | some (.array n e) => some (n, e)
  | _ => none
/-- Where a field lies (a field of some cells). -/
def fofs (P : Program) (t : TypeId) (f : Nat) : Option Nat :=
  match P.underlying t with
  | some (.struct fs) => match fs[f]? with
    | some x => match siz P x.type with
      | some 0 => none
      | some _ => some x.offset
      | none => none
    | none => none
  | _ => none
/-- Which kind of type: 1 bool, 2 pointer, 3 slice, 4 string, 5 map, 6 int, 7 func. -/
def tag (P : Program) (t : TypeId) : Nat :=
  match P.underlying t with
  | some .bool => 1
  | some (.pointer _) => 2
  | some (.slice _) => 3
  | some .string => 4
  | some (.map _ _) => 5
  | some (.int _) => 6
  | some (.func _ _ _) => 7
  | _ => 0
theorem tag_bool {P : Program} {t : TypeId} (h : tag P t = 1) : P.underlying t = some .bool := by
  unfold tag at h
  split at h <;> first | assumption | cases h
theorem tag_ptr {P : Program} {t : TypeId} (h : tag P t = 2) : ∃ e, P.underlying t = some (.pointer e) := by
  unfold tag at h
  split at h <;> first | exact ⟨_, by assumption⟩ | cases h
theorem tag_slice {P : Program} {t : TypeId} (h : tag P t = 3) : ∃ e, P.underlying t = some (.slice e) := by
  unfold tag at h
  split at h <;> first | exact ⟨_, by assumption⟩ | cases h
theorem tag_string {P : Program} {t : TypeId} (h : tag P t = 4) : P.underlying t = some .string := by
  unfold tag at h
  split at h <;> first | assumption | cases h
def hasB (P : Program) (f : FuncId) : Bool :=
  match P.funcs[f]? with
  | some fn => fn.body.isSome && !(fn.name == "runtime.NumGoroutine")
  | none => false

section
variable {P : Program} {D : Den} {ty : TypeId} {e : Operand → Value} {w : World}
theorem opX_move {x : Operand} : opX P D (.move x) ty e w = some (e x, w) := by simp [opX, opS, execOp]
theorem opX_assign {x : Operand} : opX P D (.assign x) ty e w = some (e x, w) := by simp [opX, opS, execOp]

def pickS (c a b : Value) (w : World) : Option (Value × World) :=
  match c with
  | .bool t => some (if t then a else b, w)
  | _ => none
theorem opX_pick {c a b : Operand} : opX P D (.pick c a b) ty e w = pickS (e c) (e a) (e b) w := by
  simp only [opX, opS, execOp, pickS]
  cases e c <;> simp [asBool]
theorem pickS_mk {t : Bool} {a b : Value} : pickS (.bool t) a b w = some (if t then a else b, w) := _root_.id rfl
theorem ite_bool {c : Prop} [Decidable c] {a b : Bool} : (if c then Value.bool a else Value.bool b) = .bool (if c then a else b) := by split <;> rfl
theorem ite_int {c : Prop} [Decidable c] {k : IntKind} {a b : Int} : (if c then Value.int k a else Value.int k b) = .int k (if c then a else b) := by split <;> rfl

def extS (x : Value) (i : Nat) (w : World) : Option (Value × World) :=
  match x with
  | .tuple vs => (vs[i]?).map (·, w)
  | _ => none
theorem opX_extract {x : Operand} {i : Nat} : opX P D (.extract x i) ty e w = extS (e x) i w := by
  simp only [opX, opS, execOp, extS, Instr.extract]
  cases e x <;> simp
  rename_i vs
  cases vs[i]? <;> simp
theorem extS_mk {vs : Array Value} {i : Nat} : extS (.tuple vs) i w = (vs[i]?).map (·, w) := _root_.id rfl

def nilS (x : Value) (w : World) : Option (Value × World) :=
  match x with
  | .pointer (some a) => some (.pointer (some a), w)
  | _ => none
theorem opX_nil {x : Operand} {a : Addr} (h : e x = .pointer (some a)) : opX P D (.nilCheck x) ty e w = some (.pointer (some a), w) := by
  simp [opX, opS, execOp, h]

def unS (op : UnOp) (x : Value) (w : World) : Option (Value × World) := lift ((Op.unary op x).run P w)
theorem opX_un {op : UnOp} {t : TypeId} {x : Operand} : opX P D (.unOp op t x) ty e w = unS (P := P) op (e x) w := by
  simp only [opX, opS, execOp, unS, lift]
  cases h : (Op.unary op (e x)).run P w <;> simp [h]
theorem unS_not {b : Bool} : unS (P := P) .not (.bool b) w = some (.bool !b, w) := by simp [unS, lift, Op.unary]

def binS (P : Program) (op : BinOp) (t : TypeId) (ox oy : Operand) (x y : Value) (w : World) : Option (Value × World) := lift ((do eqGuard op t ox oy x y; binOp op t x y : Sem Value).run P w)
theorem opX_bin {op : BinOp} {t t' : TypeId} {x y : Operand} : opX P D (.binOp op t x y t') ty e w = binS P op t x y (e x) (e y) w := by
  simp only [opX, opS, execOp, binS, lift]
  generalize (do eqGuard op t x y (e x) (e y); binOp op t (e x) (e y) : Sem Value) = s
  simp
  cases s.run P w <;> simp
section
variable {t : TypeId} {ox oy : Operand} {k k' : IntKind} {a b : Int}
theorem bin_lss : binS P .lss t ox oy (.int k a) (.int k b) w = some (.bool (decide (a < b)), w) := by simp [binS, lift, eqGuard, binOp, Op.intCmp]
theorem bin_leq : binS P .leq t ox oy (.int k a) (.int k b) w = some (.bool (decide (a ≤ b)), w) := by simp [binS, lift, eqGuard, binOp, Op.intCmp]
theorem bin_gtr : binS P .gtr t ox oy (.int k a) (.int k b) w = some (.bool (decide (b < a)), w) := by simp [binS, lift, eqGuard, binOp, Op.intCmp]
theorem bin_geq : binS P .geq t ox oy (.int k a) (.int k b) w = some (.bool (decide (b ≤ a)), w) := by simp [binS, lift, eqGuard, binOp, Op.intCmp]
theorem bin_eql : binS P .eql t ox oy (.int k a) (.int k b) w = some (.bool (decide (a = b)), w) := by
  simp [binS, lift, eqGuard, binOp, Op.intCmp]
  by_cases h : a = b <;> simp [h]
theorem bin_neq : binS P .neq t ox oy (.int k a) (.int k b) w = some (.bool (decide (¬ a = b)), w) := by
  simp [binS, lift, eqGuard, binOp, Op.intCmp]
  by_cases h : a = b <;> simp [h]
theorem bin_add : binS P .add t ox oy (.int k a) (.int k b) w = some (.int k (k.wrap (a + b)), w) := by simp [binS, lift, eqGuard, binOp, Op.intArith]
theorem bin_sub : binS P .sub t ox oy (.int k a) (.int k b) w = some (.int k (k.wrap (a - b)), w) := by simp [binS, lift, eqGuard, binOp, Op.intArith]
theorem bin_mul : binS P .mul t ox oy (.int k a) (.int k b) w = some (.int k (k.wrap (a * b)), w) := by simp [binS, lift, eqGuard, binOp, Op.intArith]
theorem bin_quo (h : b ≠ 0) : binS P .quo t ox oy (.int k a) (.int k b) w = some (.int k (k.wrap (a.tdiv b)), w) := by simp [binS, lift, eqGuard, binOp, Op.intDiv, h]
theorem bin_rem (h : b ≠ 0) : binS P .rem t ox oy (.int k a) (.int k b) w = some (.int k (a.tmod b), w) := by simp [binS, lift, eqGuard, binOp, Op.intDiv, h]
theorem bin_shl (h : 0 ≤ b) : binS P .shl t ox oy (.int k a) (.int k' b) w = some (.int k (k.wrap (a * 2 ^ (min b.toNat k.bits))), w) := by
  have : ¬ b < 0 := by omega
  simp [binS, lift, eqGuard, binOp, Op.shift, this]
theorem bin_shr (h : 0 ≤ b) : binS P .shr t ox oy (.int k a) (.int k' b) w = some (.int k (a.fdiv (2 ^ (min b.toNat k.bits))), w) := by
  have : ¬ b < 0 := by omega
  simp [binS, lift, eqGuard, binOp, Op.shift, this]
theorem bin_and : binS P .and t ox oy (.int k a) (.int k b) w = some (.int k (k.wrap (BitVec.ofInt k.bits a &&& BitVec.ofInt k.bits b).toNat), w) := by simp [binS, lift, eqGuard, binOp, Op.intBits]
theorem bin_or : binS P .or t ox oy (.int k a) (.int k b) w = some (.int k (k.wrap (BitVec.ofInt k.bits a ||| BitVec.ofInt k.bits b).toNat), w) := by simp [binS, lift, eqGuard, binOp, Op.intBits]
theorem bin_xor : binS P .xor t ox oy (.int k a) (.int k b) w = some (.int k (k.wrap (BitVec.ofInt k.bits a ^^^ BitVec.ofInt k.bits b).toNat), w) := by simp [binS, lift, eqGuard, binOp, Op.intBits]
theorem bin_andNot : binS P .andNot t ox oy (.int k a) (.int k b) w = some (.int k (k.wrap (BitVec.ofInt k.bits a &&& ~~~(BitVec.ofInt k.bits b)).toNat), w) := by simp [binS, lift, eqGuard, binOp, Op.intBits]
theorem eqd_B {d : Nat} {t : TypeId} {x y : Bool} (ht : tag P t = 1) : (Op.equalIn (d + 1) t (.bool x) (.bool y)).run P w = .ok (x == y) w := by
  have hu := tag_bool ht
  simp [Op.equalIn, underlying, hu]
theorem eqm_B {t : TypeId} {x y : Bool} (ht : tag P t = 1) : (Op.equalIn Op.maxDepth t (.bool x) (.bool y)).run P w = .ok (x == y) w := eqd_B (d := 9999) ht
theorem bin_eqlB {x y : Bool} (ht : tag P t = 1) : binS P .eql t ox oy (.bool x) (.bool y) w = some (.bool (x == y), w) := by
  simp [binS, lift, eqGuard, binOp, Op.equal, eqm_B ht]
theorem bin_neqB {x y : Bool} (ht : tag P t = 1) : binS P .neq t ox oy (.bool x) (.bool y) w = some (.bool (!(x == y)), w) := by
  simp [binS, lift, eqGuard, binOp, Op.equal, eqm_B ht]
theorem eqd_P {d : Nat} {t : TypeId} {a : Option Addr} (ht : tag P t = 2) : (Op.equalIn (d + 1) t (.pointer a) (.pointer none)).run P w = .ok (a.isNone) w := by
  obtain ⟨el, hu⟩ := tag_ptr ht
  cases a <;> simp [Op.equalIn, underlying, hu]
theorem eqm_P {t : TypeId} {a : Option Addr} (ht : tag P t = 2) : (Op.equalIn Op.maxDepth t (.pointer a) (.pointer none)).run P w = .ok (a.isNone) w := eqd_P (d := 9999) ht
theorem bin_eqlP {a : Option Addr} (ht : tag P t = 2) : binS P .eql t ox oy (.pointer a) (.pointer none) w = some (.bool (a.isNone), w) := by
  simp [binS, lift, eqGuard, binOp, Op.equal, eqm_P ht]
theorem bin_neqP {a : Option Addr} (ht : tag P t = 2) : binS P .neq t ox oy (.pointer a) (.pointer none) w = some (.bool (!(a.isNone)), w) := by
  simp [binS, lift, eqGuard, binOp, Op.equal, eqm_P ht]
theorem eqd_N {d : Nat} {t : TypeId} {a : Option Addr} {n c m k : Nat} (ht : tag P t = 3) : (Op.equalIn (d + 1) t (.slice a n c) (.slice none m k)).run P w = .ok (a.isNone) w := by
  obtain ⟨el, hu⟩ := tag_slice ht
  cases a <;> simp [Op.equalIn, underlying, hu]
theorem eqm_N {t : TypeId} {a : Option Addr} {n c m d : Nat} (ht : tag P t = 3) : (Op.equalIn Op.maxDepth t (.slice a n c) (.slice none m d)).run P w = .ok (a.isNone) w := eqd_N (d := 9999) ht
theorem bin_eqlN {a : Option Addr} {n c m d : Nat} (ht : tag P t = 3) : binS P .eql t ox oy (.slice a n c) (.slice none m d) w = some (.bool (a.isNone), w) := by
  simp [binS, lift, eqGuard, binOp, Op.equal, eqm_N ht]
theorem bin_neqN {a : Option Addr} {n c m d : Nat} (ht : tag P t = 3) : binS P .neq t ox oy (.slice a n c) (.slice none m d) w = some (.bool (!(a.isNone)), w) := by
  simp [binS, lift, eqGuard, binOp, Op.equal, eqm_N ht]
theorem bin_eqlS {x y : ByteArray} : binS P .eql t ox oy (.string x) (.string y) w = some (.bool (x.toList == y.toList), w) := by simp [binS, lift, eqGuard, go_sem]
theorem bin_neqS {x y : ByteArray} : binS P .neq t ox oy (.string x) (.string y) w = some (.bool !(x.toList == y.toList), w) := by simp [binS, lift, eqGuard, go_sem]
end

/-! memory -/
def ldS (P : Program) (t : TypeId) (x : Value) (w : World) : Option (Value × World) := lift ((Instr.loadAt t x).run P w)
theorem opX_load {t : TypeId} {x : Operand} : opX P D (.load t x) ty e w = ldS P t (e x) w := by
  simp only [opX, opS, execOp, ldS, lift]
  generalize Instr.loadAt t (e x) = s
  simp
  cases s.run P w <;> simp
theorem ld_cell {t : TypeId} {a : Addr} {v : Value} (hk : knd P t = some false) (hc : w.cell? a = some v) : ldS P t (.pointer (some a)) w = some (v, w) := by
  unfold knd at hk
  cases hu : P.underlying t with
  | none => rw [hu] at hk; cases hk
  | some d =>
    rw [hu] at hk
    cases d <;> simp_all [ldS, lift, Instr.loadAt, Instr.sureAddr, loadVar, isAgg, underlying]
theorem run_loadCellsFrom {a : Addr} : ∀ (n i : Nat) (acc : Array Value) (vs : List Value), vs.length = n → (∀ j, j < n → w.cell? (a.add (i + j)) = vs[j]?) →
    (loadCellsFrom a i n acc).run P w = .ok (acc ++ vs.toArray) w := by
  intro n
  induction n with
  | zero =>
    intro i acc vs hl _
    obtain rfl : vs = [] := List.length_eq_zero_iff.1 hl
    simp [loadCellsFrom]
  | succ n ih =>
    intro i acc vs hl h
    match vs, hl with
    | v :: r, hl =>
      have h0 := h 0 (by omega)
      simp only [Nat.add_zero, List.getElem?_cons_zero] at h0
      simp only [loadCellsFrom, Sem.run_bind, run_load, h0, Result.andThen_ok]
      rw [ih (i + 1) (acc.push v) r (by simpa using hl) fun j hj => by
        have := h (j + 1) (by omega)
        rw [show i + 1 + j = i + (j + 1) from by omega, this]
        simp]
      simp
theorem ld_agg {t : TypeId} {a : Addr} {vs : List Value} (hk : knd P t = some true) (hs : siz P t = some vs.length) (h : ∀ j, j < vs.length → w.cell? (a.add j) = vs[j]?) :
    ldS P t (.pointer (some a)) w = some (.agg vs.toArray, w) := by
  have hc := run_loadCellsFrom (P := P) (w := w) (a := a) vs.length 0 #[] vs rfl (by simpa using h)
  unfold knd at hk
  unfold siz at hs
  cases hi : P.info? t with
  | none => rw [hi] at hs; cases hs
  | some i =>
    rw [hi] at hs
    simp only [Option.map_some, Option.some.injEq] at hs
    cases hu : P.underlying t with
    | none => rw [hu] at hk; cases hk
    | some d =>
      rw [hu] at hk
      cases d <;> simp at hk <;> simp [ldS, lift, Instr.loadAt, Instr.sureAddr, loadVar, isAgg, underlying, hu, sizeOf, typeInfo, hi, hs, loadCells, hc]

def stS (P : Program) (t : TypeId) (x v : Value) (w : World) : Option (Value × World) :=
  match (Instr.storeAt t x v).run P w with
  | .ok _ w' => some (undef, w')
  | _ => none
theorem opX_store {t : TypeId} {x y : Operand} : opX P D (.store t x y) ty e w = stS P t (e x) (e y) w := by
  simp only [opX, opS, execOp, stS]
  generalize Instr.storeAt t (e x) (e y) = s
  simp
  cases s.run P w <;> simp
theorem st_cell {t : TypeId} {a : Addr} {u v : Value} (ho : v.oneCell' = true) (hs : siz P t = some 1) (hc : w.cell? a = some u) (hf : w.frozen? a = false) :
    stS P t (.pointer (some a)) v w = some (undef, w.setCell a v) := by
  unfold siz at hs
  cases hi : P.info? t with
  | none => rw [hi] at hs; cases hs
  | some i =>
    rw [hi] at hs
    simp only [Option.map_some, Option.some.injEq] at hs
    have hv : v.cells = #[v] := by cases v <;> simp_all [Value.cells, Value.oneCell']
    have ha : a.add 0 = a := by simp [Addr.add]
    simp [stS, Instr.storeAt, Instr.sureAddr, storeVar, sizeOf, typeInfo, hi, hs, hv, storeCells, run_store P w _ v .plain ho, ha, hc, hf]

/-- The cells of some values, stored one behind the other. -/
def setCells (w : World) (a : Addr) (i : Nat) : List Value → World
  | [] => w
  | v :: r => setCells (w.setCell (a.add i) v) a (i + 1) r

def fldS (P : Program) (t : TypeId) (x : Value) (f : Nat) (w : World) : Option (Value × World) := lift ((Instr.fieldAt t x f).run P w)
theorem opX_field {t : TypeId} {x : Operand} {f : Nat} : opX P D (.fieldAddr t x f) ty e w = fldS P t (e x) f w := by
  simp only [opX, opS, execOp, fldS, lift]
  generalize Instr.fieldAt t (e x) f = s
  simp
  cases s.run P w <;> simp
theorem fld_mk {t : TypeId} {b o f n : Nat} (h : fofs P t f = some n) : fldS P t (.pointer (some ⟨b, o, none⟩)) f w = some (.pointer (some ⟨b, o + n, none⟩), w) := by
  unfold fofs at h
  split at h
  · rename_i fs hu
    split at h
    · rename_i x hx
      cases hs : siz P x.type with
      | none => rw [hs] at h; simp at h
      | some m =>
        rw [hs] at h
        cases m with
        | zero => simp at h
        | succ m =>
          simp only [Option.some.injEq] at h
          unfold siz at hs
          cases hi : P.info? x.type with
          | none => rw [hi] at hs; cases hs
          | some i =>
            rw [hi] at hs
            simp only [Option.map_some, Option.some.injEq] at hs
            have ha : (⟨b, o, none⟩ : Addr).add x.offset = ⟨b, o + n, none⟩ := by
              unfold Addr.add
              split
              · rename_i h0; rw [← h, h0]; rfl
              · rw [h]
            simp [fldS, lift, Instr.fieldAt, underlying, hu, hx, Instr.sureAddr, fieldPlace, sizeOf, typeInfo, hi, hs, ha]
    · cases h
  · cases h

def idxS (P : Program) (t : TypeId) (x i : Value) (w : World) : Option (Value × World) := lift ((Instr.indexAt t x i).run P w)
theorem opX_index {t : TypeId} {x i : Operand} : opX P D (.indexAddr t x i) ty e w = idxS P t (e x) (e i) w := by
  simp only [opX, opS, execOp, idxS, lift]
  generalize Instr.indexAt t (e x) (e i) = s
  simp
  cases s.run P w <;> simp
theorem idx_slice {t el s : TypeId} {b o n c : Nat} {k : IntKind} {i : Int} (ht : elt P t = some el) (hs : siz P el = some s) (h0 : 0 ≤ i) (h1 : i < n) :
    idxS P t (.slice (some ⟨b, o, none⟩) n c) (.int k i) w = some (.pointer (some ⟨b, o + i.toNat * s, none⟩), w) := by
  unfold elt at ht
  unfold siz at hs
  split at ht
  · rename_i el' hu
    simp only [Option.some.injEq] at ht
    subst ht
    cases hi : P.info? el' with
    | none => rw [hi] at hs; cases hs
    | some inf =>
      rw [hi] at hs
      simp only [Option.map_some, Option.some.injEq] at hs
      have ha : (⟨b, o, none⟩ : Addr).add (i.toNat * s) = ⟨b, o + i.toNat * s, none⟩ := by
        unfold Addr.add
        split
        · rename_i h0; rw [h0]; rfl
        · rfl
      simp [idxS, lift, Instr.indexAt, asIntOf, underlying, hu, h0, h1, sizeOf, typeInfo, hi, hs, ha]
  · cases ht
theorem idx_array {t el s : TypeId} {b o n : Nat} {k : IntKind} {i : Int} (ht : arrOf P t = some (n, el)) (hs : siz P el = some s) (h0 : 0 ≤ i) (h1 : i < n) :
    idxS P t (.pointer (some ⟨b, o, none⟩)) (.int k i) w = some (.pointer (some ⟨b, o + i.toNat * s, none⟩), w) := by
  unfold arrOf at ht
  unfold siz at hs
  split at ht
  · rename_i n' el' hu
    simp only [Option.some.injEq, Prod.mk.injEq] at ht
    obtain ⟨rfl, rfl⟩ := ht
    cases hi : P.info? el' with
    | none => rw [hi] at hs; cases hs
    | some inf =>
      rw [hi] at hs
      simp only [Option.map_some, Option.some.injEq] at hs
      have ha : (⟨b, o, none⟩ : Addr).add (i.toNat * s) = ⟨b, o + i.toNat * s, none⟩ := by
        unfold Addr.add
        split
        · rename_i h0; rw [h0]; rfl
        · rfl
      simp [idxS, lift, Instr.indexAt, asIntOf, underlying, hu, h0, h1, sizeOf, typeInfo, hi, hs, ha, Instr.sureAddr]
  · cases ht

/-! calls -/
def callS (P : Program) (D : Den) (f : Value) (args : Array Value) (w : World) : Option (Value × World) :=
  match f with
  | .func (.func f) first cap => if hasB P f then D f (first ++ args ++ cap) w else none
  | _ => none
theorem opX_call {f : Operand} {args : Array Operand} {ats : Array TypeId} {g : FuncId} {first cap : Array Value} (hf : e f = .func (.func g) first cap) (hb : hasB P g = true) :
    opX P D (.call ⟨.value f, args, ats⟩) ty e w = D g (first ++ args.map e ++ cap) w := by
  unfold hasB at hb
  cases hg : P.funcs[g]? with
  | none => rw [hg] at hb; cases hb
  | some fn =>
    rw [hg] at hb
    simp only [Bool.and_eq_true, Bool.not_eq_true'] at hb
    have h1 : fn.body.isNone = false := by
      cases hbd : fn.body with
      | none => rw [hbd] at hb; simp at hb
      | some c => rfl
    have h2 : fn.body ≠ none := by intro h; rw [h] at h1; simp at h1
    have h3 : fn.name ≠ "runtime.NumGoroutine" := by simpa using hb.2
    simp [opX, opS, execOp, resolve, Deferred.ofValue, hf, invoke, callFunc, hg, h2, h3]
theorem opX_func {args : Array Operand} {ats : Array TypeId} {g : FuncId} {ρ : Env} (hb : hasB P g = true) :
    opX P D (.call ⟨.value (.func g), args, ats⟩) ty (ev ρ) w = D g (args.map (ev ρ)) w := by
  rw [opX_call (g := g) (first := #[]) (cap := #[]) rfl hb]
  simp

def lenS (P : Program) (t : TypeId) (x : Value) (w : World) : Option (Value × World) := lift ((Builtin.len_ #[t] 0 #[x]).run P w)
theorem opX_len {x : Operand} {t : TypeId} : opX P D (.call ⟨.builtin .len, #[x], #[t]⟩) ty e w = lenS P t (e x) w := by
  simp only [opX, opS, execOp, lenS, lift, resolve]
  have : ∀ ty', Builtin.len_ #[t] ty' #[e x] = Builtin.len_ #[t] 0 #[e x] := fun _ => rfl
  simp [invoke, builtin, this ty]
  generalize Builtin.len_ #[t] 0 #[e x] = s
  cases s.run P w <;> simp
theorem len_slice {t el : TypeId} {a : Option Addr} {n c : Nat} (ht : elt P t = some el) : lenS P t (.slice a n c) w = some (.int .i64 n, w) := by
  unfold elt at ht
  split at ht
  · rename_i el' hu
    simp [lenS, lift, Builtin.len_, underlying, hu, goInt]
  · cases ht
end
end Go.Proofs.Ytpgfokhpacdhjaa.Fd
