/-
  Functions whose result lies in a cell; aggregates of many cells as a whole; words of bits (uint64).
-/
import Derived.Test.YtpgfokhpacdhjaaFdO
namespace Go.Proofs.Ytpgfokhpacdhjaa.Fd
set_option linter.unusedSimpArgs false
set_option linter.unusedVariables false
open Go
set_option maxRecDepth 100000

theorem cell_setO {w : World} {b o b' o' : Nat} {v : Value} (h : b' ≠ b) : (w.setCell ⟨b, o, none⟩ v).cell? ⟨b', o', none⟩ = w.cell? ⟨b', o', none⟩ := by
  rw [cell_set, if_neg (fun e => h e.1)]
attribute [push_cast 2000] cell_setO
section
variable {P : Program}
theorem lds_var {t : TypeId} {a : Addr} {w : World} : ldS P t (.pointer (some a)) w = lift ((loadVar t a).run P w) := by
  simp [ldS, lift, Instr.loadAt, Instr.sureAddr]
def ptrK (v : Value) (A : Prop) : Prop :=
  match v with
  | .pointer (some _) => A
  | _ => False
theorem ptrK_mk {a : Addr} {A : Prop} : ptrK (.pointer (some a)) A = A := _root_.id rfl
theorem ptrK_congr {v v' : Value} {A : Prop} (h : v = v') : ptrK v A = ptrK v' A := by rw [h]
theorem ptrK_elim {v : Value} {A : Prop} (h : ptrK v A) : (∃ x, v = .pointer (some x)) ∧ A := by
  unfold ptrK at h
  split at h
  · exact ⟨⟨_, rfl⟩, h⟩
  · exact h.elim
def KC (K : Value → World → Prop) (w : World) (x : Value × World) : Prop := x.2 = w ∧ K x.1 w
theorem KC_mk {K : Value → World → Prop} {w w' : World} {v : Value} : KC K w (v, w') = (w' = w ∧ K v w) := _root_.id rfl
def retC1 (P : Program) (a : Nat) (t : TypeId) (K : Value → World → Prop) : Out → Prop
  | (.normal, ρ, w) => ptrK (ρ a) (Okk (ldS P t (ρ a) w) (KC K w))
  | (.ret, ρ, w) => ptrK (ρ a) (Okk (ldS P t (ρ a) w) (KC K w))
  | _ => False
theorem retC1_nor {a : Nat} {t : TypeId} {K : Value → World → Prop} {ρ : Env} {w : World} : retC1 P a t K (.normal, ρ, w) = ptrK (ρ a) (Okk (ldS P t (ρ a) w) (KC K w)) := _root_.id rfl
theorem retC1_ret {a : Nat} {t : TypeId} {K : Value → World → Prop} {ρ : Env} {w : World} : retC1 P a t K (.ret, ρ, w) = ptrK (ρ a) (Okk (ldS P t (ρ a) w) (KC K w)) := _root_.id rfl
def pairK (K : Value → World → Prop) (u v : Value) (w : World) : Prop := K (.tuple #[v, u]) w
theorem pairK_mk {K : Value → World → Prop} {u v : Value} {w : World} : pairK K u v w = K (.tuple #[v, u]) w := _root_.id rfl
def retC2 (P : Program) (a : Nat) (t : TypeId) (u : Nat) (K : Value → World → Prop) : Out → Prop
  | (.normal, ρ, w) => ptrK (ρ a) (Okk (ldS P t (ρ a) w) (KC (pairK K (ρ u)) w))
  | (.ret, ρ, w) => ptrK (ρ a) (Okk (ldS P t (ρ a) w) (KC (pairK K (ρ u)) w))
  | _ => False
theorem retC2_nor {a u : Nat} {t : TypeId} {K : Value → World → Prop} {ρ : Env} {w : World} : retC2 P a t u K (.normal, ρ, w) = ptrK (ρ a) (Okk (ldS P t (ρ a) w) (KC (pairK K (ρ u)) w)) := _root_.id rfl
theorem retC2_ret {a u : Nat} {t : TypeId} {K : Value → World → Prop} {ρ : Env} {w : World} : retC2 P a t u K (.ret, ρ, w) = ptrK (ρ a) (Okk (ldS P t (ρ a) w) (KC (pairK K (ρ u)) w)) := _root_.id rfl
theorem res_cell {ρ : Env} {a : Nat} {t : TypeId} {w : World} {v : Value} (h : ldS P t (ρ a) w = some (v, w)) (hp : ∃ x, ρ a = .pointer (some x)) : (resS ρ (.cell a t)).run P w = .ok v w := by
  obtain ⟨x, hx⟩ := hp
  rw [hx, lds_var] at h
  unfold lift at h
  have e : (resS ρ (.cell a t)).run P w = (loadVar t x).run P w := by
    simp [resS, hx, asAddr]
  rw [e]
  split at h
  · rename_i h2
    rw [h2]
    simp only [Option.some.injEq, Prod.mk.injEq] at h
    rw [h.1, h.2]
  · cases h
theorem den_okC1 {f : FuncId} {fn : Func} {c : Code} {p : Plan} {args : List Value} {w : World} (a : Nat) (t : TypeId) {K : Value → World → Prop}
    (hf : P.funcs[f]? = some fn) (hb : fn.body = some c) (hm : P.follows .mixedOrders = true) (hi : P.inits.idxOf? f = none)
    (hok : okFn fn c p args.length = true) (hr : fn.results = #[.cell a t])
    (h : W P (den P) c p (env0 args) w (retC1 P a t K)) : Ok (den P f args.toArray w) K := by
  obtain ⟨⟨e, ρ, w1⟩, h1, h2⟩ := h
  have fin : (e = .normal ∨ e = .ret) → ptrK (ρ a) (Okk (ldS P t (ρ a) w1) (KC K w1)) → Ok (den P f args.toArray w) K := by
    intro he h3
    obtain ⟨h4, ⟨v, w2⟩, h5, h6, h7⟩ := ptrK_elim h3
    dsimp only at h6 h7
    subst h6
    refine ⟨(v, w2), den_of_run hf hb hm hi hok ?_, h7⟩
    unfold runFn
    rw [h1]
    have hres : (resE fn ρ).run P w2 = .ok v w2 := by
      unfold resE
      rw [hr, Array.mapM_eq_mapM_toList]
      simp only [List.mapM_cons, List.mapM_nil]
      simp [res_cell h5 h4]
    rcases he with rfl | rfl <;> simp [resK, hres, grd]
  cases e with
  | normal => exact fin (.inl rfl) h2
  | ret => exact fin (.inr rfl) h2
  | _ => exact h2.elim
theorem den_okC2 {f : FuncId} {fn : Func} {c : Code} {p : Plan} {args : List Value} {w : World} (a : Nat) (t : TypeId) (u : Nat) {K : Value → World → Prop}
    (hf : P.funcs[f]? = some fn) (hb : fn.body = some c) (hm : P.follows .mixedOrders = true) (hi : P.inits.idxOf? f = none)
    (hok : okFn fn c p args.length = true) (hr : fn.results = #[.cell a t, .tmp u])
    (h : W P (den P) c p (env0 args) w (retC2 P a t u K)) : Ok (den P f args.toArray w) K := by
  obtain ⟨⟨e, ρ, w1⟩, h1, h2⟩ := h
  have fin : (e = .normal ∨ e = .ret) → ptrK (ρ a) (Okk (ldS P t (ρ a) w1) (KC (pairK K (ρ u)) w1)) → Ok (den P f args.toArray w) K := by
    intro he h3
    obtain ⟨h4, ⟨v, w2⟩, h5, h6, h7⟩ := ptrK_elim h3
    dsimp only at h6 h7
    subst h6
    refine ⟨(.tuple #[v, ρ u], w2), den_of_run hf hb hm hi hok ?_, h7⟩
    unfold runFn
    rw [h1]
    have hres : (resE fn ρ).run P w2 = .ok (.tuple #[v, ρ u]) w2 := by
      unfold resE
      rw [hr, Array.mapM_eq_mapM_toList]
      simp only [List.mapM_cons, List.mapM_nil]
      have hu : resS ρ (.tmp u) = pure (ρ u) := _root_.id rfl
      simp [res_cell h5 h4, hu]
    rcases he with rfl | rfl <;> simp [resK, hres, grd]
  cases e with
  | normal => exact fin (.inl rfl) h2
  | ret => exact fin (.inr rfl) h2
  | _ => exact h2.elim
end
/-! a block as one aggregate -/
theorem ld_blk {P : Program} {w : World} {b : Nat} {cs : List Value} {E t : TypeId} (h : Blk w b cs E) (hk : knd P t = some true) (hs : siz P t = some cs.length) : ldS P t (.pointer (some ⟨b, 0, none⟩)) w = some (.agg cs.toArray, w) := by
  refine ld_agg hk hs fun j hj => ?_
  rw [← h.cell j]
  unfold Addr.add
  by_cases h0 : j = 0
  · subst h0; rfl
  · simp [h0]
theorem setRow_same {w : World} {b : Nat} {cs : List Value} {E : TypeId} (h : Blk w b cs E) : w.setRow b cs.toArray = w := by
  unfold Blk at h
  obtain ⟨hp, tp, dr, os, out⟩ := w
  unfold World.setRow
  congr 1
  apply Array.ext_getElem?
  intro i
  simp only [Array.getElem?_modify]
  by_cases hi : b = i
  · subst hi; rw [show hp[b]? = _ from h]; simp
  · simp [hi]
theorem setRow_set {w : World} {b o : Nat} {v : Value} {cs : Array Value} : (w.setCell ⟨b, o, none⟩ v).setRow b cs = w.setRow b cs := by
  unfold World.setRow World.setCell
  congr 1
  apply Array.ext_getElem?
  intro i
  simp only [Array.getElem?_modify]
  by_cases hi : b = i
  · subst hi
    cases w.heap[b]? with
    | none => simp
    | some ob => cases ob <;> simp
  · simp [hi]
theorem put_blk {b : Nat} {E : TypeId} : ∀ {l : List Value} {w : World} {cs : List Value} {o : Nat}, Blk w b cs E → o + l.length = cs.length → (∀ u ∈ l, u.oneCell' = true) → putAt w b o l = some (w.setRow b (cs.take o ++ l).toArray) := by
  intro l
  induction l with
  | nil =>
    intro w cs o h hl _
    have : cs.take o = cs := List.take_of_length_le (by simp at hl; omega)
    rw [List.append_nil, this, setRow_same h]
    rfl
  | cons v r ih =>
    intro w cs o h hl h1
    simp only [List.length_cons] at hl
    have hc : w.cell? ⟨b, o, none⟩ = some cs[o] := by rw [h.cell, List.getElem?_eq_getElem]
    rw [putAt_cons, hc, h.free, h1 v (by simp), orK_some, iffK_f, iffK_t, ih (h.set o v) (by simp; omega) (fun u hu => h1 u (by simp [hu])), setRow_set]
    congr 3
    rw [List.take_set, List.take_succ_eq_append_getElem (by omega), List.set_append_right _ _ (by rw [List.length_take]; omega)]
    simp [show o ≤ cs.length by omega]
theorem st_blk {P : Program} {w : World} {b : Nat} {cs cs' : List Value} {E t : TypeId} (h : Blk w b cs E) (hs : siz P t = some cs'.length) (hl : cs'.length = cs.length) (h1 : ∀ u ∈ cs', u.oneCell' = true) :
    stS P t (.pointer (some ⟨b, 0, none⟩)) (.agg cs'.toArray) w = some (undef, w.setRow b cs'.toArray) := by
  refine st_run (by simpa [Value.cells] using hs) ?_
  have := put_blk (l := cs') (o := 0) h (by omega) h1
  simpa [Value.cells] using this

/-! words of bits -/
def U (x : BitVec 64) : Value := .int .u64 (x.toNat : Int)
def bitN (t : Bool) : Int := if t then 1 else 0
theorem u_wrap (x : BitVec 64) : IntKind.u64.wrap (x.toNat : Int) = (x.toNat : Int) := by
  have := x.isLt
  show ((x.toNat : Int) % (2 ^ 64 : Int)) = _
  omega
theorem u_of (x : BitVec 64) : BitVec.ofInt IntKind.u64.bits (x.toNat : Int) = x := by
  show BitVec.ofInt 64 _ = x
  simp
theorem u_or {x y : BitVec 64} : IntKind.u64.wrap ((BitVec.ofInt IntKind.u64.bits (x.toNat : Int) ||| BitVec.ofInt IntKind.u64.bits (y.toNat : Int)).toNat : Int) = ((x ||| y).toNat : Int) := by
  rw [u_of, u_of]; exact u_wrap _
theorem u_and {x y : BitVec 64} : IntKind.u64.wrap ((BitVec.ofInt IntKind.u64.bits (x.toNat : Int) &&& BitVec.ofInt IntKind.u64.bits (y.toNat : Int)).toNat : Int) = ((x &&& y).toNat : Int) := by
  rw [u_of, u_of]; exact u_wrap _
theorem u_andNot {x y : BitVec 64} : IntKind.u64.wrap ((BitVec.ofInt IntKind.u64.bits (x.toNat : Int) &&& ~~~(BitVec.ofInt IntKind.u64.bits (y.toNat : Int))).toNat : Int) = ((x &&& ~~~y).toNat : Int) := by
  rw [u_of, u_of]; exact u_wrap _
theorem u_shl {b : Nat} : IntKind.u64.wrap (1 * 2 ^ (min b IntKind.u64.bits)) = ((BitVec.twoPow 64 b).toNat : Int) := by
  show ((1 * 2 ^ (min b 64) : Int) % (2 ^ 64 : Int)) = _
  rw [BitVec.toNat_twoPow, Int.one_mul]
  by_cases h : b < 64
  · rw [Nat.min_eq_left (by omega)]
    have h2 : (2 : Nat) ^ b < 2 ^ 64 := Nat.pow_lt_pow_right (by omega) h
    rw [Nat.mod_eq_of_lt h2]
    rw [show ((2 : Int) ^ b) = ((2 ^ b : Nat) : Int) from by rw [Int.natCast_pow]; rfl]
    exact Int.emod_eq_of_lt (Int.natCast_nonneg _) (Int.ofNat_lt.2 h2)
  · rw [Nat.min_eq_right (by omega)]
    have : (2 : Nat) ^ b = 2 ^ 64 * 2 ^ (b - 64) := by rw [← Nat.pow_add]; congr 1; omega
    rw [this]
    simp
theorem u_bit {x : BitVec 64} {b : Nat} : IntKind.u64.wrap ((BitVec.ofInt IntKind.u64.bits ((x.toNat : Int).fdiv (2 ^ (min b IntKind.u64.bits))) &&& BitVec.ofInt IntKind.u64.bits 1).toNat : Int) = bitN (x.getLsbD b) := by
  show IntKind.u64.wrap ((BitVec.ofInt 64 ((x.toNat : Int).fdiv (2 ^ (min b 64))) &&& BitVec.ofInt 64 1).toNat : Int) = bitN (x.getLsbD b)
  have e : ((x.toNat : Int).fdiv (2 ^ (min b 64))) = ((x >>> (min b 64)).toNat : Int) := by
    rw [BitVec.toNat_ushiftRight, Nat.shiftRight_eq_div_pow]
    rw [Int.fdiv_eq_ediv_of_nonneg _ (Int.le_of_lt (Int.pow_pos (by decide))), Int.natCast_ediv, Int.natCast_pow]
    rfl
  have e0 : BitVec.ofInt 64 ((x >>> (min b 64)).toNat : Int) = x >>> (min b 64) := by rw [BitVec.ofInt_natCast, BitVec.ofNat_toNat, BitVec.setWidth_eq]
  have e1 : BitVec.ofInt 64 1 = 1#64 := by decide
  have e2 : (x >>> (min b 64)) &&& 1#64 = if x.getLsbD b then 1#64 else 0#64 := by
    rw [BitVec.and_one_eq_setWidth_ofBool_getLsbD, BitVec.getLsbD_ushiftRight, Nat.add_zero]
    by_cases h : b < 64
    · rw [Nat.min_eq_left (by omega)]
      cases x.getLsbD b <;> decide
    · rw [Nat.min_eq_right (by omega), BitVec.getLsbD_of_ge x 64 (by omega), BitVec.getLsbD_of_ge x b (by omega)]
      decide
  rw [e, e0, e1, e2, u_wrap]
  cases x.getLsbD b <;> rfl
theorem bitN_1 {t : Bool} : decide (bitN t = 1) = t := by cases t <;> rfl
theorem bitN_0 {t : Bool} : decide (bitN t = 0) = !t := by cases t <;> rfl
attribute [congr] ptrK_congr
attribute [push_cast] retC1_nor retC1_ret retC2_nor retC2_ret ptrK_mk KC_mk pairK_mk u_or u_and u_andNot u_shl u_bit bitN_1 bitN_0 U
end Go.Proofs.Ytpgfokhpacdhjaa.Fd
