/-
  wire.Writer; the specification's Uint, Bytes, Text.
-/
import Derived.Test.YtlnladcfgieggaaJn1
import Derived.Test.YtlnladcfgieggaaFdI
import Derived.Test.YtlnladcfgieggaaFdE
import Derived.Test.YtlnladcfgieggaaDk4
namespace Go.Proofs.Ytlnladcfgieggaa.Fd
set_option linter.unusedSimpArgs false
set_option linter.unusedVariables false
open Go
set_option maxRecDepth 100000

theorem bsl_u8 (x : Int) (w : World) : bslS Try.prog 46 1 #[(0, .int .u8 x)] w = some (.slice (some ⟨w.heap.size, 0, none⟩) 1 1, w.alloc (.cells [.int .u8 x].toArray 5 (0, 0))) := by kernel_rfl
theorem cnv_i_u64 {k : IntKind} {n : Int} {w : World} : cnvS Try.prog 3 77 (.int k n) w = some (.int .u64 (IntKind.u64.wrap n), w) := cnv_int (by kernel_rfl) (by kernel_rfl)
theorem cnv_u64_i {k : IntKind} {n : Int} {w : World} : cnvS Try.prog 77 3 (.int k n) w = some (.int .i64 (IntKind.i64.wrap n), w) := cnv_int (by kernel_rfl) (by kernel_rfl)
theorem cnv_u64_u8 {k : IntKind} {n : Int} {w : World} : cnvS Try.prog 77 5 (.int k n) w = some (.int .u8 (IntKind.u8.wrap n), w) := cnv_int (by kernel_rfl) (by kernel_rfl)
theorem cnv_u8_u64 {k : IntKind} {n : Int} {w : World} : cnvS Try.prog 5 77 (.int k n) w = some (.int .u64 (IntKind.u64.wrap n), w) := cnv_int (by kernel_rfl) (by kernel_rfl)
theorem cnv_u8_i {k : IntKind} {n : Int} {w : World} : cnvS Try.prog 5 3 (.int k n) w = some (.int .i64 (IntKind.i64.wrap n), w) := cnv_int (by kernel_rfl) (by kernel_rfl)
theorem cnv_i_u {k : IntKind} {n : Int} {w : World} : cnvS Try.prog 3 107 (.int k n) w = some (.int .u64 (IntKind.u64.wrap n), w) := cnv_int (by kernel_rfl) (by kernel_rfl)
attribute [push_cast] bsl_u8 cnv_i_u64 cnv_u64_i cnv_u64_u8 cnv_u8_u64 cnv_u8_i cnv_i_u
theorem slb_new {w : World} {b : Nat} {l : List Int} (h : Blk w b (by8 l) 5) {c : Nat} {F : Nat → Prop} (hF : ¬ F b) : SlB w F (.slice (some ⟨b, 0, none⟩) l.length c) l :=
  ⟨_, c, rfl, fun _ => ⟨b, 0, rfl, Lies.of_blk h, hF⟩⟩
theorem slb_one {w : World} {x : Int} {F : Nat → Prop} (hF : ¬ F w.heap.size) : SlB (w.alloc (.cells [.int .u8 x].toArray 5 (0, 0))) F (.slice (some ⟨w.heap.size, 0, none⟩) 1 1) [x] := slb_new (l := [x]) Blk.new hF
theorem ownB {b o n c g : Nat} (h : (Value.slice (some ⟨b, o, none⟩) n c).ownBlock = some g) : b = g := Option.some.inj h
/-- A writer at block p, all of it in the blocks S. -/
structure WrV (w : World) (S : Nat → Prop) (p : Nat) (v : Value) (l : List Int) : Prop where
  head : Blk w p [v] 79
  own : Bow w v l
  fp : S p
  fv : ∀ g, v.ownBlock = some g → S g ∧ g ≠ p
  bd : ∀ b, S b → b < w.heap.size
def WrI (w : World) (S : Nat → Prop) (p : Nat) (l : List Int) : Prop := ∃ v, WrV w S p v l
theorem WrI.upd {w w' : World} {S G : Nat → Prop} {p : Nat} {l : List Int} (h : WrI w S p l) (hu : Upd G w w') (hG : ∀ b, S b → ¬ G b) : WrI w' S p l := by
  obtain ⟨v, h⟩ := h
  exact ⟨v, h.head.upd hu (hG _ h.fp), h.own.upd hu fun g hg => hG g (h.fv g hg).1, h.fp, h.fv, fun b hb => Nat.lt_of_lt_of_le (h.bd b hb) hu.size⟩
theorem WrV.store {w w1 w2 : World} {S : Nat → Prop} {p : Nat} {v v' : Value} {l l' : List Int} (h : WrV w S p v l) (hu1 : Upd S w w1) (hp : Blk w1 p [v] 79) (hown : Bow w2 v' l') (hu : Upd (fun b => v.ownBlock = some b) w1 w2)
    (hfr : ∀ g, v'.ownBlock = some g → v.ownBlock = some g ∨ (w1.heap.size ≤ g ∧ g < w2.heap.size)) : WrV (w2.setCell ⟨p, 0, none⟩ v') (gr S w (w2.setCell ⟨p, 0, none⟩ v')) p v' l' ∧ Upd S w (w2.setCell ⟨p, 0, none⟩ v') := by
  have hsz : (w2.setCell ⟨p, 0, none⟩ v').heap.size = w2.heap.size := size_set
  have hne : ∀ g, v.ownBlock = some g → g ≠ p := fun g hg => (h.fv g hg).2
  have hp2 := hp.upd hu (fun e => hne p e rfl)
  have hlt := hp.lt
  have hs1 := hu1.size
  have hne' : ∀ g, v'.ownBlock = some g → g ≠ p := by
    intro g hg
    rcases hfr g hg with h1 | h1
    · exact hne g h1
    · omega
  have hset : Upd (fun b => b = p) w2 (w2.setCell ⟨p, 0, none⟩ v') := Upd.set rfl
  refine ⟨⟨hp2.set 0 v', hown.upd hset hne', .inl h.fp, fun g hg => ⟨?_, hne' g hg⟩, ?_⟩, ?_⟩
  · rcases hfr g hg with h1 | h1
    · exact .inl (h.fv g h1).1
    · exact .inr ⟨by omega, by omega⟩
  · rintro b (hb | hb)
    · have := h.bd b hb
      have := hu.size
      omega
    · exact hb.2
  · refine (hu1.trans hu (fun b hb e => (h.fv b e).1)).trans hset (fun b hb e => by rw [e]; exact h.fp)
theorem WrI.re {w w1 w' : World} {S : Nat → Prop} {p : Nat} {l : List Int} (h : WrI w' (gr (gr S w w1) w1 w') p l) (hs : w.heap.size ≤ w1.heap.size) (hs2 : w1.heap.size ≤ w'.heap.size) : WrI w' (gr S w w') p l := by
  obtain ⟨v, h⟩ := h
  have key : ∀ b, gr (gr S w w1) w1 w' b → gr S w w' b := by
    rintro b ((hb | hb) | hb)
    · exact .inl hb
    · exact .inr ⟨hb.1, by omega⟩
    · exact .inr ⟨by omega, hb.2⟩
  have bd := h.bd
  exact ⟨v, h.head, h.own, key _ h.fp, fun g hg => ⟨key _ (h.fv g hg).1, (h.fv g hg).2⟩, by
    rintro b (hb | hb)
    · exact bd b (.inl (.inl hb))
    · exact hb.2⟩
theorem Upd.gr {w w1 w' : World} {S : Nat → Prop} (h : Upd S w w1) (h2 : Upd (gr S w w1) w1 w') : Upd S w w' :=
  h.trans h2 fun b hb hg => hg.elim id fun x => by omega
theorem pow128 {k m : Nat} (h : m < 128 ^ (k + 1)) (h2 : ¬ m < 128) : m / 128 < 128 ^ k := by
  rw [Nat.pow_succ] at h
  exact Nat.div_lt_of_lt_mul (by omega)
theorem u8_wrap_nat {m : Nat} : IntKind.u8.wrap (m : Int) = ((m % 256 : Nat) : Int) := by
  rw [IntKind.wrap_u8]; omega
theorem fdiv128 {m : Nat} : (m : Int).fdiv (2 ^ (min 7 IntKind.u64.bits)) = ((m / 128 : Nat) : Int) := by
  rw [Int.fdiv_eq_ediv_of_nonneg _ (by decide)]
  show (m : Int) / (128 : Int) = _
  omega
set_option maxHeartbeats 1000000 in
theorem wUint_ok {w : World} {S : Nat → Prop} {p : Nat} {l : List Int} (h : WrI w S p l) {n : Nat} (hn : n < 2 ^ 64) (hl : l.length ≤ 900000000) :
    Ok (den Try.prog 70 #[.pointer (some ⟨p, 0, none⟩), .int .u64 (n : Int)] w) fun u w' => WrI w' (gr S w w') p (l ++ encU n) ∧ Upd S w w' := by
  refine den_ok (args := [.pointer (some ⟨p, 0, none⟩), .int .u64 (n : Int)]) rs70 Try.func70 rfl mixed in70 ok70 rfl ?_
  simp (disch := omega) only [push_cast, Nat.reduceBEq, Nat.reduceEqDiff, Nat.reduceAdd, Nat.reduceMul, Nat.reduceSub, Nat.reduceLT, Int.reduceToNat, Int.reduceLT, Int.reduceLE, Int.reduceEq, Int.reduceAdd, Int.reduceSub, Int.reduceNeg, Int.reduceMul]
  have hgr : WrI w (gr S w w) p l := by
    obtain ⟨v, h⟩ := h
    have bd := h.bd
    exact ⟨v, h.head, h.own, .inl h.fp, fun g hg => ⟨.inl (h.fv g hg).1, (h.fv g hg).2⟩, fun b hb => hb.elim (bd b) fun x => x.2⟩
  refine loop_inv (I := fun k st w' => Bx (∃ (m : Nat) (l' : List Int), k ≤ 10 ∧ m < 128 ^ k ∧ st = [.int .u64 (m : Int)] ∧ l' ++ encU m = l ++ encU n ∧ l'.length + k ≤ 900000010 ∧ WrI w' (gr S w w') p l' ∧ Upd S w w') ⟨⟩) ?_ 10
    ⟨n, l, Nat.le_refl _, Nat.lt_trans hn (by decide), rfl, rfl, by omega, hgr, Upd.refl⟩
  clear h hgr hl
  rintro k st w' ⟨m, l', hk10, hm, rfl, hl, hlen, ⟨v, h⟩, hu⟩
  have hs := hu.size
  have hm64 : m < 2 ^ 64 ∨ k = 10 := by
    by_cases e : k = 10
    · exact .inr e
    · exact .inl (Nat.lt_of_lt_of_le hm (Nat.le_trans (Nat.pow_le_pow_right (by omega) (by omega : k ≤ 9)) (by decide)))
  have hlt := h.head.lt
  have hS : ¬ gr S w w' w'.heap.size := fun hb => by have := h.bd _ hb; omega
  obtain ⟨va, vc, hv⟩ := own_slice h.own
  subst hv
  by_cases h128 : m < 128
  · have e8 : IntKind.u8.wrap (m : Int) = (m : Int) := by rw [u8_wrap_nat, Nat.mod_eq_of_lt (by omega)]
    simp (config := { maxSteps := 3000000 }) (disch := omega) only [push_cast, Nat.reduceBEq, Nat.reduceEqDiff, Nat.reduceAdd, Nat.reduceMul, Nat.reduceSub, Nat.reduceLT, Int.reduceToNat, Int.reduceLT, Int.reduceLE, Int.reduceEq, Int.reduceAdd, Int.reduceSub, Int.reduceNeg, Int.reduceMul, h.head.cell, h.head.free, e8]
    refine app_by (m := [(m : Int)]) (h.own.upd (Upd.alloc (F := fun _ => False)) (fun _ _ h => h)) (slb_one (F := fun _ => False) (fun h => h)) (by simp; omega) ?_
    intro v' w2 hown hu2 hfr
    obtain ⟨h1, h2⟩ := h.store (Upd.alloc (F := gr S w w')) (h.head.alloc _) hown hu2 hfr
    have hp2 := (h.head.alloc _).upd hu2 (fun e => (h.fv p e).2 rfl)
    obtain ⟨va', vc', rfl, _⟩ := hown.form
    simp (config := { maxSteps := 3000000 }) (disch := omega) only [push_cast, Nat.reduceBEq, Nat.reduceEqDiff, Nat.reduceAdd, Nat.reduceMul, Nat.reduceSub, Nat.reduceLT, Int.reduceToNat, Int.reduceLT, Int.reduceLE, Int.reduceEq, Int.reduceAdd, Int.reduceSub, Int.reduceNeg, Int.reduceMul, hp2.cell, hp2.free]
    rw [encU_small h128] at hl
    rw [← hl]
    exact ⟨WrI.re ⟨_, h1⟩ hs h2.size, hu.gr h2⟩
  · obtain ⟨k, rfl⟩ : ∃ k', k = k' + 1 := ⟨k - 1, by
      rcases Nat.eq_zero_or_pos k with e | e
      · subst e; simp at hm; omega
      · omega⟩
    have e8 : IntKind.u8.wrap (m : Int) = ((m % 256 : Nat) : Int) := u8_wrap_nat
    have e9 := u8_or128 (a := m % 256) (by omega)
    rw [show m % 256 % 128 = m % 128 from by omega] at e9
    have e7 := fdiv128 (m := m)
    have hm2 := pow128 hm h128
    have hl2 : (l' ++ [((m % 128 + 128 : Nat) : Int)]) ++ encU (m / 128) = l ++ encU n := by
      rw [← hl, encU_big h128]; simp
    generalize m % 256 = r at e8 e9
    generalize m % 128 + 128 = r2 at e9 hl2
    generalize m / 128 = m2 at *
    simp (config := { maxSteps := 3000000 }) (disch := omega) only [push_cast, Nat.reduceBEq, Nat.reduceEqDiff, Nat.reduceAdd, Nat.reduceMul, Nat.reduceSub, Nat.reduceLT, Int.reduceToNat, Int.reduceLT, Int.reduceLE, Int.reduceEq, Int.reduceAdd, Int.reduceSub, Int.reduceNeg, Int.reduceMul, h.head.cell, h.head.free, e8, e9]
    refine app_by (m := [(r2 : Int)]) (h.own.upd (Upd.alloc (F := fun _ => False)) (fun _ _ h => h)) (slb_one (F := fun _ => False) (fun h => h)) (by simp; omega) ?_
    intro v' w2 hown hu2 hfr
    obtain ⟨h1, h2⟩ := h.store (Upd.alloc (F := gr S w w')) (h.head.alloc _) hown hu2 hfr
    have hp2 := (h.head.alloc _).upd hu2 (fun e => (h.fv p e).2 rfl)
    obtain ⟨va', vc', rfl, _⟩ := hown.form
    simp (config := { maxSteps := 3000000 }) (disch := omega) only [push_cast, Nat.reduceBEq, Nat.reduceEqDiff, Nat.reduceAdd, Nat.reduceMul, Nat.reduceSub, Nat.reduceLT, Int.reduceToNat, Int.reduceLT, Int.reduceLE, Int.reduceEq, Int.reduceAdd, Int.reduceSub, Int.reduceNeg, Int.reduceMul, hp2.cell, hp2.free, e7]
    exact ⟨k, by omega, m2, _, by omega, hm2, rfl, hl2, by simp; omega, WrI.re ⟨_, h1⟩ hs h2.size, hu.gr h2⟩
theorem wBytes_ok {w : World} {S : Nat → Prop} {p : Nat} {l : List Int} (h : WrI w S p l) {F : Nat → Prop} {y : Value} {m : List Int} (hy : SlB w F y m) (hF : ∀ b, S b → F b) (hm : m.length ≤ 90000000) (hl : l.length ≤ 900000000) :
    Ok (den Try.prog 44 #[.pointer (some ⟨p, 0, none⟩), y] w) fun u w' => WrI w' (gr S w w') p (l ++ encB m) ∧ Upd S w w' := by
  obtain ⟨ya, yc, rfl, _⟩ := id hy
  refine den_ok (args := [.pointer (some ⟨p, 0, none⟩), .slice ya m.length yc]) rs44 Try.func44 rfl mixed in44 ok44 rfl ?_
  have e1 : IntKind.u64.wrap (m.length : Int) = (m.length : Int) := by rw [IntKind.wrap_u64]; omega
  simp (disch := omega) only [push_cast, Nat.reduceBEq, Nat.reduceEqDiff, Nat.reduceAdd, Nat.reduceMul, Nat.reduceSub, Nat.reduceLT, Int.reduceToNat, Int.reduceLT, Int.reduceLE, Int.reduceEq, Int.reduceAdd, Int.reduceSub, Int.reduceNeg, Int.reduceMul, e1]
  refine Ok.use (wUint_ok h (n := m.length) (by omega) hl) ?_
  rintro u w1 ⟨⟨v, h1⟩, hu1⟩
  obtain ⟨va, vc, rfl, _⟩ := h1.own.form
  have hx := encU_len10 (n := m.length) (by omega)
  simp (config := { maxSteps := 3000000 }) (disch := omega) only [push_cast, Nat.reduceBEq, Nat.reduceEqDiff, Nat.reduceAdd, Nat.reduceMul, Nat.reduceSub, Nat.reduceLT, Int.reduceToNat, Int.reduceLT, Int.reduceLE, Int.reduceEq, Int.reduceAdd, Int.reduceSub, Int.reduceNeg, Int.reduceMul, h1.head.cell, h1.head.free]
  refine app_by h1.own (hy.upd hu1 hF) (by rw [List.length_append]; omega) ?_
  intro v' w2 hown hu2 hfr
  obtain ⟨h3, h4⟩ := h1.store (Upd.refl (F := gr S w w1)) h1.head hown hu2 hfr
  have hp2 := h1.head.upd hu2 (fun e => (h1.fv p e).2 rfl)
  obtain ⟨va', vc', rfl, _⟩ := hown.form
  simp (config := { maxSteps := 3000000 }) (disch := omega) only [push_cast, Nat.reduceBEq, Nat.reduceEqDiff, Nat.reduceAdd, Nat.reduceMul, Nat.reduceSub, Nat.reduceLT, Int.reduceToNat, Int.reduceLT, Int.reduceLE, Int.reduceEq, Int.reduceAdd, Int.reduceSub, Int.reduceNeg, Int.reduceMul, hp2.cell, hp2.free]
  have e : l ++ encB m = l ++ encU m.length ++ m := by simp [encB]
  rw [e]
  exact ⟨WrI.re ⟨_, h3⟩ hu1.size h4.size, hu1.gr h4⟩
theorem len_str {s : ByteArray} {t : TypeId} {w : World} {P : Program} (ht : P.underlying t = some .string) : lenS P t (.string s) w = some (.int .i64 s.size, w) := by
  simp [lenS, lift, Builtin.len_, run_underlying ht]; rfl
theorem wText_ok {w : World} {S : Nat → Prop} {p : Nat} {l : List Int} (h : WrI w S p l) {s : ByteArray} (hm : s.size ≤ 90000000) (hl : l.length ≤ 900000000) :
    Ok (den Try.prog 71 #[.pointer (some ⟨p, 0, none⟩), .string s] w) fun u w' => WrI w' (gr S w w') p (l ++ encB (strL s)) ∧ Upd S w w' := by
  refine den_ok (args := [.pointer (some ⟨p, 0, none⟩), .string s]) rs71 Try.func71 rfl mixed in71 ok71 rfl ?_
  have e1 : IntKind.u64.wrap (s.size : Int) = (s.size : Int) := by rw [IntKind.wrap_u64]; omega
  simp (disch := omega) only [push_cast, Nat.reduceBEq, Nat.reduceEqDiff, Nat.reduceAdd, Nat.reduceMul, Nat.reduceSub, Nat.reduceLT, Int.reduceToNat, Int.reduceLT, Int.reduceLE, Int.reduceEq, Int.reduceAdd, Int.reduceSub, Int.reduceNeg, Int.reduceMul, e1, len_str Try.underlying9]
  refine Ok.use (wUint_ok h (n := s.size) (by omega) hl) ?_
  rintro u w1 ⟨⟨v, h1⟩, hu1⟩
  obtain ⟨va, vc, rfl, _⟩ := h1.own.form
  have hx := encU_len10 (n := s.size) (by omega)
  simp (config := { maxSteps := 3000000 }) (disch := omega) only [push_cast, Nat.reduceBEq, Nat.reduceEqDiff, Nat.reduceAdd, Nat.reduceMul, Nat.reduceSub, Nat.reduceLT, Int.reduceToNat, Int.reduceLT, Int.reduceLE, Int.reduceEq, Int.reduceAdd, Int.reduceSub, Int.reduceNeg, Int.reduceMul, h1.head.cell, h1.head.free]
  refine app_str h1.own (by rw [List.length_append]; omega) ?_
  intro v' w2 hown hu2 hfr
  obtain ⟨h3, h4⟩ := h1.store (Upd.refl (F := gr S w w1)) h1.head hown hu2 hfr
  have hp2 := h1.head.upd hu2 (fun e => (h1.fv p e).2 rfl)
  obtain ⟨va', vc', rfl, _⟩ := hown.form
  simp (config := { maxSteps := 3000000 }) (disch := omega) only [push_cast, Nat.reduceBEq, Nat.reduceEqDiff, Nat.reduceAdd, Nat.reduceMul, Nat.reduceSub, Nat.reduceLT, Int.reduceToNat, Int.reduceLT, Int.reduceLE, Int.reduceEq, Int.reduceAdd, Int.reduceSub, Int.reduceNeg, Int.reduceMul, hp2.cell, hp2.free]
  have hsl : (strL s).length = s.size := by simp [strL]
  have e : l ++ encB (strL s) = l ++ encU s.size ++ strL s := by rw [encB, hsl]; simp
  rw [e]
  exact ⟨WrI.re ⟨_, h3⟩ hu1.size h4.size, hu1.gr h4⟩
theorem wData_ok {w : World} {S : Nat → Prop} {p : Nat} {l : List Int} (h : WrI w S p l) (hl : l.length ≤ 900000000) :
    Ok (den Try.prog 45 #[.pointer (some ⟨p, 0, none⟩)] w) fun u w' => Bow w' u l ∧ (∀ g, u.ownBlock = some g → w.heap.size ≤ g) ∧ Upd (fun _ => False) w w' := by
  obtain ⟨v, h⟩ := h
  obtain ⟨va, vc, rfl, _⟩ := h.own.form
  refine den_ok (args := [.pointer (some ⟨p, 0, none⟩)]) rs45 Try.func45 rfl mixed in45 ok45 rfl ?_
  have hlt := h.head.lt
  simp (config := { maxSteps := 3000000 }) (disch := omega) only [push_cast, Nat.reduceBEq, Nat.reduceEqDiff, Nat.reduceAdd, Nat.reduceMul, Nat.reduceSub, Nat.reduceLT, Int.reduceToNat, Int.reduceLT, Int.reduceLE, Int.reduceEq, Int.reduceAdd, Int.reduceSub, Int.reduceNeg, Int.reduceMul, h.head.cell, h.head.free]
  have hy : SlB w (fun b => w.heap.size ≤ b) (.slice va l.length vc) l := h.own.slb fun g hg hb => by have := h.own.lt hg; omega
  refine app_by (Bow.empty (Blk.new (cs := []))) (hy.upd (Upd.alloc (F := fun _ => False)) (fun _ h => h.elim)) (by simp; omega) ?_
  intro v' w2 hown hu2 hfr
  simp (config := { maxSteps := 3000000 }) (disch := omega) only [push_cast, Nat.reduceBEq, Nat.reduceEqDiff, Nat.reduceAdd, Nat.reduceMul, Nat.reduceSub, Nat.reduceLT, Int.reduceToNat, Int.reduceLT, Int.reduceLE, Int.reduceEq, Int.reduceAdd, Int.reduceSub, Int.reduceNeg, Int.reduceMul]
  refine ⟨hown, fun g hg => ?_, Upd.alloc.trans hu2 fun b hb e => ?_⟩
  · rcases hfr g hg with h1 | h1
    · have h1 := ownB h1; omega
    · rw [size_alloc] at h1; omega
  · have e := ownB e; omega
theorem tmod128 {m : Nat} : (m : Int).tmod 128 = ((m % 128 : Nat) : Int) := by rw [show (128 : Int) = ((128 : Nat) : Int) from rfl, ← Int.ofNat_tmod]
theorem tdiv128 {m : Nat} : (m : Int).tdiv 128 = ((m / 128 : Nat) : Int) := by rw [show (128 : Int) = ((128 : Nat) : Int) from rfl, ← Int.ofNat_tdiv]
set_option maxHeartbeats 1000000 in
theorem rUint_ok {w : World} {F : Nat → Prop} {y : Value} {b : List Int} (hy : SlB w F y b) {n : Nat} (hn : n < 2 ^ 64) (hl : b.length ≤ 900000000) :
    Ok (den Try.prog 42 #[y, .int .u64 (n : Int)] w) fun u w' => Bow w' u (b ++ encU n) ∧ (∀ g, u.ownBlock = some g → w.heap.size ≤ g) ∧ Upd (fun _ => False) w w' := by
  obtain ⟨ya, yc, rfl, _⟩ := id hy
  refine den_ok (args := [.slice ya b.length yc, .int .u64 (n : Int)]) rs42 Try.func42 rfl mixed in42 ok42 rfl ?_
  simp (config := { maxSteps := 3000000 }) (disch := omega) only [push_cast, Nat.reduceBEq, Nat.reduceEqDiff, Nat.reduceAdd, Nat.reduceMul, Nat.reduceSub, Nat.reduceLT, Int.reduceToNat, Int.reduceLT, Int.reduceLE, Int.reduceEq, Int.reduceAdd, Int.reduceSub, Int.reduceNeg, Int.reduceMul]
  refine app_by (Bow.empty (Blk.new (cs := []))) (hy.upd (Upd.alloc (F := fun _ => False)) (fun _ h => h.elim)) (by simp; omega) ?_
  intro v' w2 hown hu2 hfr
  rw [List.nil_append] at hown
  have hu2' : Upd (fun _ => False) w w2 := Upd.alloc.trans hu2 fun b hb e => by have e := ownB e; omega
  have hfr' : ∀ g, v'.ownBlock = some g → w.heap.size ≤ g := by
    intro g hg
    rcases hfr g hg with h1 | h1
    · have h1 := ownB h1; omega
    · rw [size_alloc] at h1; omega
  clear hu2 hfr
  simp (disch := omega) only [push_cast, Nat.reduceBEq, Nat.reduceEqDiff, Nat.reduceAdd, Nat.reduceMul, Nat.reduceSub, Nat.reduceLT, Int.reduceToNat, Int.reduceLT, Int.reduceLE, Int.reduceEq, Int.reduceAdd, Int.reduceSub, Int.reduceNeg, Int.reduceMul]
  refine loop_inv (I := fun k st w' => Bx (∃ (m : Nat) (l' : List Int) (v : Value), k ≤ 10 ∧ m < 128 ^ k ∧ st = [.int .u64 (m : Int), v] ∧ l' ++ encU m = b ++ encU n ∧ l'.length + k ≤ 900000010 ∧ Bow w' v l' ∧ (∀ g, v.ownBlock = some g → w.heap.size ≤ g) ∧ Upd (fun _ => False) w w') ⟨⟩) ?_ 10
    ⟨n, b, v', Nat.le_refl _, Nat.lt_trans hn (by decide), rfl, rfl, by omega, hown, hfr', hu2'⟩
  clear hown hfr' hu2' hl
  rintro k st w' ⟨m, l', v, hk10, hm, rfl, hl, hlen, hown, hfr, hu⟩
  have hs := hu.size
  obtain ⟨va, vc, rfl, _⟩ := hown.form
  have nxt : ∀ {w3 : World} {v3 : Value} {x : Int}, Upd (fun b => (Value.slice va l'.length vc).ownBlock = some b) (w'.alloc (.cells #[.int .u8 x] 5 (0, 0))) w3 → (∀ g, v3.ownBlock = some g → (Value.slice va l'.length vc).ownBlock = some g ∨ ((w'.alloc (.cells #[.int .u8 x] 5 (0, 0))).heap.size ≤ g ∧ g < w3.heap.size)) →
      (∀ g, v3.ownBlock = some g → w.heap.size ≤ g) ∧ Upd (fun _ => False) w w3 := by
    intro w3 v3 x h1 h2
    refine ⟨fun g hg => ?_, (hu.alloc').trans h1 fun b hb e => by have := hfr b e; omega⟩
    rcases h2 g hg with h3 | h3
    · exact hfr g h3
    · rw [size_alloc] at h3; omega
  by_cases h128 : m < 128
  · have e8 : IntKind.u8.wrap (m : Int) = (m : Int) := by rw [u8_wrap_nat, Nat.mod_eq_of_lt (by omega)]
    simp (config := { maxSteps := 3000000 }) (disch := omega) only [push_cast, Nat.reduceBEq, Nat.reduceEqDiff, Nat.reduceAdd, Nat.reduceMul, Nat.reduceSub, Nat.reduceLT, Int.reduceToNat, Int.reduceLT, Int.reduceLE, Int.reduceEq, Int.reduceAdd, Int.reduceSub, Int.reduceNeg, Int.reduceMul, e8]
    refine app_by (m := [(m : Int)]) (hown.upd (Upd.alloc (F := fun _ => False)) (fun _ _ h => h)) (slb_one (F := fun _ => False) (fun h => h)) (by simp; omega) ?_
    intro v3 w3 hown3 hu3 hfr3
    obtain ⟨h1, h2⟩ := nxt hu3 hfr3
    simp (config := { maxSteps := 3000000 }) (disch := omega) only [push_cast, Nat.reduceBEq, Nat.reduceEqDiff, Nat.reduceAdd, Nat.reduceMul, Nat.reduceSub, Nat.reduceLT, Int.reduceToNat, Int.reduceLT, Int.reduceLE, Int.reduceEq, Int.reduceAdd, Int.reduceSub, Int.reduceNeg, Int.reduceMul]
    rw [encU_small h128] at hl
    rw [← hl]
    exact ⟨hown3, h1, h2⟩
  · obtain ⟨k, rfl⟩ : ∃ k', k = k' + 1 := ⟨k - 1, by
      rcases Nat.eq_zero_or_pos k with e | e
      · subst e; simp at hm; omega
      · omega⟩
    have e1 := tmod128 (m := m)
    have e2 := tdiv128 (m := m)
    have e8 : IntKind.u8.wrap ((m % 128 : Nat) : Int) = ((m % 128 : Nat) : Int) := by rw [u8_wrap_nat, Nat.mod_eq_of_lt (by omega)]
    have e9 : IntKind.u8.wrap (((m % 128 : Nat) : Int) + 128) = ((m % 128 + 128 : Nat) : Int) := by rw [IntKind.wrap_u8]; omega
    have hm2 := pow128 hm h128
    have hl2 : (l' ++ [((m % 128 + 128 : Nat) : Int)]) ++ encU (m / 128) = b ++ encU n := by
      rw [← hl, encU_big h128]; simp
    generalize m % 128 + 128 = r2 at e9 hl2
    generalize m % 128 = r at e1 e8 e9
    have hm2l : m / 128 < 2 ^ 64 := Nat.lt_of_lt_of_le hm2 (Nat.le_trans (Nat.pow_le_pow_right (by omega) (by omega : k ≤ 9)) (by decide))
    generalize m / 128 = m2 at *
    have e10 : IntKind.u64.wrap (m2 : Int) = (m2 : Int) := by rw [IntKind.wrap_u64]; omega
    simp (config := { maxSteps := 3000000 }) (disch := omega) only [push_cast, Nat.reduceBEq, Nat.reduceEqDiff, Nat.reduceAdd, Nat.reduceMul, Nat.reduceSub, Nat.reduceLT, Int.reduceToNat, Int.reduceLT, Int.reduceLE, Int.reduceEq, Int.reduceAdd, Int.reduceSub, Int.reduceNeg, Int.reduceMul, e1, e8, e9]
    refine app_by (m := [(r2 : Int)]) (hown.upd (Upd.alloc (F := fun _ => False)) (fun _ _ h => h)) (slb_one (F := fun _ => False) (fun h => h)) (by simp; omega) ?_
    intro v3 w3 hown3 hu3 hfr3
    obtain ⟨h1, h2⟩ := nxt hu3 hfr3
    simp (config := { maxSteps := 3000000 }) (disch := omega) only [push_cast, Nat.reduceBEq, Nat.reduceEqDiff, Nat.reduceAdd, Nat.reduceMul, Nat.reduceSub, Nat.reduceLT, Int.reduceToNat, Int.reduceLT, Int.reduceLE, Int.reduceEq, Int.reduceAdd, Int.reduceSub, Int.reduceNeg, Int.reduceMul, e2, e10]
    exact ⟨k, by omega, m2, _, v3, by omega, hm2, by rfl, hl2, by simp; omega, hown3, h1, h2⟩
theorem rBytes_ok {w : World} {F : Nat → Prop} {y x : Value} {b m : List Int} (hy : SlB w F y b) (hx : SlB w F x m) (hl : b.length ≤ 900000000) (hm : m.length ≤ 90000000) :
    Ok (den Try.prog 69 #[y, x] w) fun u w' => Bow w' u (b ++ encB m) ∧ (∀ g, u.ownBlock = some g → w.heap.size ≤ g) ∧ Upd (fun _ => False) w w' := by
  obtain ⟨xa, xc, rfl, _⟩ := id hx
  refine den_ok (args := [y, .slice xa m.length xc]) rs69 Try.func69 rfl mixed in69 ok69 rfl ?_
  have e1 : IntKind.u64.wrap (m.length : Int) = (m.length : Int) := by rw [IntKind.wrap_u64]; omega
  simp (disch := omega) only [push_cast, Nat.reduceBEq, Nat.reduceEqDiff, Nat.reduceAdd, Nat.reduceMul, Nat.reduceSub, Nat.reduceLT, Int.reduceToNat, Int.reduceLT, Int.reduceLE, Int.reduceEq, Int.reduceAdd, Int.reduceSub, Int.reduceNeg, Int.reduceMul, e1]
  refine Ok.use (rUint_ok hy (n := m.length) (by omega) hl) ?_
  rintro u w1 ⟨hown, hfr, hu1⟩
  have hx10 := encU_len10 (n := m.length) (by omega)
  simp (config := { maxSteps := 3000000 }) (disch := omega) only [push_cast, Nat.reduceBEq, Nat.reduceEqDiff, Nat.reduceAdd, Nat.reduceMul, Nat.reduceSub, Nat.reduceLT, Int.reduceToNat, Int.reduceLT, Int.reduceLE, Int.reduceEq, Int.reduceAdd, Int.reduceSub, Int.reduceNeg, Int.reduceMul]
  refine app_by hown (hx.upd hu1 (fun _ h => h.elim)) (by rw [List.length_append]; omega) ?_
  intro v' w2 hown2 hu2 hfr2
  simp (config := { maxSteps := 3000000 }) (disch := omega) only [push_cast, Nat.reduceBEq, Nat.reduceEqDiff, Nat.reduceAdd, Nat.reduceMul, Nat.reduceSub, Nat.reduceLT, Int.reduceToNat, Int.reduceLT, Int.reduceLE, Int.reduceEq, Int.reduceAdd, Int.reduceSub, Int.reduceNeg, Int.reduceMul]
  have hs := hu1.size
  have e : b ++ encB m = b ++ encU m.length ++ m := by simp [encB]
  rw [e]
  refine ⟨hown2, fun g hg => ?_, hu1.trans hu2 fun b hb e => by have := hfr b e; omega⟩
  rcases hfr2 g hg with h1 | h1
  · exact hfr g h1
  · omega
theorem rText_ok {w : World} {F : Nat → Prop} {y : Value} {b : List Int} {s : ByteArray} (hy : SlB w F y b) (hl : b.length ≤ 900000000) (hm : s.size ≤ 90000000) :
    Ok (den Try.prog 60 #[y, .string s] w) fun u w' => Bow w' u (b ++ encB (strL s)) ∧ (∀ g, u.ownBlock = some g → w.heap.size ≤ g) ∧ Upd (fun _ => False) w w' := by
  refine den_ok (args := [y, .string s]) rs60 Try.func60 rfl mixed in60 ok60 rfl ?_
  have e1 : IntKind.u64.wrap (s.size : Int) = (s.size : Int) := by rw [IntKind.wrap_u64]; omega
  simp (disch := omega) only [push_cast, Nat.reduceBEq, Nat.reduceEqDiff, Nat.reduceAdd, Nat.reduceMul, Nat.reduceSub, Nat.reduceLT, Int.reduceToNat, Int.reduceLT, Int.reduceLE, Int.reduceEq, Int.reduceAdd, Int.reduceSub, Int.reduceNeg, Int.reduceMul, e1, len_str Try.underlying9]
  refine Ok.use (rUint_ok hy (n := s.size) (by omega) hl) ?_
  rintro u w1 ⟨hown, hfr, hu1⟩
  have hx10 := encU_len10 (n := s.size) (by omega)
  simp (config := { maxSteps := 3000000 }) (disch := omega) only [push_cast, Nat.reduceBEq, Nat.reduceEqDiff, Nat.reduceAdd, Nat.reduceMul, Nat.reduceSub, Nat.reduceLT, Int.reduceToNat, Int.reduceLT, Int.reduceLE, Int.reduceEq, Int.reduceAdd, Int.reduceSub, Int.reduceNeg, Int.reduceMul]
  refine app_str hown (by rw [List.length_append]; omega) ?_
  intro v' w2 hown2 hu2 hfr2
  simp (config := { maxSteps := 3000000 }) (disch := omega) only [push_cast, Nat.reduceBEq, Nat.reduceEqDiff, Nat.reduceAdd, Nat.reduceMul, Nat.reduceSub, Nat.reduceLT, Int.reduceToNat, Int.reduceLT, Int.reduceLE, Int.reduceEq, Int.reduceAdd, Int.reduceSub, Int.reduceNeg, Int.reduceMul]
  have hs := hu1.size
  have hsl : (strL s).length = s.size := by simp [strL]
  have e : b ++ encB (strL s) = b ++ encU s.size ++ strL s := by rw [encB, hsl]; simp
  rw [e]
  refine ⟨hown2, fun g hg => ?_, hu1.trans hu2 fun b hb e => by have := hfr b e; omega⟩
  rcases hfr2 g hg with h1 | h1
  · exact hfr g h1
  · omega
end Go.Proofs.Ytlnladcfgieggaa.Fd
