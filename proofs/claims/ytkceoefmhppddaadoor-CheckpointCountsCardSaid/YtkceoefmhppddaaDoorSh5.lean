/-
  The padding and the digest as plain functions; the specification's padding.
-/
import Derived.Test.YtkceoefmhppddaaDoorSh4
namespace Go.Proofs.YtkceoefmhppddaaDoor.Fd
set_option linter.unusedSimpArgs false
set_option linter.unusedVariables false
open Go
set_option maxRecDepth 100000
/-- k bytes of a number, the highest first. -/
def beL : Nat → Nat → List Int
  | 0, _ => []
  | k + 1, n => (((n / 256 ^ k) % 256 : Nat) : Int) :: beL k n
theorem beL_length {n : Nat} : ∀ {k : Nat}, (beL k n).length = k
  | 0 => rfl
  | k + 1 => by simp [beL, beL_length (k := k)]
theorem beL_rng {n : Nat} : ∀ {k : Nat}, Rng (beL k n)
  | 0 => fun x hx => by cases hx
  | k + 1 => fun x hx => by
    rcases List.mem_cons.1 hx with h | h
    · subst h; have := Nat.mod_lt (n / 256 ^ k) (show 0 < 256 by decide); omega
    · exact beL_rng x h
def zerosN (n : Nat) : Nat := (119 - n % 64) % 64
def padP (b : List Int) : List Int := b ++ [128] ++ List.replicate (zerosN b.length) 0 ++ beL 8 (8 * b.length)
theorem pad_mul {n : Nat} : (n + 1 + zerosN n + 8) % 64 = 0 := by unfold zerosN; omega
theorem padP_length {b : List Int} : (padP b).length = b.length + 1 + zerosN b.length + 8 := by simp [padP, beL_length]; omega
theorem tmod64 {m : Nat} : (m : Int).tmod 64 = ((m % 64 : Nat) : Int) := by rw [show (64 : Int) = ((64 : Nat) : Int) from rfl, ← Int.ofNat_tmod]
theorem shr_byte {n k : Nat} (h : n < 2 ^ 64) (hk : k < 8) : IntKind.u8.wrap ((n : Int).fdiv (2 ^ (min (8 * k) IntKind.u64.bits))) = (((n / 256 ^ k) % 256 : Nat) : Int) := by
  rw [show min (8 * k) IntKind.u64.bits = 8 * k from Nat.min_eq_left (by show _ ≤ 64; omega), Int.fdiv_eq_ediv_of_nonneg _ (Int.le_of_lt (Int.pow_pos (by decide)))]
  have e : (2 : Int) ^ (8 * k) = ((256 ^ k : Nat) : Int) := by rw [Int.pow_mul]; rfl
  rw [e, ← Int.natCast_ediv, u8_wrap_nat]
/-- Bytes owned in new blocks, nothing older changed. -/
structure Fr (w0 w : World) (v : Value) (l : List Int) : Prop where
  own : Bow w v l
  new : ∀ g, v.ownBlock = some g → w0.heap.size ≤ g
  upd : Upd (fun _ => False) w0 w
theorem Fr.quiet {w0 w w' : World} {v : Value} {l : List Int} (h : Fr w0 w v l) (hu : Upd (fun _ => False) w w') : Fr w0 w' v l := ⟨h.own.upd hu (fun _ _ h => h), h.new, h.upd.trans hu fun _ _ h => h⟩
theorem Fr.over {w0 w w' : World} {v : Value} {l : List Int} {G : Nat → Prop} (h : Fr w0 w v l) (hu : Upd G w w') (h1 : ∀ g, v.ownBlock = some g → ¬ G g) (h2 : ∀ b, G b → w0.heap.size ≤ b) : Fr w0 w' v l :=
  ⟨h.own.upd hu h1, h.new, h.upd.trans hu fun b hb hg => by have := h2 b hg; omega⟩
theorem Fr.step {w0 w : World} {v : Value} {l m : List Int} (h : Fr w0 w v l) {v' : Value} {w' : World} (h1 : Bow w' v' (l ++ m)) (h2 : Upd (fun b => v.ownBlock = some b) w w') (h3 : ∀ g, v'.ownBlock = some g → v.ownBlock = some g ∨ (w.heap.size ≤ g ∧ g < w'.heap.size)) : Fr w0 w' v' (l ++ m) := by
  have hs := h.upd.size
  refine ⟨h1, fun g hg => ?_, h.upd.trans h2 fun b hb hg => by have := h.new b hg; omega⟩
  rcases h3 g hg with h4 | h4
  · exact h.new g h4
  · omega
theorem Fr.app {w0 w : World} {v : Value} {l : List Int} (h : Fr w0 w v l) {F : Nat → Prop} {y : Value} {m : List Int} (hy : SlB w F y m) (hlen : l.length + m.length ≤ 1000000000) {ty : TypeId}
    {K : Value × World → Prop} (hk : ∀ v' w', Fr w0 w' v' (l ++ m) → Upd (fun b => w0.heap.size ≤ b) w w' → K (v', w')) :
    Okk (appS Tryd.prog #[31, 31] ty v y w) K :=
  app_by h.own hy hlen fun v' w' h1 h2 h3 => hk v' w' (h.step h1 h2 h3) (h2.mono fun b _ hb => h.new b hb)
theorem Fr.str {w0 w : World} {v : Value} {l : List Int} (h : Fr w0 w v l) {s : ByteArray} (hlen : l.length + s.size ≤ 1000000000) {ty : TypeId}
    {K : Value × World → Prop} (hk : ∀ v' w', Fr w0 w' v' (l ++ strL s) → Upd (fun b => w0.heap.size ≤ b) w w' → K (v', w')) :
    Okk (appS Tryd.prog #[31, 9] ty v (.string s) w) K :=
  app_str h.own hlen fun v' w' h1 h2 h3 => hk v' w' (h.step h1 h2 h3) (h2.mono fun b _ hb => h.new b hb)
theorem Fr.push {w0 w : World} {v : Value} {l : List Int} (h : Fr w0 w v l) {x : Int} (hlen : l.length < 1000000000) {ty : TypeId}
    {K : Value × World → Prop} (hk : ∀ v' w', Fr w0 w' v' (l ++ [x]) → Upd (fun b => w0.heap.size ≤ b) w w' → K (v', w')) :
    Okk (appS Tryd.prog #[31, 31] ty v (.slice (some ⟨w.heap.size, 0, none⟩) 1 1) (w.alloc (.cells [.int .u8 x].toArray 5 (0, 0)))) K :=
  (h.quiet Upd.alloc).app (slb_one (F := fun _ => False) fun h => h) hlen fun v' w' h1 h2 => hk v' w' h1 ((Upd.alloc (F := fun b => w0.heap.size ≤ b)).trans h2 fun _ _ h => h)
theorem Fr.nil {w : World} : Fr w w (.slice none 0 0) [] := ⟨Bow.nil, by simp [Value.ownBlock], Upd.refl⟩
theorem Fr.empty {w : World} : Fr w (w.alloc (.cells #[] 5 (0, 0))) (.slice (some ⟨w.heap.size, 0, none⟩) 0 0) [] :=
  ⟨Bow.empty (Blk.new (cs := [])), fun g hg => by have := ownB hg; omega, Upd.alloc⟩
theorem Fr.slc {w0 w : World} {v : Value} {l : List Int} (h : Fr w0 w v l) : SlC w (fun b => b < w0.heap.size) v l := h.own.slc fun g hg hb => by have := h.new g hg; omega
theorem Fr.slb {w0 w : World} {v : Value} {l : List Int} (h : Fr w0 w v l) {F : Nat → Prop} (hF : ∀ b, F b → b < w0.heap.size) : SlB w F v l := h.own.slb fun g hg hb => by have := h.new g hg; have := hF g hb; omega
theorem Fr.old {w0 w : World} {v : Value} {l m : List Int} {F : Nat → Prop} {y : Value} (h : Fr w0 w v l) (hy : SlB w0 F y m) : SlB w F y m := hy.upd h.upd fun _ h => h.elim
/-- The loop that appends zeros. -/
theorem zeros_not {n t : Nat} (h : t < zerosN n) : (n + 1 + t) % 64 ≠ 56 := by unfold zerosN at h; omega
theorem zeros_at {n : Nat} : (n + 1 + zerosN n) % 64 = 56 := by unfold zerosN; omega
theorem beL_take {n k : Nat} : ∀ {j : Nat}, j < k → (beL k n).take (j + 1) = (beL k n).take j ++ [(((n / 256 ^ (k - 1 - j)) % 256 : Nat) : Int)] := by
  induction k with
  | zero => intro j h; omega
  | succ k ih =>
    intro j h
    cases j with
    | zero => simp [beL]
    | succ j =>
      have := ih (j := j) (by omega)
      rw [beL, List.take_succ_cons, List.take_succ_cons, this, show k + 1 - 1 - (j + 1) = k - 1 - j by omega]
      rfl
set_option maxHeartbeats 2000000 in
theorem rPadded_ok {w : World} {F : Nat → Prop} {y : Value} {b : List Int} (hy : SlB w F y b) (hl : b.length ≤ 900000000) :
    Ok (den Tryd.prog 48 #[y] w) fun u w' => Fr w w' u (padP b) := by
  obtain ⟨ya, yc, rfl, _⟩ := id hy
  refine den_ok (args := [.slice ya b.length yc]) rs48 Tryd.func48 rfl mixed in48 ok48 rfl ?_
  simp (config := { maxSteps := 3000000 }) (disch := omega) only [push_cast, Nat.reduceBEq, Nat.reduceEqDiff, Nat.reduceAdd, Nat.reduceMul, Nat.reduceSub, Nat.reduceLT, Int.reduceToNat, Int.reduceLT, Int.reduceLE, Int.reduceEq, Int.reduceAdd, Int.reduceSub, Int.reduceNeg, Int.reduceMul]
  refine (Fr.empty).app ((Fr.empty).old hy) (by simp; omega) ?_
  intro v' w2 h2 _
  rw [List.nil_append] at h2
  simp (config := { maxSteps := 3000000 }) (disch := omega) only [push_cast, Nat.reduceBEq, Nat.reduceEqDiff, Nat.reduceAdd, Nat.reduceMul, Nat.reduceSub, Nat.reduceLT, Int.reduceToNat, Int.reduceLT, Int.reduceLE, Int.reduceEq, Int.reduceAdd, Int.reduceSub, Int.reduceNeg, Int.reduceMul]
  refine h2.push (by omega) ?_
  intro v3 w3 h3 _
  simp (config := { maxSteps := 3000000 }) (disch := omega) only [push_cast, Nat.reduceBEq, Nat.reduceEqDiff, Nat.reduceAdd, Nat.reduceMul, Nat.reduceSub, Nat.reduceLT, Int.reduceToNat, Int.reduceLT, Int.reduceLE, Int.reduceEq, Int.reduceAdd, Int.reduceSub, Int.reduceNeg, Int.reduceMul]
  refine loop_inv (I := fun k st w' => Bx (∃ t v, k + t = zerosN b.length ∧ st = [v] ∧ Fr w w' v (b ++ [128] ++ List.replicate t 0)) ⟨⟩) ?_ (zerosN b.length)
    ⟨0, v3, by omega, rfl, by simpa using h3⟩
  rintro k st w4 ⟨t, v, hk, rfl, h4⟩
  obtain ⟨va, vc, rfl, _⟩ := h4.own.form
  have hlen : (b ++ [128] ++ List.replicate t 0).length = b.length + 1 + t := by simp; omega
  obtain ⟨L, hL⟩ : ∃ L, L = b.length + 1 + t := ⟨_, rfl⟩
  rw [hlen, ← hL] at h4 ⊢
  by_cases hk0 : k = 0
  · obtain rfl : t = zerosN b.length := by omega
    have e : (L : Int).tmod 64 = 56 := by rw [tmod64, hL, zeros_at]; rfl
    have e2 : IntKind.u64.wrap (b.length : Int) = (b.length : Int) := by rw [IntKind.wrap_u64]; omega
    have e3 : IntKind.u64.wrap ((b.length : Int) * 8) = ((8 * b.length : Nat) : Int) := by rw [IntKind.wrap_u64]; omega
    obtain ⟨N, hN⟩ : ∃ N, N = 8 * b.length := ⟨_, rfl⟩
    rw [← hN] at e3
    simp (config := { maxSteps := 3000000 }) (disch := omega) only [push_cast, Nat.reduceBEq, Nat.reduceEqDiff, Nat.reduceAdd, Nat.reduceMul, Nat.reduceSub, Nat.reduceLT, Int.reduceToNat, Int.reduceLT, Int.reduceLE, Int.reduceEq, Int.reduceAdd, Int.reduceSub, Int.reduceNeg, Int.reduceMul, e, e2, e3]
    have hpad : padP b = b ++ [128] ++ List.replicate (zerosN b.length) 0 ++ beL 8 N := by rw [padP, hN]
    rw [hpad]
    generalize b ++ [128] ++ List.replicate (zerosN b.length) 0 = P at *
    refine loop_inv (I := fun k st w' => Bx (k ≤ 8 ∧ ∃ v, st = [v, .int .i64 (8 * (k : Int) - 8)] ∧ Fr w w' v (P ++ (beL 8 N).take (8 - k))) ⟨⟩) ?_ 8
      ⟨by omega, _, rfl, by simpa using h4⟩
    rintro k st w5 ⟨hk8, v, rfl, h5⟩
    obtain ⟨va5, vc5, rfl, _⟩ := h5.own.form
    cases k with
    | zero =>
      rw [show 8 - 0 = 8 from rfl, List.take_of_length_le (by rw [beL_length]; omega)] at h5 ⊢
      simp (config := { maxSteps := 3000000 }) (disch := omega) only [push_cast, Nat.reduceBEq, Nat.reduceEqDiff, Nat.reduceAdd, Nat.reduceMul, Nat.reduceSub, Nat.reduceLT, Int.reduceToNat, Int.reduceLT, Int.reduceLE, Int.reduceEq, Int.reduceAdd, Int.reduceSub, Int.reduceNeg, Int.reduceMul]
      exact h5
    | succ q =>
      have e4 : 8 * ((q + 1 : Nat) : Int) - 8 = ((8 * q : Nat) : Int) := by omega
      have e7 := beL_take (n := N) (k := 8) (j := 7 - q) (by omega)
      rw [show 8 - 1 - (7 - q) = q by omega, show 7 - q + 1 = 8 - q by omega] at e7
      rw [e4, show 8 - (q + 1) = 7 - q by omega] at *
      have e6 := shr_byte (n := N) (k := q) (by omega) (by omega)
      have h5l : (P ++ (beL 8 N).take (7 - q)).length < 1000000000 := by rw [List.length_append, List.length_take, hlen]; unfold zerosN; omega
      generalize N / 256 ^ q % 256 = x at *
      obtain ⟨Q, hQ⟩ : ∃ Q, Q = 8 * q := ⟨_, rfl⟩
      rw [← hQ] at e6 ⊢
      have e5 : IntKind.u64.wrap (Q : Int) = (Q : Int) := by rw [IntKind.wrap_u64]; omega
      have hQ0 : (Q : Int) ≤ 56 := by omega
      generalize (P ++ (beL 8 N).take (7 - q)).length = n5 at h5 ⊢
      simp (config := { maxSteps := 3000000 }) (disch := omega) only [push_cast, Nat.reduceBEq, Nat.reduceEqDiff, Nat.reduceAdd, Nat.reduceMul, Nat.reduceSub, Nat.reduceLT, Int.reduceToNat, Int.reduceLT, Int.reduceLE, Int.reduceEq, Int.reduceAdd, Int.reduceSub, Int.reduceNeg, Int.reduceMul, e5, e6]
      refine h5.push h5l ?_
      intro v6 w6 h6 _
      simp (config := { maxSteps := 3000000 }) (disch := omega) only [push_cast, Nat.reduceBEq, Nat.reduceEqDiff, Nat.reduceAdd, Nat.reduceMul, Nat.reduceSub, Nat.reduceLT, Int.reduceToNat, Int.reduceLT, Int.reduceLE, Int.reduceEq, Int.reduceAdd, Int.reduceSub, Int.reduceNeg, Int.reduceMul]
      exact ⟨q, by omega, by omega, v6, by congr 3; omega, by rw [e7, ← List.append_assoc]; exact h6⟩
  have e : ¬ (L : Int).tmod 64 = 56 := by
    rw [tmod64, hL]
    have := zeros_not (n := b.length) (t := t) (by omega)
    omega
  simp (config := { maxSteps := 3000000 }) (disch := omega) only [push_cast, Nat.reduceBEq, Nat.reduceEqDiff, Nat.reduceAdd, Nat.reduceMul, Nat.reduceSub, Nat.reduceLT, Int.reduceToNat, Int.reduceLT, Int.reduceLE, Int.reduceEq, Int.reduceAdd, Int.reduceSub, Int.reduceNeg, Int.reduceMul, e]
  refine h4.push (by rw [hlen]; unfold zerosN at hk; omega) ?_
  intro v6 w6 h6 _
  simp (config := { maxSteps := 3000000 }) (disch := omega) only [push_cast, Nat.reduceBEq, Nat.reduceEqDiff, Nat.reduceAdd, Nat.reduceMul, Nat.reduceSub, Nat.reduceLT, Int.reduceToNat, Int.reduceLT, Int.reduceLE, Int.reduceEq, Int.reduceAdd, Int.reduceSub, Int.reduceNeg, Int.reduceMul]
  refine ⟨k - 1, by omega, t + 1, v6, by omega, rfl, ?_⟩
  rw [List.replicate_succ', ← List.append_assoc]
  exact h6
end Go.Proofs.YtkceoefmhppddaaDoor.Fd
