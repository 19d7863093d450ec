/-
  Reset and Open of a journal.
-/
import Derived.Test.YtlnladcfgieggaaJnC
namespace Go.Proofs.Ytlnladcfgieggaa.Fd
set_option linter.unusedSimpArgs false
set_option linter.unusedVariables false
open Go
set_option maxRecDepth 100000

theorem Reset_ok {w : World} {D J : Nat → Prop} {p jb : Nat} {s : DS × JS} (h : JW w D J p jb s) {n sz i : Nat} (hs : Sz n sz i s.1) (hi : i ≤ 700000000) (hz : 16 ≤ sz) (hz2 : sz ≤ 4096) (hf : s.2.first ≤ 100000) :
    Ok (den Try.prog 35 #[.pointer (some ⟨jb, 0, none⟩)] w) fun u w' => u = .int .i64 (jreset s).2 ∧ ∃ D', JW w' D' J p jb (jreset s).1 ∧ JT w w' D D' jb := by
  refine den_ok (args := [.pointer (some ⟨jb, 0, none⟩)]) rs35 Try.func35 rfl mixed in35 ok35 rfl ?_
  simp (config := { maxSteps := 3000000 }) (disch := omega) only [push_cast, Nat.reduceBEq, Nat.reduceEqDiff, Nat.reduceAdd, Nat.reduceMul, Nat.reduceSub, Nat.reduceLT, Int.reduceToNat, Int.reduceLT, Int.reduceLE, Int.reduceEq, Int.reduceAdd, Int.reduceSub, Int.reduceNeg, Int.reduceMul]
  refine Ok.use (ready_ok h) ?_
  rintro u w1 ⟨rfl, hw1, ht1⟩
  have hf1 : (jready s).2.first = s.2.first := rfl
  have hd1 : (jready s).1 = s.1 := rfl
  have hA : jreset s = _ := rfl
  conv at hA => rhs; unfold jreset
  cases hdn : (jready s).2.down
  rotate_left
  · rw [if_pos hdn] at hA
    rw [hA]
    simp (config := { maxSteps := 3000000 }) (disch := omega) only [push_cast, Nat.reduceBEq, Nat.reduceEqDiff, Nat.reduceAdd, Nat.reduceMul, Nat.reduceSub, Nat.reduceLT, Int.reduceToNat, Int.reduceLT, Int.reduceLE, Int.reduceEq, Int.reduceAdd, Int.reduceSub, Int.reduceNeg, Int.reduceMul]
    exact ⟨D, hw1, ht1⟩
  rw [if_neg (by rw [hdn]; decide)] at hA
  rw [← hd1] at hs
  generalize hs1e : jready s = s1 at *
  have hhl := headL_le (k := 0) (by omega)
  simp (config := { maxSteps := 3000000 }) (disch := omega) only [push_cast, Nat.reduceBEq, Nat.reduceEqDiff, Nat.reduceAdd, Nat.reduceMul, Nat.reduceSub, Nat.reduceLT, Int.reduceToNat, Int.reduceLT, Int.reduceLE, Int.reduceEq, Int.reduceAdd, Int.reduceSub, Int.reduceNeg, Int.reduceMul]
  refine Ok.use (jcommit_ok hw1 hs (by omega) (by omega) hz2 (by rw [hf1]; exact hf) (k := 0) (by omega) (by omega)) ?_
  rintro u w2 ⟨rfl, D2, hw2, ht2⟩
  have ht02 := ht1.trans ht2
  cases hdn2 : (jcommit s1 0).2.down
  rotate_left
  · rw [if_pos hdn2] at hA
    rw [hA]
    simp (config := { maxSteps := 3000000 }) (disch := omega) only [push_cast, Nat.reduceBEq, Nat.reduceEqDiff, Nat.reduceAdd, Nat.reduceMul, Nat.reduceSub, Nat.reduceLT, Int.reduceToNat, Int.reduceLT, Int.reduceLE, Int.reduceEq, Int.reduceAdd, Int.reduceSub, Int.reduceNeg, Int.reduceMul]
    exact ⟨D2, hw2, ht02⟩
  rw [if_neg (by rw [hdn2]; decide)] at hA
  rw [hA]
  obtain ⟨sa9, sc9, b9, _, _, _⟩ := hw2.down_iff
  have hu10 : Upd (fun b => b = jb) w2 (w2.setCell ⟨jb, 3, none⟩ (.slice none 0 0)) := Upd.set rfl
  obtain ⟨hw10, ht10⟩ := hw2.set hu10 (j' := { (jcommit s1 0).2 with stream := [] }) ⟨_, b9.set 3 _, ⟨⟨none, 0, rfl, fun h => absurd rfl h⟩, none, 0, rfl, Nat.le_refl _⟩, fun x hx => by simp at hx⟩
  simp (config := { maxSteps := 3000000 }) (disch := omega) only [push_cast, Nat.reduceBEq, Nat.reduceEqDiff, Nat.reduceAdd, Nat.reduceMul, Nat.reduceSub, Nat.reduceLT, Int.reduceToNat, Int.reduceLT, Int.reduceLE, Int.reduceEq, Int.reduceAdd, Int.reduceSub, Int.reduceNeg, Int.reduceMul, b9.cell, b9.free]
  exact ⟨D2, hw10, ht02.trans ht10⟩

/-- The bytes are in range. -/
structure RngD (d : DS) : Prop where
  dur : ∀ l, l ∈ d.dur → Rng l
  cache : ∀ x, x ∈ d.cache → Rng x.2
theorem lastOf_mem {c : List (Nat × List Int)} {s : Nat} {l : List Int} (h : lastOf c s = some l) : (s, l) ∈ c := by
  unfold lastOf at h
  cases hf : c.reverse.find? fun x => x.1 == s with
  | none => rw [hf] at h; cases h
  | some x =>
    rw [hf] at h
    simp at h
    have h1 := List.mem_of_find?_eq_some hf
    have h2 := List.find?_some hf
    simp at h2
    rw [← h, ← h2]
    exact List.mem_reverse.1 h1
theorem RngD.content {d : DS} (h : RngD d) {s : Nat} (hs : s < d.dur.length) : Rng (d.content s) := by
  unfold DS.content
  cases hl : lastOf d.cache s with
  | none =>
    rw [Option.getD_none, List.getD_eq_getElem?_getD, List.getElem?_eq_getElem hs]
    exact h.dur _ (List.getElem_mem hs)
  | some l => exact h.cache _ (lastOf_mem hl)
theorem IsDisk.content_len {w : World} {F : Nat → Prop} {p : Nat} {d : DS} (h : IsDisk w F p d) {s : Nat} (hs : s < d.dur.length) : (d.content s).length = d.size := by
  obtain ⟨q, durs, cv, cachs, armed, left, h⟩ := h
  unfold DS.content
  cases hl : lastOf d.cache s with
  | none =>
    rw [Option.getD_none, List.getD_eq_getElem?_getD, List.getElem?_eq_getElem hs]
    have hm := List.getElem_mem hs
    generalize d.dur[s] = y at hm
    rw [h.dur] at hm
    obtain ⟨x, hx, he⟩ := List.mem_map.1 hm
    simp only [Option.getD_some]
    rw [← he]
    exact (h.durc x hx).2.1
  | some l =>
    have hm := lastOf_mem hl
    rw [h.cache] at hm
    obtain ⟨x, hx, he⟩ := List.mem_map.1 hm
    injection he with e1 e2
    rw [Option.getD_some, ← e2]
    exact (h.cachc x hx).2.1
/-- The sectors from one on, one behind the other. -/
def secs (d : DS) (f : Nat) : Nat → List Int
  | 0 => []
  | k + 1 => secs d f k ++ d.content (f + k)
theorem secs_len {w : World} {F : Nat → Prop} {p : Nat} {d : DS} (h : IsDisk w F p d) {f : Nat} : ∀ {k : Nat}, f + k ≤ d.dur.length → (secs d f k).length = k * d.size
  | 0, _ => by simp [secs]
  | k + 1, hk => by rw [secs, List.length_append, secs_len h (by omega), h.content_len (by omega), Nat.add_mul, Nat.one_mul]
theorem secs_rng {d : DS} (h : RngD d) {f : Nat} : ∀ {k : Nat}, f + k ≤ d.dur.length → Rng (secs d f k)
  | 0, _ => fun x hx => by simp [secs] at hx
  | k + 1, hk => (secs_rng h (by omega)).append (h.content (by omega))
theorem secs_head {d : DS} {f : Nat} : ∀ {k : Nat}, secs d f (k + 1) = d.content f ++ secs d (f + 1) k
  | 0 => by simp [secs]
  | k + 1 => by
    rw [secs, secs_head (k := k), secs, List.append_assoc]
    congr 3
    omega
def jopen (d : DS) (f c : Nat) : Option JS × Int :=
  if d.off then (none, 8) else
  match headD (d.content f) with
  | none => (none, 12)
  | some k => if (c - 1) * d.size < k then (none, 12) else
    match spl ((secs d (f + 1) (c - 1)).take k) with
    | none => (none, 12)
    | some _ => (some ⟨f, (c - 1) * d.size, (secs d (f + 1) (c - 1)).take k, false⟩, 0)
theorem open_bad {w : World} {D : Nat → Prop} {p : Nat} {d : DS} (h : IsDisk w D p d) {f c : Int} (hn : d.dur.length ≤ 65536) (hfb : -9223372036854775808 ≤ f ∧ f < 9223372036854775808) (hbad : c < 2 ∨ f < 0 ∨ d.dur.length < f ∨ d.dur.length - f < c) :
    Ok (den Try.prog 15 #[.pointer (some ⟨p, 0, none⟩), .int .i64 f, .int .i64 c] w) fun u w' => (∃ a, u = .tuple #[.pointer a, .int .i64 1]) ∧ Upd (fun _ => False) w w' := by
  refine den_ok (args := [.pointer (some ⟨p, 0, none⟩), .int .i64 f, .int .i64 c]) rs15 Try.func15 rfl mixed in15 ok15 rfl ?_
  by_cases h1 : c < 2
  · simp (config := { maxSteps := 3000000 }) (disch := omega) only [push_cast, Nat.reduceBEq, Nat.reduceEqDiff, Nat.reduceAdd, Nat.reduceMul, Nat.reduceSub, Nat.reduceLT, Int.reduceToNat, Int.reduceLT, Int.reduceLE, Int.reduceEq, Int.reduceAdd, Int.reduceSub, Int.reduceNeg, Int.reduceMul]
    exact ⟨⟨_, rfl⟩, Upd.refl⟩
  by_cases h2 : f < 0
  · simp (config := { maxSteps := 3000000 }) (disch := omega) only [push_cast, Nat.reduceBEq, Nat.reduceEqDiff, Nat.reduceAdd, Nat.reduceMul, Nat.reduceSub, Nat.reduceLT, Int.reduceToNat, Int.reduceLT, Int.reduceLE, Int.reduceEq, Int.reduceAdd, Int.reduceSub, Int.reduceNeg, Int.reduceMul]
    exact ⟨⟨_, rfl⟩, Upd.refl⟩
  simp (config := { maxSteps := 3000000 }) (disch := omega) only [push_cast, Nat.reduceBEq, Nat.reduceEqDiff, Nat.reduceAdd, Nat.reduceMul, Nat.reduceSub, Nat.reduceLT, Int.reduceToNat, Int.reduceLT, Int.reduceLE, Int.reduceEq, Int.reduceAdd, Int.reduceSub, Int.reduceNeg, Int.reduceMul]
  refine Ok.use (Sectors_ok h) ?_
  rintro u w1 ⟨rfl, rfl⟩
  by_cases h3 : (d.dur.length : Int) < f
  · simp (config := { maxSteps := 3000000 }) (disch := omega) only [push_cast, Nat.reduceBEq, Nat.reduceEqDiff, Nat.reduceAdd, Nat.reduceMul, Nat.reduceSub, Nat.reduceLT, Int.reduceToNat, Int.reduceLT, Int.reduceLE, Int.reduceEq, Int.reduceAdd, Int.reduceSub, Int.reduceNeg, Int.reduceMul]
    exact ⟨⟨_, rfl⟩, Upd.refl⟩
  simp (config := { maxSteps := 3000000 }) (disch := omega) only [push_cast, Nat.reduceBEq, Nat.reduceEqDiff, Nat.reduceAdd, Nat.reduceMul, Nat.reduceSub, Nat.reduceLT, Int.reduceToNat, Int.reduceLT, Int.reduceLE, Int.reduceEq, Int.reduceAdd, Int.reduceSub, Int.reduceNeg, Int.reduceMul]
  refine Ok.use (Sectors_ok h) ?_
  rintro u w1 ⟨rfl, rfl⟩
  have h4 : (d.dur.length : Int) - f < c := by omega
  simp (config := { maxSteps := 3000000 }) (disch := omega) only [push_cast, Nat.reduceBEq, Nat.reduceEqDiff, Nat.reduceAdd, Nat.reduceMul, Nat.reduceSub, Nat.reduceLT, Int.reduceToNat, Int.reduceLT, Int.reduceLE, Int.reduceEq, Int.reduceAdd, Int.reduceSub, Int.reduceNeg, Int.reduceMul]
  exact ⟨⟨_, rfl⟩, Upd.refl⟩
/-- What Open gives. -/
def OpenR (w w' : World) (p : Nat) (u : Value) : Option JS × Int → Prop
  | (none, e) => u = .tuple #[.pointer none, .int .i64 e]
  | (some j, e) => ∃ jb, u = .tuple #[.pointer (some ⟨jb, 0, none⟩), .int .i64 e] ∧ w.heap.size ≤ jb ∧ jb < w'.heap.size ∧ JO w' (fun b => b < w.heap.size ∨ b = jb) p jb j
theorem bld_jn (a : Option Addr) (f ar : Int) (w : World) : bldS Try.prog 70 #[(0, .pointer a), (1, .int .i64 f), (2, .int .i64 ar)] w = some (.agg #[.pointer a, .int .i64 f, .int .i64 ar, .slice none 0 0, .bool false], w) := by kernel_rfl
attribute [push_cast] bld_jn
set_option maxHeartbeats 4000000 in
theorem open_ok {w : World} {D : Nat → Prop} {p : Nat} {d : DS} (h : IsDisk w D p d) {n sz i : Nat} (hs : Sz n sz i d) (hi : i ≤ 900000000) (hz : 16 ≤ sz) (hz2 : sz ≤ 4096) (hr : RngD d) {f c : Nat} (hn : n ≤ 65536) (hc : 2 ≤ c) (hfc : f + c ≤ n) (har : c * sz ≤ 50000) :
    Ok (den Try.prog 15 #[.pointer (some ⟨p, 0, none⟩), .int .i64 (f : Int), .int .i64 (c : Int)] w) fun u w' => OpenR w w' p u (jopen d f c) ∧ Upd (fun _ => False) w w' := by
  have hdl := hs.dur
  have hsz := hs.size
  refine den_ok (args := [.pointer (some ⟨p, 0, none⟩), .int .i64 (f : Int), .int .i64 (c : Int)]) rs15 Try.func15 rfl mixed in15 ok15 rfl ?_
  simp (config := { maxSteps := 3000000 }) (disch := omega) only [push_cast, Nat.reduceBEq, Nat.reduceEqDiff, Nat.reduceAdd, Nat.reduceMul, Nat.reduceSub, Nat.reduceLT, Int.reduceToNat, Int.reduceLT, Int.reduceLE, Int.reduceEq, Int.reduceAdd, Int.reduceSub, Int.reduceNeg, Int.reduceMul]
  refine Ok.use (Sectors_ok h) ?_
  rintro u w1 ⟨rfl, rfl⟩
  rw [hdl]
  simp (config := { maxSteps := 3000000 }) (disch := omega) only [push_cast, Nat.reduceBEq, Nat.reduceEqDiff, Nat.reduceAdd, Nat.reduceMul, Nat.reduceSub, Nat.reduceLT, Int.reduceToNat, Int.reduceLT, Int.reduceLE, Int.reduceEq, Int.reduceAdd, Int.reduceSub, Int.reduceNeg, Int.reduceMul]
  refine Ok.use (Sectors_ok h) ?_
  rintro u w1 ⟨rfl, rfl⟩
  rw [hdl]
  simp (config := { maxSteps := 3000000 }) (disch := omega) only [push_cast, Nat.reduceBEq, Nat.reduceEqDiff, Nat.reduceAdd, Nat.reduceMul, Nat.reduceSub, Nat.reduceLT, Int.reduceToNat, Int.reduceLT, Int.reduceLE, Int.reduceEq, Int.reduceAdd, Int.reduceSub, Int.reduceNeg, Int.reduceMul]
  refine Ok.use (Size_ok h) ?_
  rintro u w1 ⟨rfl, rfl⟩
  rw [hsz]
  obtain ⟨A, hA⟩ : ∃ A, A = (c - 1) * sz := ⟨_, rfl⟩
  have em : ((c : Int) - 1) * (sz : Int) = (A : Int) := by
    rw [hA, show (c : Int) - 1 = ((c - 1 : Nat) : Int) from by omega]; simp
  have hA2 : A + sz = c * sz := by
    rw [hA]
    obtain ⟨c', rfl⟩ : ∃ c', c = c' + 1 := ⟨c - 1, by omega⟩
    rw [Nat.add_sub_cancel, Nat.add_mul, Nat.one_mul]
  simp (config := { maxSteps := 3000000 }) (disch := omega) only [push_cast, Nat.reduceBEq, Nat.reduceEqDiff, Nat.reduceAdd, Nat.reduceMul, Nat.reduceSub, Nat.reduceLT, Int.reduceToNat, Int.reduceLT, Int.reduceLE, Int.reduceEq, Int.reduceAdd, Int.reduceSub, Int.reduceNeg, Int.reduceMul, em]
  have hj0 : Blk (w.alloc (.cells [.pointer (some ⟨p, 0, none⟩), .int .i64 f, .int .i64 A, .slice none 0 0, .bool false].toArray 70 (0, 0))) w.heap.size [.pointer (some ⟨p, 0, none⟩), .int .i64 f, .int .i64 A, .slice none 0 0, .bool false] 70 := Blk.new
  have hu1 : Upd (fun _ => False) w (w.alloc (.cells [.pointer (some ⟨p, 0, none⟩), .int .i64 f, .int .i64 A, .slice none 0 0, .bool false].toArray 70 (0, 0))) := Upd.alloc
  have hsz1 : (w.alloc (.cells [.pointer (some ⟨p, 0, none⟩), .int .i64 f, .int .i64 A, .slice none 0 0, .bool false].toArray 70 (0, 0))).heap.size = w.heap.size + 1 := size_alloc
  generalize w.alloc (.cells [.pointer (some ⟨p, 0, none⟩), .int .i64 f, .int .i64 A, .slice none 0 0, .bool false].toArray 70 (0, 0)) = w1 at *
  have h1 := h.upd hu1 (fun _ _ h => h)
  refine loop_inv (I := fun k st w' => Bx (∃ (i' : Nat) (v : Value), k + i' = c ∧ st = [v, .int .i64 (i' : Int)] ∧ Bow w' v (secs d f i') ∧ (∀ g, v.ownBlock = some g → w1.heap.size ≤ g) ∧ Upd (fun _ => False) w1 w' ∧ (0 < i' → d.off = false)) ⟨⟩) ?_ c
    ⟨0, .slice none 0 0, rfl, rfl, Bow.nil, by simp [Value.ownBlock], Upd.refl, fun h => by omega⟩
  rintro k st w2 ⟨i', v, hk, rfl, hown, hfr, hu2, hoff⟩
  have h2 := h1.upd hu2 (fun _ _ h => h)
  have hlen := secs_len h (f := f) (k := i') (by rw [hdl]; omega)
  rw [hsz] at hlen
  have hle : i' * sz ≤ c * sz := Nat.mul_le_mul_right _ (by omega)
  obtain ⟨va, vc, rfl, hvc⟩ := hown.form
  by_cases hk0 : k = 0
  rotate_left
  · have hic : i' < c := by omega
    simp (config := { maxSteps := 3000000 }) (disch := omega) only [push_cast, Nat.reduceBEq, Nat.reduceEqDiff, Nat.reduceAdd, Nat.reduceMul, Nat.reduceSub, Nat.reduceLT, Int.reduceToNat, Int.reduceLT, Int.reduceLE, Int.reduceEq, Int.reduceAdd, Int.reduceSub, Int.reduceNeg, Int.reduceMul]
    refine Ok.use (read_ok h2 (by omega) (by have := hs.few; omega) ((f : Int) + (i' : Int))) ?_
    rintro u w3 ⟨u0, rfl, hres, hu3⟩
    have hrd : d.read ((f : Int) + (i' : Int)) = if d.off then (none, 8) else (some (d.content (f + i')), 0) := by
      unfold DS.read
      rw [if_pos ⟨by omega, by omega⟩, show ((f : Int) + (i' : Int)).toNat = f + i' from by omega]
    have hu03 := (hu1.trans hu2 (fun _ _ h => h)).trans hu3 (fun _ _ h => h)
    cases ho : d.off
    rotate_left
    · rw [hrd, ho, if_pos rfl] at hres ⊢
      have hop : jopen d f c = (none, 8) := by unfold jopen; rw [if_pos ho]
      rw [hop]
      have hres : u0 = .slice none 0 0 := hres
      subst hres
      simp (config := { maxSteps := 3000000 }) (disch := omega) only [push_cast, Nat.reduceBEq, Nat.reduceEqDiff, Nat.reduceAdd, Nat.reduceMul, Nat.reduceSub, Nat.reduceLT, Int.reduceToNat, Int.reduceLT, Int.reduceLE, Int.reduceEq, Int.reduceAdd, Int.reduceSub, Int.reduceNeg, Int.reduceMul]
      exact ⟨rfl, hu03⟩
    · rw [hrd, ho, if_neg (by decide)] at hres ⊢
      obtain ⟨b, rfl, hb, hblk⟩ := hres
      have hcl := h.content_len (s := f + i') (by rw [hdl]; omega)
      have hsl : SlB w3 (fun _ => False) (CV b (d.content (f + i'))) (d.content (f + i')) := slb_new hblk (fun h => h)
      have hown3 := hown.upd hu3 (fun _ _ h => h)
      have hs2 := hu2.size
      unfold CV at hsl ⊢
      have hsz' : sz ≤ c * sz := Nat.le_mul_of_pos_left _ (by omega)
      simp (config := { maxSteps := 3000000 }) (disch := omega) only [push_cast, Nat.reduceBEq, Nat.reduceEqDiff, Nat.reduceAdd, Nat.reduceMul, Nat.reduceSub, Nat.reduceLT, Int.reduceToNat, Int.reduceLT, Int.reduceLE, Int.reduceEq, Int.reduceAdd, Int.reduceSub, Int.reduceNeg, Int.reduceMul]
      refine app_by hown3 hsl (by rw [hlen, hcl, hsz]; omega) ?_
      intro v4 w4 hown4 hu4 hfr4
      obtain ⟨va4, vc4, hv4, _⟩ := hown4.form
      have hs3 := hu3.size
      simp (config := { maxSteps := 3000000 }) (disch := omega) only [push_cast, Nat.reduceBEq, Nat.reduceEqDiff, Nat.reduceAdd, Nat.reduceMul, Nat.reduceSub, Nat.reduceLT, Int.reduceToNat, Int.reduceLT, Int.reduceLE, Int.reduceEq, Int.reduceAdd, Int.reduceSub, Int.reduceNeg, Int.reduceMul]
      refine ⟨k - 1, by omega, i' + 1, v4, by omega, by simp, hown4, fun g hg => ?_, (hu2.trans hu3 (fun _ _ h => h)).trans hu4 (fun b hb e => by have := hfr b e; omega), fun _ => by first | rfl | exact ho⟩
      rcases hfr4 g hg with h | h
      · exact hfr g h
      · omega
  obtain rfl : i' = c := by omega
  have ho := hoff (by omega)
  obtain ⟨c', rfl⟩ : ∃ c', i' = c' + 1 := ⟨i' - 1, by omega⟩
  have hop : jopen d f (c' + 1) = _ := rfl
  conv at hop => rhs; unfold jopen
  rw [if_neg (by rw [ho]; decide), Nat.add_sub_cancel, hsz] at hop
  rw [Nat.add_sub_cancel] at hA
  rw [← hA] at hop
  have hsec := secs_head (d := d) (f := f) (k := c')
  have hr1 := hr.content (s := f) (by omega)
  have hr2 := secs_rng hr (f := f + 1) (k := c') (by omega)
  have hl1 := h.content_len (s := f) (by omega)
  have hl2 := secs_len h (f := f + 1) (k := c') (by omega)
  rw [hsz] at hl1 hl2
  rw [← hA] at hl2
  have e1 : (secs d f (c' + 1)).take sz = d.content f := by rw [hsec, List.take_append_of_le_length (by omega), List.take_of_length_le (by omega)]
  have e2 : (secs d f (c' + 1)).drop sz = secs d (f + 1) c' := by rw [hsec, List.drop_append_of_le_length (by omega), List.drop_of_length_le (by omega), List.nil_append]
  have hlA : (secs d f (c' + 1)).length = sz + A := by rw [hsec, List.length_append, hl1, hl2]
  obtain ⟨g, cc, hv, hg, _, _⟩ := Buf.of_own hown (by omega)
  injection hv with q1 _ q3
  subst q1
  subst q3
  have hslv : SlB w2 (fun _ => False) (.slice (some ⟨g, 0, none⟩) (secs d f (c' + 1)).length vc) (secs d f (c' + 1)) := hown.slb fun _ _ h => h
  generalize secs d f (c' + 1) = all at *
  generalize secs d (f + 1) c' = ar at *
  generalize d.content f = hd at *
  have hj2 := hj0.upd hu2 (fun h => h)
  simp (config := { maxSteps := 3000000 }) (disch := omega) only [push_cast, Nat.reduceBEq, Nat.reduceEqDiff, Nat.reduceAdd, Nat.reduceMul, Nat.reduceSub, Nat.reduceLT, Int.reduceToNat, Int.reduceLT, Int.reduceLE, Int.reduceEq, Int.reduceAdd, Int.reduceSub, Int.reduceNeg, Int.reduceMul]
  refine Ok.use (Size_ok h2) ?_
  rintro u w3 ⟨rfl, rfl⟩
  rw [hsz]
  have htk := slc_take hslv (n := sz) (by omega) hvc
  rw [e1] at htk
  simp (config := { maxSteps := 3000000 }) (disch := omega) only [push_cast, Nat.reduceBEq, Nat.reduceEqDiff, Nat.reduceAdd, Nat.reduceMul, Nat.reduceSub, Nat.reduceLT, Int.reduceToNat, Int.reduceLT, Int.reduceLE, Int.reduceEq, Int.reduceAdd, Int.reduceSub, Int.reduceNeg, Int.reduceMul]
  rw [show (Value.slice (some ⟨g, 0, none⟩) sz vc) = .slice (some ⟨g, 0, none⟩) hd.length vc from by rw [hl1]]
  rw [← hl1] at htk
  refine Ok.use (length_ok htk hr1 (by omega) (by omega)) ?_
  rintro u w3 ⟨⟨nn, ok, rfl, hhd, hnn⟩, hu3⟩
  have hu13 := hu2.trans hu3 (fun _ _ h => h)
  have hu03 := hu1.trans hu13 (fun _ _ h => h)
  have hj3 := hj2.upd hu3 (fun h => h)
  rw [hhd] at hop
  have hs13 := hu13.size
  cases ok
  · have hop : jopen d f (c' + 1) = (none, 12) := hop
    rw [hop]
    simp (config := { maxSteps := 3000000 }) (disch := omega) only [push_cast, Nat.reduceBEq, Nat.reduceEqDiff, Nat.reduceAdd, Nat.reduceMul, Nat.reduceSub, Nat.reduceLT, Int.reduceToNat, Int.reduceLT, Int.reduceLE, Int.reduceEq, Int.reduceAdd, Int.reduceSub, Int.reduceNeg, Int.reduceMul, hj3.cell]
    exact ⟨rfl, hu03⟩
  simp only [if_true] at hop
  have hnn := hnn rfl
  by_cases hbig : A < nn
  · rw [if_pos hbig] at hop
    rw [hop]
    simp (config := { maxSteps := 3000000 }) (disch := omega) only [push_cast, Nat.reduceBEq, Nat.reduceEqDiff, Nat.reduceAdd, Nat.reduceMul, Nat.reduceSub, Nat.reduceLT, Int.reduceToNat, Int.reduceLT, Int.reduceLE, Int.reduceEq, Int.reduceAdd, Int.reduceSub, Int.reduceNeg, Int.reduceMul, hj3.cell]
    exact ⟨rfl, by first | exact hu03 | exact hu03.drew'⟩
  rw [if_neg hbig] at hop
  have hsz1l : w.heap.size < w1.heap.size := by omega
  have hu4 : Upd (fun _ => False) w3 (w3.alloc (.cells #[] 5 (0, 0))) := Upd.alloc
  have hbn : Blk (w3.alloc (.cells #[] 5 (0, 0))) w3.heap.size [] 5 := Blk.new (cs := [])
  have hsz4 : (w3.alloc (.cells #[] 5 (0, 0))).heap.size = w3.heap.size + 1 := size_alloc
  simp (config := { maxSteps := 3000000 }) (disch := omega) only [push_cast, Nat.reduceBEq, Nat.reduceEqDiff, Nat.reduceAdd, Nat.reduceMul, Nat.reduceSub, Nat.reduceLT, Int.reduceToNat, Int.reduceLT, Int.reduceLE, Int.reduceEq, Int.reduceAdd, Int.reduceSub, Int.reduceNeg, Int.reduceMul, hj3.cell]
  generalize w3.alloc (.cells #[] 5 (0, 0)) = w4 at *
  have hu14 := hu13.trans hu4 (fun _ _ h => h)
  have h4 := h1.upd hu14 (fun _ _ h => h)
  have hj4 := hj3.upd hu4 (fun h => h)
  refine Ok.use (Size_ok h4) ?_
  rintro u w5 ⟨rfl, rfl⟩
  rw [hsz]
  simp (config := { maxSteps := 3000000 }) (disch := omega) only [push_cast, Nat.reduceBEq, Nat.reduceEqDiff, Nat.reduceAdd, Nat.reduceMul, Nat.reduceSub, Nat.reduceLT, Int.reduceToNat, Int.reduceLT, Int.reduceLE, Int.reduceEq, Int.reduceAdd, Int.reduceSub, Int.reduceNeg, Int.reduceMul, hj4.cell]
  refine Ok.use (Size_ok h4) ?_
  rintro u w5 ⟨rfl, rfl⟩
  rw [hsz]
  have hst := slb_lh (hslv.upd (hu3.trans hu4 (fun _ _ h => h)) (fun _ h => h.elim)) (l := sz) (n := nn) (by omega) hvc
  rw [e2, Nat.zero_add] at hst
  have ez : ((sz : Int) + (nn : Int)).toNat - sz = nn := by omega
  have hstl : (ar.take nn).length = nn := by rw [List.length_take]; omega
  have hrs : Rng (ar.take nn) := hr2.take nn
  simp (config := { maxSteps := 3000000 }) (disch := omega) only [push_cast, Nat.reduceBEq, Nat.reduceEqDiff, Nat.reduceAdd, Nat.reduceMul, Nat.reduceSub, Nat.reduceLT, Int.reduceToNat, Int.reduceLT, Int.reduceLE, Int.reduceEq, Int.reduceAdd, Int.reduceSub, Int.reduceNeg, Int.reduceMul, hj4.cell, ez]
  refine app_by (Bow.empty hbn) hst (by rw [hstl]; simp; omega) ?_
  intro v5 w5 hown5 hu5 hfr5
  rw [List.nil_append] at hown5
  generalize hstr : ar.take nn = str at *
  obtain ⟨va5, vc5, rfl, hvc5⟩ := hown5.form
  have hs14 := hu14.size
  have hs3' : w1.heap.size ≤ w3.heap.size := hs13
  have hu15 : Upd (fun _ => False) w1 w5 := hu14.trans hu5 fun b hb e => by have e := ownB e; omega
  have hj5 := hj0.upd hu15 (fun h => h)
  have hfr5' : ∀ g, (Value.slice va5 str.length vc5).ownBlock = some g → w1.heap.size ≤ g := by
    intro g hg
    rcases hfr5 g hg with h | h
    · have := ownB h; omega
    · omega
  have hu6 : Upd (fun b => b = w.heap.size) w5 (w5.setCell ⟨w.heap.size, 3, none⟩ (.slice va5 str.length vc5)) := Upd.set rfl
  have hj6 := hj5.set 3 (.slice va5 str.length vc5)
  simp (config := { maxSteps := 3000000 }) (disch := omega) only [push_cast, Nat.reduceBEq, Nat.reduceEqDiff, Nat.reduceAdd, Nat.reduceMul, Nat.reduceSub, Nat.reduceLT, Int.reduceToNat, Int.reduceLT, Int.reduceLE, Int.reduceEq, Int.reduceAdd, Int.reduceSub, Int.reduceNeg, Int.reduceMul, hj4.cell, hj5.cell, hj5.free, ez]
  generalize w5.setCell ⟨w.heap.size, 3, none⟩ (.slice va5 str.length vc5) = w6 at *
  have hu16 : Upd (fun b => b = w.heap.size) w1 w6 := (hu15.mono fun _ _ h => h.elim).trans hu6 (fun _ _ h => h)
  have hu06 : Upd (fun _ => False) w w6 := hu1.trans hu16 fun b hb e => by omega
  have hown6 := hown5.upd hu6 fun g hg e => by have := hfr5' g hg; omega
  have hsl6 : SlC w6 (fun b => b < w.heap.size ∨ b = w.heap.size) (.slice va5 str.length vc5) str := hown6.slc fun g hg e => by have := hfr5' g hg; omega
  refine Ok.use (split_ok hsl6.1 hrs (by omega)) ?_
  rintro u w7 ⟨⟨u0, ok, rfl, hm⟩, hu7⟩
  have hu07 := hu06.trans hu7 (fun _ _ h => h)
  have hs6 := hu6.size
  have hs7 := hu7.size
  have hs5 := hu15.size
  cases hsp : spl str with
  | none =>
    rw [hsp] at hm hop
    obtain ⟨rfl, rfl⟩ := hm
    rw [hop]
    simp (config := { maxSteps := 3000000 }) (disch := omega) only [push_cast, Nat.reduceBEq, Nat.reduceEqDiff, Nat.reduceAdd, Nat.reduceMul, Nat.reduceSub, Nat.reduceLT, Int.reduceToNat, Int.reduceLT, Int.reduceLE, Int.reduceEq, Int.reduceAdd, Int.reduceSub, Int.reduceNeg, Int.reduceMul]
    exact ⟨rfl, hu07⟩
  | some ls =>
    rw [hsp] at hm hop
    obtain ⟨rfl, hm⟩ := hm
    rw [hop]
    simp (config := { maxSteps := 3000000 }) (disch := omega) only [push_cast, Nat.reduceBEq, Nat.reduceEqDiff, Nat.reduceAdd, Nat.reduceMul, Nat.reduceSub, Nat.reduceLT, Int.reduceToNat, Int.reduceLT, Int.reduceLE, Int.reduceEq, Int.reduceAdd, Int.reduceSub, Int.reduceNeg, Int.reduceMul]
    exact ⟨⟨_, rfl, Nat.le_refl _, by omega, _, hj6.upd hu7 (fun h => h), hsl6.upd hu7 (fun _ h => h.elim), hrs⟩, hu07⟩
end Go.Proofs.Ytlnladcfgieggaa.Fd
