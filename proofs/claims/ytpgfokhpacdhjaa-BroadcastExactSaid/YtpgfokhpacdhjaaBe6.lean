/-
  The reference: put.
-/
import Derived.Test.YtpgfokhpacdhjaaBe4
namespace Go.Proofs.Ytpgfokhpacdhjaa.Fd
set_option linter.unusedSimpArgs false
set_option linter.unusedVariables false
open Go Go.ChangeMaps
set_option maxRecDepth 100000

theorem rflat_take {α β : Type} {f : α → List β} {s : Nat} (hf : ∀ x, (f x).length = s) : ∀ {l : List α} {i : Nat}, (l.flatMap f).take (i * s) = (l.take i).flatMap f
  | [], i => by simp
  | x :: l, 0 => by simp
  | x :: l, i + 1 => by
    rw [List.flatMap_cons, List.take_append, List.take_of_length_le (by rw [hf, Nat.succ_mul]; omega), hf, show (i + 1) * s - s = i * s from by rw [Nat.succ_mul]; omega, rflat_take hf, List.take_succ_cons, List.flatMap_cons]
theorem rflat_drop {α β : Type} {f : α → List β} {s : Nat} (hf : ∀ x, (f x).length = s) : ∀ {l : List α} {i : Nat}, (l.flatMap f).drop (i * s) = (l.drop i).flatMap f
  | [], i => by simp
  | x :: l, 0 => by simp
  | x :: l, i + 1 => by
    rw [List.flatMap_cons, List.drop_append, List.drop_of_length_le (by rw [hf, Nat.succ_mul]; omega), hf, show (i + 1) * s - s = i * s from by rw [Nat.succ_mul]; omega, rflat_drop hf, List.drop_succ_cons, List.nil_append]
theorem rflat_len {α β : Type} {f : α → List β} {s : Nat} (hf : ∀ x, (f x).length = s) : ∀ {l : List α}, (l.flatMap f).length = l.length * s
  | [] => by simp
  | x :: l => by rw [List.flatMap_cons, List.length_append, hf, rflat_len hf, List.length_cons, Nat.succ_mul]; omega
theorem src_at {P : Program} {w : World} {t e E : TypeId} (hk : P.underlying t = some (.slice e)) {B s n g cap : Nat} {xs : List Value} (h : w.ownsRow B E s (.slice (some ⟨g, 0, none⟩) n cap) n xs) (h1 : ∀ u ∈ xs, u.oneCell' = true) (o q c : Nat) (hq : o + q ≤ n) :
    Src P s t (.slice (some ⟨g, o * s, none⟩) q c) q ((xs.drop (o * s)).take (q * s)) w := by
  have hlx := h.1
  have hmul : o * s + q * s ≤ n * s := by rw [← Nat.add_mul]; exact Nat.mul_le_mul_right s hq
  refine Src.ofSlice w hk ⟨g, o * s, none⟩ q c _ (by rw [List.length_take, List.length_drop, hlx]; omega) (fun j u hj => ?_) (fun u hu => h1 u (List.mem_of_mem_drop (List.mem_of_mem_take hu)))
  have hjl : j < q * s := by
    have := (List.getElem?_eq_some_iff.1 hj).1
    rw [List.length_take] at this
    omega
  rw [List.getElem?_take_of_lt hjl, List.getElem?_drop] at hj
  have hc := h.cellAt (o * s + j) (by omega)
  rw [hj] at hc
  rw [← hc]
  congr 1
  unfold Addr.add
  split
  · rename_i h0; rw [h0]; rfl
  · rfl
theorem bsl_nt0 (w : World) : bslS Try.prog 61 0 #[] w = some (.slice (some ⟨w.heap.size, 0, none⟩) 0 0, w.alloc (.cells #[] 87 (0, 0))) := by kernel_rfl
theorem zer_nt : zer Try.prog 87 = some (.agg #[.int .i64 0, .int .i64 0, .slice none 0 0, .bool false, .bool false, .bool false, .bool false, .bool false, .bool false, .bool false, .bool false, .bool false, .bool false, .bool false, .bool false]) := by kernel_rfl
theorem slc_nt_lo0 (w : World) : slcS Try.prog 61 (.slice none 0 0) (some (.int .i64 0)) none w = some (.slice none 0 0, w) := by kernel_rfl
theorem slc_nt_hi0 (w : World) : slcS Try.prog 61 (.slice none 0 0) none (some (.int .i64 0)) w = some (.slice none 0 0, w) := by kernel_rfl
theorem nt_parts {base : Nat} {w : World} {nv : Value} {zs : List (Rn × Value)} (h : w.ownsRow base 87 15 nv zs.length (zs.flatMap rnC)) (h1 : ∀ u ∈ zs.flatMap rnC, u.oneCell' = true) {i d : Nat} (hd : i + d = zs.length) :
    ∃ a1 c1 a2 c2, (∀ w', slcS Try.prog 61 nv (some (.int .i64 (i : Int))) none w' = some (.slice a1 (d) c1, w') ∧ slcS Try.prog 61 nv none (some (.int .i64 (i : Int))) w' = some (.slice a2 i c2, w')) ∧
      ∀ w', w'.ownsRow base 87 15 nv zs.length (zs.flatMap rnC) → Src Try.prog 15 61 (.slice a1 (d) c1) (d) ((zs.drop i).flatMap rnC) w' ∧ Src Try.prog 15 61 (.slice a2 i c2) i ((zs.take i).flatMap rnC) w' := by
  have hi : i ≤ zs.length := by omega
  obtain rfl : d = zs.length - i := by omega
  rcases h.2 with ⟨rfl, h0⟩ | ⟨g, cap, cur, rfl, hg, hb, hc1, hc2, hsz, htk⟩
  · obtain rfl : i = 0 := by omega
    have : zs = [] := List.eq_nil_of_length_eq_zero h0
    subst this
    exact ⟨none, 0, none, 0, fun w' => ⟨slc_nt_lo0 w', slc_nt_hi0 w'⟩, fun w' _ => ⟨Src.ofNil w' (Try.underlying61) 0, Src.ofNil w' (Try.underlying61) 0⟩⟩
  · refine ⟨some ⟨g, if cap = i then 0 else i * 15, none⟩, cap - i, some ⟨g, 0, none⟩, cap, fun w' => ⟨?_, ?_⟩, fun w' h' => ⟨?_, ?_⟩⟩
    · rw [slc_lo (by omega) (by omega), t61_e]
      simp only [orK, t87_s, Int.toNat_natCast]
      simp
    · rw [slc_hi (by omega) (by omega), t61_e]
      simp only [orK, t87_s, Int.toNat_natCast]
    · by_cases hc : cap = i
      · rw [if_pos hc]
        have e : zs.drop i = [] := List.drop_eq_nil_of_le (by omega)
        rw [e, show zs.length - i = 0 from by omega]
        exact Src.ofSlice w' (Try.underlying61) ⟨g, 0, none⟩ 0 _ [] rfl (by simp) (by simp)
      · rw [if_neg hc]
        have h := src_at (P := Try.prog) (Try.underlying61) h' h1 i (zs.length - i) (cap - i) (by omega)
        rw [rflat_drop (f := rnC) (s := 15) (fun _ => rnC_len), List.take_of_length_le (by rw [rflat_len (f := rnC) (s := 15) (fun _ => rnC_len), List.length_drop]; exact Nat.le_refl _)] at h
        exact h
    · have h := src_at (P := Try.prog) (Try.underlying61) h' h1 0 i cap (by omega)
      rw [Nat.zero_mul, List.drop_zero, rflat_take (f := rnC) (s := 15) (fun _ => rnC_len)] at h
      exact h
theorem row_src {P : Program} {w : World} {t e E : TypeId} (hk : P.underlying t = some (.slice e)) {B s n : Nat} {v : Value} {xs : List Value} (h : w.ownsRow B E s v n xs) (h1 : ∀ u ∈ xs, u.oneCell' = true) : Src P s t v n xs w := by
  have hlx := h.1
  rcases h.2 with ⟨rfl, h0⟩ | ⟨g, cap, cur, rfl, hg, hb, hc1, hc2, hsz, htk⟩
  · subst h0
    have : xs = [] := List.eq_nil_of_length_eq_zero (by omega)
    subst this
    exact Src.ofNil w hk 0
  · have := src_at hk h h1 0 n cap (by omega)
    rw [Nat.zero_mul, List.drop_zero, List.take_of_length_le (by omega)] at this
    exact this
theorem bsl_nt (x : Rn × Value) (a : Option Addr) (n c : Nat) (hx : x.2 = .slice a n c) (w : World) : bslS Try.prog 61 1 #[(0, .agg (rnC x).toArray)] w = some (.slice (some ⟨w.heap.size, 0, none⟩) 1 1, w.alloc (.cells (rnC x).toArray 87 (0, 0))) := by
  obtain ⟨⟨k, l, D⟩, xv⟩ := x
  simp only at hx
  subst hx
  kernel_rfl
def posN (k : NP) : List (Rn × Value) → Nat
  | [] => 0
  | z :: r => if ltN z.1.k k then posN k r + 1 else 0
theorem posN_at {k : NP} : ∀ {zs : List (Rn × Value)} {i : Nat}, (∀ j z, j < i → zs[j]? = some z → ltN z.1.k k = true) → i ≤ zs.length → (∀ z, zs[i]? = some z → ltN z.1.k k = false) → posN k zs = i
  | [], i, _, h2, _ => by simp at h2; rw [h2]; rfl
  | z :: r, 0, _, _, h3 => by rw [posN, h3 z rfl]; simp
  | z :: r, i + 1, h1, h2, h3 => by
    rw [posN, h1 0 z (by omega) rfl, if_pos rfl, posN_at (zs := r) (i := i) (fun j y hj hy => h1 (j + 1) y (by omega) (by simpa using hy)) (by simpa using h2) (fun y hy => h3 y (by simpa using hy))]
def insZ (x : Rn × Value) (zs : List (Rn × Value)) : List (Rn × Value) := zs.take (posN x.1.k zs) ++ x :: zs.drop (posN x.1.k zs)
theorem rn_one {base : Nat} {w : World} {zs : List (Rn × Value)} (h : ∀ z, z ∈ zs → PB base w z.2 z.1.l) : ∀ u ∈ zs.flatMap rnC, u.oneCell' = true := by
  intro u hu
  obtain ⟨z, hz, hu⟩ := List.mem_flatMap.1 hu
  unfold rnC knV at hu
  rcases List.mem_append.1 hu with hu | hu
  · simp at hu
    rcases hu with rfl | rfl | rfl
    · rfl
    · rfl
    · exact (h z hz).one
  · obtain ⟨i, _, rfl⟩ := List.mem_map.1 hu
    rfl
set_option maxHeartbeats 4000000 in
theorem rput_ok {base : Nat} {w : World} {q : Nat} {R : PS} {nv ov : Value} {zs : List (Rn × Value)} {ds : List (NP × Value)} (h : RA base w q R nv ov zs ds) (x : Rn × Value) (hx : PB base w x.2 x.1.l) (hl : zs.length < 1000000) :
    Ok (den Try.prog 34 #[.pointer (some ⟨q, 0, none⟩), rnV x] w) fun v w' => ∃ nv', RA base w' q { R with notes := (insZ x zs).map fun z => (z.1.k, (z.1.l, z.1.D)) } nv' ov (insZ x zs) ds ∧ Upd (fun b => b = q) w w' ∧ (∀ g, nv'.ownBlock = some g → w.heap.size ≤ g) := by
  obtain ⟨na, nc, rfl⟩ := own_slice h.nts
  refine den_okS (args := [.pointer (some ⟨q, 0, none⟩), rnV x]) rs34 Try.func34 rfl mixed in34 ok34 ae34 rfl ?_
  obtain ⟨⟨k, l, D⟩, xv⟩ := x
  simp only at hx
  obtain ⟨xa, xc, rfl⟩ := hx.form
  have b0 := Blk.new (w := w) (cs := rnC (⟨k, l, D⟩, .slice xa l.length xc)) (E := 87)
  have u0 : Upd (fun _ => False) w (w.alloc (.cells (rnC (⟨k, l, D⟩, .slice xa l.length xc)).toArray 87 (0, 0))) := Upd.alloc
  rw [W_seq]
  generalize hKs : KS _ _ _ _ _ = Ks
  simp (disch := omega) only [push_cast, Nat.reduceBEq, Nat.reduceEqDiff, Nat.reduceAdd, Nat.reduceMul, Nat.reduceSub, Nat.reduceLT, Int.reduceToNat, Int.reduceLT, Int.reduceLE, Int.reduceEq, Int.reduceAdd, Int.reduceSub, Int.reduceNeg, Int.reduceMul, rnV]
  generalize w.alloc (.cells (rnC (⟨k, l, D⟩, .slice xa l.length xc)).toArray 87 (0, 0)) = w1 at *
  have h1 := h.quiet u0
  have hx1 := hx.keep (Kp.quiet u0)
  subst hKs
  rw [KS_nor]
  rw [W_seq]
  generalize hKs : KS _ _ _ _ _ = Ks
  simp (disch := omega) only [push_cast, Nat.reduceBEq, Nat.reduceEqDiff, Nat.reduceAdd, Nat.reduceMul, Nat.reduceSub, Nat.reduceLT, Int.reduceToNat, Int.reduceLT, Int.reduceLE, Int.reduceEq, Int.reduceAdd, Int.reduceSub, Int.reduceNeg, Int.reduceMul]
  subst hKs
  rw [KS_nor]
  simp (disch := omega) only [push_cast, Nat.reduceBEq, Nat.reduceEqDiff, Nat.reduceAdd, Nat.reduceMul, Nat.reduceSub, Nat.reduceLT, Int.reduceToNat, Int.reduceLT, Int.reduceLE, Int.reduceEq, Int.reduceAdd, Int.reduceSub, Int.reduceNeg, Int.reduceMul]
  generalize hKb : KB _ _ = Kb
  refine loop_inv (I := fun c st w' => Bx (∃ i : Nat, c + i = zs.length ∧ st = [.int .i64 (i : Int)] ∧ Upd (fun _ => False) w1 w' ∧ ∀ j z, j < i → zs[j]? = some z → ltN z.1.k k = true) ⟨⟩) ?_ zs.length ⟨0, rfl, rfl, Upd.refl, fun j y hj => by omega⟩
  rintro c st w2 ⟨i, hc, rfl, hu2, hlt⟩
  have h2 := h1.quiet hu2
  have b2 := b0.upd hu2 (fun h => h)
  have hx2 := hx1.keep (Kp.quiet hu2)
  have s12 := hu2.size
  have s01 : w.heap.size < w1.heap.size := b0.lt
  clear h1 hx1
  have c3 := h2.obj.cell 3
  simp only [List.cons_append, List.nil_append, List.getElem?_cons_succ, List.getElem?_cons_zero] at c3
  have d0 := b2.cell 0
  have d1 := b2.cell 1
  simp only [rnC, List.cons_append, List.nil_append, List.getElem?_cons_succ, List.getElem?_cons_zero] at d0 d1
  refine (fun (hfin : i ≤ zs.length → posN k zs = i → Kb (Exit.exit 0, ?en, w2.drew)) => ?_) ?_
  rotate_left
  · by_cases hc0 : c = 0
    · have hie : i = zs.length := by omega
      have hni : ¬ (i : Int) < (zs.length : Int) := by omega
      simp (config := { maxSteps := 3000000 }) (disch := omega) only [push_cast, Nat.reduceBEq, Nat.reduceEqDiff, Nat.reduceAdd, Nat.reduceMul, Nat.reduceSub, Nat.reduceLT, Int.reduceToNat, Int.reduceLT, Int.reduceLE, Int.reduceEq, Int.reduceAdd, Int.reduceSub, Int.reduceNeg, Int.reduceMul, c3, hni]
      exact hfin (by omega) (posN_at hlt (by omega) fun z hz => by rw [hie] at hz; simp at hz)
    have hi : i < zs.length := by omega
    have hzi : zs[i]? = some zs[i] := List.getElem?_eq_getElem hi
    obtain ⟨g, cap, hv, _, hcell⟩ := h2.note hzi
    injection hv with e1 _ e3
    subst e1
    subst e3
    have q0 := hcell 0 (by omega)
    have q1 := hcell 1 (by omega)
    simp only [rnC, List.cons_append, List.getElem?_cons_succ, List.getElem?_cons_zero, Nat.add_zero] at q0 q1
    generalize zs[i] = z at *
    have go : ltN z.1.k k = true → ∃ k', k' < c ∧ ∃ i2 : Nat, k' + i2 = zs.length ∧ [Value.int .i64 ((i : Int) + 1)] = [.int .i64 (i2 : Int)] ∧ Upd (fun _ => False) w1 w2.drew ∧ ∀ j z, j < i2 → zs[j]? = some z → ltN z.1.k k = true := fun hh => by
      refine ⟨c - 1, by omega, i + 1, by omega, by simp, hu2.drew', fun j y hj hy => ?_⟩
      by_cases e : j = i
      · subst e
        rw [hzi] at hy
        injection hy with hy
        rw [← hy]; exact hh
      · exact hlt j y (by omega) hy
    have stop : ltN z.1.k k = false → posN k zs = i := fun hh => posN_at hlt (by omega) fun y hy => by
      rw [hzi] at hy
      injection hy with hy
      rw [← hy]; exact hh
    by_cases h2 : z.1.k.1 < k.1
    · simp (config := { maxSteps := 3000000 }) (disch := omega) only [push_cast, Nat.reduceBEq, Nat.reduceEqDiff, Nat.reduceAdd, Nat.reduceMul, Nat.reduceSub, Nat.reduceLT, Int.reduceToNat, Int.reduceLT, Int.reduceLE, Int.reduceEq, Int.reduceAdd, Int.reduceSub, Int.reduceNeg, Int.reduceMul, c3, q0, d0, h2]
      exact go (by simp [ltN, h2])
    by_cases h3 : z.1.k.1 = k.1
    · by_cases h4 : z.1.k.2 < k.2
      · simp (config := { maxSteps := 3000000 }) (disch := omega) only [push_cast, Nat.reduceBEq, Nat.reduceEqDiff, Nat.reduceAdd, Nat.reduceMul, Nat.reduceSub, Nat.reduceLT, Int.reduceToNat, Int.reduceLT, Int.reduceLE, Int.reduceEq, Int.reduceAdd, Int.reduceSub, Int.reduceNeg, Int.reduceMul, c3, q0, q1, d0, d1, h2, h3, h4]
        exact go (by simp [ltN, h3, h4])
      · simp (config := { maxSteps := 3000000 }) (disch := omega) only [push_cast, Nat.reduceBEq, Nat.reduceEqDiff, Nat.reduceAdd, Nat.reduceMul, Nat.reduceSub, Nat.reduceLT, Int.reduceToNat, Int.reduceLT, Int.reduceLE, Int.reduceEq, Int.reduceAdd, Int.reduceSub, Int.reduceNeg, Int.reduceMul, c3, q0, q1, d0, d1, h2, h3, h4]
        exact hfin (by omega) (stop (by simp [ltN, h3, h4]))
    · simp (config := { maxSteps := 3000000 }) (disch := omega) only [push_cast, Nat.reduceBEq, Nat.reduceEqDiff, Nat.reduceAdd, Nat.reduceMul, Nat.reduceSub, Nat.reduceLT, Int.reduceToNat, Int.reduceLT, Int.reduceLE, Int.reduceEq, Int.reduceAdd, Int.reduceSub, Int.reduceNeg, Int.reduceMul, c3, q0, d0, h2, h3]
      exact hfin (by omega) (stop (by simp [ltN, h2, h3]))
  intro hi hpos
  subst hKb
  clear d0 d1 c3
  have h3 := h2.quiet Upd.drew
  have b3 := b2.drew
  have hx3 := hx2.keep (Kp.quiet Upd.drew)
  have s23 : w2.drew.heap.size = w2.heap.size := rfl
  clear h2 b2 hx2
  have ud3 : Upd (fun _ => False) w2 w2.drew := Upd.drew
  generalize w2.drew = w3 at *
  rw [KB_exit, if_pos rfl, KS_nor]
  have c3 := h3.obj.cell 3
  simp only [List.cons_append, List.nil_append, List.getElem?_cons_succ, List.getElem?_cons_zero] at c3
  obtain ⟨dn, hdn⟩ : ∃ dn, i + dn = zs.length := ⟨zs.length - i, by omega⟩
  have hrow := h3.nts
  obtain ⟨a1, c1, a2, c2, hsl, hsrc⟩ := nt_parts h3.nts (rn_one h3.pb) hdn
  have b4 := Blk.new (w := w3) (cs := []) (E := 87)
  have u4 : Upd (fun _ => False) w3 (w3.alloc (.cells #[] 87 (0, 0))) := Upd.alloc
  have c4 := (h3.quiet u4).obj.cell 3
  simp only [List.cons_append, List.nil_append, List.getElem?_cons_succ, List.getElem?_cons_zero] at c4
  rw [W_seq]
  generalize hKs : KS _ _ _ _ _ = Ks
  simp (disch := omega) only [push_cast, Nat.reduceBEq, Nat.reduceEqDiff, Nat.reduceAdd, Nat.reduceMul, Nat.reduceSub, Nat.reduceLT, Int.reduceToNat, Int.reduceLT, Int.reduceLE, Int.reduceEq, Int.reduceAdd, Int.reduceSub, Int.reduceNeg, Int.reduceMul, c3, bsl_nt0, c4, (hsl _).1]
  have h4 := h3.quiet u4
  have hx4 := hx3.keep (Kp.quiet u4)
  have b5 := b3.upd u4 (fun h => h)
  have s4 : (w3.alloc (.cells #[] 87 (0, 0))).heap.size = w3.heap.size + 1 := size_alloc
  have hrow4 : (w3.alloc (.cells #[] 87 (0, 0))).ownsRow 0 87 15 (.slice (some ⟨w3.heap.size, 0, none⟩) 0 0) 0 [] := ⟨rfl, .inr ⟨w3.heap.size, 0, #[], rfl, Nat.zero_le _, b4, Nat.le_refl _, Nat.zero_le _, rfl, rfl⟩⟩
  refine app_src (s := 15) (by_ := 56) t61_e t87_s t87_b zer_nt rfl (by omega) hrow4 (hsrc _ h4.nts).1 (by omega) (by unfold maxLen; omega) ?_
  intro v5 w5 hrow5 hu5 hf5
  rw [List.nil_append, Nat.zero_add] at hrow5
  have u35 : Upd (fun _ => False) w3 w5 := u4.trans hu5 (fun b h1 h2 => by simp [Value.ownBlock] at h2; omega)
  have hv5 : ∀ g, v5.ownBlock = some g → w3.heap.size ≤ g := fun g hg => by
    rcases hf5 g hg with h | h
    · simp [Value.ownBlock] at h; omega
    · omega
  obtain ⟨a5, c5, rfl⟩ := own_slice hrow5
  clear hf5 hu5 h4 hx4 hrow4 c4 c3 b4 u4
  simp (disch := omega) only [push_cast, Nat.reduceBEq, Nat.reduceEqDiff, Nat.reduceAdd, Nat.reduceMul, Nat.reduceSub, Nat.reduceLT, Int.reduceToNat, Int.reduceLT, Int.reduceLE, Int.reduceEq, Int.reduceAdd, Int.reduceSub, Int.reduceNeg, Int.reduceMul]
  subst hKs
  rw [KS_nor]
  have h6 := h3.quiet u35.drew'
  have hx6 := hx3.keep (Kp.quiet u35.drew')
  have b6 := b3.upd u35.drew' (fun h => h)
  have s6 := u35.drew'.size
  have hrow6 : w5.drew.ownsRow 0 87 15 (.slice a5 (dn) c5) (dn) ((zs.drop i).flatMap rnC) := hrow5
  clear h3 hx3 b3 b5 hrow5
  have u36 := u35.drew'
  clear u35
  rw [W_seq]
  generalize hKs : KS _ _ _ _ _ = Ks
  rw [W_alts, WT_node, WT_node]
  generalize w5.drew = w6 at *
  have hal := h6.obj.lt
  have fct : ∀ {w' : World}, Upd (fun _ => False) w6 w' → w'.cell? ⟨q, 3, none⟩ = some (.slice na zs.length nc) ∧ ldS Try.prog 87 (.pointer (some ⟨w.heap.size, 0, none⟩)) w' = some (.agg (rnC (⟨k, l, D⟩, .slice xa l.length xc)).toArray, w') ∧
      w'.ownsRow 0 87 15 (.slice a5 dn c5) dn ((zs.drop i).flatMap rnC) ∧ Src Try.prog 15 61 (.slice a2 i c2) i ((zs.take i).flatMap rnC) w' := fun {w'} u => by
    have c := (h6.quiet u).obj.cell 3
    simp only [List.cons_append, List.nil_append, List.getElem?_cons_succ, List.getElem?_cons_zero] at c
    exact ⟨c, ld_blk (P := Try.prog) (t := 87) (b6.upd u (fun h => h)) (by kernel_rfl) (by kernel_rfl), own_updB hrow6 u (fun _ _ h => h), (hsrc _ (h6.quiet u).nts).2⟩
  obtain ⟨f6d, g6d, _, _⟩ := fct Upd.drew
  have hone : ∀ {w' : World} {zs' : List (Rn × Value)}, (∀ z, z ∈ zs' → z ∈ zs) → ∀ u ∈ zs'.flatMap rnC, u.oneCell' = true := fun hs => rn_one (w := w6) fun z hz => h6.pb z (hs z hz)
  have honx : ∀ u ∈ rnC (⟨k, l, D⟩, .slice xa l.length xc), u.oneCell' = true := fun u hu => rn_one (zs := [(⟨k, l, D⟩, .slice xa l.length xc)]) (w := w6) (base := base) (fun z hz => by rw [List.mem_singleton.1 hz]; exact hx6) u (by rw [List.flatMap_cons, List.flatMap_nil, List.append_nil]; exact hu)
  have hE : ∀ {w' : World}, Upd (fun _ => False) w6 w' → (w'.alloc (.cells #[] 87 (0, 0))).ownsRow 0 87 15 (.slice (some ⟨w'.heap.size, 0, none⟩) 0 0) 0 [] := fun _ => ⟨rfl, .inr ⟨_, 0, #[], rfl, Nat.zero_le _, Blk.new (cs := []), Nat.le_refl _, Nat.zero_le _, rfl, rfl⟩⟩
  have bslx := fun w' => bsl_nt (⟨k, l, D⟩, .slice xa l.length xc) xa l.length xc rfl w'
  obtain ⟨f6, g6, r6, s6'⟩ := fct Upd.refl
  refine (fun (hend : ∀ nv' w10, Upd (fun _ => False) w6 w10 → w10.ownsRow 0 87 15 nv' (insZ (⟨k, l, D⟩, .slice xa l.length xc) zs).length ((insZ (⟨k, l, D⟩, .slice xa l.length xc) zs).flatMap rnC) → (∀ g, nv'.ownBlock = some g → w6.heap.size ≤ g) → Ks (Exit.normal, ((((((env0 [.pointer (some ⟨q, 0, none⟩), .agg (rnC (⟨k, l, D⟩, .slice xa l.length xc)).toArray]).set 3 (.pointer (some ⟨w.heap.size, 0, none⟩))).set 5 (.int .i64 0)).set 5 (.int .i64 (i : Int))).set 52 (.bool false)).set 6 (.slice a5 dn c5)), w10.setCell ⟨q, 3, none⟩ nv')) => ?_) ?_
  refine ⟨fun _ => ⟨fun _ => ?_, fun _ => ?_⟩, fun _ => ?_⟩
  · rw [WT_leaf]
    have uA : Upd (fun _ => False) w6 (w6.alloc (.cells #[] 87 (0, 0))) := Upd.alloc
    obtain ⟨fA, gA, rA, sA⟩ := fct uA
    obtain ⟨fAd, gAd, _, _⟩ := fct uA.drew'
    simp (config := { maxSteps := 3000000 }) (disch := omega) only [push_cast, Nat.reduceBEq, Nat.reduceEqDiff, Nat.reduceAdd, Nat.reduceMul, Nat.reduceSub, Nat.reduceLT, Int.reduceToNat, Int.reduceLT, Int.reduceLE, Int.reduceEq, Int.reduceAdd, Int.reduceSub, Int.reduceNeg, Int.reduceMul, ↓nthK_zero, ↓nthK_succ, f6d, g6d, f6, fA, fAd, gAd, gA, g6, bsl_nt0, (hsl _).2]
    refine app_src (s := 15) (by_ := 56) t61_e t87_s t87_b zer_nt rfl (by omega) (hE Upd.refl) sA (by omega) (by unfold maxLen; omega) ?_
    intro v7 w7 hrow7 hu7 hf7
    rw [List.nil_append, Nat.zero_add] at hrow7
    have u67 : Upd (fun _ => False) w6 w7 := uA.trans hu7 (fun b h1 h2 => by simp [Value.ownBlock] at h2; omega)
    have hv7 : ∀ g, v7.ownBlock = some g → w6.heap.size ≤ g := fun g hg => by
      rcases hf7 g hg with h | h
      · simp [Value.ownBlock] at h; omega
      · have := uA.size; omega
    obtain ⟨a7, c7, rfl⟩ := own_slice hrow7
    obtain ⟨f7, g7, r7, s7⟩ := fct u67
    have uN : Upd (fun _ => False) w7 (w7.alloc (.cells (rnC (⟨k, l, D⟩, .slice xa l.length xc)).toArray 87 (0, 0))) := Upd.alloc
    have u68 := u67.trans uN (fun _ _ h => h)
    obtain ⟨f8, g8, r8, s8⟩ := fct u68
    simp (config := { maxSteps := 3000000 }) (disch := omega) only [push_cast, Nat.reduceBEq, Nat.reduceEqDiff, Nat.reduceAdd, Nat.reduceMul, Nat.reduceSub, Nat.reduceLT, Int.reduceToNat, Int.reduceLT, Int.reduceLE, Int.reduceEq, Int.reduceAdd, Int.reduceSub, Int.reduceNeg, Int.reduceMul, ↓nthK_zero, ↓nthK_succ, f6d, g6d, f6, fA, fAd, gAd, f7, g6, gA, g7, f8, g8, bsl_nt0, (hsl _).2, bslx]
    refine app_rec (s := 15) (by_ := 56) t61_e t87_s t87_b zer_nt rfl (by omega) (own_updB hrow7 uN (fun _ _ h => h)) rnC_len (Nat.zero_le _) Blk.new honx (by omega) (by omega) ?_
    intro v9 w9 hrow9 hu9 hf9
    have u69 : Upd (fun _ => False) w6 w9 := (u68).trans hu9 (fun b h1 h2 => by have := hv7 b h2; omega)
    have hv9 : ∀ g, v9.ownBlock = some g → w6.heap.size ≤ g ∧ g < w9.heap.size := fun g hg => by
      refine ⟨?_, (own_ge hrow9 hg).2⟩
      have := (u68).size
      rcases hf9 g hg with h | h
      · exact hv7 g h
      · omega
    obtain ⟨a9, c9, rfl⟩ := own_slice hrow9
    obtain ⟨f9, g9, r9, s9⟩ := fct u69
    simp (config := { maxSteps := 3000000 }) (disch := omega) only [push_cast, Nat.reduceBEq, Nat.reduceEqDiff, Nat.reduceAdd, Nat.reduceMul, Nat.reduceSub, Nat.reduceLT, Int.reduceToNat, Int.reduceLT, Int.reduceLE, Int.reduceEq, Int.reduceAdd, Int.reduceSub, Int.reduceNeg, Int.reduceMul, ↓nthK_zero, ↓nthK_succ, f6d, g6d, f6, fA, fAd, gAd, f7, f8, g6, gA, g7, g8, bsl_nt0, bslx, f9, g9, (hsl _).1, (hsl _).2]
    refine app_src (s := 15) (by_ := 56) t61_e t87_s t87_b zer_nt rfl (by omega) hrow9 (row_src (Try.underlying61) r9 (hone (w' := w6) fun z hz => List.mem_of_mem_drop hz)) (by omega) (by unfold maxLen; omega) ?_
    intro v10 w10 hrow10 hu10 hf10
    have u610 : Upd (fun _ => False) w6 w10 := u69.trans hu10 (fun b h1 h2 => by have := hv9 b h2; omega)
    have hv10 : ∀ g, v10.ownBlock = some g → w6.heap.size ≤ g := fun g hg => by
      have := u69.size
      rcases hf10 g hg with h | h
      · exact (hv9 g h).1
      · omega
    have hins : (zs.take i).flatMap rnC ++ rnC (⟨k, l, D⟩, .slice xa l.length xc) ++ (zs.drop i).flatMap rnC = (insZ (⟨k, l, D⟩, .slice xa l.length xc) zs).flatMap rnC := by
      unfold insZ
      simp only
      rw [hpos, List.flatMap_append, List.flatMap_cons, List.append_assoc]
    have hlen : i + 1 + (dn) = (insZ (⟨k, l, D⟩, .slice xa l.length xc) zs).length := by
      unfold insZ
      simp only
      rw [hpos, List.length_append, List.length_cons, List.length_take, List.length_drop]
      omega
    rw [hins, hlen] at hrow10
    obtain ⟨a10, c10, rfl⟩ := own_slice hrow10
    have h10 := h6.quiet u610
    have hfree := h10.obj.free 3
    have hc10 := h10.obj.cell 3
    simp only [List.cons_append, List.nil_append, List.getElem?_cons_succ, List.getElem?_cons_zero] at hc10
    obtain ⟨f10, g10, _, _⟩ := fct u610
    simp (config := { maxSteps := 3000000 }) (disch := omega) only [push_cast, Nat.reduceBEq, Nat.reduceEqDiff, Nat.reduceAdd, Nat.reduceMul, Nat.reduceSub, Nat.reduceLT, Int.reduceToNat, Int.reduceLT, Int.reduceLE, Int.reduceEq, Int.reduceAdd, Int.reduceSub, Int.reduceNeg, Int.reduceMul, ↓nthK_zero, ↓nthK_succ, f6d, g6d, f6, fA, fAd, gAd, f7, f8, g6, gA, g7, g8, bsl_nt0, bslx, f9, g9, (hsl _).1, (hsl _).2, hfree, hc10, f10, g10]
    exact hend _ w10 u610 hrow10 hv10
  · rw [WT_leaf]
    have uA : Upd (fun _ => False) w6 (w6.alloc (.cells #[] 87 (0, 0))) := Upd.alloc
    obtain ⟨fA, gA, rA, sA⟩ := fct uA
    obtain ⟨fAd, gAd, _, _⟩ := fct uA.drew'
    have uN : Upd (fun _ => False) (w6.alloc (.cells #[] 87 (0, 0))) ((w6.alloc (.cells #[] 87 (0, 0))).alloc (.cells (rnC (⟨k, l, D⟩, .slice xa l.length xc)).toArray 87 (0, 0))) := Upd.alloc
    have uB := uA.trans uN (fun _ _ h => h)
    obtain ⟨fB, gB, rB, sB⟩ := fct uB
    obtain ⟨fBd, gBd, _, _⟩ := fct uB.drew'
    simp (config := { maxSteps := 3000000 }) (disch := omega) only [push_cast, Nat.reduceBEq, Nat.reduceEqDiff, Nat.reduceAdd, Nat.reduceMul, Nat.reduceSub, Nat.reduceLT, Int.reduceToNat, Int.reduceLT, Int.reduceLE, Int.reduceEq, Int.reduceAdd, Int.reduceSub, Int.reduceNeg, Int.reduceMul, ↓nthK_zero, ↓nthK_succ, f6d, g6d, f6, fA, fB, fAd, gAd, fBd, gBd, g6, gA, gB, bsl_nt0, (hsl _).2, bslx]
    refine app_src (s := 15) (by_ := 56) t61_e t87_s t87_b zer_nt rfl (by omega) (own_updB (hE Upd.refl) uN (fun _ _ h => h)) sB (by omega) (by unfold maxLen; omega) ?_
    intro v7 w7 hrow7 hu7 hf7
    rw [List.nil_append, Nat.zero_add] at hrow7
    have sA' : (w6.alloc (.cells #[] 87 (0, 0))).heap.size = w6.heap.size + 1 := size_alloc
    have u67 : Upd (fun _ => False) w6 w7 := uB.trans hu7 (fun b h1 h2 => by simp [Value.ownBlock] at h2; omega)
    have hv7 : ∀ g, (v7 : Value).ownBlock = some g → w6.heap.size ≤ g := fun g hg => by
      rcases hf7 g hg with h | h
      · simp [Value.ownBlock] at h; omega
      · have := uB.size; omega
    have bn : Blk w7 (w6.alloc (.cells #[] 87 (0, 0))).heap.size (rnC (⟨k, l, D⟩, .slice xa l.length xc)) 87 := (Blk.new (w := w6.alloc (.cells #[] 87 (0, 0)))).upd hu7 (fun e => by simp [Value.ownBlock] at e <;> omega)
    rw [sA'] at bn
    obtain ⟨a7, c7, rfl⟩ := own_slice hrow7
    obtain ⟨f7, g7, r7, s7⟩ := fct u67
    simp (config := { maxSteps := 3000000 }) (disch := omega) only [push_cast, Nat.reduceBEq, Nat.reduceEqDiff, Nat.reduceAdd, Nat.reduceMul, Nat.reduceSub, Nat.reduceLT, Int.reduceToNat, Int.reduceLT, Int.reduceLE, Int.reduceEq, Int.reduceAdd, Int.reduceSub, Int.reduceNeg, Int.reduceMul, ↓nthK_zero, ↓nthK_succ, f6d, g6d, f6, fA, fB, fAd, gAd, fBd, gBd, f7, g6, gA, gB, g7, bsl_nt0, (hsl _).2, bslx]
    refine app_rec (s := 15) (by_ := 56) t61_e t87_s t87_b zer_nt rfl (by omega) hrow7 rnC_len (Nat.zero_le _) bn honx (by omega) (by omega) ?_
    intro v9 w9 hrow9 hu9 hf9
    have u69 : Upd (fun _ => False) w6 w9 := (u67).trans hu9 (fun b h1 h2 => by have := hv7 b h2; omega)
    have hv9 : ∀ g, v9.ownBlock = some g → w6.heap.size ≤ g ∧ g < w9.heap.size := fun g hg => by
      refine ⟨?_, (own_ge hrow9 hg).2⟩
      have := (u67).size
      rcases hf9 g hg with h | h
      · exact hv7 g h
      · omega
    obtain ⟨a9, c9, rfl⟩ := own_slice hrow9
    obtain ⟨f9, g9, r9, s9⟩ := fct u69
    simp (config := { maxSteps := 3000000 }) (disch := omega) only [push_cast, Nat.reduceBEq, Nat.reduceEqDiff, Nat.reduceAdd, Nat.reduceMul, Nat.reduceSub, Nat.reduceLT, Int.reduceToNat, Int.reduceLT, Int.reduceLE, Int.reduceEq, Int.reduceAdd, Int.reduceSub, Int.reduceNeg, Int.reduceMul, ↓nthK_zero, ↓nthK_succ, f6d, g6d, f6, fA, fB, fAd, gAd, fBd, gBd, f7, g6, gA, gB, g7, bsl_nt0, bslx, f9, g9, (hsl _).1, (hsl _).2]
    refine app_src (s := 15) (by_ := 56) t61_e t87_s t87_b zer_nt rfl (by omega) hrow9 (row_src (Try.underlying61) r9 (hone (w' := w6) fun z hz => List.mem_of_mem_drop hz)) (by omega) (by unfold maxLen; omega) ?_
    intro v10 w10 hrow10 hu10 hf10
    have u610 : Upd (fun _ => False) w6 w10 := u69.trans hu10 (fun b h1 h2 => by have := hv9 b h2; omega)
    have hv10 : ∀ g, v10.ownBlock = some g → w6.heap.size ≤ g := fun g hg => by
      have := u69.size
      rcases hf10 g hg with h | h
      · exact (hv9 g h).1
      · omega
    have hins : (zs.take i).flatMap rnC ++ rnC (⟨k, l, D⟩, .slice xa l.length xc) ++ (zs.drop i).flatMap rnC = (insZ (⟨k, l, D⟩, .slice xa l.length xc) zs).flatMap rnC := by
      unfold insZ
      simp only
      rw [hpos, List.flatMap_append, List.flatMap_cons, List.append_assoc]
    have hlen : i + 1 + (dn) = (insZ (⟨k, l, D⟩, .slice xa l.length xc) zs).length := by
      unfold insZ
      simp only
      rw [hpos, List.length_append, List.length_cons, List.length_take, List.length_drop]
      omega
    rw [hins, hlen] at hrow10
    obtain ⟨a10, c10, rfl⟩ := own_slice hrow10
    have h10 := h6.quiet u610
    have hfree := h10.obj.free 3
    have hc10 := h10.obj.cell 3
    simp only [List.cons_append, List.nil_append, List.getElem?_cons_succ, List.getElem?_cons_zero] at hc10
    obtain ⟨f10, g10, _, _⟩ := fct u610
    simp (config := { maxSteps := 3000000 }) (disch := omega) only [push_cast, Nat.reduceBEq, Nat.reduceEqDiff, Nat.reduceAdd, Nat.reduceMul, Nat.reduceSub, Nat.reduceLT, Int.reduceToNat, Int.reduceLT, Int.reduceLE, Int.reduceEq, Int.reduceAdd, Int.reduceSub, Int.reduceNeg, Int.reduceMul, ↓nthK_zero, ↓nthK_succ, f6d, g6d, f6, fA, fB, fAd, gAd, fBd, gBd, f7, g6, gA, gB, g7, bsl_nt0, bslx, f9, g9, (hsl _).1, (hsl _).2, hfree, hc10, f10, g10]
    exact hend _ w10 u610 hrow10 hv10
  · rw [WT_leaf]
    have uA : Upd (fun _ => False) w6 (w6.alloc (.cells (rnC (⟨k, l, D⟩, .slice xa l.length xc)).toArray 87 (0, 0))) := Upd.alloc
    obtain ⟨fA, gA, rA, sA⟩ := fct uA
    obtain ⟨fAd, gAd, _, _⟩ := fct uA.drew'
    have uN : Upd (fun _ => False) (w6.alloc (.cells (rnC (⟨k, l, D⟩, .slice xa l.length xc)).toArray 87 (0, 0))) ((w6.alloc (.cells (rnC (⟨k, l, D⟩, .slice xa l.length xc)).toArray 87 (0, 0))).alloc (.cells #[] 87 (0, 0))) := Upd.alloc
    have uB := uA.trans uN (fun _ _ h => h)
    obtain ⟨fB, gB, rB, sB⟩ := fct uB
    obtain ⟨fBd, gBd, _, _⟩ := fct uB.drew'
    have sA' : (w6.alloc (.cells (rnC (⟨k, l, D⟩, .slice xa l.length xc)).toArray 87 (0, 0))).heap.size = w6.heap.size + 1 := size_alloc
    have hEC := hE uA
    rw [sA'] at hEC
    simp (config := { maxSteps := 3000000 }) (disch := omega) only [push_cast, Nat.reduceBEq, Nat.reduceEqDiff, Nat.reduceAdd, Nat.reduceMul, Nat.reduceSub, Nat.reduceLT, Int.reduceToNat, Int.reduceLT, Int.reduceLE, Int.reduceEq, Int.reduceAdd, Int.reduceSub, Int.reduceNeg, Int.reduceMul, ↓nthK_zero, ↓nthK_succ, f6d, g6d, f6, fA, fB, fAd, gAd, fBd, gBd, g6, gA, gB, bsl_nt0, (hsl _).2, bslx]
    refine app_src (s := 15) (by_ := 56) t61_e t87_s t87_b zer_nt rfl (by omega) hEC sB (by omega) (by unfold maxLen; omega) ?_
    intro v7 w7 hrow7 hu7 hf7
    rw [List.nil_append, Nat.zero_add] at hrow7
    have u67 : Upd (fun _ => False) w6 w7 := uB.trans hu7 (fun b h1 h2 => by simp [Value.ownBlock] at h2; omega)
    have hv7 : ∀ g, (v7 : Value).ownBlock = some g → w6.heap.size ≤ g := fun g hg => by
      rcases hf7 g hg with h | h
      · simp [Value.ownBlock] at h; omega
      · have := uB.size; omega
    have bn : Blk w7 w6.heap.size (rnC (⟨k, l, D⟩, .slice xa l.length xc)) 87 := ((Blk.new (w := w6)).upd uN (fun h => h)).upd hu7 (fun e => by simp [Value.ownBlock] at e <;> omega)
    obtain ⟨a7, c7, rfl⟩ := own_slice hrow7
    obtain ⟨f7, g7, r7, s7⟩ := fct u67
    simp (config := { maxSteps := 3000000 }) (disch := omega) only [push_cast, Nat.reduceBEq, Nat.reduceEqDiff, Nat.reduceAdd, Nat.reduceMul, Nat.reduceSub, Nat.reduceLT, Int.reduceToNat, Int.reduceLT, Int.reduceLE, Int.reduceEq, Int.reduceAdd, Int.reduceSub, Int.reduceNeg, Int.reduceMul, ↓nthK_zero, ↓nthK_succ, f6d, g6d, f6, fA, fB, fAd, gAd, fBd, gBd, f7, g6, gA, gB, g7, bsl_nt0, (hsl _).2, bslx]
    refine app_rec (s := 15) (by_ := 56) t61_e t87_s t87_b zer_nt rfl (by omega) hrow7 rnC_len (Nat.zero_le _) bn honx (by omega) (by omega) ?_
    intro v9 w9 hrow9 hu9 hf9
    have u69 : Upd (fun _ => False) w6 w9 := (u67).trans hu9 (fun b h1 h2 => by have := hv7 b h2; omega)
    have hv9 : ∀ g, v9.ownBlock = some g → w6.heap.size ≤ g ∧ g < w9.heap.size := fun g hg => by
      refine ⟨?_, (own_ge hrow9 hg).2⟩
      have := (u67).size
      rcases hf9 g hg with h | h
      · exact hv7 g h
      · omega
    obtain ⟨a9, c9, rfl⟩ := own_slice hrow9
    obtain ⟨f9, g9, r9, s9⟩ := fct u69
    simp (config := { maxSteps := 3000000 }) (disch := omega) only [push_cast, Nat.reduceBEq, Nat.reduceEqDiff, Nat.reduceAdd, Nat.reduceMul, Nat.reduceSub, Nat.reduceLT, Int.reduceToNat, Int.reduceLT, Int.reduceLE, Int.reduceEq, Int.reduceAdd, Int.reduceSub, Int.reduceNeg, Int.reduceMul, ↓nthK_zero, ↓nthK_succ, f6d, g6d, f6, fA, fB, fAd, gAd, fBd, gBd, f7, g6, gA, gB, g7, bsl_nt0, bslx, f9, g9, (hsl _).1, (hsl _).2]
    refine app_src (s := 15) (by_ := 56) t61_e t87_s t87_b zer_nt rfl (by omega) hrow9 (row_src (Try.underlying61) r9 (hone (w' := w6) fun z hz => List.mem_of_mem_drop hz)) (by omega) (by unfold maxLen; omega) ?_
    intro v10 w10 hrow10 hu10 hf10
    have u610 : Upd (fun _ => False) w6 w10 := u69.trans hu10 (fun b h1 h2 => by have := hv9 b h2; omega)
    have hv10 : ∀ g, v10.ownBlock = some g → w6.heap.size ≤ g := fun g hg => by
      have := u69.size
      rcases hf10 g hg with h | h
      · exact (hv9 g h).1
      · omega
    have hins : (zs.take i).flatMap rnC ++ rnC (⟨k, l, D⟩, .slice xa l.length xc) ++ (zs.drop i).flatMap rnC = (insZ (⟨k, l, D⟩, .slice xa l.length xc) zs).flatMap rnC := by
      unfold insZ
      simp only
      rw [hpos, List.flatMap_append, List.flatMap_cons, List.append_assoc]
    have hlen : i + 1 + (dn) = (insZ (⟨k, l, D⟩, .slice xa l.length xc) zs).length := by
      unfold insZ
      simp only
      rw [hpos, List.length_append, List.length_cons, List.length_take, List.length_drop]
      omega
    rw [hins, hlen] at hrow10
    obtain ⟨a10, c10, rfl⟩ := own_slice hrow10
    have h10 := h6.quiet u610
    have hfree := h10.obj.free 3
    have hc10 := h10.obj.cell 3
    simp only [List.cons_append, List.nil_append, List.getElem?_cons_succ, List.getElem?_cons_zero] at hc10
    obtain ⟨f10, g10, _, _⟩ := fct u610
    simp (config := { maxSteps := 3000000 }) (disch := omega) only [push_cast, Nat.reduceBEq, Nat.reduceEqDiff, Nat.reduceAdd, Nat.reduceMul, Nat.reduceSub, Nat.reduceLT, Int.reduceToNat, Int.reduceLT, Int.reduceLE, Int.reduceEq, Int.reduceAdd, Int.reduceSub, Int.reduceNeg, Int.reduceMul, ↓nthK_zero, ↓nthK_succ, f6d, g6d, f6, fA, fB, fAd, gAd, fBd, gBd, f7, g6, gA, gB, g7, bsl_nt0, bslx, f9, g9, (hsl _).1, (hsl _).2, hfree, hc10, f10, g10]
    exact hend _ w10 u610 hrow10 hv10
  intro nv' w10 u610 hrow10 hv10
  subst hKs
  rw [KS_nor]
  simp (disch := omega) only [push_cast, Nat.reduceBEq, Nat.reduceEqDiff, Nat.reduceAdd, Nat.reduceMul, Nat.reduceSub, Nat.reduceLT, Int.reduceToNat, Int.reduceLT, Int.reduceLE, Int.reduceEq, Int.reduceAdd, Int.reduceSub, Int.reduceNeg, Int.reduceMul]
  have h10 := h6.quiet u610
  have hob : Blk w10 q (obC R (.slice na zs.length nc) ov) 64 := h10.obj
  have u11 : Upd (fun b => b = q) w10 (w10.setCell ⟨q, 3, none⟩ nv') := Upd.set rfl
  have hob11 := hob.set 3 nv'
  have e3 : (obC R (.slice na zs.length nc) ov).set 3 nv' = obC R nv' ov := rfl
  rw [e3] at hob11
  have kp11 := kp_new u11 hob (by decide) h10.bq
  have s06 : w.heap.size ≤ w6.heap.size := by omega
  have hnq : ∀ g, nv'.ownBlock = some g → g ≠ q := fun g hg e => by have := hv10 g hg; omega
  have hoq : ∀ g, ov.ownBlock = some g → g ≠ q := fun g hg e => by
    obtain ⟨cs, hb⟩ := own_ty h10.own hg
    rw [e] at hb
    exact absurd (hb.ty hob) (by decide)
  have hmem : ∀ z, z ∈ insZ (⟨k, l, D⟩, .slice xa l.length xc) zs → z ∈ zs ∨ z = (⟨k, l, D⟩, .slice xa l.length xc) := fun z hz => by
    unfold insZ at hz
    rcases List.mem_append.1 hz with hz | hz
    · exact .inl (List.mem_of_mem_take hz)
    · rcases List.mem_cons.1 hz with hz | hz
      · exact .inr hz
      · exact .inl (List.mem_of_mem_drop hz)
  refine ⟨nv', ⟨hob11, h10.bq, own_ofB (own_updB hrow10 u11 hnq) (fun g hg => by have := hv10 g hg; have := h10.bq; omega), rfl, fun z hz => ?_, own_updB h10.own u11 hoq, h10.lst.keep kp11, h10.n12⟩, ?_, fun g hg => by have := hv10 g hg; omega⟩
  · rcases hmem z hz with hz | rfl
    · exact (h10.pb z hz).keep kp11
    · exact (hx6.keep (Kp.quiet u610)).keep kp11
  · exact ((((u0.trans hu2 (fun _ _ h => h)).trans ud3 (fun _ _ h => h)).trans u36 (fun _ _ h => h)).trans u610 (fun _ _ h => h)).mono (fun _ _ h => h.elim) |>.trans u11 (fun _ _ h => h)
end Go.Proofs.Ytpgfokhpacdhjaa.Fd
