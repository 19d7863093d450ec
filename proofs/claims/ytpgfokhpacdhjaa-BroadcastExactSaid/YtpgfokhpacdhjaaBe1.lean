/-
  The reference's process: notes, count, place.
-/
import Derived.Test.YtpgfokhpacdhjaaBc7
import Derived.Test.YtpgfokhpacdhjaaBc8
import Derived.Test.YtpgfokhpacdhjaaBc9
namespace Go.Proofs.Ytpgfokhpacdhjaa.Fd
set_option linter.unusedSimpArgs false
set_option linter.unusedVariables false
open Go Go.ChangeMaps
set_option maxRecDepth 100000

def sumN (f : Nat → Nat) : Nat → Nat
  | 0 => 0
  | n + 1 => sumN f n + f n
theorem sumN_le {f : Nat → Nat} {E : Nat} : ∀ {n : Nat}, (∀ i, i < n → f i ≤ E) → sumN f n ≤ n * E
  | 0, _ => by simp [sumN]
  | n + 1, h => by
    have h1 := sumN_le (n := n) fun i hi => h i (by omega)
    have h2 := h n (by omega)
    rw [sumN, Nat.succ_mul]
    omega
theorem pop8_mod (n : Nat) : pop8 (n % 256) = ((List.range 8).filter fun i => n.testBit i).length := by
  unfold pop8
  congr 1
  refine List.filter_congr fun i hi => ?_
  have hi := List.mem_range.1 hi
  rw [show (256 : Nat) = 2 ^ 8 from rfl, Nat.testBit_mod_two_pow]
  simp [hi]
theorem pop8_div (n : Nat) : pop8 (n / 256) = ((List.range 8).filter fun i => n.testBit (i + 8)).length := by
  unfold pop8
  congr 1
  refine List.filter_congr fun i hi => ?_
  rw [show (256 : Nat) = 2 ^ 8 from rfl, Nat.testBit_div_two_pow]
/-- The members of a word: at most as many as its ones, in any list without repetition. -/
theorem ones_two {D : BitVec 16} : ones D = ((List.range 16).filter fun i => D.getLsbD i).length := by
  unfold ones
  rw [pop8_mod, pop8_div]
  have e : List.range 16 = List.range 8 ++ (List.range 8).map (· + 8) := rfl
  rw [e, List.filter_append, List.length_append, List.filter_map, List.length_map, Nat.add_comm]
  rfl
theorem sumN_filter {p : Nat → Bool} : ∀ {n : Nat}, sumN (fun i => if p i then 1 else 0) n = ((List.range n).filter p).length
  | 0 => rfl
  | n + 1 => by
    rw [sumN, sumN_filter, List.range_succ, List.filter_append, List.length_append]
    cases h : p n <;> simp [h]
theorem sumN_zero {f : Nat → Nat} {n : Nat} : ∀ {m : Nat}, n ≤ m → (∀ i, n ≤ i → i < m → f i = 0) → sumN f m = sumN f n
  | 0, h, _ => by rw [show n = 0 from by omega]
  | m + 1, h, hz => by
    by_cases e : n = m + 1
    · rw [e]
    · rw [sumN, sumN_zero (n := n) (m := m) (by omega) (fun i h1 h2 => hz i h1 (by omega)), hz m (by omega) (by omega)]
      rfl
theorem ones_sum {D : BitVec 16} : ones D = sumN (fun i => if D.getLsbD i then 1 else 0) 16 := by rw [ones_two, sumN_filter]
def Knd (w : World) (b E : Nat) : Prop := ∃ cs, Blk w b cs E
theorem Knd.ne {w : World} {b E E' : Nat} (h : Knd w b E) (h' : Knd w b E') (hE : E ≠ E') : False := by
  obtain ⟨cs, h⟩ := h
  obtain ⟨cs', h'⟩ := h'
  exact hE (h.ty h')
theorem PA.kind {base : Nat} {w : World} {p : Nat} {S : PS} {mb db : Nat} {lv : Value} {m ds : List (NP × Value)} (h : PA base w p S mb db lv m ds) {b E : Nat} (hf : Ft p mb db lv b) (hk : Knd w b E) : E = 79 ∨ E = 3 ∨ E = 69 := by
  obtain ⟨cs, hk⟩ := hk
  rcases hf with rfl | rfl | rfl | hf
  · exact .inl (hk.ty h.obj)
  · have h8 := h.map; unfold Blk at hk; unfold MapP at h8; rw [hk] at h8; cases h8
  · exact .inr (.inl (hk.ty h.del))
  · obtain ⟨cs', hb⟩ := own_ty h.own hf
    exact .inr (.inr (hk.ty hb))
theorem kp_kind {base : Nat} {F : Nat → Prop} {w w' : World} (u : Upd F w w') (h : ∀ b, F b → base ≤ b ∧ ∃ E, Knd w b E ∧ E ≠ 5) : Kp base w w' :=
  Kp.of_upd u fun b hb hs => by
    obtain ⟨h1, E, ⟨cs, hk⟩, hE⟩ := h b hb
    rcases hs.2 with h2 | ⟨cs', fz, h2⟩
    · omega
    · unfold Blk at hk
      rw [hk] at h2
      simp only [Option.some.injEq, Obj.cells.injEq] at h2
      exact hE h2.2.1
def knV (D : BitVec 16) : List Value := (List.range 12).map fun i => .bool (D.getLsbD i)
theorem knV_get {D : BitVec 16} {i : Nat} (h : i < 12) : (knV D)[i]? = some (.bool (D.getLsbD i)) := by simp [knV, h]
structure Rn where
  k : NP
  l : List Int
  D : BitVec 16
def rnC (x : Rn × Value) : List Value := [.int .i64 x.1.k.1, .int .i64 x.1.k.2, x.2] ++ knV x.1.D
def rnV (x : Rn × Value) : Value := .agg (rnC x).toArray
theorem rnC_bit {x : Rn × Value} {i : Nat} (h : i < 12) : (rnC x)[3 + i]? = some (.bool (x.1.D.getLsbD i)) := by
  unfold rnC
  rw [List.getElem?_append_right (by simp)]
  rw [show 3 + i - [Value.int .i64 x.1.k.1, .int .i64 x.1.k.2, x.2].length = i from by simp]
  exact knV_get h
def dnV (f : Nat → Int) : List Value := (List.range 12).map fun i => .int .i64 (f i)
theorem dnV_get {f : Nat → Int} {i : Nat} (h : i < 12) : (dnV f)[i]? = some (.int .i64 (f i)) := by simp [dnV, h]
/-- A process of the reference in the heap (its state: PS, the notes in the order of the row). -/
structure RA (base : Nat) (w : World) (q : Nat) (R : PS) (nv ov : Value) (zs : List (Rn × Value)) (ds : List (NP × Value)) : Prop where
  obj : Blk w q ([.int .i64 R.n, .int .i64 R.self, .int .i64 R.made, nv] ++ dnV R.done ++ [ov]) 64
  bq : base ≤ q
  nts : w.ownsRow base 87 15 nv zs.length (zs.flatMap rnC)
  nz : R.notes = zs.map fun z => (z.1.k, (z.1.l, z.1.D))
  pb : ∀ z, z ∈ zs → PB base w z.2 z.1.l
  own : w.ownsRow base 69 3 ov ds.length (ds.flatMap dlC)
  lst : LsR base w ds R.list
  n12 : R.n ≤ 12
def cntD (D : BitVec 16) (n : Nat) : Nat := sumN (fun i => if D.getLsbD i then 1 else 0) n
set_option maxHeartbeats 2000000 in
theorem count_ok {w : World} {q : Nat} {n : Nat} {cs : List Value} (hq : Blk w q (.int .i64 n :: cs) 64) (hn : n ≤ 12) (k : NP) (a : Option Addr) (m c : Nat) (l : List Int) (D : BitVec 16) :
    Ok (den Try.prog 43 #[.pointer (some ⟨q, 0, none⟩), rnV (⟨k, l, D⟩, .slice a m c)] w) fun v w' => v = .int .i64 (cntD D n : Nat) ∧ Upd (fun _ => False) w w' := by
  refine den_ok (args := [.pointer (some ⟨q, 0, none⟩), rnV (⟨k, l, D⟩, .slice a m c)]) rs43 Try.func43 rfl mixed in43 ok43 rfl ?_
  have b1 := Blk.new (w := w) (cs := rnC (⟨k, l, D⟩, .slice a m c)) (E := 87)
  have u1 : Upd (fun _ => False) w (w.alloc (.cells (rnC (⟨k, l, D⟩, .slice a m c)).toArray 87 (0, 0))) := Upd.alloc
  rw [W_seq]
  generalize hKs : KS _ _ _ _ _ = Ks
  simp (disch := omega) only [push_cast, Nat.reduceBEq, Nat.reduceEqDiff, Nat.reduceAdd, Nat.reduceMul, Nat.reduceSub, Nat.reduceLT, Int.reduceToNat, Int.reduceLT, Int.reduceLE, Int.reduceEq, Int.reduceAdd, Int.reduceSub, Int.reduceNeg, Int.reduceMul, rnV]
  generalize w.alloc (.cells (rnC (⟨k, l, D⟩, .slice a m c)).toArray 87 (0, 0)) = w1 at *
  have hq1 := hq.upd u1 (fun h => h)
  subst hKs
  rw [KS_nor]
  rw [W_seq]
  generalize hKs : KS _ _ _ _ _ = Ks
  simp (disch := omega) only [push_cast, Nat.reduceBEq, Nat.reduceEqDiff, Nat.reduceAdd, Nat.reduceMul, Nat.reduceSub, Nat.reduceLT, Int.reduceToNat, Int.reduceLT, Int.reduceLE, Int.reduceEq, Int.reduceAdd, Int.reduceSub, Int.reduceNeg, Int.reduceMul]
  subst hKs
  rw [KS_nor]
  simp (disch := omega) only [push_cast, Nat.reduceBEq, Nat.reduceEqDiff, Nat.reduceAdd, Nat.reduceMul, Nat.reduceSub, Nat.reduceLT, Int.reduceToNat, Int.reduceLT, Int.reduceLE, Int.reduceEq, Int.reduceAdd, Int.reduceSub, Int.reduceNeg, Int.reduceMul]
  refine loop_inv (I := fun k st w' => Bx (∃ i : Nat, k + i = n ∧ st = [.int .i64 (cntD D i : Nat), .int .i64 (i : Int)] ∧ w' = w1) ⟨⟩) ?_ n ⟨0, rfl, rfl, rfl⟩
  rintro k2 st w2 ⟨i, hk, rfl, rfl⟩
  by_cases hk0 : k2 = 0
  · obtain rfl : i = n := by omega
    simp (disch := omega) only [push_cast, Nat.reduceBEq, Nat.reduceEqDiff, Nat.reduceAdd, Nat.reduceMul, Nat.reduceSub, Nat.reduceLT, Int.reduceToNat, Int.reduceLT, Int.reduceLE, Int.reduceEq, Int.reduceAdd, Int.reduceSub, Int.reduceNeg, Int.reduceMul, hq1.cell]
    exact u1
  have hi : i < n := by omega
  have hci := b1.cell (3 + i)
  rw [rnC_bit (by omega)] at hci
  simp only at hci
  have hle : cntD D i ≤ i * 1 := sumN_le fun j hj => by split <;> omega
  cases hb : D.getLsbD i
  · rw [hb] at hci
    simp (disch := omega) only [push_cast, Nat.reduceBEq, Nat.reduceEqDiff, Nat.reduceAdd, Nat.reduceMul, Nat.reduceSub, Nat.reduceLT, Int.reduceToNat, Int.reduceLT, Int.reduceLE, Int.reduceEq, Int.reduceAdd, Int.reduceSub, Int.reduceNeg, Int.reduceMul, hq1.cell, hci]
    exact ⟨k2 - 1, by omega, i + 1, by omega, by unfold cntD; rw [sumN, hb]; simp, rfl⟩
  · rw [hb] at hci
    simp (disch := omega) only [push_cast, Nat.reduceBEq, Nat.reduceEqDiff, Nat.reduceAdd, Nat.reduceMul, Nat.reduceSub, Nat.reduceLT, Int.reduceToNat, Int.reduceLT, Int.reduceLE, Int.reduceEq, Int.reduceAdd, Int.reduceSub, Int.reduceNeg, Int.reduceMul, hq1.cell, hci]
    exact ⟨k2 - 1, by omega, i + 1, by omega, by unfold cntD; rw [sumN, hb]; simp, rfl⟩
def idxN (k : NP) : List (NP × (List Int × BitVec 16)) → Option Nat
  | [] => none
  | (k', _) :: r => if k = k' then some 0 else (idxN k r).map (· + 1)
theorem idxN_at {k : NP} : ∀ {l : List (NP × (List Int × BitVec 16))} {i : Nat} {x : List Int × BitVec 16}, (∀ j y, j < i → l[j]? = some y → y.1 ≠ k) → l[i]? = some (k, x) → idxN k l = some i
  | [], i, x, _, h => by simp at h
  | (k', y) :: r, 0, x, _, h => by
    simp at h
    obtain ⟨rfl, rfl⟩ := h
    simp [idxN]
  | (k', y) :: r, i + 1, x, hn, h => by
    have h0 := hn 0 (k', y) (by omega) rfl
    simp only at h0
    rw [idxN, if_neg (Ne.symm h0), idxN_at (l := r) (i := i) (x := x) (fun j z hj hz => hn (j + 1) z (by omega) (by simpa using hz)) (by simpa using h)]
    rfl
theorem idxN_none {k : NP} : ∀ {l : List (NP × (List Int × BitVec 16))}, (∀ y, y ∈ l → y.1 ≠ k) → idxN k l = none
  | [], _ => rfl
  | (k', y) :: r, h => by
    rw [idxN, if_neg (Ne.symm (h _ List.mem_cons_self)), idxN_none (l := r) fun z hz => h z (List.mem_cons_of_mem _ hz)]
    rfl
theorem idxN_find {k : NP} : ∀ {l : List (NP × (List Int × BitVec 16))}, findS k l = (idxN k l).bind fun i => (l[i]?).map (·.2)
  | [] => rfl
  | (k', y) :: r => by
    unfold findS idxN
    by_cases e : k = k'
    · simp [e]
    · rw [if_neg e, if_neg e, idxN_find (l := r)]
      cases idxN k r <;> simp
theorem RA.note {base : Nat} {w : World} {q : Nat} {R : PS} {nv ov : Value} {zs : List (Rn × Value)} {ds : List (NP × Value)} (h : RA base w q R nv ov zs ds) {i : Nat} {z : Rn × Value} (hz : zs[i]? = some z) :
    ∃ g cap, nv = .slice (some ⟨g, 0, none⟩) zs.length cap ∧ nv.ownBlock = some g ∧ ∀ r, r < 15 → w.cell? ⟨g, i * 15 + r, none⟩ = (rnC z)[r]? :=
  own_cell (s := 15) (f := rnC) (fun x => by simp [rnC, knV]) (own_to0 h.nts) hz
def idxI (o : Option Nat) : Int := match o with
  | some i => i
  | none => -1
set_option maxHeartbeats 2000000 in
theorem place_ok {base : Nat} {w : World} {q : Nat} {R : PS} {nv ov : Value} {zs : List (Rn × Value)} {ds : List (NP × Value)} (h : RA base w q R nv ov zs ds) (k : NP) (hl : zs.length < 1000000) :
    Ok (den Try.prog 40 #[.pointer (some ⟨q, 0, none⟩), .int .i64 k.1, .int .i64 k.2] w) fun v w' => v = .int .i64 (idxI (idxN k R.notes)) ∧ w' = w := by
  obtain ⟨na, nc, rfl⟩ := own_slice h.nts
  have hob := h.obj
  have hob3 := hob.cell 3
  simp only [List.cons_append, List.nil_append, List.getElem?_cons_succ, List.getElem?_cons_zero] at hob3
  refine den_ok (args := [.pointer (some ⟨q, 0, none⟩), .int .i64 k.1, .int .i64 k.2]) rs40 Try.func40 rfl mixed in40 ok40 rfl ?_
  simp (disch := omega) only [push_cast, Nat.reduceBEq, Nat.reduceEqDiff, Nat.reduceAdd, Nat.reduceMul, Nat.reduceSub, Nat.reduceLT, Int.reduceToNat, Int.reduceLT, Int.reduceLE, Int.reduceEq, Int.reduceAdd, Int.reduceSub, Int.reduceNeg, Int.reduceMul]
  refine loop_inv (I := fun c st w' => Bx (∃ i : Nat, c + i = zs.length ∧ st = [.int .i64 (i : Int)] ∧ w' = w ∧ ∀ j y, j < i → R.notes[j]? = some y → y.1 ≠ k) ⟨⟩) ?_ zs.length ⟨0, rfl, rfl, rfl, fun j y hj => by omega⟩
  rintro c st w2 ⟨i, hc, rfl, rfl, hno⟩
  have hnl : R.notes.length = zs.length := by rw [h.nz, List.length_map]
  by_cases hc0 : c = 0
  · obtain rfl : i = zs.length := by omega
    simp (disch := omega) only [push_cast, Nat.reduceBEq, Nat.reduceEqDiff, Nat.reduceAdd, Nat.reduceMul, Nat.reduceSub, Nat.reduceLT, Int.reduceToNat, Int.reduceLT, Int.reduceLE, Int.reduceEq, Int.reduceAdd, Int.reduceSub, Int.reduceNeg, Int.reduceMul, hob3]
    rw [idxN_none fun y hy => by
      obtain ⟨j, hj⟩ := List.getElem?_of_mem hy
      exact hno j y (by have := (List.getElem?_eq_some_iff.1 hj).1; omega) hj]
    rfl
  have hi : i < zs.length := by omega
  have hzi : zs[i]? = some zs[i] := List.getElem?_eq_getElem hi
  have hni : R.notes[i]? = some (zs[i].1.k, (zs[i].1.l, zs[i].1.D)) := by rw [h.nz, List.getElem?_map, hzi]; rfl
  obtain ⟨g, cap, hv, _, hcell⟩ := h.note hzi
  injection hv with e1 _ e3
  subst e1
  subst e3
  have q0 := hcell 0 (by omega)
  have q1 := hcell 1 (by omega)
  simp only [rnC, List.cons_append, List.getElem?_cons_succ, List.getElem?_cons_zero, Nat.add_zero] at q0 q1
  generalize zs[i] = z at *
  have go : z.1.k ≠ k → ∃ k', k' < c ∧ ∃ i2 : Nat, k' + i2 = zs.length ∧ [Value.int .i64 ((i : Int) + 1)] = [.int .i64 (i2 : Int)] ∧ w2 = w2 ∧ ∀ j y, j < i2 → R.notes[j]? = some y → y.1 ≠ k := fun hne => ⟨c - 1, by omega, i + 1, by omega, by simp, rfl, fun j y hj hy => by
    by_cases e : j = i
    · subst e
      rw [hni] at hy
      injection hy with hy
      subst hy
      exact hne
    · exact hno j y (by omega) hy⟩
  by_cases h1 : z.1.k.1 = k.1
  · by_cases h2 : z.1.k.2 = k.2
    · simp (disch := omega) only [push_cast, Nat.reduceBEq, Nat.reduceEqDiff, Nat.reduceAdd, Nat.reduceMul, Nat.reduceSub, Nat.reduceLT, Int.reduceToNat, Int.reduceLT, Int.reduceLE, Int.reduceEq, Int.reduceAdd, Int.reduceSub, Int.reduceNeg, Int.reduceMul, hob3, q0, q1, h1, h2]
      have hk : z.1.k = k := Prod.ext h1 h2
      rw [hk] at hni
      rw [idxN_at hno hni]
      rfl
    · simp (disch := omega) only [push_cast, Nat.reduceBEq, Nat.reduceEqDiff, Nat.reduceAdd, Nat.reduceMul, Nat.reduceSub, Nat.reduceLT, Int.reduceToNat, Int.reduceLT, Int.reduceLE, Int.reduceEq, Int.reduceAdd, Int.reduceSub, Int.reduceNeg, Int.reduceMul, hob3, q0, q1, h1, h2]
      exact go fun e => h2 (by rw [e])
  · simp (disch := omega) only [push_cast, Nat.reduceBEq, Nat.reduceEqDiff, Nat.reduceAdd, Nat.reduceMul, Nat.reduceSub, Nat.reduceLT, Int.reduceToNat, Int.reduceLT, Int.reduceLE, Int.reduceEq, Int.reduceAdd, Int.reduceSub, Int.reduceNeg, Int.reduceMul, hob3, q0, h1]
    exact go fun e => h1 (by rw [e])
end Go.Proofs.Ytpgfokhpacdhjaa.Fd
