/-
  remove.
-/
import Derived.Test.YtpgfokhpacdhjaaBcA
namespace Go.Proofs.Ytpgfokhpacdhjaa.Fd
set_option linter.unusedSimpArgs false
set_option linter.unusedVariables false
open Go Go.ChangeMaps
set_option maxRecDepth 100000

theorem flat_take {α β : Type} {f : α → List β} {s : Nat} (hf : ∀ x, (f x).length = s) : ∀ {l : List α} {i : Nat}, (l.flatMap f).take (i * s) = (l.take i).flatMap f
  | [], i => by simp
  | x :: l, 0 => by simp
  | x :: l, i + 1 => by
    rw [List.flatMap_cons, List.take_append, List.take_of_length_le (by rw [hf, Nat.succ_mul]; omega), hf, show (i + 1) * s - s = i * s from by rw [Nat.succ_mul]; omega, flat_take hf, List.take_succ_cons, List.flatMap_cons]
theorem flat_drop {α β : Type} {f : α → List β} {s : Nat} (hf : ∀ x, (f x).length = s) : ∀ {l : List α} {i : Nat}, (l.flatMap f).drop (i * s) = (l.drop i).flatMap f
  | [], i => by simp
  | x :: l, 0 => by simp
  | x :: l, i + 1 => by
    rw [List.flatMap_cons, List.drop_append, List.drop_of_length_le (by rw [hf, Nat.succ_mul]; omega), hf, show (i + 1) * s - s = i * s from by rw [Nat.succ_mul]; omega, flat_drop hf, List.drop_succ_cons, List.nil_append]
theorem bsl_pk0 (w : World) : bslS Try.prog 35 0 #[] w = some (.slice (some ⟨w.heap.size, 0, none⟩) 0 0, w.alloc (.cells #[] 46 (0, 0))) := by kernel_rfl
theorem src_part {P : Program} {w : World} {t e E : TypeId} (hk : P.underlying t = some (.slice e)) {B s n g cap : Nat} {xs : List Value} (h : w.ownsRow B E s (.slice (some ⟨g, 0, none⟩) n cap) n xs) (h1 : ∀ u ∈ xs, u.oneCell' = true) (o q c : Nat) (hq : o + q ≤ n) :
    Src P s t (.slice (some ⟨g, o * s, none⟩) q c) q ((xs.drop (o * s)).take (q * s)) w := by
  have hlx := h.1
  have hmul : o * s + q * s ≤ n * s := by rw [← Nat.add_mul]; exact Nat.mul_le_mul_right s hq
  refine Src.ofSlice w hk ⟨g, o * s, none⟩ q c _ (by rw [List.length_take, List.length_drop, hlx]; omega) (fun j u hj => ?_) (fun u hu => h1 u (List.mem_of_mem_drop (List.mem_of_mem_take hu)))
  have hjl : j < q * s := by
    have := (List.getElem?_eq_some_iff.1 hj).1
    rw [List.length_take] at this
    omega
  rw [List.getElem?_take_of_lt hjl, List.getElem?_drop] at hj
  have hc := h.cellAt (o * s + j) (by omega)
  rw [hj] at hc
  rw [← hc]
  congr 1
  unfold Addr.add
  split
  · rename_i h0; rw [h0]; rfl
  · rfl
theorem pk_one {base : Nat} {w : World} {zs : List (Pk × Value)} (h : ∀ z, z ∈ zs → PB base w z.2 z.1.l) : ∀ u ∈ zs.flatMap pkC, u.oneCell' = true := by
  intro u hu
  obtain ⟨z, hz, hu⟩ := List.mem_flatMap.1 hu
  simp [pkC] at hu
  rcases hu with rfl | rfl | rfl | rfl | rfl | rfl
  · rfl
  · rfl
  · rfl
  · rfl
  · rfl
  · exact (h z hz).one
set_option maxHeartbeats 2000000 in
theorem remove_ok {base : Nat} {w : World} {a : Nat} {allV sentV downV uv : Value} {under : List Pk} (ho : Blk w a [allV, sentV, downV, uv] tW) (hu : OwnK base base w uv under) (ba : base ≤ a) {i : Nat} {z : Pk} (hz : under[i]? = some z) (hsz : under.length < 1000000) :
    Ok (den Try.prog 29 #[.pointer (some ⟨a, 0, none⟩), .int .i64 (i : Int)] w) fun v w' => ∃ pv uv', v = pkV (z, pv) ∧ PB base w' pv z.l ∧ Blk w' a [allV, sentV, downV, uv'] tW ∧ OwnK base base w' uv' (under.eraseIdx i) ∧ Upd (fun b => b = a) w w' ∧
      (∀ g, uv'.ownBlock = some g → w.heap.size ≤ g) := by
  refine den_okC1 (args := [.pointer (some ⟨a, 0, none⟩), .int .i64 (i : Int)]) 4 46 Try.func29 rfl mixed in29 ok29 rfl ?_
  have hil : i < under.length := (List.getElem?_eq_some_iff.1 hz).1
  obtain ⟨g, cap, pv, rfl, hgo, hpv, hcell⟩ := hu.get hz
  obtain ⟨qa, qc, rfl⟩ := hpv.form
  have q0 := hcell 0 (by omega)
  have q1 := hcell 1 (by omega)
  have q2 := hcell 2 (by omega)
  have q3 := hcell 3 (by omega)
  have q4 := hcell 4 (by omega)
  have q5 := hcell 5 (by omega)
  simp only [pkC, List.getElem?_cons_succ, List.getElem?_cons_zero, Nat.add_zero] at q0 q1 q2 q3 q4 q5
  obtain ⟨zk, zf, zt, zo, zn, zl⟩ := z
  simp only at *
  have hgl : g < w.heap.size := (hu.ge hgo).2
  have hal := ho.lt
  rw [W_seq]
  generalize hKs : KS _ _ _ _ _ = Ks
  simp (disch := omega) only [push_cast, Nat.reduceBEq, Nat.reduceEqDiff, Nat.reduceAdd, Nat.reduceMul, Nat.reduceSub, Nat.reduceLT, Int.reduceToNat, Int.reduceLT, Int.reduceLE, Int.reduceEq, Int.reduceAdd, Int.reduceSub, Int.reduceNeg, Int.reduceMul]
  have c1 := Blk.new (w := w) (cs := [.int .i64 0, .int .i64 0, .int .i64 0, .int .i64 0, .int .i64 0, .slice none 0 0]) (E := 46)
  have u1 : Upd (fun _ => False) w (w.alloc (.cells [.int .i64 0, .int .i64 0, .int .i64 0, .int .i64 0, .int .i64 0, .slice none 0 0].toArray 46 (0, 0))) := Upd.alloc
  have hq := fun j => World.cell?_of_block (a := ⟨g, j, none⟩) (u1.block g hgl (fun h => h))
  have ho1 := ho.upd u1 (fun h => h)
  have hu1 := hu.quiet u1
  have hpv1 := hpv.keep (Kp.quiet u1)
  rw [← hq] at q0 q1 q2 q3 q4 q5
  have s1 : w.heap.size < (w.alloc (.cells [.int .i64 0, .int .i64 0, .int .i64 0, .int .i64 0, .int .i64 0, .slice none 0 0].toArray 46 (0, 0))).heap.size := by rw [size_alloc]; omega
  clear hq hcell
  generalize w.alloc (.cells [.int .i64 0, .int .i64 0, .int .i64 0, .int .i64 0, .int .i64 0, .slice none 0 0].toArray 46 (0, 0)) = w1 at *
  subst hKs
  rw [KS_nor]
  have c2 := Blk.new (w := w1) (cs := [.int .i64 0, .int .i64 0, .int .i64 0, .int .i64 0, .int .i64 0, .slice none 0 0]) (E := 46)
  rw [W_seq]
  generalize hKs : KS _ _ _ _ _ = Ks
  simp (disch := omega) only [push_cast, Nat.reduceBEq, Nat.reduceEqDiff, Nat.reduceAdd, Nat.reduceMul, Nat.reduceSub, Nat.reduceLT, Int.reduceToNat, Int.reduceLT, Int.reduceLE, Int.reduceEq, Int.reduceAdd, Int.reduceSub, Int.reduceNeg, Int.reduceMul, q0, q1, q2, q3, q4, q5, ho1.cell, st_pk c2 rfl]
  have d2 := c2.setRow (cs' := [.int .i64 zk, .int .i64 zf, .int .i64 zt, .int .i64 zo, .int .i64 zn, .slice qa zl.length qc])
  have u2 : Upd (fun _ => False) w1 ((w1.alloc (.cells [.int .i64 0, .int .i64 0, .int .i64 0, .int .i64 0, .int .i64 0, .slice none 0 0].toArray 46 (0, 0))).setRow w1.heap.size [.int .i64 zk, .int .i64 zf, .int .i64 zt, .int .i64 zo, .int .i64 zn, .slice qa zl.length qc].toArray) := Upd.alloc.trans (Upd.setRow (F := fun b => b = w1.heap.size) rfl) (fun b h1 h2 => by omega)
  generalize (w1.alloc (.cells [.int .i64 0, .int .i64 0, .int .i64 0, .int .i64 0, .int .i64 0, .slice none 0 0].toArray 46 (0, 0))).setRow w1.heap.size [.int .i64 zk, .int .i64 zf, .int .i64 zt, .int .i64 zo, .int .i64 zn, .slice qa zl.length qc].toArray = w2 at *
  have ho2 := ho1.upd u2 (fun h => h)
  have hu2 := hu1.quiet u2
  have hpv2 := hpv1.keep (Kp.quiet u2)
  have e2 := c1.upd u2 (fun h => h)
  have hal2 := ho2.lt
  have s2 : w1.heap.size < w2.heap.size := d2.lt
  clear q0 q1 q2 q3 q4 q5
  subst hKs
  rw [KS_nor]
  obtain ⟨zs, rfl, hown, hzs⟩ := hu2
  rw [List.length_map] at *
  have hcap : zs.length ≤ cap := by
    rcases hown.2 with ⟨h0, _⟩ | ⟨g', cap', cur, h0, _, _, h1, _⟩
    · cases h0
    · injection h0 with e1 e2 e3
      omega
  have u3 : Upd (fun _ => False) w2 (w2.alloc (.cells #[] 46 (0, 0))).drew := Upd.alloc.drew'
  have b3 := (Blk.new (w := w2) (cs := []) (E := 46)).drew
  have ho3 := ho2.upd u3 (fun h => h)
  have hown3 := own_updB hown u3 (fun _ _ h => h)
  have s3 : (w2.alloc (.cells #[] 46 (0, 0))).drew.heap.size = w2.heap.size + 1 := by show (w2.alloc _).heap.size = _; rw [size_alloc]
  rw [W_seq]
  generalize hKs : KS _ _ _ _ _ = Ks
  simp (disch := omega) only [push_cast, Nat.reduceBEq, Nat.reduceEqDiff, Nat.reduceAdd, Nat.reduceMul, Nat.reduceSub, Nat.reduceLT, Int.reduceToNat, Int.reduceLT, Int.reduceLE, Int.reduceEq, Int.reduceAdd, Int.reduceSub, Int.reduceNeg, Int.reduceMul, ho2.cell, bsl_pk0, ho3.cell]
  have hrow3 : (w2.alloc (.cells #[] 46 (0, 0))).drew.ownsRow 0 46 6 (.slice (some ⟨w2.heap.size, 0, none⟩) 0 0) 0 [] := ⟨rfl, .inr ⟨w2.heap.size, 0, #[], rfl, Nat.zero_le _, b3, Nat.le_refl _, Nat.zero_le _, rfl, rfl⟩⟩
  have hmulz : i + zs.length ≤ 2000000 := by omega
  have hsrc3 := src_part (P := Try.prog) (Try.underlying35) hown3 (pk_one hzs) 0 i cap (by omega)
  rw [Nat.zero_mul, List.drop_zero, flat_take (f := pkC) (s := 6) (fun _ => rfl)] at hsrc3
  have hg2 : g < w2.heap.size := (own_ge hown rfl).2
  generalize (w2.alloc (.cells #[] 46 (0, 0))).drew = w3 at *
  refine app_src (s := 6) (by_ := 64) t35_e t46_s t46_b t46_z rfl (by omega) hrow3 hsrc3 (by omega) (by unfold maxLen; omega) ?_
  intro v4 w4 hrow4 hu4 hf4
  rw [List.nil_append, Nat.zero_add] at hrow4
  have u4 : Upd (fun b => b = w2.heap.size) w3 w4 := hu4.mono fun b _ h => by simp [Value.ownBlock] at h; exact h.symm
  have ho4 := ho3.upd u4 (by omega)
  have hown4 := own_updB hown3 u4 (fun g' hg' e => by simp [Value.ownBlock] at hg'; omega)
  obtain ⟨a4, c4, rfl⟩ := own_slice hrow4
  have hv4 : ∀ g', (Value.slice a4 i c4).ownBlock = some g' → w2.heap.size ≤ g' ∧ g' < w4.heap.size := fun g' hg' => by
    rcases hf4 g' hg' with h | h
    · simp [Value.ownBlock] at h; have := u4.size; omega
    · omega
  clear hrow3 hsrc3 hu4 hf4
  simp (disch := omega) only [push_cast, Nat.reduceBEq, Nat.reduceEqDiff, Nat.reduceAdd, Nat.reduceMul, Nat.reduceSub, Nat.reduceLT, Int.reduceToNat, Int.reduceLT, Int.reduceLE, Int.reduceEq, Int.reduceAdd, Int.reduceSub, Int.reduceNeg, Int.reduceMul, ho2.cell, bsl_pk0, ho3.cell, ho4.cell]
  rw [show ((i : Int) + 1).toNat = i + 1 from by omega]
  have hsrc5 : Src Try.prog 6 35 (.slice (some ⟨g, if cap = i + 1 then 0 else (i + 1) * 6, none⟩) (zs.length - (i + 1)) (cap - (i + 1))) (zs.length - (i + 1)) ((zs.drop (i + 1)).flatMap pkC) w4 := by
    by_cases hc : cap = i + 1
    · rw [if_pos hc]
      have e : zs.drop (i + 1) = [] := List.drop_eq_nil_of_le (by omega)
      rw [e, show zs.length - (i + 1) = 0 from by omega]
      exact Src.ofSlice w4 (Try.underlying35) ⟨g, 0, none⟩ 0 _ [] rfl (by simp) (by simp)
    · rw [if_neg hc]
      have h := src_part (P := Try.prog) (Try.underlying35) hown4 (pk_one hzs) (i + 1) (zs.length - (i + 1)) (cap - (i + 1)) (by omega)
      rw [flat_drop (f := pkC) (s := 6) (fun _ => rfl), List.take_of_length_le] at h
      · exact h
      · have : ∀ l : List (Pk × Value), (l.flatMap pkC).length = l.length * 6 := fun l => by
          induction l with
          | nil => rfl
          | cons x l ih => rw [List.flatMap_cons, List.length_append, ih, List.length_cons]; simp [pkC]; omega
        rw [this, List.length_drop]; exact Nat.le_refl _
  refine app_src (s := 6) (by_ := 64) t35_e t46_s t46_b t46_z rfl (by omega) hrow4 hsrc5 (by omega) (by unfold maxLen; omega) ?_
  intro v5 w5 hrow5 hu5 hf5
  rw [← List.flatMap_append, ← List.eraseIdx_eq_take_drop_succ, show i + (zs.length - (i + 1)) = (zs.eraseIdx i).length from by rw [List.length_eraseIdx_of_lt hil]; omega] at hrow5
  have ho5 := ho4.upd hu5 (fun h => by have := hv4 a h; omega)
  obtain ⟨a5, c5, rfl⟩ := own_slice hrow5
  generalize hln : (zs.eraseIdx i).length = LN at *
  have hv5 : ∀ g', (Value.slice a5 LN c5).ownBlock = some g' → w2.heap.size ≤ g' := fun g' hg' => by
    rcases hf5 g' hg' with h | h
    · exact (hv4 g' h).1
    · have := u4.size; omega
  simp (disch := omega) only [push_cast, Nat.reduceBEq, Nat.reduceEqDiff, Nat.reduceAdd, Nat.reduceMul, Nat.reduceSub, Nat.reduceLT, Int.reduceToNat, Int.reduceLT, Int.reduceLE, Int.reduceEq, Int.reduceAdd, Int.reduceSub, Int.reduceNeg, Int.reduceMul, ho2.cell, bsl_pk0, ho3.cell, ho4.cell, ho5.cell, ho5.free]
  have u25 : Upd (fun _ => False) w2 w5 := (u3.trans u4 (fun b h1 h2 => by omega)).trans hu5 (fun b h1 h2 => by have := (hv4 b h2).1; omega)
  have u6 : Upd (fun b => b = a) w5 (w5.setCell ⟨a, 3, none⟩ (.slice a5 LN c5)) := Upd.set rfl
  have ho6 := ho5.set 3 (.slice a5 LN c5)
  have hna : ∀ g', (Value.slice a5 LN c5).ownBlock = some g' → g' ≠ a := fun g' hg' e => by have := hv5 g' hg'; omega
  have hrow6 := own_updB hrow5 u6 hna
  have d6 := (d2.upd u25 (fun h => h)).upd u6 (fun e => by rw [e] at s2; have := ho1.lt; omega)
  have e6 := (e2.upd u25 (fun h => h)).upd u6 (fun e => by omega)
  have kp6 : Kp base w2 (w5.setCell ⟨a, 3, none⟩ (.slice a5 LN c5)) := (Kp.quiet u25).trans (kp_new u6 ho5 (by decide) ba)
  generalize w5.setCell ⟨a, 3, none⟩ (.slice a5 LN c5) = w6 at *
  have f7 := e6.setRow (cs' := [.int .i64 zk, .int .i64 zf, .int .i64 zt, .int .i64 zo, .int .i64 zn, .slice qa zl.length qc])
  subst hKs
  rw [KS_nor]
  simp (disch := omega) only [push_cast, Nat.reduceBEq, Nat.reduceEqDiff, Nat.reduceAdd, Nat.reduceMul, Nat.reduceSub, Nat.reduceLT, Int.reduceToNat, Int.reduceLT, Int.reduceLE, Int.reduceEq, Int.reduceAdd, Int.reduceSub, Int.reduceNeg, Int.reduceMul, d6.cell, st_pk e6 rfl, f7.cell]
  have u7 : Upd (fun b => b = w.heap.size) w6 (w6.setRow w.heap.size [.int .i64 zk, .int .i64 zf, .int .i64 zt, .int .i64 zo, .int .i64 zn, .slice qa zl.length qc].toArray) := Upd.setRow rfl
  have hbw : base ≤ w.heap.size := by omega
  have kp7 := kp6.trans (kp_new u7 e6 (by decide) hbw)
  refine ⟨.slice qa zl.length qc, .slice a5 LN c5, rfl, hpv2.keep kp7, ho6.upd u7 (by omega), ⟨zs.eraseIdx i, ?_, ?_, fun y hy => (hzs y (List.mem_of_mem_eraseIdx hy)).keep kp7⟩, ?_, fun g' hg' => by have := hv5 g' hg'; omega⟩
  · rw [List.eraseIdx_eq_take_drop_succ, List.eraseIdx_eq_take_drop_succ, List.map_append, List.map_take, List.map_drop]
  · rw [hln]
    exact own_ofB (own_updB hrow6 u7 (fun g' hg' e => by have := hv5 g' hg'; omega)) (fun g' hg' => by have := hv5 g' hg'; omega)
  · exact ((((u1.trans u2 (fun _ _ h => h)).trans u25 (fun _ _ h => h)).mono (fun _ _ h => h.elim)).trans u6 (fun _ _ h => h)).trans u7 (fun b h1 h2 => by omega)
end Go.Proofs.Ytpgfokhpacdhjaa.Fd
