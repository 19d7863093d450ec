/-
  Broadcast.
-/
import Derived.Test.YtpgfokhpacdhjaaBc4
namespace Go.Proofs.Ytpgfokhpacdhjaa.Fd
set_option linter.unusedSimpArgs false
set_option linter.unusedVariables false
open Go Go.ChangeMaps
set_option maxRecDepth 100000

theorem bld_note (a : Option Addr) (n c : Nat) (D : Int) (w : World) : bldS Try.prog 82 #[(0, .slice a n c), (1, .int .u16 D)] w = some (.agg #[.slice a n c, .int .u16 D], w) := by kernel_rfl
def putS (k : NP) (x : List Int × BitVec 16) : List (NP × (List Int × BitVec 16)) → List (NP × (List Int × BitVec 16))
  | [] => [(k, x)]
  | (k', x') :: r => if k = k' then (k', x) :: r else (k', x') :: putS k x r
theorem putS_find {k : NP} {x : List Int × BitVec 16} : ∀ {notes : List (NP × (List Int × BitVec 16))} {b : NP}, findS b (putS k x notes) = if b = k then some x else findS b notes
  | [], b => by
    unfold putS findS findS
    by_cases h : b = k <;> simp [h]
  | (k', x') :: r, b => by
    unfold putS
    by_cases hk : k = k'
    · subst hk
      rw [if_pos rfl]
      unfold findS
      by_cases h : b = k <;> simp [h]
    · rw [if_neg hk]
      unfold findS
      by_cases h : b = k'
      · subst h
        rw [if_pos rfl, if_pos rfl, if_neg (fun e => hk e.symm)]
      · rw [if_neg h, if_neg h, putS_find]
theorem putS_length {k : NP} {x : List Int × BitVec 16} : ∀ {notes : List (NP × (List Int × BitVec 16))}, (putS k x notes).length ≤ notes.length + 1
  | [] => by simp [putS]
  | (k', x') :: r => by
    unfold putS
    split
    · simp
    · have := putS_length (k := k) (x := x) (notes := r)
      simp only [List.length_cons]; omega
theorem NtR.put {base : Nat} {w : World} {k : NP} {pv : Value} {l : List Int} {D : BitVec 16} (hp : PB base w pv l) : ∀ {m : List (NP × Value)} {notes : List (NP × (List Int × BitVec 16))}, NtR base w m notes →
    NtR base w (putP k (.agg #[pv, .int .u16 (D.toNat : Int)]) m) (putS k (l, D) notes)
  | [], [], h => ⟨rfl, fun j a b hj => by
      cases j with
      | zero => simp [putP] at hj; obtain ⟨rfl, rfl⟩ := hj; exact ⟨l, D, pv, rfl, rfl, hp⟩
      | succ j => simp [putP] at hj⟩
  | [], _ :: _, h => by have := h.1; simp at this
  | _ :: _, [], h => by have := h.1; simp at this
  | (k1, v) :: m, (k2, x) :: notes, h => by
    obtain ⟨l', D', pv', h1, h2, h3⟩ := h.2 0 k1 v rfl
    simp only [List.getElem?_cons_zero, Option.some.injEq, Prod.mk.injEq] at h1
    obtain ⟨rfl, rfl⟩ := h1
    have ht : NtR base w m notes := ⟨by have := h.1; simpa using this, fun j a b hj => h.2 (j + 1) a b (by simpa using hj)⟩
    unfold putP putS
    by_cases hk : k = k2
    · subst hk
      rw [if_pos rfl, if_pos rfl]
      refine ⟨by simp [ht.1], fun j a b hj => ?_⟩
      cases j with
      | zero => simp at hj; obtain ⟨rfl, rfl⟩ := hj; exact ⟨l, D, pv, rfl, rfl, hp⟩
      | succ j => exact ht.2 j a b (by simpa using hj)
    · rw [if_neg hk, if_neg hk]
      have ih := NtR.put (k := k) (D := D) hp ht
      refine ⟨by simp [ih.1], fun j a b hj => ?_⟩
      cases j with
      | zero => simp at hj; obtain ⟨rfl, rfl⟩ := hj; exact ⟨l', D', pv', rfl, h2, h3⟩
      | succ j => exact ih.2 j a b (by simpa using hj)
theorem bsl_pk (k f t o n : Int) (a : Option Addr) (x c : Nat) (w : World) : bslS Try.prog 35 1 #[(0, .agg #[.int .i64 k, .int .i64 f, .int .i64 t, .int .i64 o, .int .i64 n, .slice a x c])] w =
    some (.slice (some ⟨w.heap.size, 0, none⟩) 1 1, w.alloc (.cells [.int .i64 k, .int .i64 f, .int .i64 t, .int .i64 o, .int .i64 n, .slice a x c].toArray 46 (0, 0))) := by kernel_rfl
theorem OwnK.form {base B : Nat} {w : World} {v : Value} {ps : List Pk} (h : OwnK base B w v ps) : ∃ a c, v = .slice a ps.length c := by
  obtain ⟨zs, rfl, h, _⟩ := h
  obtain ⟨a, c, h⟩ := own_slice h
  exact ⟨a, c, by rw [List.length_map]; exact h⟩
theorem OwnK.nil {base B : Nat} {w : World} : OwnK base B w (.slice none 0 0) [] := ⟨[], rfl, ⟨rfl, .inl ⟨rfl, rfl⟩⟩, fun z hz => by simp at hz⟩
theorem OwnK.upd {base B : Nat} {w w' : World} {F : Nat → Prop} {v : Value} {ps : List Pk} (h : OwnK base B w v ps) (hu : Upd F w w') (hF : ∀ g, v.ownBlock = some g → ¬ F g) (k : Kp base w w') : OwnK base B w' v ps := by
  obtain ⟨zs, h1, h2, h3⟩ := h
  exact ⟨zs, h1, own_updB h2 hu hF, fun z hz => (h3 z hz).keep k⟩
theorem OwnK.quiet {base B : Nat} {w w' : World} {v : Value} {ps : List Pk} (h : OwnK base B w v ps) (hu : Upd (fun _ => False) w w') : OwnK base B w' v ps := h.upd hu (fun _ _ h => h) (Kp.quiet hu)
theorem OwnK.ge {base B : Nat} {w : World} {v : Value} {ps : List Pk} (h : OwnK base B w v ps) {g : Nat} (hg : v.ownBlock = some g) : B ≤ g ∧ g < w.heap.size := by
  obtain ⟨zs, _, h, _⟩ := h
  exact own_ge h hg
theorem OwnK.ty {base B : Nat} {w : World} {v : Value} {ps : List Pk} (h : OwnK base B w v ps) {g : Nat} (hg : v.ownBlock = some g) : ∃ cs, Blk w g cs 46 := by
  obtain ⟨zs, _, h, _⟩ := h
  exact own_ty h hg
theorem OwnK.still {base B : Nat} {w : World} {v : Value} {ps : List Pk} (h : OwnK base B w v ps) (hb : base ≤ B) {g : Nat} (hg : v.ownBlock = some g) : ¬ Still base w g := by
  rintro ⟨_, h1 | ⟨cs, fz, h1⟩⟩
  · have := (h.ge hg).1; omega
  · obtain ⟨cs', h2⟩ := h.ty hg
    unfold Blk at h2
    rw [h2] at h1
    cases h1
theorem app_pk {base B : Nat} {w : World} {v : Value} {ps : List Pk} (h : OwnK base B w v ps) {z : Pk × Value} (hz : PB base w z.2 z.1.l) (hbB : base ≤ B) (hB : B ≤ w.heap.size) (hn : ps.length < 1000000) {b : Nat} (hbk : Blk w b (pkC z) 46) {ty : TypeId} {c : Nat}
    {K : Value × World → Prop} (hk : ∀ v' w', OwnK base B w' v' (ps ++ [z.1]) → Upd (fun b => v.ownBlock = some b) w w' → (∀ g, v'.ownBlock = some g → v.ownBlock = some g ∨ w.heap.size ≤ g) → K (v', w')) :
    Okk (appS Try.prog #[35, 35] ty v (.slice (some ⟨b, 0, none⟩) 1 c) w) K := by
  have hst := fun g hg => h.still hbB (g := g) hg
  obtain ⟨zs, h1, h2, h3⟩ := h
  subst h1
  rw [List.length_map] at hn
  refine app_rec (s := 6) (by_ := 64) t35_e t46_s t46_b t46_z rfl (by omega) h2 rfl hB hbk ?_ hn (by omega) ?_
  · intro u hu
    simp [pkC] at hu
    rcases hu with rfl | rfl | rfl | rfl | rfl | rfl
    · rfl
    · rfl
    · rfl
    · rfl
    · rfl
    · exact hz.one
  · intro v' w' ho hu hf
    have kp : Kp base w w' := Kp.of_upd hu fun g hg => hst g hg
    refine hk v' w' ⟨zs ++ [z], by simp, ?_, fun y hy => ?_⟩ hu hf
    · rw [List.length_append, List.flatMap_append]
      simpa using ho
    · rcases List.mem_append.1 hy with hy | hy
      · exact (h3 y hy).keep kp
      · simp at hy; subst hy; exact hz.keep kp
theorem PA.setMade {base : Nat} {w : World} {p : Nat} {S : PS} {mb db : Nat} {lv : Value} {m ds : List (NP × Value)} (h : PA base w p S mb db lv m ds) (x : Nat) :
    PA base (w.setCell ⟨p, 2, none⟩ (.int .i64 (x : Int))) p { S with made := x } mb db lv m ds := by
  have u : Upd (fun b => b = p) w (w.setCell ⟨p, 2, none⟩ (.int .i64 (x : Int))) := Upd.set rfl
  obtain ⟨d1, d2, d3, d4⟩ := h.dist
  have kp := h.kp (u.mono fun b _ h => .inl h)
  exact ⟨h.obj.set 2 _, h.map.upd u (fun e => d2 e.symm), h.nts.keep kp, h.del.upd u (fun e => d1 e.symm), own_updB h.own u (fun g hg => (d4 g hg).1), h.lst.keep kp, h.b1, h.b2, h.b3, h.n12, h.sn⟩
theorem PA.putNote {base : Nat} {w : World} {p : Nat} {S : PS} {mb db : Nat} {lv : Value} {m ds : List (NP × Value)} (h : PA base w p S mb db lv m ds) (k : NP) {pv : Value} {l : List Int} (D : BitVec 16) (hp : PB base w pv l) :
    PA base (setBlock w mb (.map (entP 0 (putP k (.agg #[pv, .int .u16 (D.toNat : Int)]) m)).toArray (putP k (.agg #[pv, .int .u16 (D.toNat : Int)]) m).length)) p { S with notes := putS k (l, D) S.notes } mb db lv (putP k (.agg #[pv, .int .u16 (D.toNat : Int)]) m) ds := by
  have u : Upd (fun b => b = mb) w (setBlock w mb (.map (entP 0 (putP k (.agg #[pv, .int .u16 (D.toNat : Int)]) m)).toArray (putP k (.agg #[pv, .int .u16 (D.toNat : Int)]) m).length)) := Upd.setBlock rfl
  obtain ⟨d1, d2, d3, d4⟩ := h.dist
  have kp := h.kp (u.mono fun b _ h => .inr (.inl h))
  refine ⟨h.obj.upd u d2, ?_, (h.nts.put hp).keep kp, h.del.upd u (fun e => d3 e.symm), own_updB h.own u (fun g hg => (d4 g hg).2.1), h.lst.keep kp, h.b1, h.b2, h.b3, h.n12, h.sn⟩
  have := h.map.lt
  unfold MapP
  exact setBlock_at this
def bcS (S : PS) (l : List Int) : PS := { S with made := S.made + 1, notes := putS ((S.self : Int), (S.made : Int) + 1) (l, BitVec.twoPow 16 S.self) S.notes }
def bcO (S : PS) (l : List Int) (k : Nat) : List Pk := (List.range k).filterMap fun to => if to = S.self then none else some ⟨1, S.self, to, S.self, (S.made : Int) + 1, l⟩
theorem bcS_n {S : PS} {l : List Int} : (bcS S l).n = S.n := _root_.id rfl
theorem bcS_self {S : PS} {l : List Int} : (bcS S l).self = S.self := _root_.id rfl
attribute [push_cast] bcS_n bcS_self
theorem bcO_succ {S : PS} {l : List Int} {i : Nat} : bcO S l (i + 1) = bcO S l i ++ (if i = S.self then [] else [⟨1, S.self, i, S.self, (S.made : Int) + 1, l⟩]) := by
  unfold bcO
  rw [List.range_succ, List.filterMap_append]
  congr 1
  by_cases h : i = S.self <;> simp [h]
theorem bcO_length {S : PS} {l : List Int} {i : Nat} : (bcO S l i).length ≤ i := by
  have := List.length_filterMap_le (fun to => if to = S.self then none else some (⟨1, S.self, to, S.self, (S.made : Int) + 1, l⟩ : Pk)) (List.range i)
  rw [List.length_range] at this
  exact this
set_option maxHeartbeats 2000000 in
theorem Broadcast_ok {base : Nat} {w : World} {p : Nat} {S : PS} {mb db : Nat} {lv : Value} {m ds : List (NP × Value)} (h : PA base w p S mb db lv m ds) (hd : ∀ o, 0 ≤ S.done o ∧ S.done o ≤ S.list.length) (hb : S.list.length + S.notes.length < 999999)
    {v : Value} {l : List Int} (hv : PB base w v l) (hl : l.length ≤ 140737488355328) (hmd : S.made < 1000000) :
    Ok (den Try.prog 16 #[.pointer (some ⟨p, 0, none⟩), v] w) fun out w' => ∃ S' lv' m' ds', Run (bcS S l) S' ∧ PA base w' p S' mb db lv' m' ds' ∧ Upd (Ft p mb db lv) w w' ∧ (∀ g, lv'.ownBlock = some g → lv.ownBlock = some g ∨ w.heap.size ≤ g) ∧
      OwnK base w.heap.size w' out (bcO S l S.n) := by
  obtain ⟨pa, pc, rfl⟩ := hv.form
  refine den_ok (args := [.pointer (some ⟨p, 0, none⟩), .slice pa l.length pc]) rs16 Try.func16 rfl mixed in16 ok16 rfl ?_
  rw [W_seq]
  generalize hKs : KS _ _ _ _ _ = Ks
  simp (disch := omega) only [push_cast, Nat.reduceBEq, Nat.reduceEqDiff, Nat.reduceAdd, Nat.reduceMul, Nat.reduceSub, Nat.reduceLT, Int.reduceToNat, Int.reduceLT, Int.reduceLE, Int.reduceEq, Int.reduceAdd, Int.reduceSub, Int.reduceNeg, Int.reduceMul]
  subst hKs
  rw [KS_nor]
  have e1 : ((S.made : Int) + 1) = ((S.made + 1 : Nat) : Int) := by omega
  rw [W_seq]
  generalize hKs : KS _ _ _ _ _ = Ks
  simp (disch := omega) only [push_cast, Nat.reduceBEq, Nat.reduceEqDiff, Nat.reduceAdd, Nat.reduceMul, Nat.reduceSub, Nat.reduceLT, Int.reduceToNat, Int.reduceLT, Int.reduceLE, Int.reduceEq, Int.reduceAdd, Int.reduceSub, Int.reduceNeg, Int.reduceMul, h.obj.cell, h.obj.free]
  have h1 := h.setMade (S.made + 1)
  rw [← e1] at h1
  have u1 : Upd (Ft p mb db lv) w (w.setCell ⟨p, 2, none⟩ (.int .i64 ((S.made : Int) + 1))) := Upd.set (.inl rfl)
  have hv1 := hv.keep (h.kp u1)
  have s1 : (w.setCell ⟨p, 2, none⟩ (.int .i64 ((S.made : Int) + 1))).heap.size = w.heap.size := size_set
  generalize w.setCell ⟨p, 2, none⟩ (.int .i64 ((S.made : Int) + 1)) = w1 at *
  clear h hv
  subst hKs
  rw [KS_nor]
  have h2 := h1.quiet (Upd.alloc (F := fun _ => False) (o := .cells #[.int .i64 0, .int .i64 0] 76 (0, 0)))
  rw [W_seq]
  generalize hKs : KS _ _ _ _ _ = Ks
  simp (disch := omega) only [push_cast, Nat.reduceBEq, Nat.reduceEqDiff, Nat.reduceAdd, Nat.reduceMul, Nat.reduceSub, Nat.reduceLT, Int.reduceToNat, Int.reduceLT, Int.reduceLE, Int.reduceEq, Int.reduceAdd, Int.reduceSub, Int.reduceNeg, Int.reduceMul, h1.obj.cell, bld_name, h2.obj.cell]
  have u2 : Upd (fun _ => False) w1 (((w1.alloc (.cells [.int .i64 0, .int .i64 0].toArray 76 (0, 0))).setCell ⟨w1.heap.size, 0, none⟩ (.int .i64 S.self)).setCell ⟨w1.heap.size, 1, none⟩ (.int .i64 (S.made + 1))).drew := ((Upd.alloc.setNew (Nat.le_refl _)).setNew (Nat.le_refl _)).drew'
  have c2 := (((Blk.new (w := w1) (cs := [.int .i64 0, .int .i64 0]) (E := 76)).set 0 (.int .i64 S.self)).set 1 (.int .i64 (S.made + 1))).drew
  simp only [List.set_cons_succ, List.set_cons_zero] at c2
  clear h2
  generalize (((w1.alloc (.cells [.int .i64 0, .int .i64 0].toArray 76 (0, 0))).setCell ⟨w1.heap.size, 0, none⟩ (.int .i64 S.self)).setCell ⟨w1.heap.size, 1, none⟩ (.int .i64 (S.made + 1))).drew = w2 at *
  have h2 := h1.quiet u2
  have hv2 := hv1.keep (Kp.quiet u2)
  subst hKs
  rw [KS_nor]
  rw [W_seq]
  generalize hKs : KS _ _ _ _ _ = Ks
  simp (disch := omega) only [push_cast, Nat.reduceBEq, Nat.reduceEqDiff, Nat.reduceAdd, Nat.reduceMul, Nat.reduceSub, Nat.reduceLT, Int.reduceToNat, Int.reduceLT, Int.reduceLE, Int.reduceEq, Int.reduceAdd, Int.reduceSub, Int.reduceNeg, Int.reduceMul, h2.obj.cell, c2.cell]
  refine Ok.use (clone_ok (hv2.keep (Kp.quiet Upd.drew)) hl) ?_
  rintro v3 w3 ⟨hv3, hu3⟩
  obtain ⟨va, vc, rfl⟩ := hv3.form
  have u3 : Upd (fun _ => False) w2 w3 := Upd.drew.trans hu3 (fun _ _ h => h)
  have h3 := h2.quiet u3
  have c3 := c2.upd u3 (fun h => h)
  have h4 := h3.putNote ((S.self : Int), (S.made : Int) + 1) (BitVec.twoPow 16 S.self) hv3
  have hmu := mup_p (k := ((S.self : Int), (S.made : Int) + 1)) (v := .agg #[.slice va l.length vc, .int .u16 ((BitVec.twoPow 16 S.self).toNat : Int)]) h3.map
  unfold keyV at hmu
  have u4 : Upd (Ft p mb db lv) w3 (setBlock w3 mb (.map (entP 0 (putP ((S.self : Int), (S.made : Int) + 1) (.agg #[.slice va l.length vc, .int .u16 ((BitVec.twoPow 16 S.self).toNat : Int)]) m)).toArray (putP ((S.self : Int), (S.made : Int) + 1) (.agg #[.slice va l.length vc, .int .u16 ((BitVec.twoPow 16 S.self).toNat : Int)]) m).length)) := Upd.setBlock (.inr (.inl rfl))
  have c4 := c3.upd (u4.mono (G := fun b => ¬ b = w1.heap.size) fun b _ h e => by
    subst e
    have hq := h1
    have l1 := h1.obj.lt; have l2 := h1.map.lt; have l3 := h1.del.lt
    rcases h with h | h | h | h
    · omega
    · omega
    · omega
    · have := (own_ge h1.own h).2; omega) (fun h => h rfl)
  simp (disch := omega) only [push_cast, Nat.reduceBEq, Nat.reduceEqDiff, Nat.reduceAdd, Nat.reduceMul, Nat.reduceSub, Nat.reduceLT, Int.reduceToNat, Int.reduceLT, Int.reduceLE, Int.reduceEq, Int.reduceAdd, Int.reduceSub, Int.reduceNeg, Int.reduceMul, h3.obj.cell, c3.cell, bld_note, h2.obj.cell, hmu]
  generalize setBlock w3 mb _ = w4 at *
  have h4 : PA base w4 p (bcS S l) mb db lv (putP ((S.self : Int), (S.made : Int) + 1) (.agg #[.slice va l.length vc, .int .u16 ((BitVec.twoPow 16 S.self).toNat : Int)]) m) ds := h4
  have kp4 := h3.kp u4
  have uw4 : Upd (Ft p mb db lv) w w4 := (u1.trans ((u2.trans u3 (fun _ _ h => h)).mono (fun _ _ h => h.elim)) (fun _ _ h => h)).trans u4 (fun _ _ h => h)
  have hfo : findS ((S.self : Int), (S.made : Int) + 1) (bcS S l).notes = some (l, BitVec.twoPow 16 S.self) := by
    show findS _ (putS _ _ _) = _
    rw [putS_find, if_pos rfl]
  clear hmu
  generalize putP ((S.self : Int), (S.made : Int) + 1) (.agg #[.slice va l.length vc, .int .u16 ((BitVec.twoPow 16 S.self).toNat : Int)]) m = m4 at *
  have hbb := h4.b1
  have hpl := h4.obj.lt
  have hn12 := h4.n12
  have sw4 := uw4.size
  have hsn : S.self < S.n := h4.sn
  have hn12 : S.n ≤ 12 := h4.n12
  have swl : w1.heap.size < w4.heap.size := c4.lt
  subst hKs
  rw [KS_nor]
  simp (disch := omega) only [push_cast, Nat.reduceBEq, Nat.reduceEqDiff, Nat.reduceAdd, Nat.reduceMul, Nat.reduceSub, Nat.reduceLT, Int.reduceToNat, Int.reduceLT, Int.reduceLE, Int.reduceEq, Int.reduceAdd, Int.reduceSub, Int.reduceNeg, Int.reduceMul, h4.obj.cell]
  refine loop_inv (I := fun k st w' => Bx (∃ (i : Nat) (ov : Value), k + i = S.n ∧ st = [ov, .int .i64 (i : Int)] ∧ Upd (fun _ => False) w4 w' ∧ OwnK base w.heap.size w' ov (bcO S l i) ∧ ∀ g, ov.ownBlock = some g → w4.heap.size ≤ g) ⟨⟩) ?_ S.n ⟨0, _, rfl, rfl, Upd.refl, OwnK.nil, fun g hg => by cases hg⟩
  rintro k st w5 ⟨i, ov, hk, rfl, hu5, ho, hg⟩
  have h5 := h4.quiet hu5
  have c5 := c4.upd hu5 (fun h => h)
  by_cases hk0 : k = 0
  · obtain rfl : i = S.n := by omega
    obtain ⟨oa, oc, rfl⟩ := ho.form
    simp (disch := omega) only [push_cast, Nat.reduceBEq, Nat.reduceEqDiff, Nat.reduceAdd, Nat.reduceMul, Nat.reduceSub, Nat.reduceLT, Int.reduceToNat, Int.reduceLT, Int.reduceLE, Int.reduceEq, Int.reduceAdd, Int.reduceSub, Int.reduceNeg, Int.reduceMul, h5.obj.cell]
    refine Ok.use (deliver_ok h5 hd (by have := putS_length (k := ((S.self : Int), (S.made : Int) + 1)) (x := (l, BitVec.twoPow 16 S.self)) (notes := S.notes); show S.list.length + (putS _ _ _).length < _; omega)) ?_
    rintro v w6 ⟨S', lv', ds', hrun, h6, hu6, hf6⟩
    simp (disch := omega) only [push_cast, Nat.reduceBEq, Nat.reduceEqDiff, Nat.reduceAdd, Nat.reduceMul, Nat.reduceSub, Nat.reduceLT, Int.reduceToNat, Int.reduceLT, Int.reduceLE, Int.reduceEq, Int.reduceAdd, Int.reduceSub, Int.reduceNeg, Int.reduceMul]
    have hu46 : Upd (Ft p mb db lv) w4 w6 := (hu5.mono (fun _ _ h => h.elim)).trans hu6 (fun _ _ h => h)
    refine ⟨S', lv', m4, ds', hrun, h6, uw4.trans hu46 (fun _ _ h => h), fun g hg' => (hf6 g hg').imp id (fun h => by have := hu5.size; omega), ho.upd hu6 (fun g hg' hF => ?_) (h5.kp hu6)⟩
    have := hg g hg'
    rcases hF with h | h | h | h
    · omega
    · have := h4.map.lt; omega
    · have := h4.del.lt; omega
    · have := (own_ge h4.own h).2; omega
  have hi : i < S.n := by omega
  by_cases hs : i = S.self
  · simp (disch := omega) only [push_cast, Nat.reduceBEq, Nat.reduceEqDiff, Nat.reduceAdd, Nat.reduceMul, Nat.reduceSub, Nat.reduceLT, Int.reduceToNat, Int.reduceLT, Int.reduceLE, Int.reduceEq, Int.reduceAdd, Int.reduceSub, Int.reduceNeg, Int.reduceMul, h5.obj.cell, hs]
    refine ⟨k - 1, by omega, i + 1, _, by omega, by simp [hs], hu5, ?_, hg⟩
    rw [bcO_succ, if_pos hs, List.append_nil]
    exact ho
  · have hs' : ¬ (i : Int) = (S.self : Int) := by omega
    simp (disch := omega) only [push_cast, Nat.reduceBEq, Nat.reduceEqDiff, Nat.reduceAdd, Nat.reduceMul, Nat.reduceSub, Nat.reduceLT, Int.reduceToNat, Int.reduceLT, Int.reduceLE, Int.reduceEq, Int.reduceAdd, Int.reduceSub, Int.reduceNeg, Int.reduceMul, h5.obj.cell, hs', c5.cell]
    refine Ok.use (packet_ok h5 1 (i : Int) ((S.self : Int), (S.made : Int) + 1) hfo hl) ?_
    rintro v w6 ⟨pv, rfl, hpv, hu6⟩
    rw [if_pos rfl] at hpv ⊢
    obtain ⟨qa, qc, rfl⟩ := hpv.form
    have ho6 := ho.quiet hu6
    unfold pkV pkC
    simp (disch := omega) only [push_cast, Nat.reduceBEq, Nat.reduceEqDiff, Nat.reduceAdd, Nat.reduceMul, Nat.reduceSub, Nat.reduceLT, Int.reduceToNat, Int.reduceLT, Int.reduceLE, Int.reduceEq, Int.reduceAdd, Int.reduceSub, Int.reduceNeg, Int.reduceMul, bsl_pk]
    have hu7 : Upd (fun _ => False) w6 (w6.alloc (.cells (pkC (⟨1, S.self, i, S.self, (S.made : Int) + 1, l⟩, .slice qa l.length qc)).toArray 46 (0, 0))) := Upd.alloc
    have hb7 := Blk.new (w := w6) (cs := pkC (⟨1, S.self, i, S.self, (S.made : Int) + 1, l⟩, .slice qa l.length qc)) (E := 46)
    have s67 := hu6.size
    have s45 := hu5.size
    have s77 := hu7.size
    have hub : base ≤ w.heap.size := by have := uw4.size; have := h4.obj.lt; have := u1.size; have := h1.obj.lt; omega
    refine app_pk (z := (⟨1, S.self, i, S.self, (S.made : Int) + 1, l⟩, .slice qa l.length qc)) (ho6.quiet hu7) (hpv.keep (Kp.quiet hu7)) hub (by omega) (by have := @bcO_length S l i; omega) hb7 ?_
    intro v' w8 h8 hu8 hf8
    simp (disch := omega) only [push_cast, Nat.reduceBEq, Nat.reduceEqDiff, Nat.reduceAdd, Nat.reduceMul, Nat.reduceSub, Nat.reduceLT, Int.reduceToNat, Int.reduceLT, Int.reduceLE, Int.reduceEq, Int.reduceAdd, Int.reduceSub, Int.reduceNeg, Int.reduceMul]
    refine ⟨k - 1, by omega, i + 1, v', by omega, by simp, ?_, ?_, ?_⟩
    · exact ((hu5.trans hu6 (fun _ _ h => h)).trans hu7 (fun _ _ h => h)).trans hu8 (fun b h1 h2 => by have := hg b h2; omega)
    · rw [bcO_succ, if_neg hs]
      exact h8
    · intro g hg'
      rcases hf8 g hg' with h | h
      · exact hg g h
      · omega
end Go.Proofs.Ytpgfokhpacdhjaa.Fd
