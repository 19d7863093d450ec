/-
  deliver.
-/
import Derived.Test.YtpgfokhpacdhjaaBc3
namespace Go.Proofs.Ytpgfokhpacdhjaa.Fd
set_option linter.unusedSimpArgs false
set_option linter.unusedVariables false
open Go
set_option maxRecDepth 100000

theorem bld_name (a b : Int) (w : World) : bldS Try.prog 76 #[(0, .int .i64 a), (1, .int .i64 b)] w = some (.agg #[.int .i64 a, .int .i64 b], w) := by kernel_rfl
theorem ones_le (D : BitVec 16) : ones D ≤ 16 := by
  have := pop8_le (D.toNat / 256)
  have := pop8_le (D.toNat % 256)
  unfold ones
  omega
theorem bld_dl (a b : Int) (x : Option Addr) (n c : Nat) (w : World) : bldS Try.prog 69 #[(0, .int .i64 a), (1, .int .i64 b), (2, .slice x n c)] w = some (.agg #[.int .i64 a, .int .i64 b, .slice x n c], w) := by kernel_rfl
theorem bsl_dl (a b : Int) (x : Option Addr) (n c : Nat) (w : World) : bslS Try.prog 59 1 #[(0, .agg #[.int .i64 a, .int .i64 b, .slice x n c])] w =
    some (.slice (some ⟨w.heap.size, 0, none⟩) 1 1, w.alloc (.cells [.int .i64 a, .int .i64 b, .slice x n c].toArray 69 (0, 0))) := by kernel_rfl
theorem Blk.ty {w : World} {b E E' : Nat} {cs cs' : List Value} (h : Blk w b cs E) (h' : Blk w b cs' E') : E = E' := by
  unfold Blk at h h'
  rw [h] at h'
  simp only [Option.some.injEq, Obj.cells.injEq] at h'
  exact h'.2.1
theorem own_to0 {w : World} {B E s n : Nat} {v : Value} {xs : List Value} (h : w.ownsRow B E s v n xs) : w.ownsRow 0 E s v n xs := by
  obtain ⟨h1, h2 | ⟨g, cap, cur, hv, hg, r⟩⟩ := h
  · exact ⟨h1, .inl h2⟩
  · exact ⟨h1, .inr ⟨g, cap, cur, hv, Nat.zero_le _, r⟩⟩
theorem own_ofB {w : World} {B E s n : Nat} {v : Value} {xs : List Value} (h : w.ownsRow 0 E s v n xs) (hB : ∀ g, v.ownBlock = some g → B ≤ g) : w.ownsRow B E s v n xs := by
  obtain ⟨h1, h2 | ⟨g, cap, cur, hv, hg, r⟩⟩ := h
  · exact ⟨h1, .inl h2⟩
  · exact ⟨h1, .inr ⟨g, cap, cur, hv, hB g (by rw [hv]; rfl), r⟩⟩
theorem own_ge {w : World} {B E s n : Nat} {v : Value} {xs : List Value} (h : w.ownsRow B E s v n xs) {g : Nat} (hg : v.ownBlock = some g) : B ≤ g ∧ g < w.heap.size := by
  obtain ⟨h1, ⟨h2, _⟩ | ⟨g', cap, cur, hv, hB, hh, r⟩⟩ := h
  · rw [h2] at hg; cases hg
  · rw [hv] at hg
    simp [Value.ownBlock] at hg
    subst hg
    exact ⟨hB, by rw [Array.getElem?_eq_some_iff] at hh; exact hh.1⟩
theorem own_ty {w : World} {B E s n : Nat} {v : Value} {xs : List Value} (h : w.ownsRow B E s v n xs) {g : Nat} (hg : v.ownBlock = some g) : ∃ cs, Blk w g cs E := by
  obtain ⟨h1, ⟨h2, _⟩ | ⟨g', cap, cur, hv, hB, hh, r⟩⟩ := h
  · rw [h2] at hg; cases hg
  · rw [hv] at hg
    simp [Value.ownBlock] at hg
    subst hg
    exact ⟨cur.toList, by unfold Blk; simpa using hh⟩
theorem PA.dist {base : Nat} {w : World} {p : Nat} {S : PS} {mb db : Nat} {lv : Value} {m ds : List (NP × Value)} (h : PA base w p S mb db lv m ds) :
    p ≠ db ∧ p ≠ mb ∧ mb ≠ db ∧ ∀ g, lv.ownBlock = some g → g ≠ p ∧ g ≠ mb ∧ g ≠ db := by
  have hm : ∀ {b cs E}, Blk w b cs E → b ≠ mb := fun hb e => by have h8 := h.map; unfold Blk at hb; unfold MapP at h8; rw [← e, hb] at h8; cases h8
  refine ⟨fun e => ?_, hm h.obj, fun e => hm h.del e.symm, fun g hg => ?_⟩
  · have h8 := h.obj; rw [e] at h8; exact absurd (h8.ty h.del) (by decide)
  · obtain ⟨cs, hb⟩ := own_ty h.own hg
    exact ⟨fun e => by rw [e] at hb; exact absurd (hb.ty h.obj) (by decide), hm hb, fun e => by rw [e] at hb; exact absurd (hb.ty h.del) (by decide)⟩
theorem app_rec {P : Program} {w : World} {t ty el : TypeId} {by_ s : Nat} {z : Value} (ht : elt P t = some el) (hs : siz P el = some s) (hb : byt P el = some by_) (hz : zer P el = some z) (hzs : z.cells.size = s) (hs0 : 0 < s)
    {B : Nat} {v : Value} {n : Nat} {xs : List Value} (hown : w.ownsRow B el s v n xs) {b c : Nat} {news : List Value} (hl : news.length = s) (hB : B ≤ w.heap.size) (hbk : Blk w b news el) (h1 : ∀ u ∈ news, u.oneCell' = true) (hn : n < 1000000) (hby : by_ ≤ 1000)
    {K : Value × World → Prop} (hk : ∀ v' w', w'.ownsRow B el s v' (n + 1) (xs ++ news) → Upd (fun b => v.ownBlock = some b) w w' → (∀ g, v'.ownBlock = some g → v.ownBlock = some g ∨ w.heap.size ≤ g) → K (v', w')) :
    Okk (appS P #[t, t] ty v (.slice (some ⟨b, 0, none⟩) 1 c) w) K := by
  have hbb : (n + 1) * by_ ≤ 1000000 * 1000 := Nat.mul_le_mul (by omega) hby
  refine app_own ht hs hb hz hzs hs0 (own_to0 hown) (m := 1) (by omega) (fun j hj => ?_) h1 (by omega) (by unfold maxLen; omega) ?_
  · rw [Nat.zero_add, hbk.cell]
  · intro v' w' ho hg hfr
    have hfr' : ∀ g, v'.ownBlock = some g → v.ownBlock = some g ∨ w.heap.size ≤ g := by
      intro g hg
      rcases hfr with h | ⟨g', h, hge⟩
      · exact .inl (by rw [← h]; exact hg)
      · rw [h] at hg
        injection hg with hg
        subst hg
        exact .inr hge
    refine hk v' w' (own_ofB ho fun g hg => ?_) (Upd.grown hg (fun k hk => hk)) hfr'
    rcases hfr' g hg with h | h
    · exact (own_ge hown h).1
    · omega
def elig (S : PS) (o : Nat) : Option (List Int × BitVec 16) := match findS ((o : Int), S.done o + 1) S.notes with
  | some x => if S.n < 2 * ones x.2 then some x else none
  | none => none
def delS (S : PS) (o : Nat) (l : List Int) : PS := { S with done := fun i => if i = o then S.done o + 1 else S.done i, list := S.list ++ [(((o : Int), S.done o + 1), l)] }
/-- What deliver does. -/
inductive Run : PS → PS → Prop
  | done {S : PS} (h : ∀ o, o < S.n → elig S o = none) : Run S S
  | step {S S' : PS} {o : Nat} {l : List Int} {D : BitVec 16} (ho : o < S.n) (h1 : elig S o = some (l, D)) (h2 : ∀ i, i < o → elig S i = none) (h3 : Run (delS S o l) S') : Run S S'
def remS (S : PS) : Nat := (S.notes.filter fun x => decide (S.done x.1.1.toNat < x.1.2)).length
theorem findS_mem {k : NP} {x : List Int × BitVec 16} : ∀ {notes : List (NP × (List Int × BitVec 16))}, findS k notes = some x → (k, x) ∈ notes
  | [], h => by cases h
  | (k', y) :: r, h => by
    unfold findS at h
    split at h
    · rename_i hk
      cases h
      rw [hk]
      exact List.mem_cons_self
    · exact List.mem_cons_of_mem _ (findS_mem h)
theorem filter_lt {α : Type} {p q : α → Bool} : ∀ {l : List α}, (∀ x, x ∈ l → q x = true → p x = true) → (∃ x, x ∈ l ∧ p x = true ∧ q x = false) → (l.filter q).length < (l.filter p).length
  | [], _, h => by obtain ⟨x, h, _⟩ := h; simp at h
  | a :: l, h1, h2 => by
    have hle : (l.filter q).length ≤ (l.filter p).length := by
      clear h2
      induction l with
      | nil => simp
      | cons b l ih =>
        have ih' := ih fun x hx => h1 x (by rcases List.mem_cons.1 hx with h | h <;> simp [h])
        have hb := h1 b (by simp)
        rw [List.filter_cons, List.filter_cons]
        cases hq : q b
        · cases p b <;> simp <;> omega
        · simp [hb hq]; omega
    obtain ⟨x, hx, hp, hq⟩ := h2
    rw [List.filter_cons, List.filter_cons]
    rcases List.mem_cons.1 hx with rfl | hx
    · simp [hp, hq]; omega
    · have ih := filter_lt (fun y hy => h1 y (List.mem_cons_of_mem _ hy)) ⟨x, hx, hp, hq⟩
      have ha := h1 a List.mem_cons_self
      cases hqa : q a
      · cases p a <;> simp <;> omega
      · simp [ha hqa]; omega
theorem remS_del {S : PS} {o : Nat} {l : List Int} {D : BitVec 16} (h : elig S o = some (l, D)) : remS (delS S o l) < remS S := by
  unfold elig at h
  cases hf : findS ((o : Int), S.done o + 1) S.notes with
  | none => rw [hf] at h; cases h
  | some x =>
    have hm := findS_mem hf
    refine filter_lt (fun y _ hy => ?_) ⟨_, hm, ?_, ?_⟩
    · rw [decide_eq_true_eq] at hy ⊢
      simp only [delS] at hy
      split at hy
      · rename_i e; rw [e]; omega
      · exact hy
    · simp only [decide_eq_true_eq]; simp; omega
    · simp only [delS, decide_eq_false_iff_not]; simp
set_option maxHeartbeats 2000000 in
theorem deliver_ok {base : Nat} {w : World} {p : Nat} {S : PS} {mb db : Nat} {lv : Value} {m ds : List (NP × Value)} (h : PA base w p S mb db lv m ds) (hd : ∀ o, 0 ≤ S.done o ∧ S.done o ≤ S.list.length) (hb : S.list.length + S.notes.length < 1000000) :
    Ok (den Try.prog 33 #[.pointer (some ⟨p, 0, none⟩)] w) fun _ w' => ∃ S' lv' ds', Run S S' ∧ PA base w' p S' mb db lv' m ds' ∧ Upd (Ft p mb db lv) w w' ∧ (∀ g, lv'.ownBlock = some g → lv.ownBlock = some g ∨ w.heap.size ≤ g) := by
  refine den_ok (args := [.pointer (some ⟨p, 0, none⟩)]) rs33 Try.func33 rfl mixed in33 ok33 rfl ?_
  simp (disch := omega) only [push_cast, Nat.reduceBEq, Nat.reduceEqDiff, Nat.reduceAdd, Nat.reduceMul, Nat.reduceSub, Nat.reduceLT, Int.reduceToNat, Int.reduceLT, Int.reduceLE, Int.reduceEq, Int.reduceAdd, Int.reduceSub, Int.reduceNeg, Int.reduceMul]
  refine loop_inv (I := fun k st w' => Bx (∃ (again : Bool) (S' : PS) (lv' : Value) (ds' : List (NP × Value)), st = [.bool again] ∧ PA base w' p S' mb db lv' m ds' ∧ Upd (Ft p mb db lv) w w' ∧ (∀ g, lv'.ownBlock = some g → lv.ownBlock = some g ∨ w.heap.size ≤ g) ∧
    S'.n = S.n ∧ S'.notes = S.notes ∧ (∀ S2, Run S' S2 → Run S S2) ∧ (again = false → ∀ o, o < S'.n → elig S' o = none) ∧ (∀ o, 0 ≤ S'.done o ∧ S'.done o ≤ S'.list.length) ∧ S'.list.length + remS S' < 1000000 ∧ (if again then remS S' + 1 else 0) ≤ k) ⟨⟩) ?_ (remS S + 1) ⟨true, S, lv, ds, rfl, h, Upd.refl, fun g hg => .inl hg, rfl, rfl, fun S2 h => h, (fun h => by cases h), hd, ?_, Nat.le_refl _⟩
  rotate_left
  · have : remS S ≤ S.notes.length := List.length_filter_le _ _
    omega
  clear h hd hb
  rintro k st w1 ⟨again, S1, lv1, ds1, rfl, h, hu, hfr, hn, hno, hrun, hel, hd, hb, hk⟩
  cases again
  · simp (disch := omega) only [push_cast, Nat.reduceBEq, Nat.reduceEqDiff, Nat.reduceAdd, Nat.reduceMul, Nat.reduceSub, Nat.reduceLT, Int.reduceToNat, Int.reduceLT, Int.reduceLE, Int.reduceEq, Int.reduceAdd, Int.reduceSub, Int.reduceNeg, Int.reduceMul]
    exact ⟨S1, lv1, ds1, hrun _ (.done (hel rfl)), h, hu, hfr⟩
  simp only [if_true] at hk
  simp (disch := omega) only [push_cast, Nat.reduceBEq, Nat.reduceEqDiff, Nat.reduceAdd, Nat.reduceMul, Nat.reduceSub, Nat.reduceLT, Int.reduceToNat, Int.reduceLT, Int.reduceLE, Int.reduceEq, Int.reduceAdd, Int.reduceSub, Int.reduceNeg, Int.reduceMul, h.obj.cell]
  refine loop_inv (I := fun k st w' => Bx (∃ o : Nat, k + o = S1.n ∧ st = [.bool false, .int .i64 (o : Int)] ∧ Upd (fun _ => False) w1 w' ∧ ∀ i, i < o → elig S1 i = none) ⟨⟩) ?_ S1.n ⟨0, rfl, rfl, Upd.refl, fun i hi => by omega⟩
  rintro k2 st w2 ⟨o, hko, rfl, hu2, hno2⟩
  have h2 := h.quiet hu2
  have hn12 := h.n12
  have hk01 : 1 ≤ k := by omega
  by_cases hk0 : k2 = 0
  · obtain rfl : o = S1.n := by omega
    simp (disch := omega) only [push_cast, Nat.reduceBEq, Nat.reduceEqDiff, Nat.reduceAdd, Nat.reduceMul, Nat.reduceSub, Nat.reduceLT, Int.reduceToNat, Int.reduceLT, Int.reduceLE, Int.reduceEq, Int.reduceAdd, Int.reduceSub, Int.reduceNeg, Int.reduceMul]
    exact ⟨k - 1, by omega, false, S1, lv1, ds1, rfl, h2, hu.trans hu2 (fun _ _ h => h.elim), hfr, hn, hno, hrun, fun _ => hno2, hd, hb, by simp⟩
  have ho : o < S1.n := by omega
  have hdo := hd o
  have hll : S1.list.length < 1000000 := by omega
  simp (disch := omega) only [push_cast, Nat.reduceBEq, Nat.reduceEqDiff, Nat.reduceAdd, Nat.reduceMul, Nat.reduceSub, Nat.reduceLT, Int.reduceToNat, Int.reduceLT, Int.reduceLE, Int.reduceEq, Int.reduceAdd, Int.reduceSub, Int.reduceNeg, Int.reduceMul, h2.obj.cell, h2.del.cell, atL_get ho]
  generalize hKs : KS _ _ _ _ _ = Ks
  simp (disch := omega) only [push_cast, Nat.reduceBEq, Nat.reduceEqDiff, Nat.reduceAdd, Nat.reduceMul, Nat.reduceSub, Nat.reduceLT, Int.reduceToNat, Int.reduceLT, Int.reduceLE, Int.reduceEq, Int.reduceAdd, Int.reduceSub, Int.reduceNeg, Int.reduceMul, bld_name]
  have c3 := ((Blk.new (w := w2) (cs := [.int .i64 0, .int .i64 0]) (E := 76)).set 0 (.int .i64 o)).set 1 (.int .i64 (S1.done o + 1))
  have u3 : Upd (fun _ => False) w2 (((w2.alloc (.cells [.int .i64 0, .int .i64 0].toArray 76 (0, 0))).setCell ⟨w2.heap.size, 0, none⟩ (.int .i64 o)).setCell ⟨w2.heap.size, 1, none⟩ (.int .i64 (S1.done o + 1))) := (Upd.alloc.setNew (Nat.le_refl _)).setNew (Nat.le_refl _)
  simp only [List.set_cons_succ, List.set_cons_zero] at c3
  generalize ((w2.alloc (.cells [.int .i64 0, .int .i64 0].toArray 76 (0, 0))).setCell ⟨w2.heap.size, 0, none⟩ (.int .i64 o)).setCell ⟨w2.heap.size, 1, none⟩ (.int .i64 (S1.done o + 1)) = w3 at *
  have h3 := h2.quiet u3
  have hu13 := hu2.trans u3 (fun _ _ h => h)
  subst hKs
  rw [KS_nor]
  have u4 : Upd (fun _ => False) w3 (w3.alloc (.cells #[.slice none 0 0, .int .u16 0] 82 (0, 0))) := Upd.alloc
  have h4 := h3.quiet u4
  have c4 := c3.upd u4 (fun h => h)
  have hlk3 := lkp_p (k := ((o : Int), S1.done o + 1)) (ok := true) h3.map.drew'
  have hlk4 := lkp_p (k := ((o : Int), S1.done o + 1)) (ok := true) h4.map.drew'
  unfold keyV at hlk3 hlk4
  simp only [if_true] at hlk3 hlk4
  rcases h3.nts.find ((o : Int), S1.done o + 1) with ⟨hf, hpi⟩ | ⟨l, D, pv, j, hf, hpi, hpv⟩
  · rw [hpi] at hlk3 hlk4
    unfold noteZ at hlk3 hlk4
    have hel0 : elig S1 o = none := by unfold elig; rw [hf]
    simp (disch := omega) only [push_cast, Nat.reduceBEq, Nat.reduceEqDiff, Nat.reduceAdd, Nat.reduceMul, Nat.reduceSub, Nat.reduceLT, Int.reduceToNat, Int.reduceLT, Int.reduceLE, Int.reduceEq, Int.reduceAdd, Int.reduceSub, Int.reduceNeg, Int.reduceMul, h3.obj.cell, c3.cell, hlk3, h4.obj.cell, c4.cell, hlk4]
    refine ⟨k2 - 1, by omega, o + 1, by omega, by simp, ?_, fun i hi => ?_⟩
    · exact ((hu13.alloc'.setNew (by have := hu13.size; exact this)).setNew (by have := hu13.size; exact this)).drew'.drew'
    · by_cases e : i = o
      · rw [e]; exact hel0
      · exact hno2 i (by omega)
  · rw [hpi] at hlk3 hlk4
    obtain ⟨pa, pc, rfl⟩ := hpv.form
    rw [W_seq]
    generalize hKs : KS _ _ _ _ _ = Ks
    simp (disch := omega) only [push_cast, Nat.reduceBEq, Nat.reduceEqDiff, Nat.reduceAdd, Nat.reduceMul, Nat.reduceSub, Nat.reduceLT, Int.reduceToNat, Int.reduceLT, Int.reduceLE, Int.reduceEq, Int.reduceAdd, Int.reduceSub, Int.reduceNeg, Int.reduceMul, h3.obj.cell, c3.cell, hlk3, h4.obj.cell, c4.cell, hlk4]
    have c5 := (((Blk.new (w := w3) (cs := [.slice none 0 0, .int .u16 0]) (E := 82)).set 0 (.slice pa l.length pc)).set 1 (.int .u16 (D.toNat : Int))).drew
    have u5 : Upd (fun _ => False) w3 (((w3.alloc (.cells [.slice none 0 0, .int .u16 0].toArray 82 (0, 0))).setCell ⟨w3.heap.size, 0, none⟩ (.slice pa l.length pc)).setCell ⟨w3.heap.size, 1, none⟩ (.int .u16 (D.toNat : Int))).drew := ((Upd.alloc.setNew (Nat.le_refl _)).setNew (Nat.le_refl _)).drew'
    simp only [List.set_cons_succ, List.set_cons_zero] at c5
    clear hlk3 hlk4 h4 c4 u4
    generalize (((w3.alloc (.cells [.slice none 0 0, .int .u16 0].toArray 82 (0, 0))).setCell ⟨w3.heap.size, 0, none⟩ (.slice pa l.length pc)).setCell ⟨w3.heap.size, 1, none⟩ (.int .u16 (D.toNat : Int))).drew = w5 at *
    have h5 := h3.quiet u5
    have b5 := c3.upd u5 (fun h => h)
    have hu15 := hu13.trans u5 (fun _ _ h => h)
    subst hKs
    rw [KS_nor]
    rw [W_seq]
    generalize hKs : KS _ _ _ _ _ = Ks
    simp (disch := omega) only [push_cast, Nat.reduceBEq, Nat.reduceEqDiff, Nat.reduceAdd, Nat.reduceMul, Nat.reduceSub, Nat.reduceLT, Int.reduceToNat, Int.reduceLT, Int.reduceLE, Int.reduceEq, Int.reduceAdd, Int.reduceSub, Int.reduceNeg, Int.reduceMul, c5.cell, h5.obj.cell]
    refine Ok.use (ones_ok D) ?_
    rintro v w6 ⟨rfl, rfl⟩
    have hon := ones_le D
    have hel1 : elig S1 o = if S1.n < 2 * ones D then some (l, D) else none := by unfold elig; rw [hf]
    by_cases hmaj : S1.n < 2 * ones D
    rotate_left
    · have hmaj' : ¬ (S1.n : Int) < 2 * (ones D : Int) := by omega
      simp (disch := omega) only [push_cast, Nat.reduceBEq, Nat.reduceEqDiff, Nat.reduceAdd, Nat.reduceMul, Nat.reduceSub, Nat.reduceLT, Int.reduceToNat, Int.reduceLT, Int.reduceLE, Int.reduceEq, Int.reduceAdd, Int.reduceSub, Int.reduceNeg, Int.reduceMul, c5.cell, h5.obj.cell, hmaj']
      subst hKs
      rw [KS_nor]
      simp (disch := omega) only [push_cast, Nat.reduceBEq, Nat.reduceEqDiff, Nat.reduceAdd, Nat.reduceMul, Nat.reduceSub, Nat.reduceLT, Int.reduceToNat, Int.reduceLT, Int.reduceLE, Int.reduceEq, Int.reduceAdd, Int.reduceSub, Int.reduceNeg, Int.reduceMul]
      refine ⟨k2 - 1, by omega, o + 1, by omega, by simp, hu15.drew'.drew', fun i hi => ?_⟩
      by_cases e : i = o
      · rw [e, hel1, if_neg hmaj]
      · exact hno2 i (by omega)
    have hmaj' : (S1.n : Int) < 2 * (ones D : Int) := by omega
    simp (disch := omega) only [push_cast, Nat.reduceBEq, Nat.reduceEqDiff, Nat.reduceAdd, Nat.reduceMul, Nat.reduceSub, Nat.reduceLT, Int.reduceToNat, Int.reduceLT, Int.reduceLE, Int.reduceEq, Int.reduceAdd, Int.reduceSub, Int.reduceNeg, Int.reduceMul, c5.cell, h5.obj.cell, hmaj']
    subst hKs
    rw [KS_nor]
    generalize hc10 : Code.seq (Code.region 10 _ _) _ = c10
    simp (disch := omega) only [push_cast, Nat.reduceBEq, Nat.reduceEqDiff, Nat.reduceAdd, Nat.reduceMul, Nat.reduceSub, Nat.reduceLT, Int.reduceToNat, Int.reduceLT, Int.reduceLE, Int.reduceEq, Int.reduceAdd, Int.reduceSub, Int.reduceNeg, Int.reduceMul, h5.obj.cell, h5.del.cell, h5.del.free, atL_get ho]
    subst hc10
    have hlt := h5.del.lt
    have u6 : Upd (fun b => b = db) w5 (w5.setCell ⟨db, o, none⟩ (.int .i64 (S1.done o + 1))).drew.drew := ((Upd.set (F := fun b => b = db) rfl).trans Upd.drew (fun _ _ h => h)).trans Upd.drew (fun _ _ h => h)
    have h6 : PA base (w5.setCell ⟨db, o, none⟩ (.int .i64 (S1.done o + 1))).drew.drew p { S1 with done := fun i => if i = o then S1.done o + 1 else S1.done i } mb db lv1 m ds1 := by
      have kp := h5.kp (u6.mono fun b _ h => .inr (.inr (.inl h)))
      obtain ⟨hne1, _, hne2, hne3⟩ := h5.dist
      refine ⟨h5.obj.upd u6 hne1, h5.map.upd u6 hne2, h5.nts.keep kp, ?_, own_updB h5.own u6 (fun g hg => (hne3 g hg).2.2), h5.lst.keep kp, h5.b1, h5.b2, h5.b3, h5.n12, h5.sn⟩
      have := (h5.del.set o (.int .i64 (S1.done o + 1))).drew.drew
      rwa [atL_set] at this
    have c6 := c5.upd u6 (fun h => by have := h3.del.lt; omega)
    have b6 := b5.upd u6 (fun h => by have := h2.del.lt; omega)
    generalize (w5.setCell ⟨db, o, none⟩ (.int .i64 (S1.done o + 1))).drew.drew = w6 at *
    have h7 := h6.quiet (Upd.alloc (o := .cells [.int .i64 o, .int .i64 (S1.done o + 1), .slice pa l.length pc].toArray 69 (0, 0)) (F := fun _ => False))
    have u7 : Upd (fun _ => False) w6 (w6.alloc (.cells [.int .i64 o, .int .i64 (S1.done o + 1), .slice pa l.length pc].toArray 69 (0, 0))) := Upd.alloc
    have n7 := Blk.new (w := w6) (cs := [.int .i64 o, .int .i64 (S1.done o + 1), .slice pa l.length pc]) (E := 69)
    have hdl : ds1.length < 1000000 := by rw [h6.lst.1]; exact hll
    rw [W_seq]
    generalize hKs : KS _ _ _ _ _ = Ks
    simp (disch := omega) only [push_cast, Nat.reduceBEq, Nat.reduceEqDiff, Nat.reduceAdd, Nat.reduceMul, Nat.reduceSub, Nat.reduceLT, Int.reduceToNat, Int.reduceLT, Int.reduceLE, Int.reduceEq, Int.reduceAdd, Int.reduceSub, Int.reduceNeg, Int.reduceMul, h6.obj.cell, c6.cell, b6.cell, bld_dl, bsl_dl, h7.obj.cell]
    refine app_rec (s := 3) (by_ := 40) t59_e t69_s t69_b t69_z rfl (by omega) (h7.own.drew) rfl (by have := h6.b1; have := h6.obj.lt; show base ≤ (w6.alloc _).heap.size; rw [size_alloc]; omega) n7.drew ?_ hdl (by omega) ?_
    · intro u hu
      simp at hu
      rcases hu with rfl | rfl | rfl <;> rfl
    intro lv2 w8 ho8 hu8 hf8
    obtain ⟨a2, c2, rfl⟩ := own_slice ho8
    obtain ⟨d1, d2, d3, d4⟩ := h6.dist
    have p8 := h7.obj.drew.upd hu8 (fun h => (d4 p h).1 rfl)
    have u68 : Upd (fun b => lv1.ownBlock = some b) w6 w8 := (u7.drew'.mono (fun _ _ h => h.elim)).trans hu8 (fun _ _ h => h)
    have s67 : w6.heap.size < (w6.alloc (.cells [.int .i64 o, .int .i64 (S1.done o + 1), .slice pa l.length pc].toArray 69 (0, 0))).drew.heap.size := by show _ < (w6.alloc _).heap.size; rw [size_alloc]; omega
    have hf8' : ∀ g, (Value.slice a2 (ds1.length + 1) c2).ownBlock = some g → lv1.ownBlock = some g ∨ w6.heap.size < g + 1 ∧ g < w8.heap.size := fun g hg => (hf8 g hg).imp (fun h => h) (fun h => ⟨by omega, (own_ge ho8 hg).2⟩)
    clear hf8
    generalize (w6.alloc (.cells [.int .i64 o, .int .i64 (S1.done o + 1), .slice pa l.length pc].toArray 69 (0, 0))) = w7 at *
    simp (disch := omega) only [push_cast, Nat.reduceBEq, Nat.reduceEqDiff, Nat.reduceAdd, Nat.reduceMul, Nat.reduceSub, Nat.reduceLT, Int.reduceToNat, Int.reduceLT, Int.reduceLE, Int.reduceEq, Int.reduceAdd, Int.reduceSub, Int.reduceNeg, Int.reduceMul, p8.cell, p8.free]
    have u89 : Upd (fun b => b = p) w8 (w8.setCell ⟨p, 5, none⟩ (.slice a2 (ds1.length + 1) c2)) := Upd.set rfl
    have p9 := p8.set 5 (.slice a2 (ds1.length + 1) c2)
    have s9 : (w8.setCell ⟨p, 5, none⟩ (.slice a2 (ds1.length + 1) c2)).heap.size = w8.heap.size := size_set
    generalize (w8.setCell ⟨p, 5, none⟩ (.slice a2 (ds1.length + 1) c2)) = w9 at *
    have v69 : Upd (fun b => b = p ∨ lv1.ownBlock = some b) w6 w9 := (u68.mono (fun b _ h => .inr h)).trans u89 (fun _ _ h => .inl h)
    have u69 : Upd (Ft p mb db lv1) w6 w9 := v69.mono fun b _ h => h.elim .inl fun h => .inr (.inr (.inr h))
    have kp := h6.kp u69
    have hn2 : ∀ g, (Value.slice a2 (ds1.length + 1) c2).ownBlock = some g → g ≠ p := fun g hg => by
      rcases hf8' g hg with h | h
      · exact (d4 g h).1
      · have := h6.obj.lt; omega
    have h9 : PA base w9 p (delS S1 o l) mb db (.slice a2 (ds1.length + 1) c2) m (ds1 ++ [(((o : Int), S1.done o + 1), .slice pa l.length pc)]) := by
      refine ⟨p9, h6.map.upd v69 ?_, h6.nts.keep kp, h6.del.upd v69 ?_, ?_, ⟨by simp [delS, h6.lst.1], ?_⟩, h6.b1, h6.b2, h6.b3, h6.n12, h6.sn⟩
      · rintro (h | h)
        · exact d2 h.symm
        · exact (d4 _ h).2.1 rfl
      · rintro (h | h)
        · exact d1 h.symm
        · exact (d4 _ h).2.2 rfl
      · rw [List.length_append, List.flatMap_append]
        exact own_updB ho8 u89 hn2
      · intro j d hj
        rw [List.getElem?_append] at hj
        split at hj
        · rename_i hjl
          obtain ⟨l', e1, e2⟩ := h6.lst.2 j d hj
          refine ⟨l', ?_, e2.keep kp⟩
          show (S1.list ++ _)[j]? = _
          rw [List.getElem?_append_left (by have := h6.lst.1; simp only at this; omega)]
          exact e1
        · rename_i hjl
          have hj0 : j - ds1.length = 0 := by
            rw [List.getElem?_eq_some_iff] at hj
            obtain ⟨hj, _⟩ := hj
            simp at hj
            omega
          rw [hj0] at hj
          simp only [List.getElem?_cons_zero, Option.some.injEq] at hj
          subst hj
          refine ⟨l, ?_, ((hpv.keep (Kp.quiet u5)).keep (h5.kp (u6.mono fun b _ h => .inr (.inr (.inl h))))).keep kp⟩
          show (S1.list ++ _)[j]? = _
          have hle : ds1.length = S1.list.length := h6.lst.1
          rw [List.getElem?_append_right (by omega), ← hle, hj0]
          rfl
    have v19 : Upd (Ft p mb db lv1) w1 w9 := ((hu15.mono (fun _ _ h => h.elim)).trans (u6.mono (fun b _ h => .inr (.inr (.inl h)))) (fun _ _ h => h)).trans u69 (fun _ _ h => h)
    have hE : elig S1 o = some (l, D) := by rw [hel1, if_pos hmaj]
    have hrem := remS_del hE
    subst hKs
    rw [KS_nor]
    simp (disch := omega) only [push_cast, Nat.reduceBEq, Nat.reduceEqDiff, Nat.reduceAdd, Nat.reduceMul, Nat.reduceSub, Nat.reduceLT, Int.reduceToNat, Int.reduceLT, Int.reduceLE, Int.reduceEq, Int.reduceAdd, Int.reduceSub, Int.reduceNeg, Int.reduceMul]
    refine ⟨k - 1, by omega, true, delS S1 o l, _, _, rfl, h9, ?_, ?_, hn, hno, fun S2 h => hrun S2 (.step ho hE hno2 h), (fun h => by cases h), fun i => ?_, ?_, ?_⟩
    · refine hu.trans v19 fun b hb h => ?_
      rcases h with h | h | h | h
      · exact .inl h
      · exact .inr (.inl h)
      · exact .inr (.inr (.inl h))
      · rcases hfr b h with h | h
        · exact .inr (.inr (.inr h))
        · omega
    · intro g hg
      have := hu.size
      have := hu15.size
      have := u6.size
      rcases hf8' g hg with h | h
      · exact hfr g h
      · exact .inr (by omega)
    · have := hd i
      simp only [delS]
      split <;> simp <;> omega
    · simp only [delS, List.length_append, List.length_singleton] at hrem ⊢
      omega
    · simp only [if_true]
      omega
end Go.Proofs.Ytpgfokhpacdhjaa.Fd
