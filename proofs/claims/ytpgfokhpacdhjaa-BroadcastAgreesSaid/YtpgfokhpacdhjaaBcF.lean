/-
  begin.
-/
import Derived.Test.YtpgfokhpacdhjaaBcE
namespace Go.Proofs.Ytpgfokhpacdhjaa.Fd
set_option linter.unusedSimpArgs false
set_option linter.unusedVariables false
open Go Go.ChangeMaps
set_option maxRecDepth 100000

def P0 (n i : Nat) : PS := ⟨n, i, 0, [], fun _ => 0, []⟩
def W0 (n : Nat) : Wd := ⟨n, P0 n, fun _ => [], fun _ => false, []⟩
theorem bld_world (w : World) : bldS Try.prog 37 #[] w = some (.agg #[.slice none 0 0, .slice none 0 0, .slice none 0 0, .slice none 0 0], w) := by kernel_rfl
theorem bsl_ptr (a : Option Addr) (w : World) : bslS Try.prog 32 1 #[(0, .pointer a)] w = some (.slice (some ⟨w.heap.size, 0, none⟩) 1 1, w.alloc (.cells [.pointer a].toArray 43 (0, 0))) := by kernel_rfl
theorem bsl_bb (a : Option Addr) (n c : Nat) (w : World) : bslS Try.prog 33 1 #[(0, .slice a n c)] w = some (.slice (some ⟨w.heap.size, 0, none⟩) 1 1, w.alloc (.cells [.slice a n c].toArray 41 (0, 0))) := by kernel_rfl
theorem bsl_bool1 (b : Bool) (w : World) : bslS Try.prog 34 1 #[(0, .bool b)] w = some (.slice (some ⟨w.heap.size, 0, none⟩) 1 1, w.alloc (.cells [.bool b].toArray 4 (0, 0))) := by kernel_rfl
structure WB (base B : Nat) (w : World) (a n i : Nat) (allV sentV downV : Value) (p mb db : Nat → Nat) : Prop where
  obj : Blk w a [allV, sentV, downV, .slice none 0 0] tW
  ba : base ≤ a
  all : w.ownsRow B 43 1 allV i (rowN i fun i => .pointer (some ⟨p i, 0, none⟩))
  pr : ∀ j, j < i → PA base w (p j) (P0 n j) (mb j) (db j) (.slice none 0 0) [] []
  dis : ∀ j k, j < i → k < i → j ≠ k → ∀ b, Ft (p j) (mb j) (db j) (.slice none 0 0) b → ¬ Ft (p k) (mb k) (db k) (.slice none 0 0) b
  snt : w.ownsRow B 41 1 sentV i (rowN i fun _ => .slice none 0 0)
  dwn : w.ownsRow B 4 1 downV i (rowN i fun _ => .bool false)
/-- A write to the rows. -/
theorem WB.keep {base B : Nat} {w w' : World} {a n i : Nat} {allV sentV downV : Value} {p mb db : Nat → Nat} (h : WB base B w a n i allV sentV downV p mb db) {F : Nat → Prop} (u : Upd F w w') (hF : ∀ b, F b → base ≤ b ∧ ∃ E, Knd w b E ∧ (E = tW ∨ E = 43 ∨ E = 41 ∨ E = 4)) :
    ∀ j, j < i → PA base w' (p j) (P0 n j) (mb j) (db j) (.slice none 0 0) [] [] := fun j hj => by
  refine (h.pr j hj).frame u (fun b hb hf => ?_) (kp_kind u fun b hb => ?_)
  · obtain ⟨_, E, hk, hE⟩ := hF b hb
    rcases (h.pr j hj).kind hf hk with e | e | e <;> rcases hE with e' | e' | e' | e' <;> exact absurd (e.symm.trans e') (by decide)
  · obtain ⟨h1, E, hk, hE⟩ := hF b hb
    refine ⟨h1, E, hk, ?_⟩
    rcases hE with e' | e' | e' | e' <;> rw [e'] <;> decide
set_option maxHeartbeats 4000000 in
theorem begin_ok {base : Nat} {w : World} (hb : base ≤ w.heap.size) (n : Nat) (hn : 1 ≤ n ∧ n ≤ 12) :
    Ok (den Try.prog 8 #[.int .i64 (n : Int)] w) fun v w' => ∃ H, v = .pointer (some ⟨H.a, 0, none⟩) ∧ WR base w' H (W0 n) ∧ Upd (fun _ => False) w w' := by
  refine den_ok (args := [.int .i64 (n : Int)]) rs8 Try.func8 rfl mixed in8 ok8 rfl ?_
  rw [W_seq]
  generalize hKs : KS _ _ _ _ _ = Ks
  simp (disch := omega) only [push_cast, Nat.reduceBEq, Nat.reduceEqDiff, Nat.reduceAdd, Nat.reduceMul, Nat.reduceSub, Nat.reduceLT, Int.reduceToNat, Int.reduceLT, Int.reduceLE, Int.reduceEq, Int.reduceAdd, Int.reduceSub, Int.reduceNeg, Int.reduceMul]
  subst hKs
  rw [KS_nor]
  simp (disch := omega) only [push_cast, Nat.reduceBEq, Nat.reduceEqDiff, Nat.reduceAdd, Nat.reduceMul, Nat.reduceSub, Nat.reduceLT, Int.reduceToNat, Int.reduceLT, Int.reduceLE, Int.reduceEq, Int.reduceAdd, Int.reduceSub, Int.reduceNeg, Int.reduceMul, bld_world]
  have c1 := Blk.new (w := w) (cs := [.slice none 0 0, .slice none 0 0, .slice none 0 0, .slice none 0 0]) (E := tW)
  have u1 : Upd (fun _ => False) w (w.alloc (.cells [.slice none 0 0, .slice none 0 0, .slice none 0 0, .slice none 0 0].toArray tW (0, 0))) := Upd.alloc
  refine loop_inv (I := fun k st w' => Bx (∃ (i : Nat) (allV sentV downV : Value) (p mb db : Nat → Nat), k + i = n ∧ st = [.int .i64 (i : Int)] ∧ WB base w.heap.size w' w.heap.size n i allV sentV downV p mb db ∧ Upd (fun _ => False) w w') ⟨⟩) ?_ n ⟨0, .slice none 0 0, .slice none 0 0, .slice none 0 0, fun _ => 0, fun _ => 0, fun _ => 0, rfl, rfl, ⟨c1, hb, World.ownsRow_nil _ _ _ _, fun j hj => by omega, fun j k hj => by omega, World.ownsRow_nil _ _ _ _, World.ownsRow_nil _ _ _ _⟩, u1⟩
  clear c1 u1
  rintro k st w1 ⟨i, allV, sentV, downV, p, mb, db, hk, rfl, h1, u1⟩
  by_cases hk0 : k = 0
  · obtain rfl : i = n := by omega
    simp (disch := omega) only [push_cast, Nat.reduceBEq, Nat.reduceEqDiff, Nat.reduceAdd, Nat.reduceMul, Nat.reduceSub, Nat.reduceLT, Int.reduceToNat, Int.reduceLT, Int.reduceLE, Int.reduceEq, Int.reduceAdd, Int.reduceSub, Int.reduceNeg, Int.reduceMul]
    have toB : ∀ {E s n : Nat} {v : Value} {xs : List Value}, w1.ownsRow w.heap.size E s v n xs → w1.ownsRow base E s v n xs := fun h => own_ofB (own_to0 h) fun g hg => by have := (own_ge h hg).1; omega
    refine ⟨⟨w.heap.size, allV, sentV, downV, .slice none 0 0, p, mb, db, fun _ => .slice none 0 0, fun _ => [], fun _ => [], fun _ => .slice none 0 0, fun _ => []⟩, rfl, ⟨h1.obj, h1.ba, hn.2, toB h1.all, h1.pr, fun j hj => ⟨rfl, rfl⟩, h1.dis, toB h1.snt, fun j hj => ⟨World.ownsRow_nil _ _ _ _, ⟨rfl, fun j v hj => by simp at hj⟩⟩, fun j k _ _ _ g hg => (by cases hg), toB h1.dwn, OwnK.nil⟩, u1⟩
  have hi : i < n := by omega
  simp (disch := omega) only [push_cast, Nat.reduceBEq, Nat.reduceEqDiff, Nat.reduceAdd, Nat.reduceMul, Nat.reduceSub, Nat.reduceLT, Int.reduceToNat, Int.reduceLT, Int.reduceLE, Int.reduceEq, Int.reduceAdd, Int.reduceSub, Int.reduceNeg, Int.reduceMul]
  refine Ok.use (New_ok (base := base) (by have := u1.size; omega) (n : Int) (i : Int)) ?_
  rintro v w2 ⟨hu2, hv⟩
  rw [if_pos (by omega)] at hv
  obtain ⟨q, qm, qd, rfl, hq, q1, q2, q3⟩ := hv
  obtain ⟨aa, ac, rfl⟩ := own_slice h1.all
  obtain ⟨sa, sc, rfl⟩ := own_slice h1.snt
  obtain ⟨da, dc, rfl⟩ := own_slice h1.dwn
  have o2 := h1.obj.upd hu2 (fun h => h)
  -- all
  have hall2 := own_updB h1.all hu2 (fun _ _ h => h)
  have hsnt2 := own_updB h1.snt hu2 (fun _ _ h => h)
  have hdwn2 := own_updB h1.dwn hu2 (fun _ _ h => h)
  have sz1 := u1.size
  have sz2 := hu2.size
  have bw3 := Blk.new (w := w2) (cs := [.pointer (some ⟨q, 0, none⟩)]) (E := 43)
  have uw3 : Upd (fun _ => False) w2 (w2.alloc (.cells [.pointer (some ⟨q, 0, none⟩)].toArray 43 (0, 0))) := Upd.alloc
  have ow3 := o2.upd uw3 (fun h => h)
  have szw3 := uw3.size
  simp (disch := omega) only [push_cast, Nat.reduceBEq, Nat.reduceEqDiff, Nat.reduceAdd, Nat.reduceMul, Nat.reduceSub, Nat.reduceLT, Int.reduceToNat, Int.reduceLT, Int.reduceLE, Int.reduceEq, Int.reduceAdd, Int.reduceSub, Int.reduceNeg, Int.reduceMul, o2.cell, bsl_ptr, ow3.cell]
  refine app_rec (s := 1) (by_ := 8) t32_e t43_s t43_b t43_z rfl (by omega) (own_updB hall2 uw3 (fun _ _ h => h)) rfl (by omega) bw3 (by intro u hu; simp at hu; subst hu; rfl) (by omega) (by omega) ?_
  intro vw4 w4 rw4 huw4 hfw4
  obtain ⟨aw4, cw4, rfl⟩ := own_slice rw4
  rw [rowN_succ] at rw4
  have hkw4 : ∀ g, (Value.slice aa i ac).ownBlock = some g → Knd w2 g 43 := fun g hg => own_ty hall2 hg
  have uxw4 : Upd (fun b => (Value.slice aa i ac).ownBlock = some b) w2 w4 := (uw3.mono (fun _ _ h => h.elim)).trans huw4 (fun _ _ h => h)
  have ow4 := o2.upd uxw4 (fun e => (hkw4 _ e).ne ⟨_, o2⟩ (by decide))
  simp (disch := omega) only [push_cast, Nat.reduceBEq, Nat.reduceEqDiff, Nat.reduceAdd, Nat.reduceMul, Nat.reduceSub, Nat.reduceLT, Int.reduceToNat, Int.reduceLT, Int.reduceLE, Int.reduceEq, Int.reduceAdd, Int.reduceSub, Int.reduceNeg, Int.reduceMul, o2.cell, bsl_ptr, ow3.cell, ow4.cell, ow4.free]
  have usw5 : Upd (fun b => b = w.heap.size) w4 (w4.setCell ⟨w.heap.size, 0, none⟩ (.slice aw4 (i + 1) cw4)) := Upd.set rfl
  have ow5 := ow4.set 0 (.slice aw4 (i + 1) cw4)
  have rw5 := own_updB rw4 usw5 (fun g hg e => by obtain ⟨cs, hk⟩ := own_ty rw4 hg; rw [e] at hk; exact absurd (hk.ty ow4) (by decide))
  generalize w4.setCell ⟨w.heap.size, 0, none⟩ (.slice aw4 (i + 1) cw4) = w5 at *
  have utw5 : Upd (fun b => b = w.heap.size ∨ (Value.slice aa i ac).ownBlock = some b) w2 w5 := (uxw4.mono (fun _ _ h => .inr h)).trans usw5 (fun _ _ h => .inl h)
  have hkOw5 : Knd w2 w.heap.size tW := ⟨_, o2⟩
  have hnew5 : ∀ b E, Knd w2 b E → E ≠ tW → E ≠ 43 → ¬ (b = w.heap.size ∨ (Value.slice aa i ac).ownBlock = some b) := fun b E hk e1 e2 h => h.elim (fun h => by subst h; exact hk.ne hkOw5 e1) (fun h => hk.ne (hkw4 _ h) e2)
  have szw5 := utw5.size
  simp only [List.set_cons_zero, List.set_cons_succ] at ow5
  have hsnt5 := own_updB hsnt2 utw5 (fun g hg => hnew5 g _ (own_ty hsnt2 hg) (by decide) (by decide))
  have hdwn5 := own_updB hdwn2 utw5 (fun g hg => hnew5 g _ (own_ty hdwn2 hg) (by decide) (by decide))
  have bw6 := Blk.new (w := w5) (cs := [.slice none 0 0]) (E := 41)
  have uw6 : Upd (fun _ => False) w5 (w5.alloc (.cells [.slice none 0 0].toArray 41 (0, 0))) := Upd.alloc
  have ow6 := ow5.upd uw6 (fun h => h)
  have szw6 := uw6.size
  simp (disch := omega) only [push_cast, Nat.reduceBEq, Nat.reduceEqDiff, Nat.reduceAdd, Nat.reduceMul, Nat.reduceSub, Nat.reduceLT, Int.reduceToNat, Int.reduceLT, Int.reduceLE, Int.reduceEq, Int.reduceAdd, Int.reduceSub, Int.reduceNeg, Int.reduceMul, ow5.cell, bsl_bb, ow6.cell]
  refine app_rec (s := 1) (by_ := 24) t33_e t41_s t41_b t41_z rfl (by omega) (own_updB hsnt5 uw6 (fun _ _ h => h)) rfl (by omega) bw6 (by intro u hu; simp at hu; subst hu; rfl) (by omega) (by omega) ?_
  intro vw7 w7 rw7 huw7 hfw7
  obtain ⟨aw7, cw7, rfl⟩ := own_slice rw7
  rw [rowN_succ] at rw7
  have hkw7 : ∀ g, (Value.slice sa i sc).ownBlock = some g → Knd w5 g 41 := fun g hg => own_ty hsnt5 hg
  have uxw7 : Upd (fun b => (Value.slice sa i sc).ownBlock = some b) w5 w7 := (uw6.mono (fun _ _ h => h.elim)).trans huw7 (fun _ _ h => h)
  have ow7 := ow5.upd uxw7 (fun e => (hkw7 _ e).ne ⟨_, ow5⟩ (by decide))
  simp (disch := omega) only [push_cast, Nat.reduceBEq, Nat.reduceEqDiff, Nat.reduceAdd, Nat.reduceMul, Nat.reduceSub, Nat.reduceLT, Int.reduceToNat, Int.reduceLT, Int.reduceLE, Int.reduceEq, Int.reduceAdd, Int.reduceSub, Int.reduceNeg, Int.reduceMul, ow5.cell, bsl_bb, ow6.cell, ow7.cell, ow7.free]
  have usw8 : Upd (fun b => b = w.heap.size) w7 (w7.setCell ⟨w.heap.size, 1, none⟩ (.slice aw7 (i + 1) cw7)) := Upd.set rfl
  have ow8 := ow7.set 1 (.slice aw7 (i + 1) cw7)
  have rw8 := own_updB rw7 usw8 (fun g hg e => by obtain ⟨cs, hk⟩ := own_ty rw7 hg; rw [e] at hk; exact absurd (hk.ty ow7) (by decide))
  generalize w7.setCell ⟨w.heap.size, 1, none⟩ (.slice aw7 (i + 1) cw7) = w8 at *
  have utw8 : Upd (fun b => b = w.heap.size ∨ (Value.slice sa i sc).ownBlock = some b) w5 w8 := (uxw7.mono (fun _ _ h => .inr h)).trans usw8 (fun _ _ h => .inl h)
  have hkOw8 : Knd w5 w.heap.size tW := ⟨_, ow5⟩
  have hnew8 : ∀ b E, Knd w5 b E → E ≠ tW → E ≠ 41 → ¬ (b = w.heap.size ∨ (Value.slice sa i sc).ownBlock = some b) := fun b E hk e1 e2 h => h.elim (fun h => by subst h; exact hk.ne hkOw8 e1) (fun h => hk.ne (hkw7 _ h) e2)
  have szw8 := utw8.size
  simp only [List.set_cons_zero, List.set_cons_succ] at ow8
  have hall8 := own_updB rw5 utw8 (fun g hg => hnew8 g _ (own_ty rw5 hg) (by decide) (by decide))
  have hdwn8 := own_updB hdwn5 utw8 (fun g hg => hnew8 g _ (own_ty hdwn5 hg) (by decide) (by decide))
  have bw9 := Blk.new (w := w8) (cs := [.bool false]) (E := 4)
  have uw9 : Upd (fun _ => False) w8 (w8.alloc (.cells [.bool false].toArray 4 (0, 0))) := Upd.alloc
  have ow9 := ow8.upd uw9 (fun h => h)
  have szw9 := uw9.size
  simp (disch := omega) only [push_cast, Nat.reduceBEq, Nat.reduceEqDiff, Nat.reduceAdd, Nat.reduceMul, Nat.reduceSub, Nat.reduceLT, Int.reduceToNat, Int.reduceLT, Int.reduceLE, Int.reduceEq, Int.reduceAdd, Int.reduceSub, Int.reduceNeg, Int.reduceMul, ow8.cell, bsl_bool1, ow9.cell]
  refine app_rec (s := 1) (by_ := 1) t34_e t4_s t4_b t4_z rfl (by omega) (own_updB hdwn8 uw9 (fun _ _ h => h)) rfl (by omega) bw9 (by intro u hu; simp at hu; subst hu; rfl) (by omega) (by omega) ?_
  intro vwA wA rwA huwA hfwA
  obtain ⟨awA, cwA, rfl⟩ := own_slice rwA
  rw [rowN_succ] at rwA
  have hkwA : ∀ g, (Value.slice da i dc).ownBlock = some g → Knd w8 g 4 := fun g hg => own_ty hdwn8 hg
  have uxwA : Upd (fun b => (Value.slice da i dc).ownBlock = some b) w8 wA := (uw9.mono (fun _ _ h => h.elim)).trans huwA (fun _ _ h => h)
  have owA := ow8.upd uxwA (fun e => (hkwA _ e).ne ⟨_, ow8⟩ (by decide))
  simp (disch := omega) only [push_cast, Nat.reduceBEq, Nat.reduceEqDiff, Nat.reduceAdd, Nat.reduceMul, Nat.reduceSub, Nat.reduceLT, Int.reduceToNat, Int.reduceLT, Int.reduceLE, Int.reduceEq, Int.reduceAdd, Int.reduceSub, Int.reduceNeg, Int.reduceMul, ow8.cell, bsl_bool1, ow9.cell, owA.cell, owA.free]
  have uswB : Upd (fun b => b = w.heap.size) wA (wA.setCell ⟨w.heap.size, 2, none⟩ (.slice awA (i + 1) cwA)) := Upd.set rfl
  have owB := owA.set 2 (.slice awA (i + 1) cwA)
  have rwB := own_updB rwA uswB (fun g hg e => by obtain ⟨cs, hk⟩ := own_ty rwA hg; rw [e] at hk; exact absurd (hk.ty owA) (by decide))
  generalize wA.setCell ⟨w.heap.size, 2, none⟩ (.slice awA (i + 1) cwA) = wB at *
  have utwB : Upd (fun b => b = w.heap.size ∨ (Value.slice da i dc).ownBlock = some b) w8 wB := (uxwA.mono (fun _ _ h => .inr h)).trans uswB (fun _ _ h => .inl h)
  have hkOwB : Knd w8 w.heap.size tW := ⟨_, ow8⟩
  have hnewB : ∀ b E, Knd w8 b E → E ≠ tW → E ≠ 4 → ¬ (b = w.heap.size ∨ (Value.slice da i dc).ownBlock = some b) := fun b E hk e1 e2 h => h.elim (fun h => by subst h; exact hk.ne hkOwB e1) (fun h => hk.ne (hkwA _ h) e2)
  have szwB := utwB.size
  simp only [List.set_cons_zero, List.set_cons_succ] at owB
  have hallB := own_updB hall8 utwB (fun g hg => hnewB g _ (own_ty hall8 hg) (by decide) (by decide))
  have hsntB := own_updB rw8 utwB (fun g hg => hnewB g _ (own_ty rw8 hg) (by decide) (by decide))
  have e0 : ∀ (f : Nat → Nat) (x : Nat) (j : Nat), j < i → upd f i x j = f j := fun f x j hj => upd_other (by omega)
  have u2B : Upd (fun b => w2.heap.size ≤ b ∨ b = w.heap.size ∨ (Value.slice aa i ac).ownBlock = some b ∨ (Value.slice sa i sc).ownBlock = some b ∨ (Value.slice da i dc).ownBlock = some b) w2 wB := ((utw5.mono (fun b _ h => .inr (h.elim .inl (fun h => .inr (.inl h))))).trans utw8 (fun b _ h => .inr (h.elim .inl (fun h => .inr (.inr (.inl h)))))).trans utwB (fun b _ h => .inr (h.elim .inl (fun h => .inr (.inr (.inr h)))))
  have hF2 : ∀ b, b < w2.heap.size → (w2.heap.size ≤ b ∨ b = w.heap.size ∨ (Value.slice aa i ac).ownBlock = some b ∨ (Value.slice sa i sc).ownBlock = some b ∨ (Value.slice da i dc).ownBlock = some b) → base ≤ b ∧ ∃ E, Knd w2 b E ∧ (E = tW ∨ E = 43 ∨ E = 41 ∨ E = 4) := by
    rintro b hbl (h | rfl | h | h | h)
    · omega
    · exact ⟨hb, _, ⟨_, o2⟩, .inl rfl⟩
    · exact ⟨by have := (own_ge hall2 h).1; omega, _, own_ty hall2 h, .inr (.inl rfl)⟩
    · exact ⟨by have := (own_ge hsnt2 h).1; omega, _, own_ty hsnt2 h, .inr (.inr (.inl rfl))⟩
    · exact ⟨by have := (own_ge hdwn2 h).1; omega, _, own_ty hdwn2 h, .inr (.inr (.inr rfl))⟩
  have u2C : Upd (fun b => b < w2.heap.size ∧ (w2.heap.size ≤ b ∨ b = w.heap.size ∨ (Value.slice aa i ac).ownBlock = some b ∨ (Value.slice sa i sc).ownBlock = some b ∨ (Value.slice da i dc).ownBlock = some b)) w2 wB := u2B.mono fun b hb h => ⟨hb, h⟩
  have hF3 := fun b (h : b < w2.heap.size ∧ (w2.heap.size ≤ b ∨ b = w.heap.size ∨ (Value.slice aa i ac).ownBlock = some b ∨ (Value.slice sa i sc).ownBlock = some b ∨ (Value.slice da i dc).ownBlock = some b)) => hF2 b h.1 h.2
  have kpB : Kp base w2 wB := kp_kind u2C fun b hb => by
    obtain ⟨h1, E, hk, hE⟩ := hF3 b hb
    refine ⟨h1, E, hk, ?_⟩
    rcases hE with e' | e' | e' | e' <;> rw [e'] <;> decide
  have fr : ∀ {p' : Nat} {S' : PS} {mb' db' : Nat}, PA base w2 p' S' mb' db' (.slice none 0 0) [] [] → PA base wB p' S' mb' db' (.slice none 0 0) [] [] := fun hp => hp.frame u2C (fun b hb hf => by
    obtain ⟨_, E, hk, hE⟩ := hF3 b hb
    rcases hp.kind hf hk with e | e | e <;> rcases hE with e' | e' | e' | e' <;> exact absurd (e.symm.trans e') (by decide)) kpB
  have hold : ∀ j, j < i → ∀ b, Ft (p j) (mb j) (db j) (.slice none 0 0) b → b < w1.heap.size := fun j hj b hb => (h1.pr j hj).old hb
  have hnew : ∀ b, Ft q qm qd (.slice none 0 0) b → w1.heap.size ≤ b := by
    rintro b (rfl | rfl | rfl | h)
    · exact q1
    · exact q2
    · exact q3
    · cases h
  refine ⟨k - 1, by omega, i + 1, _, _, _, upd p i q, upd mb i qm, upd db i qd, by omega, by simp, ⟨owB, hb, ?_, ?_, ?_, ?_, ?_⟩, ?_⟩
  · refine Eq.mp ?_ hallB
    congr 1
    refine rowN_congr fun j hj => ?_
    by_cases e : j = i
    · subst e; rw [upd_same, upd_same]
    · rw [upd_other e, upd_other e]
  · intro j hj
    by_cases e : j = i
    · subst e
      simp only [upd_same]
      have := fr hq
      simpa [P0] using this
    · have hj' : j < i := by omega
      simp only [upd_other e]
      exact fr ((h1.pr j hj').quiet hu2)
  · intro j l hj hl hjl b hb hb'
    by_cases e : j = i
    · subst e
      simp only [upd_same] at hb
      have hl' : l < j := by omega
      simp only [upd_other (Ne.symm hjl)] at hb'
      have := hnew b hb
      have := hold l hl' b hb'
      omega
    · simp only [upd_other e] at hb
      by_cases e2 : l = i
      · subst e2
        simp only [upd_same] at hb'
        have := hnew b hb'
        have := hold j (by omega) b hb
        omega
      · simp only [upd_other e2] at hb'
        exact h1.dis j l (by omega) (by omega) hjl b hb hb'
  · refine Eq.mp ?_ hsntB
    congr 1
    refine rowN_congr fun j hj => ?_
    by_cases e : j = i
    · subst e; rw [upd_same]
    · rw [upd_other e]
  · refine Eq.mp ?_ rwB
    congr 1
    refine rowN_congr fun j hj => ?_
    by_cases e : j = i
    · subst e; rw [upd_same]
    · rw [upd_other e]
  · refine (u1.trans hu2 (fun _ _ h => h)).trans u2B (fun b hbl h => ?_)
    rcases h with h | h | h | h | h
    · omega
    · omega
    · have := (own_ge hall2 h).1; omega
    · have := (own_ge hsnt2 h).1; omega
    · have := (own_ge hdwn2 h).1; omega
end Go.Proofs.Ytpgfokhpacdhjaa.Fd
