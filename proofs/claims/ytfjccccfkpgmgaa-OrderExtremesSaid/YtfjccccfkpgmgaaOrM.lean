/-
  The program's greatest matching (match), as a walk.
-/
import Derived.Test.YtfjccccfkpgmgaaOrL
namespace Go.Proofs.Ytfjccccfkpgmgaa.Fd
set_option linter.unusedSimpArgs false
set_option linter.unusedVariables false
open Go
set_option maxRecDepth 100000

structure GInv (E : Rel) (S : Nat → Bool) (a : Nat) (P Q : Mt) (C : Nat → Prop) : Prop where
  edge : ∀ b x, P b = some x → E x b = true
  inj : ∀ b b' x, P b = some x → P b' = some x → b = b'
  link : ∀ b x, P b = some x → Q x = some b
  rest : ∀ x, (¬ ∃ b, P b = some x) → Q x = none
  dom : ∀ b x, P b = some x → x < a ∧ S x = true
  shut : Shut E P C
  out : ∀ x, x < a → S x = true → Q x = none → ∀ b, E x b = true → C b
theorem GInv.start {E : Rel} {S : Nat → Bool} : GInv E S 0 (fun _ => none) (fun _ => none) (fun _ => False) :=
  ⟨fun _ _ h => (nomatch h), fun _ _ _ h => (nomatch h), fun _ _ h => (nomatch h), fun _ _ => rfl, fun _ _ h => (nomatch h), fun _ h => False.elim h, fun _ h => absurd h (Nat.not_lt_zero _)⟩
theorem GInv.pre {E : Rel} {S : Nat → Bool} {a : Nat} {P Q : Mt} {C : Nat → Prop} {seen : Nat → Bool} (h : GInv E S a P Q C) : TryPre E seen P Q a :=
  ⟨h.edge, fun b b' x _ _ => h.inj b b' x, fun b _ e => by have := (h.dom b a e).1; omega, fun b x _ => h.link b x⟩
theorem GInv.q {E : Rel} {S : Nat → Bool} {a : Nat} {P Q : Mt} {C : Nat → Prop} (h : GInv E S a P Q C) {x b : Nat} : Q x = some b ↔ P b = some x := by
  constructor
  · intro e
    by_cases hx : ∃ b, P b = some x
    · obtain ⟨b', hb⟩ := hx
      rw [h.link b' x hb] at e
      cases e
      exact hb
    · rw [h.rest x hx] at e; cases e
  · exact h.link b x
theorem GInv.skip {E : Rel} {S : Nat → Bool} {a : Nat} {P Q : Mt} {C : Nat → Prop} (h : GInv E S a P Q C) (hS : S a = false) : GInv E S (a + 1) P Q C :=
  ⟨h.edge, h.inj, h.link, h.rest, fun b x e => ⟨by have := (h.dom b x e).1; omega, (h.dom b x e).2⟩, h.shut, fun x hx h1 => by
    by_cases e : x = a
    · subst e; rw [hS] at h1; cases h1
    · exact h.out x (by omega) h1⟩
theorem GInv.free {E : Rel} {S : Nat → Bool} {a : Nat} {P Q : Mt} {C : Nat → Prop} (h : GInv E S a P Q C) : Q a = none :=
  h.rest a fun ⟨b, e⟩ => by have := (h.dom b a e).1; omega
theorem GInv.no {E : Rel} {S seen seen' : Nat → Bool} {a : Nat} {P Q : Mt} {C : Nat → Prop} (h : GInv E S a P Q C) (h0 : ∀ b, seen b = false) (hn : TryNo E seen P a seen') :
    GInv E S (a + 1) P Q (fun b => C b ∨ seen' b = true) :=
  ⟨h.edge, h.inj, h.link, h.rest, fun b x e => ⟨by have := (h.dom b x e).1; omega, (h.dom b x e).2⟩, fun b hb => by
    rcases hb with hb | hb
    · obtain ⟨x, h1, h2⟩ := h.shut b hb
      exact ⟨x, h1, fun b' hb' => .inl (h2 b' hb')⟩
    · obtain ⟨x, h1, h2⟩ := hn.shut b hb (h0 b)
      exact ⟨x, h1, fun b' hb' => .inr (h2 b' hb')⟩, fun x hx h1 h2 b hb => by
    by_cases e : x = a
    · subst e; exact .inr (hn.all b hb)
    · exact .inl (h.out x (by omega) h1 h2 b hb)⟩
theorem GInv.yes {E : Rel} {S seen seen' : Nat → Bool} {a : Nat} {P Q P' Q' : Mt} {C : Nat → Prop} (h : GInv E S a P Q C) (h0 : ∀ b, seen b = false) (hS : S a = true) (hy : TryYes E seen P Q a seen' P' Q') :
    GInv E S (a + 1) P' Q' C ∧ ∀ x, (Q' x).isSome = true ↔ (x = a ∨ (Q x).isSome = true) := by
  have himg : ∀ x, (∃ b, P' b = some x) ↔ (x = a ∨ ∃ b, P b = some x) := fun x => by
    have := hy.img x
    simpa [h0] using this
  have hrest : ∀ x, (¬ ∃ b, P' b = some x) → Q' x = none := fun x hx => by
    rw [hy.rest x (fun ⟨b, _, e⟩ => hx ⟨b, e⟩)]
    exact h.rest x fun hh => hx ((himg x).2 (.inr hh))
  refine ⟨⟨hy.edge, fun b b' x => hy.inj b b' x (h0 b) (h0 b'), fun b x => hy.link b x (h0 b), hrest, fun b x e => ?_, fun b hb => ?_, fun x hx h1 h2 b hb => ?_⟩, fun x => ?_⟩
  · rcases (himg x).1 ⟨b, e⟩ with rfl | ⟨b', e'⟩
    · exact ⟨by omega, hS⟩
    · have := h.dom b' x e'
      exact ⟨by omega, this.2⟩
  · obtain ⟨x, h1, h2⟩ := h.shut b hb
    exact ⟨x, by rw [(hy.shut C h.shut).1 b hb]; exact h1, h2⟩
  · have hno : ¬ ∃ b, P' b = some x := fun ⟨b', e⟩ => by rw [hy.link b' x (h0 b') e] at h2; cases h2
    have hxa : x ≠ a := fun e => hno ((himg x).2 (.inl e))
    exact h.out x (by omega) h1 (h.rest x fun hh => hno ((himg x).2 (.inr hh))) b hb
  · have e1 : (Q' x).isSome = true ↔ ∃ b, P' b = some x := by
      constructor
      · intro e
        apply Classical.byContradiction
        intro hno
        rw [hrest x hno] at e
        cases e
      · rintro ⟨b, e⟩
        rw [hy.link b x (h0 b) e]; rfl
    have e2 : (Q x).isSome = true ↔ ∃ b, P b = some x := by
      rw [Option.isSome_iff_exists]
      exact ⟨fun ⟨b, e⟩ => ⟨b, h.q.1 e⟩, fun ⟨b, e⟩ => ⟨b, h.q.2 e⟩⟩
    rw [e1, e2]
    exact himg x
def cntM (Q : Mt) : Nat := ((List.range 64).filter fun x => (Q x).isSome).length
theorem cntM_none : cntM (fun _ => none) = 0 := by decide
theorem cntM_yes {Q Q' : Mt} {a : Nat} (ha : a < 64) (h0 : Q a = none) (h : ∀ x, (Q' x).isSome = true ↔ (x = a ∨ (Q x).isSome = true)) : cntM Q' = cntM Q + 1 := by
  unfold cntM
  have key : ∀ k, ((List.range k).filter fun x => (Q' x).isSome).length = ((List.range k).filter fun x => (Q x).isSome).length + if a < k then 1 else 0 := by
    intro k
    induction k with
    | zero => simp
    | succ k ih =>
      rw [List.range_succ, List.filter_append, List.filter_append, List.length_append, List.length_append, ih]
      have hk := h k
      by_cases e : k = a
      · subst e
        have e1 : (Q' k).isSome = true := hk.2 (.inl rfl)
        simp [e1, h0]
      · have e1 : (Q' k).isSome = (Q k).isSome := by
          cases h1 : (Q k).isSome
          · cases h2 : (Q' k).isSome
            · rfl
            · rcases hk.1 h2 with h3 | h3
              · exact absurd h3 e
              · rw [h1] at h3; cases h3
          · exact hk.2 (.inr h1)
        simp only [List.filter_cons, List.filter_nil, e1]
        by_cases hlt : a < k
        · have i1 : (if a < k then 1 else 0) = 1 := if_pos hlt
          have i2 : (if a < k + 1 then 1 else 0) = 1 := if_pos (by omega)
          rw [i1, i2]; omega
        · have i1 : (if a < k then 1 else 0) = 0 := if_neg hlt
          have i2 : (if a < k + 1 then 1 else 0) = 0 := if_neg (by omega)
          rw [i1, i2]; omega
  rw [key 64, if_pos ha]

theorem alloc5 {w : World} {c1 c2 c3 c4 c5 : List Value} {E1 E2 E3 E4 E5 : TypeId} :
    Blk (((((w.alloc (.cells c1.toArray E1 (0, 0))).alloc (.cells c2.toArray E2 (0, 0))).alloc (.cells c3.toArray E3 (0, 0))).alloc (.cells c4.toArray E4 (0, 0))).alloc (.cells c5.toArray E5 (0, 0))) w.heap.size c1 E1 ∧
    Blk (((((w.alloc (.cells c1.toArray E1 (0, 0))).alloc (.cells c2.toArray E2 (0, 0))).alloc (.cells c3.toArray E3 (0, 0))).alloc (.cells c4.toArray E4 (0, 0))).alloc (.cells c5.toArray E5 (0, 0))) (w.heap.size + 1) c2 E2 ∧
    Blk (((((w.alloc (.cells c1.toArray E1 (0, 0))).alloc (.cells c2.toArray E2 (0, 0))).alloc (.cells c3.toArray E3 (0, 0))).alloc (.cells c4.toArray E4 (0, 0))).alloc (.cells c5.toArray E5 (0, 0))) (w.heap.size + 1 + 1) c3 E3 ∧
    Blk (((((w.alloc (.cells c1.toArray E1 (0, 0))).alloc (.cells c2.toArray E2 (0, 0))).alloc (.cells c3.toArray E3 (0, 0))).alloc (.cells c4.toArray E4 (0, 0))).alloc (.cells c5.toArray E5 (0, 0))) (w.heap.size + 1 + 1 + 1) c4 E4 ∧
    Blk (((((w.alloc (.cells c1.toArray E1 (0, 0))).alloc (.cells c2.toArray E2 (0, 0))).alloc (.cells c3.toArray E3 (0, 0))).alloc (.cells c4.toArray E4 (0, 0))).alloc (.cells c5.toArray E5 (0, 0))) (w.heap.size + 1 + 1 + 1 + 1) c5 E5 ∧
    Upd (fun _ => False) w (((((w.alloc (.cells c1.toArray E1 (0, 0))).alloc (.cells c2.toArray E2 (0, 0))).alloc (.cells c3.toArray E3 (0, 0))).alloc (.cells c4.toArray E4 (0, 0))).alloc (.cells c5.toArray E5 (0, 0))) ∧
    (((((w.alloc (.cells c1.toArray E1 (0, 0))).alloc (.cells c2.toArray E2 (0, 0))).alloc (.cells c3.toArray E3 (0, 0))).alloc (.cells c4.toArray E4 (0, 0))).alloc (.cells c5.toArray E5 (0, 0))).heap.size = w.heap.size + 5 :=
  ⟨(((Blk.new.alloc _).alloc _).alloc _).alloc _, (((Blk.newAt (by simp only [size_alloc])).alloc _).alloc _).alloc _, ((Blk.newAt (by simp only [size_alloc])).alloc _).alloc _, (Blk.newAt (by simp only [size_alloc])).alloc _, Blk.newAt (by simp only [size_alloc]),
    Upd.refl.alloc'.alloc'.alloc'.alloc'.alloc', by simp only [size_alloc]⟩
theorem alloc2 {w : World} {v v1 v2 : Value} {E1 E2 : TypeId} :
    Blk (((w.alloc (.cells [v1].toArray E1 (0, 0))).setCell ⟨w.heap.size, 0, none⟩ v).alloc (.cells [v2].toArray E2 (0, 0))) w.heap.size [v] E1 ∧
    Blk (((w.alloc (.cells [v1].toArray E1 (0, 0))).setCell ⟨w.heap.size, 0, none⟩ v).alloc (.cells [v2].toArray E2 (0, 0))) (w.heap.size + 1) [v2] E2 ∧
    Upd (fun _ => False) w (((w.alloc (.cells [v1].toArray E1 (0, 0))).setCell ⟨w.heap.size, 0, none⟩ v).alloc (.cells [v2].toArray E2 (0, 0))) :=
  ⟨(Blk.new.set 0 v).alloc _, Blk.newAt (by simp only [size_alloc, size_set]), (Upd.refl.alloc'.setNew (Nat.le_refl _)).alloc'⟩
theorem atL_below {j : Nat} : (atL 64 fun x => if x < j then -1 else 0).set j (.int .i64 (-1)) = atL 64 fun x => if x < j + 1 then (-1 : Int) else 0 := by
  rw [atL_set]
  congr 1
  funext x
  by_cases h : x = j
  · rw [if_pos h, if_pos (by omega)]
  · rw [if_neg h]
    by_cases h2 : x < j
    · rw [if_pos h2, if_pos (by omega)]
    · rw [if_neg h2, if_neg (by omega)]

theorem mtL_length {P : Mt} : (mtL P).length = 64 := atL_length
theorem mtL_one {P : Mt} : ∀ u ∈ mtL P, u.oneCell' = true := by
  intro u hu
  obtain ⟨x, _, rfl⟩ := List.mem_map.1 hu
  rfl
theorem ld_mt {w : World} {b : Nat} {P : Mt} {E : TypeId} (h : Blk w b (mtL P) E) : ldS Try.prog 60 (.pointer (some ⟨b, 0, none⟩)) w = some (.agg (mtL P).toArray, w) :=
  ld_blk h t60_k (by rw [mtL_length]; exact t60_s)
theorem st_mt {w : World} {b : Nat} {cs : List Value} {P : Mt} {E : TypeId} (h : Blk w b cs E) (hl : cs.length = 64) : stS Try.prog 60 (.pointer (some ⟨b, 0, none⟩)) (.agg (mtL P).toArray) w = some (undef, w.setRow b (mtL P).toArray) :=
  st_blk h (by rw [mtL_length]; exact t60_s) (by rw [mtL_length, hl]) mtL_one
theorem Blk.row {w : World} {b : Nat} {cs cs' : List Value} {E : TypeId} (h : Blk w b cs E) : Blk (w.setRow b cs'.toArray) b cs' E := h.setRow
abbrev frM (a b c : Nat) : FrM := ⟨a, b, a + 1, c, a + 1 + 1 + 1 + 1, c + 1, a + 1 + 1 + 1⟩
set_option maxHeartbeats 2000000 in
theorem match_ok {w : World} {b : Nat} {r : Nat → BitVec 64} {set : BitVec 64} (hb : Blk w b (tabL r) 53) :
    Ok (den Try.prog 45 #[.pointer (some ⟨b, 0, none⟩), U set] w) fun u w' =>
      ∃ P Q C, u = .tuple #[.agg (mtL Q).toArray, .int .i64 (cntM Q : Nat)] ∧ GInv (edg r set) (fun x => set.getLsbD x) 64 P Q C ∧ Upd (fun _ => False) w w' := by
  refine den_okC2 (args := [.pointer (some ⟨b, 0, none⟩), U set]) 4 60 5 Try.func45 rfl mixed in45 ok45 rfl ?_
  simp (disch := omega) only [push_cast, Nat.reduceBEq, Nat.reduceEqDiff, Nat.reduceAdd, Nat.reduceMul, Nat.reduceSub, Nat.reduceLT, Int.reduceToNat, Int.reduceLT, Int.reduceLE, Int.reduceEq, Int.reduceAdd, Int.reduceSub, Int.reduceNeg, Int.reduceMul]
  obtain ⟨h1, h2, h3, h4, h5, hu, hsz⟩ := alloc5 (w := w) (c1 := [.pointer (some ⟨b, 0, none⟩)]) (c2 := [U set]) (c3 := List.replicate 64 (.int .i64 0)) (c4 := List.replicate 64 (.int .i64 0)) (c5 := List.replicate 64 (.int .i64 0))
    (E1 := 73) (E2 := 51) (E3 := 60) (E4 := 60) (E5 := 60)
  simp only [U] at h2 hsz hu h1 h3 h4 h5
  generalize (((((w.alloc _).alloc _).alloc _).alloc _).alloc _) = w5 at *
  have hb5 := hb.upd hu (fun h => h)
  have hbl := hb.lt
  rw [atL_zero] at h4 h5
  refine loop_inv (I := fun m st w' => Bx (∃ j, m + j = 64 ∧ st = [.int .i64 (j : Int)] ∧ Upd (fun x => x = w.heap.size + 1 + 1 + 1 ∨ x = w.heap.size + 1 + 1 + 1 + 1) w5 w' ∧
    Blk w' (w.heap.size + 1 + 1 + 1) (atL 64 fun x => if x < j then -1 else 0) 60 ∧ Blk w' (w.heap.size + 1 + 1 + 1 + 1) (atL 64 fun x => if x < j then -1 else 0) 60) ⟨⟩) ?_ 64
    ⟨0, rfl, rfl, Upd.refl, by simpa using h4, by simpa using h5⟩
  rintro m st w' ⟨j, hmj, rfl, hu2, q4, q5⟩
  by_cases hm0 : m = 0
  rotate_left
  · have hj : j < 64 := by omega
    have c4 : (atL 64 fun x => if x < j then (-1 : Int) else 0)[j]? = some (.int .i64 (if j < j then -1 else 0)) := atL_get hj
    simp (disch := omega) only [push_cast, Nat.reduceBEq, Nat.reduceEqDiff, Nat.reduceAdd, Nat.reduceMul, Nat.reduceSub, Nat.reduceLT, Int.reduceToNat, Int.reduceLT, Int.reduceLE, Int.reduceEq, Int.reduceAdd, Int.reduceSub, Int.reduceNeg, Int.reduceMul, q4.cell, q5.cell, q4.free, q5.free, c4]
    have e4 := ((q4.set j (.int .i64 (-1))).other (a := ⟨w.heap.size + 1 + 1 + 1 + 1, j, none⟩) (.int .i64 (-1)) (by show w.heap.size + 1 + 1 + 1 + 1 ≠ _; omega))
    have e5 := ((q5.other (a := ⟨w.heap.size + 1 + 1 + 1, j, none⟩) (.int .i64 (-1)) (by show w.heap.size + 1 + 1 + 1 ≠ _; omega)).set j (.int .i64 (-1)))
    rw [atL_below] at e4 e5
    exact ⟨m - 1, by omega, j + 1, by omega, by simp, (hu2.setIn (.inl rfl)).setIn (.inr rfl), e4, e5⟩
  obtain rfl : j = 64 := by omega
  obtain ⟨p1, p2, p3⟩ := alloc2 (w := w') (v1 := .int .u64 0) (v := .int .u64 0) (v2 := .nilFunc) (E1 := 51) (E2 := 59)
  simp (disch := omega) only [push_cast, Nat.reduceBEq, Nat.reduceEqDiff, Nat.reduceAdd, Nat.reduceMul, Nat.reduceSub, Nat.reduceLT, Int.reduceToNat, Int.reduceLT, Int.reduceLE, Int.reduceEq, Int.reduceAdd, Int.reduceSub, Int.reduceNeg, Int.reduceMul, p2.cell, p2.free]
  have z : w5.heap.size ≤ w'.heap.size := hu2.size
  have zz : w.heap.size + 5 ≤ w'.heap.size := by omega
  have g : (frM w.heap.size b w'.heap.size).good := by
    refine ⟨?_, ?_, ?_, ?_, ?_, ?_, ?_⟩ <;> simp only [FrM.wr, frM] <;> omega
  have hwn : ∀ x, x < w.heap.size + 3 → ¬ (x = w.heap.size + 1 + 1 + 1 ∨ x = w.heap.size + 1 + 1 + 1 + 1) := by omega
  have eP : (atL 64 fun x => if x < 64 then (-1 : Int) else 0) = mtL fun _ => none := by
    unfold mtL atL
    apply List.map_congr_left
    intro x hx
    dsimp only
    rw [if_pos (List.mem_range.1 hx)]
    rfl
  rw [eP] at q4 q5
  have hT : TS ((((w'.alloc (.cells [.int .u64 0].toArray 51 (0, 0))).setCell ⟨w'.heap.size, 0, none⟩ (.int .u64 0)).alloc (.cells [.nilFunc].toArray 59 (0, 0))).setCell ⟨w'.heap.size + 1, 0, none⟩ (frM w.heap.size b w'.heap.size).fv) (frM w.heap.size b w'.heap.size) r set 0#64 (fun _ => none) (fun _ => none) := by
    refine ⟨?_, ?_, ?_, ?_, ?_, ?_, ?_⟩
    · exact (((h1.upd hu2 (hwn _ (by omega))).upd p3 (fun h => h)).other _ (by show w'.heap.size + 1 ≠ w.heap.size; omega))
    · exact (((hb5.upd hu2 (hwn _ (by omega))).upd p3 (fun h => h)).other _ (by show w'.heap.size + 1 ≠ b; omega))
    · exact (((h2.upd hu2 (hwn _ (by omega))).upd p3 (fun h => h)).other _ (by show w'.heap.size + 1 ≠ w.heap.size + 1; omega))
    · exact p1.other _ (by show w'.heap.size + 1 ≠ w'.heap.size; omega)
    · exact (q5.upd p3 (fun h => h)).other _ (by show w'.heap.size + 1 ≠ w.heap.size + 1 + 1 + 1 + 1; omega)
    · exact p2.set 0 _
    · exact (q4.upd p3 (fun h => h)).other _ (by show w'.heap.size + 1 ≠ w.heap.size + 1 + 1 + 1; omega)
  have e3 := (((h3.upd hu2 (hwn _ (by omega))).upd p3 (fun h => h)).other (a := ⟨w'.heap.size + 1, 0, none⟩) (frM w.heap.size b w'.heap.size).fv (by show w'.heap.size + 1 ≠ w.heap.size + 1 + 1; omega))
  have uF : Upd (fun _ => False) w ((((w'.alloc (.cells [.int .u64 0].toArray 51 (0, 0))).setCell ⟨w'.heap.size, 0, none⟩ (.int .u64 0)).alloc (.cells [.nilFunc].toArray 59 (0, 0))).setCell ⟨w'.heap.size + 1, 0, none⟩ (frM w.heap.size b w'.heap.size).fv) :=
    ((((hu.trans hu2 (F := fun _ => False) (fun b h1 h2 => by omega)).trans p3 (fun _ _ h => h))).setNew (by show w.heap.size ≤ w'.heap.size + 1; omega))
  simp only [FrM.fv, frM] at hT e3 uF
  generalize ((((w'.alloc _).setCell _ _).alloc _).setCell _ _) = w6 at hT e3 uF ⊢
  clear p1 p2 p3 h1 h2 h3 h4 h5 hb5 q4 q5 hu hu2
  refine loop_inv (I := fun m st w7 => Bx (∃ a P Q C sv, m + a = 64 ∧ st = [.int .i64 (cntM Q : Nat), .int .i64 (a : Int)] ∧ Upd (frM w.heap.size b w'.heap.size).wr w6 w7 ∧ TS w7 (frM w.heap.size b w'.heap.size) r set sv P Q ∧ GInv (edg r set) (fun x => set.getLsbD x) a P Q C) ⟨⟩) ?_ 64
    ⟨0, fun _ => none, fun _ => none, fun _ => False, 0#64, rfl, by rw [cntM_none]; rfl, Upd.refl, hT, GInv.start⟩
  clear hT
  rintro m st w7 ⟨a, P, Q, C, sv, hma, rfl, hu7, hT, hI⟩
  have k1 : w7.cell? ⟨w.heap.size + 1, 0, none⟩ = some (U set) := hT.hs.cell 0
  have k2 : w7.cell? ⟨w'.heap.size, 0, none⟩ = some (U sv) := hT.hn.cell 0
  have k3 : w7.frozen? ⟨w'.heap.size, 0, none⟩ = false := hT.hn.free 0
  have k4 : w7.cell? ⟨w'.heap.size + 1, 0, none⟩ = some (frM w.heap.size b w'.heap.size).fv := hT.hf.cell 0
  simp only [FrM.fv, frM] at k4
  simp only [U] at k1 k2
  by_cases hm0 : m = 0
  · obtain rfl : a = 64 := by omega
    have e7 := e3.upd hu7 (by simp only [FrM.wr, frM]; omega)
    have l1 := ld_mt (b := w.heap.size + 1 + 1 + 1) hT.hq
    have l2 := st_mt (P := Q) e7 (by simp)
    have l3 := ld_mt (e7.row (cs' := mtL Q))
    simp (disch := omega) only [push_cast, Nat.reduceBEq, Nat.reduceEqDiff, Nat.reduceAdd, Nat.reduceMul, Nat.reduceSub, Nat.reduceLT, Int.reduceToNat, Int.reduceLT, Int.reduceLE, Int.reduceEq, Int.reduceAdd, Int.reduceSub, Int.reduceNeg, Int.reduceMul, l1, l2, l3]
    refine ⟨P, Q, C, rfl, hI, (uF.trans hu7 (F := fun _ => False) (fun b h1 h2 => ?_)).trans (Upd.setRow (F := fun b => b = w.heap.size + 1 + 1) rfl) (fun b h1 h2 => by omega)⟩
    simp only [FrM.wr, frM] at h2
    omega
  have ha : a < 64 := by omega
  have n1 : ¬ w.heap.size + 1 = w'.heap.size := by omega
  have u8 := hu7.setIn (w1 := w7) (a := ⟨w'.heap.size, 0, none⟩) (v := .int .u64 0) (.inl rfl)
  have hT8 : TS (w7.setCell ⟨w'.heap.size, 0, none⟩ (.int .u64 0)) (frM w.heap.size b w'.heap.size) r set 0#64 P Q := hT.mark g (s' := 0#64)
  have s0 : ∀ x, sb 0#64 x = false := fun x => by simp [sb]
  cases hbit : set.getLsbD a
  · simp (disch := omega) only [push_cast, Nat.reduceBEq, Nat.reduceEqDiff, Nat.reduceAdd, Nat.reduceMul, Nat.reduceSub, Nat.reduceLT, Int.reduceToNat, Int.reduceLT, Int.reduceLE, Int.reduceEq, Int.reduceAdd, Int.reduceSub, Int.reduceNeg, Int.reduceMul, k1, k2, k3, k4, hbit, n1]
    exact ⟨m - 1, by omega, a + 1, P, Q, C, 0#64, by omega, by simp, u8, hT8, hI.skip hbit⟩
  · simp (disch := omega) only [push_cast, Nat.reduceBEq, Nat.reduceEqDiff, Nat.reduceAdd, Nat.reduceMul, Nat.reduceSub, Nat.reduceLT, Int.reduceToNat, Int.reduceLT, Int.reduceLE, Int.reduceEq, Int.reduceAdd, Int.reduceSub, Int.reduceNeg, Int.reduceMul, k1, k2, k3, k4, hbit, n1]
    refine Ok.use (try_ok g 64 0#64 P Q a _ (List.length_filter_le _ _) ha hT8 hI.pre (fun b x hx => by have := (hI.dom b x hx).1; omega)) ?_
    rintro v w9 ⟨u9, h⟩
    have u89 := u8.trans u9 (fun _ _ h => h)
    rcases h with ⟨rfl, s3, hT3, hno⟩ | ⟨rfl, s3, P3, Q3, hT3, hyes, h643⟩
    · simp (disch := omega) only [push_cast, Nat.reduceBEq, Nat.reduceEqDiff, Nat.reduceAdd, Nat.reduceMul, Nat.reduceSub, Nat.reduceLT, Int.reduceToNat, Int.reduceLT, Int.reduceLE, Int.reduceEq, Int.reduceAdd, Int.reduceSub, Int.reduceNeg, Int.reduceMul]
      exact ⟨m - 1, by omega, a + 1, P, Q, _, s3, by omega, by simp, u89, hT3, hI.no s0 hno⟩
    · obtain ⟨hI3, hc3⟩ := hI.yes s0 hbit hyes
      have hc := cntM_yes ha hI.free hc3
      have hcl : cntM Q ≤ 64 := List.length_filter_le _ _
      simp (disch := omega) only [push_cast, Nat.reduceBEq, Nat.reduceEqDiff, Nat.reduceAdd, Nat.reduceMul, Nat.reduceSub, Nat.reduceLT, Int.reduceToNat, Int.reduceLT, Int.reduceLE, Int.reduceEq, Int.reduceAdd, Int.reduceSub, Int.reduceNeg, Int.reduceMul]
      exact ⟨m - 1, by omega, a + 1, P3, Q3, C, s3, by omega, by simp [hc], u89, hT3, hI3⟩
end Go.Proofs.Ytfjccccfkpgmgaa.Fd
