/-
  The law DiskAtomic, as a reading: the walk.
-/
import Derived.Test.YtdekhojafpkgfaaDkG
namespace Go.Proofs.Ytdekhojafpkgfaa.Fd
set_option linter.unusedSimpArgs false
set_option linter.unusedVariables false
open Go Go.ChangeMaps
set_option maxRecDepth 100000

theorem At.turn {w0 w w' : World} {F G : Nat → Prop} {p : Nat} {d : DS} (h : At w0 w F p d) (hu : Upd G w w') (h1 : ∀ b, F b → ¬ G b) (h2 : ∀ b, G b → w0.heap.size ≤ b) : At w0 w' F p d :=
  ⟨h.disk.upd hu h1, h.fresh, h.upd.trans hu fun b hb hg => by have := h2 b hg; omega⟩
theorem Wr2.fresh {w0 w : World} {F : Nat → Prop} {q n : Nat} {rows : Nat → RowP} (h : MayAt w0 w F q n rows) (hF : ∀ b, F b → w0.heap.size ≤ b) {b : Nat} (hb : Wr2 F q n rows b) : w0.heap.size ≤ b := by
  rcases hb with hb | rfl | ⟨k, hk, rfl⟩
  · exact hF b hb
  · exact h.qF.2
  · exact (h.apart k hk).2.2
theorem MayAt.get {w0 w : World} {F : Nat → Prop} {q n : Nat} {rows : Nat → RowP} (h : MayAt w0 w F q n rows) {k : Nat} (hk : k < n) : w.cell? ⟨q, k, none⟩ = some (.slice (some ⟨(rows k).g, (rows k).o, none⟩) (rows k).els.length (rows k).cap) := by
  rw [h.head.cell, List.getElem?_map, List.getElem?_range hk]
  rfl

theorem mayBe_len {d : DS} {k : Nat} : (mayBe d k).length ≤ d.cache.length + 1 := by
  unfold mayBe wrTo
  rw [List.length_cons, List.length_map]
  have := List.length_filter_le (fun x : Nat × List Int => x.1 == k) d.cache
  omega
set_option maxHeartbeats 4000000 in
theorem diskAtomic_ok {w : World} (x y : Int) {v vk : Value} {ops : List OpS} {keep : List Bool} (hv : SlO w v ops) (hkeep : SlT w (fun b => w.heap.size ≤ b) vk keep) :
    Ok (den Try.prog 5 #[.int .i64 x, .int .i64 y, v, vk] w) fun v w' => v = .bool true ∧ Upd (fun _ => False) w w' := by
  obtain ⟨a, c, rfl, hl⟩ := hv
  refine den_ok (args := [.int .i64 x, .int .i64 y, .slice a ops.length c, vk]) rs5 Try.func5 rfl mixed in5 ok5 rfl ?_
  simp (disch := omega) only [push_cast, Nat.reduceBEq, Nat.reduceEqDiff, Nat.reduceAdd, Nat.reduceMul, Nat.reduceSub, Nat.reduceLT, Int.reduceToNat, Int.reduceLT, Int.reduceLE, Int.reduceEq, Int.reduceAdd, Int.reduceSub, Int.reduceNeg, Int.reduceMul]
  refine Ok.use awake_ok ?_
  rintro v w1 ⟨rfl, hu1⟩
  simp (disch := omega) only [push_cast, Nat.reduceBEq, Nat.reduceEqDiff, Nat.reduceAdd, Nat.reduceMul, Nat.reduceSub, Nat.reduceLT, Int.reduceToNat, Int.reduceLT, Int.reduceLE, Int.reduceEq, Int.reduceAdd, Int.reduceSub, Int.reduceNeg, Int.reduceMul]
  refine Ok.use (small_ok x y) ?_
  rintro v w' ⟨rfl, rfl⟩
  by_cases hsm : 1 ≤ x ∧ x ≤ 8 ∧ 16 ≤ y ∧ y ≤ 40 ∧ ops.length ≤ 60
  rotate_left
  · rw [decide_eq_false hsm]
    simp (disch := omega) only [push_cast, Nat.reduceBEq, Nat.reduceEqDiff, Nat.reduceAdd, Nat.reduceMul, Nat.reduceSub, Nat.reduceLT, Int.reduceToNat, Int.reduceLT, Int.reduceLE, Int.reduceEq, Int.reduceAdd, Int.reduceSub, Int.reduceNeg, Int.reduceMul]
    exact hu1
  rw [decide_eq_true hsm]
  obtain ⟨g1, g2, g3, g4, g5⟩ := hsm
  obtain ⟨n, rfl⟩ := Int.eq_ofNat_of_zero_le (a := x) (by omega)
  obtain ⟨s, rfl⟩ := Int.eq_ofNat_of_zero_le (a := y) (by omega)
  simp (disch := omega) only [push_cast, Nat.reduceBEq, Nat.reduceEqDiff, Nat.reduceAdd, Nat.reduceMul, Nat.reduceSub, Nat.reduceLT, Int.reduceToNat, Int.reduceLT, Int.reduceLE, Int.reduceEq, Int.reduceAdd, Int.reduceSub, Int.reduceNeg, Int.reduceMul]
  refine Ok.use (new_ok (n := n) (size := s) (by omega) (by omega) (by omega) (by omega)) ?_
  rintro v w2 ⟨p, rfl, h, hu⟩
  have a1 : At w w2 _ p _ := At.new hu1 h hu
  clear h hu hu1
  generalize gr (fun _ => False) w1 w2 = F1 at *
  simp (disch := omega) only [push_cast, Nat.reduceBEq, Nat.reduceEqDiff, Nat.reduceAdd, Nat.reduceMul, Nat.reduceSub, Nat.reduceLT, Int.reduceToNat, Int.reduceLT, Int.reduceLE, Int.reduceEq, Int.reduceAdd, Int.reduceSub, Int.reduceNeg, Int.reduceMul]
  have hq0 : Blk (w2.alloc (.cells (List.replicate n (Value.slice none 0 0)).toArray 39 (0, 0))) w2.heap.size (List.replicate n (.slice none 0 0)) 39 := Blk.new
  have hu3 : Upd (fun _ => False) w2 (w2.alloc (.cells (List.replicate n (Value.slice none 0 0)).toArray 39 (0, 0))) := Upd.alloc
  have hbd := a1.disk.bd
  have hw02 := a1.upd.size
  replace a1 := a1.quiet hu3
  have hql := hq0.lt
  generalize w2.alloc (.cells (List.replicate n (Value.slice none 0 0)).toArray 39 (0, 0)) = w3 at *
  clear hu3
  refine loop_inv (I := fun k st w' => Bx (∃ i rows, k + i = n ∧ st = [.int .i64 (i : Int)] ∧ At w w' F1 p (DS.new n s) ∧ Blk w' w2.heap.size ((List.range i).map (fun k => (rows k : RowP).val) ++ List.replicate k (.slice none 0 0)) 39 ∧
    (∀ k, k < i → Row1 w' 32 (rows k).val (rows k).g (rows k).o (rows k).els.length (rows k).cap ((rows k).els.map (·.1)) ∧ 0 < (rows k).els.length) ∧
    (∀ k, k < i → (rows k).g ≠ w2.heap.size ∧ ¬ F1 (rows k).g ∧ w.heap.size ≤ (rows k).g) ∧ (∀ j k, j < i → k < i → (rows j).g = (rows k).g → j = k) ∧
    (∀ k, k < i → ∀ x ∈ (rows k).els, SlB w' (Wr2 F1 w2.heap.size i rows) x.1 x.2) ∧ ∀ k, k < i → (rows k).els.map (·.2) = [List.replicate s 0]) ⟨⟩) ?_ n
    ⟨0, fun _ => ⟨0, 0, 0, []⟩, rfl, rfl, a1, by simpa using hq0, fun k hk => by omega, fun k hk => by omega, fun j k hj => by omega, fun k hk => by omega, fun k hk => by omega⟩
  clear a1 hq0
  rintro k st w' ⟨i, rows, hki, rfl, a1, hq, hrow, hap, hinj, hcont, hels⟩
  have hl2 := hq.lt
  by_cases hk0 : k = 0
  rotate_left
  · obtain ⟨j, rfl⟩ := Nat.exists_eq_succ_of_ne_zero hk0
    have hc0 : w'.cell? ⟨w2.heap.size, i, none⟩ = some (.slice none 0 0) := by
      rw [hq.cell, List.getElem?_append_right (by simp)]
      simp
    simp (disch := omega) only [push_cast, Nat.reduceBEq, Nat.reduceEqDiff, Nat.reduceAdd, Nat.reduceMul, Nat.reduceSub, Nat.reduceLT, Int.reduceToNat, Int.reduceLT, Int.reduceLE, Int.reduceEq, Int.reduceAdd, Int.reduceSub, Int.reduceNeg, Int.reduceMul, hq.free, hc0]
    have hb1 : Blk ((w'.alloc (.cells (List.replicate s (Value.int .u8 0)).toArray 5 (0, 0))).alloc (.cells #[Value.slice (some ⟨w'.heap.size, 0, none⟩) s s] 32 (0, 0))) w'.heap.size (by8 (List.replicate s 0)) 5 := by
      rw [by8_zeros]; exact Blk.new.alloc _
    have hb2 : ∀ {w1 : World}, w1.heap.size = w'.heap.size + 1 → Blk (w1.alloc (.cells #[Value.slice (some ⟨w'.heap.size, 0, none⟩) s s] 32 (0, 0))) (w'.heap.size + 1) [Value.slice (some ⟨w'.heap.size, 0, none⟩) s s] 32 := by
      intro w1 h; rw [← h]; exact Blk.new
    replace hb2 := hb2 (w1 := w'.alloc (.cells (List.replicate s (Value.int .u8 0)).toArray 5 (0, 0))) size_alloc
    have hu4 : Upd (fun _ => False) w' ((w'.alloc (.cells (List.replicate s (Value.int .u8 0)).toArray 5 (0, 0))).alloc (.cells #[Value.slice (some ⟨w'.heap.size, 0, none⟩) s s] 32 (0, 0))) := Upd.refl.alloc'.alloc'
    have hs4 : ((w'.alloc (.cells (List.replicate s (Value.int .u8 0)).toArray 5 (0, 0))).alloc (.cells #[Value.slice (some ⟨w'.heap.size, 0, none⟩) s s] 32 (0, 0))).heap.size = w'.heap.size + 2 := by rw [size_alloc, size_alloc]
    have hq4 := hq.upd hu4 (fun h => h)
    generalize (w'.alloc (.cells (List.replicate s (Value.int .u8 0)).toArray 5 (0, 0))).alloc (.cells #[Value.slice (some ⟨w'.heap.size, 0, none⟩) s s] 32 (0, 0)) = w4 at *
    have hu5 : Upd (fun b => b = w2.heap.size) w4 (w4.setCell ⟨w2.heap.size, i, none⟩ (.slice (some ⟨w'.heap.size + 1, 0, none⟩) 1 1)) := Upd.set rfl
    have hq5 := hq4.set i (.slice (some ⟨w'.heap.size + 1, 0, none⟩) 1 1)
    replace hb1 := hb1.upd hu5 (by omega)
    replace hb2 := hb2.upd hu5 (by omega)
    generalize w4.setCell ⟨w2.heap.size, i, none⟩ (.slice (some ⟨w'.heap.size + 1, 0, none⟩) 1 1) = w5 at *
    have hu45 : Upd (fun b => b = w2.heap.size) w' w5 := (hu4.mono (fun _ _ h => h.elim)).trans hu5 (fun _ _ h => h)
    have hF1 : ∀ b, F1 b → b < w2.heap.size := hbd
    have hfr : ∀ b, w'.heap.size ≤ b → ¬ F1 b := fun b hb h => by have := hF1 b h; omega
    refine ⟨j, by omega, i + 1, fun k => if k = i then ⟨w'.heap.size + 1, 0, 1, [(.slice (some ⟨w'.heap.size, 0, none⟩) s s, List.replicate s 0)]⟩ else rows k, by omega, by simp,
      a1.turn hu45 (fun b hb e => by have := hF1 b hb; omega) (fun b e => by omega), ?_, fun k hk => ?_, fun k hk => ?_, fun k1 k2 h1 h2 e => ?_, fun k hk x hx => ?_, fun k hk => ?_⟩
    · have e1 : ((List.range i).map (fun k => (rows k : RowP).val) ++ List.replicate j.succ (Value.slice none 0 0)).set i (.slice (some ⟨w'.heap.size + 1, 0, none⟩) 1 1) =
          (List.range (i + 1)).map (fun k => (if k = i then (⟨w'.heap.size + 1, 0, 1, [(.slice (some ⟨w'.heap.size, 0, none⟩) s s, List.replicate s 0)]⟩ : RowP) else rows k).val) ++ List.replicate j (.slice none 0 0) := by
        rw [List.set_append_right _ _ (by simp), List.range_succ, List.map_append, List.append_assoc]
        congr 1
        · apply List.map_congr_left
          intro k hk
          have := List.mem_range.1 hk
          rw [if_neg (by omega)]
        · simp [List.replicate_succ, RowP.val]
      rw [← e1]
      exact hq5
    · dsimp only
      by_cases e : k = i
      · rw [if_pos e]
        refine ⟨⟨rfl, Nat.le_refl _, rfl, _, hb2, by simp, fun j hj => ?_⟩, by simp⟩
        obtain rfl : j = 0 := by simpa using hj
        rfl
      · rw [if_neg e]
        obtain ⟨h1, h2⟩ := hrow k (by omega)
        exact ⟨h1.upd hu45 (hap k (by omega)).1, h2⟩
    · dsimp only
      by_cases e : k = i
      · rw [if_pos e]
        exact ⟨by show w'.heap.size + 1 ≠ _; omega, hfr _ (by show _ ≤ w'.heap.size + 1; omega), by show _ ≤ w'.heap.size + 1; omega⟩
      · rw [if_neg e]; exact hap k (by omega)
    · dsimp only at e
      have hlt : ∀ k, k < i → (rows k).g ≠ w'.heap.size + 1 := fun k hk => by have := (hrow k hk).1.lt; omega
      by_cases e1 : k1 = i
      · by_cases e2 : k2 = i
        · omega
        · rw [if_pos e1, if_neg e2] at e
          exact absurd e.symm (hlt k2 (by omega))
      · by_cases e2 : k2 = i
        · rw [if_neg e1, if_pos e2] at e
          exact absurd e (hlt k1 (by omega))
        · rw [if_neg e1, if_neg e2] at e
          exact hinj k1 k2 (by omega) (by omega) e
    · dsimp only at hx
      by_cases e : k = i
      · rw [if_pos e] at hx
        have hx : x = (.slice (some ⟨w'.heap.size, 0, none⟩) s s, List.replicate s 0) := by simpa using hx
        subst hx
        refine ⟨_, s, by simp, fun _ => ⟨w'.heap.size, 0, rfl, Lies.of_blk hb1, ?_⟩⟩
        rintro (h5 | h5 | ⟨j2, hj2, h5⟩)
        · exact hfr _ (Nat.le_refl _) h5
        · omega
        · dsimp only at h5
          by_cases e2 : j2 = i
          · rw [if_pos e2] at h5
            have h6 : w'.heap.size = w'.heap.size + 1 := h5
            omega
          · rw [if_neg e2] at h5
            have := (hrow j2 (by omega)).1.lt
            omega
      · rw [if_neg e] at hx
        obtain ⟨a', c', hv', hl'⟩ := hcont k (by omega) x hx
        refine ⟨a', c', hv', fun h0 => ?_⟩
        obtain ⟨b, o, e1, e2, e3⟩ := hl' h0
        have hb := e2.lt (List.length_pos_iff.2 h0)
        refine ⟨b, o, e1, e2.upd hu45 hb (fun h5 => e3 (.inr (.inl h5))), ?_⟩
        rintro (h5 | h5 | ⟨j2, hj2, h5⟩)
        · exact e3 (.inl h5)
        · exact e3 (.inr (.inl h5))
        · dsimp only at h5
          by_cases e6 : j2 = i
          · rw [if_pos e6] at h5
            have h6 : b = w'.heap.size + 1 := h5
            omega
          · rw [if_neg e6] at h5
            exact e3 (.inr (.inr ⟨j2, by omega, h5⟩))
    · dsimp only
      by_cases e : k = i
      · rw [if_pos e]; rfl
      · rw [if_neg e]; exact hels k (by omega)
  subst hk0
  obtain rfl : i = n := by omega
  have m1 : MayAt w w' F1 w2.heap.size i rows := ⟨by simpa using hq, hrow, hap, hinj, ⟨fun h => by have := hbd _ h; omega, hw02⟩, hcont⟩
  have hm1 : ∀ k, k < i → (rows k).els.map (·.2) = mayBe (DS.new i s) k := by
    intro k hk
    rw [hels k hk]
    unfold mayBe DS.new wrTo
    rw [List.getD_eq_getElem?_getD, List.getElem?_replicate, if_pos hk]
    rfl
  have s1 := Sz.new (n := i) (s := s)
  clear hq hrow hap hinj hcont hels
  generalize DS.new i s = d1 at *
  simp (disch := omega) only [push_cast, Nat.reduceBEq, Nat.reduceEqDiff, Nat.reduceAdd, Nat.reduceMul, Nat.reduceSub, Nat.reduceLT, Int.reduceToNat, Int.reduceLT, Int.reduceLE, Int.reduceEq, Int.reduceAdd, Int.reduceSub, Int.reduceNeg, Int.reduceMul]
  refine loop_inv (I := fun k st w' => Bx (∃ j F d rows, k + j = ops.length ∧ st = [.int .i64 (j : Int)] ∧ At w w' F p d ∧ Sz i s j d ∧ MayAt w w' F w2.heap.size i rows ∧ ∀ k, k < i → (rows k).els.map (·.2) = mayBe d k) ⟨⟩) ?_ ops.length
    ⟨0, F1, d1, rows, rfl, rfl, a1, s1, m1, hm1⟩
  clear a1 s1 m1 hm1 hbd
  rintro k st w6 ⟨j, F, d, rows, hkj, rfl, a1, s1, m1, hm1⟩
  have hdz := s1.size
  have hdc := s1.few
  have hdl := s1.dur
  by_cases hk0 : k = 0
  rotate_left
  · have hj : j < ops.length := by omega
    obtain ⟨bb, o, rfl, hbb, hops⟩ := hl (by intro e; rw [e] at hj; simp at hj)
    have hop := hops j _ (List.getElem?_eq_getElem hj)
    generalize ops[j] = op at hop
    obtain ⟨vb1, vk1, q0, q1, q2, q3, q4, q5, q6⟩ := hop.to hbb a1.upd (F := Wr2 F w2.heap.size i rows) (fun b hb => Wr2.fresh m1 a1.fresh hb)
    obtain ⟨va, vc, hvb, _⟩ := id q4
    obtain ⟨ka, kc, hvk, _⟩ := id q5
    subst hvb hvk
    have hbx : Blk (((((w6.alloc (.cells #[Value.int .i64 0, .int .i64 0, .slice none 0 0, .slice none 0 0] 37 (0, 0))).setCell ⟨w6.heap.size, 0, none⟩ (.int .i64 op.kind)).setCell ⟨w6.heap.size, 1, none⟩ (.int .i64 op.at_)).setCell ⟨w6.heap.size, 2, none⟩ (.slice va op.b.length vc)).setCell ⟨w6.heap.size, 3, none⟩ (.slice ka op.keep.length kc)) w6.heap.size
        [.int .i64 op.kind, .int .i64 op.at_, .slice va op.b.length vc, .slice ka op.keep.length kc] 37 := ((((Blk.new (cs := [Value.int .i64 0, .int .i64 0, .slice none 0 0, .slice none 0 0])).set 0 _).set 1 _).set 2 _).set 3 _
    have hu7 : Upd (fun _ => False) w6 (((((w6.alloc (.cells #[Value.int .i64 0, .int .i64 0, .slice none 0 0, .slice none 0 0] 37 (0, 0))).setCell ⟨w6.heap.size, 0, none⟩ (.int .i64 op.kind)).setCell ⟨w6.heap.size, 1, none⟩ (.int .i64 op.at_)).setCell ⟨w6.heap.size, 2, none⟩ (.slice va op.b.length vc)).setCell ⟨w6.heap.size, 3, none⟩ (.slice ka op.keep.length kc)) :=
      ((((Upd.refl.alloc').setNew (Nat.le_refl _)).setNew (Nat.le_refl _)).setNew (Nat.le_refl _)).setNew (Nat.le_refl _)
    have hbF : ∀ b, F b → b < w6.heap.size := a1.disk.bd
    have hgl : ∀ k, k < i → (rows k).g < w6.heap.size := fun k hk => (m1.row k hk).1.lt
    have hql6 := m1.head.lt
    by_cases e0 : op.kind = 0
    · simp (disch := omega) only [push_cast, Nat.reduceBEq, Nat.reduceEqDiff, Nat.reduceAdd, Nat.reduceMul, Nat.reduceSub, Nat.reduceLT, Int.reduceToNat, Int.reduceLT, Int.reduceLE, Int.reduceEq, Int.reduceAdd, Int.reduceSub, Int.reduceNeg, Int.reduceMul, q0, q1, q2, q3, hbx.cell]
      generalize ((((w6.alloc (.cells #[Value.int .i64 0, .int .i64 0, .slice none 0 0, .slice none 0 0] 37 (0, 0))).setCell ⟨w6.heap.size, 0, none⟩ (.int .i64 op.kind)).setCell ⟨w6.heap.size, 1, none⟩ (.int .i64 op.at_)).setCell ⟨w6.heap.size, 2, none⟩ (.slice va op.b.length vc)).setCell ⟨w6.heap.size, 3, none⟩ (.slice ka op.keep.length kc) = w7 at *
      have a2 := a1.quiet hu7
      have m2 := m1.quiet hu7
      have hb7 := q4.upd hu7 (fun _ h => h.elim)
      have hbxl := hbx.lt
      refine Ok.use (write_ok a2.disk (by omega) (by omega) s1.cnt op.at_ (hb7.mono (fun b _ h => .inl h))) ?_
      rintro v w8 ⟨rfl, h8, hu8⟩
      have a3 := a2.step h8 hu8
      have m3 := m2.disk hu8
      have hbx8 := hbx.upd hu8 (fun hF => by have := hbF _ hF; omega)
      have s2 := s1.write op.at_ op.b
      have hm2 : ∀ k, k < i → mayBe (d.write op.at_ op.b).1 k = if (d.write op.at_ op.b).2 = 0 ∧ op.at_ = (k : Int) then mayBe d k ++ [op.b] else mayBe d k := fun k _ => mayBe_write
      have hbxg : ∀ k, k < i → (rows k).g ≠ w6.heap.size := fun k hk => by have := hgl k hk; omega
      by_cases er : (d.write op.at_ op.b).2 = 0
      rotate_left
      · simp (disch := omega) only [push_cast, Nat.reduceBEq, Nat.reduceEqDiff, Nat.reduceAdd, Nat.reduceMul, Nat.reduceSub, Nat.reduceLT, Int.reduceToNat, Int.reduceLT, Int.reduceLE, Int.reduceEq, Int.reduceAdd, Int.reduceSub, Int.reduceNeg, Int.reduceMul, hbx8.cell]
        refine ⟨k - 1, by omega, j + 1, _, _, rows, by omega, by simp, a3, s2, m3, fun k hk => ?_⟩
        rw [hm2 k hk, if_neg (fun h => er h.1)]
        exact hm1 k hk
      · have hat : 0 ≤ op.at_ ∧ op.at_ < i := by
          unfold DS.write at er
          split at er
          · rename_i h; rw [hdl] at h; exact ⟨h.1, h.2.1⟩
          · exact absurd er (show ¬ (1 : Int) = 0 by decide)
        obtain ⟨t, ht⟩ := Int.eq_ofNat_of_zero_le hat.1
        have hti : t < i := by omega
        have hb8 : SlB w8 (Wr2 (gr F w7 w8) w2.heap.size i rows) (.slice va op.b.length vc) op.b := by
          obtain ⟨a', c', e1, hl'⟩ := hb7
          refine ⟨a', c', e1, fun h0 => ?_⟩
          obtain ⟨b, o', e2, e3, e4⟩ := hl' h0
          have hblt := e3.lt (List.length_pos_iff.2 h0)
          refine ⟨b, o', e2, e3.upd hu8 hblt (fun hF => e4 (.inl hF)), fun h5 => e4 ?_⟩
          rcases h5 with h5 | h5
          · exact .inl (h5.elim id fun x => by omega)
          · exact .inr h5
        have hc8 := m3.get hti
        obtain ⟨hrow8, hpos8⟩ := m3.row t hti
        have hlel := hrow8.le
        have hq8l := m3.head.lt
        have hbx8l := hbx8.lt
        rw [ht] at hbx8 er
        simp (disch := omega) only [push_cast, Nat.reduceBEq, Nat.reduceEqDiff, Nat.reduceAdd, Nat.reduceMul, Nat.reduceSub, Nat.reduceLT, Int.reduceToNat, Int.reduceLT, Int.reduceLE, Int.reduceEq, Int.reduceAdd, Int.reduceSub, Int.reduceNeg, Int.reduceMul, hbx8.cell, hc8, ht]
        have hn9 : Blk (w8.alloc (.cells #[Value.slice va op.b.length vc] 32 (0, 0))).drew w8.heap.size [.slice va op.b.length vc] 32 := (Blk.new (cs := [Value.slice va op.b.length vc])).drew
        have hu9 : Upd (fun _ => False) w8 (w8.alloc (.cells #[Value.slice va op.b.length vc] 32 (0, 0))).drew := Upd.alloc.trans Upd.drew (fun _ _ h => h)
        have hs9 : (w8.alloc (.cells #[Value.slice va op.b.length vc] 32 (0, 0))).drew.heap.size = w8.heap.size + 1 := by rw [size_drew, size_alloc]
        have hbx8' := hbx8
        generalize (w8.alloc (.cells #[Value.slice va op.b.length vc] 32 (0, 0))).drew = w9 at *
        have hels8 : (rows t).els.length ≤ j + 1 := by
          have h1 := hm1 t hti
          have h2 : ((rows t).els.map (·.2)).length = (mayBe d t).length := by rw [h1]
          rw [List.length_map] at h2
          have h3 : (mayBe d t).length ≤ d.cache.length + 1 := by
            unfold mayBe wrTo
            rw [List.length_cons, List.length_map]
            have := List.length_filter_le (fun x : Nat × List Int => x.1 == t) d.cache
            omega
          omega
        have hsrc : w9.cell? ⟨w8.heap.size, 0, none⟩ = some (.slice va op.b.length vc) := by rw [hn9.cell]; rfl
        refine app_at t39_e t32_s t32_b t32_z rfl (hrow8.upd hu9 (fun h => h)) (by omega) (by omega) hsrc rfl ?_
        intro v' w10 g' o' cap' hrow10 hu10 hg10
        have hv' := hrow10.val
        subst hv'
        have hbx9 := hbx8.upd hu9 (fun h => h)
        have hbx10 := hbx9.upd hu10 (fun e => hbxg t hti e.symm)
        have m9 := m3.quiet hu9
        have hq10 := m9.head.upd hu10 (fun e => (m9.apart t hti).1 e.symm)
        have hc10 : w10.cell? ⟨w2.heap.size, t, none⟩ = some (.slice (some ⟨(rows t).g, (rows t).o, none⟩) (rows t).els.length (rows t).cap) := by
          rw [hq10.cell, List.getElem?_map, List.getElem?_range hti]; rfl
        simp (disch := omega) only [push_cast, Nat.reduceBEq, Nat.reduceEqDiff, Nat.reduceAdd, Nat.reduceMul, Nat.reduceSub, Nat.reduceLT, Int.reduceToNat, Int.reduceLT, Int.reduceLE, Int.reduceEq, Int.reduceAdd, Int.reduceSub, Int.reduceNeg, Int.reduceMul, hbx8'.cell, hbx9.cell, hbx10.cell, hc10, hq10.free, ht]
        have hbF8 : ∀ b, gr F w7 w8 b → b < w9.heap.size := fun b hb => by have := a3.disk.bd b hb; omega
        obtain ⟨r, hrd⟩ : ∃ r : RowP, r = ⟨g', o', cap', (rows t).els ++ [(Value.slice va op.b.length vc, op.b)]⟩ := ⟨_, rfl⟩
        have hr10 : Row1 w10 32 r.val r.g r.o r.els.length r.cap (r.els.map (·.1)) := by
          subst hrd
          simpa [RowP.val] using hrow10
        have hrv : r.val = .slice (some ⟨g', o', none⟩) ((rows t).els.length + 1) cap' := by subst hrd; simp [RowP.val]
        have mf := m9.turn hti (r := r) hu10 hbF8 hr10 (by subst hrd; simp) (by subst hrd; exact hg10) (by have := a3.upd.size; omega) (fun z hz => by
          rw [hrd] at hz
          rcases List.mem_append.1 hz with hz | hz
          · exact m9.cont t hti z hz
          · have hz : z = (.slice va op.b.length vc, op.b) := by simpa using hz
            subst hz
            exact hb8.upd hu9 (fun _ h => h.elim))
        have a9 := a3.quiet hu9
        have a10 := a9.turn hu10 (fun b hb e => by subst e; exact (m9.apart t hti).2.1 hb) (fun b e => by subst e; exact (m9.apart t hti).2.2)
        have hset : Upd (fun b => b = w2.heap.size) w10 (w10.setCell ⟨w2.heap.size, t, none⟩ (.slice (some ⟨g', o', none⟩) ((rows t).els.length + 1) cap')) := Upd.set rfl
        have a11 := a10.turn hset (fun b hb e => by subst e; exact m9.qF.1 hb) (fun b e => by subst e; exact m9.qF.2)
        refine ⟨k - 1, by omega, j + 1, _, _, fun j => if j = t then r else rows j, by omega, by simp, a11, s2, ?_, fun k hk => ?_⟩
        · rw [hrv] at mf
          exact mf
        · rw [hm2 k hk]
          dsimp only
          by_cases e : k = t
          · subst e
            rw [if_pos rfl, if_pos ⟨by rw [ht]; exact er, ht⟩, hrd, List.map_append, hm1 k hk]
            rfl
          · rw [if_neg e, if_neg (fun h => by have := h.2; omega)]
            exact hm1 k hk
    by_cases e1 : op.kind = 1
    · simp (disch := omega) only [push_cast, Nat.reduceBEq, Nat.reduceEqDiff, Nat.reduceAdd, Nat.reduceMul, Nat.reduceSub, Nat.reduceLT, Int.reduceToNat, Int.reduceLT, Int.reduceLE, Int.reduceEq, Int.reduceAdd, Int.reduceSub, Int.reduceNeg, Int.reduceMul, q0, q1, q2, q3, hbx.cell]
      generalize ((((w6.alloc (.cells #[Value.int .i64 0, .int .i64 0, .slice none 0 0, .slice none 0 0] 37 (0, 0))).setCell ⟨w6.heap.size, 0, none⟩ (.int .i64 op.kind)).setCell ⟨w6.heap.size, 1, none⟩ (.int .i64 op.at_)).setCell ⟨w6.heap.size, 2, none⟩ (.slice va op.b.length vc)).setCell ⟨w6.heap.size, 3, none⟩ (.slice ka op.keep.length kc) = w7 at *
      have a2 := a1.quiet hu7
      have m2 := m1.quiet hu7
      have hbxl := hbx.lt
      refine Ok.use (sync_ok a2.disk (by omega) s1.cnt) ?_
      rintro v w8 ⟨rfl, h8, hu8⟩
      have a3 := a2.step h8 hu8
      have m3 := m2.disk hu8
      have hbx8 := hbx.upd hu8 (fun hF => by have := hbF _ hF; omega)
      have s2 := s1.sync.mono (Nat.le_succ j)
      have hm2 : ∀ k, k < i → mayBe d.sync.1 k = if d.sync.2 = 0 then (mayBe d k).drop ((mayBe d k).length - 1) else mayBe d k := fun k hk => mayBe_sync (by omega)
      by_cases er : d.sync.2 = 0
      rotate_left
      · simp (disch := omega) only [push_cast, Nat.reduceBEq, Nat.reduceEqDiff, Nat.reduceAdd, Nat.reduceMul, Nat.reduceSub, Nat.reduceLT, Int.reduceToNat, Int.reduceLT, Int.reduceLE, Int.reduceEq, Int.reduceAdd, Int.reduceSub, Int.reduceNeg, Int.reduceMul, hbx8.cell]
        refine ⟨k - 1, by omega, j + 1, _, _, rows, by omega, by simp, a3, s2, m3, fun k hk => ?_⟩
        rw [hm2 k hk, if_neg er]
        exact hm1 k hk
      · simp (disch := omega) only [push_cast, Nat.reduceBEq, Nat.reduceEqDiff, Nat.reduceAdd, Nat.reduceMul, Nat.reduceSub, Nat.reduceLT, Int.reduceToNat, Int.reduceLT, Int.reduceLE, Int.reduceEq, Int.reduceAdd, Int.reduceSub, Int.reduceNeg, Int.reduceMul, hbx8.cell]
        have hfr6 : ∀ b, gr F w7 w8 b → b ≠ w2.heap.size := fun b hb e => by subst e; exact m3.qF.1 hb
        generalize gr F w7 w8 = F8 at *
        clear hu8 h8 a2 m2
        have hM : ∀ k, k < i → (rows k).els.length = (mayBe d k).length := fun k hk => by rw [← hm1 k hk, List.length_map]
        refine loop_inv (I := fun m st w9 => Bx (∃ t rows', m + t = i ∧ st = [.int .i64 (t : Int)] ∧ At w w9 F8 p d.sync.1 ∧ MayAt w w9 F8 w2.heap.size i rows' ∧ Blk w9 w6.heap.size [.int .i64 op.kind, .int .i64 op.at_, .slice va op.b.length vc, .slice ka op.keep.length kc] 37 ∧
          (∀ k, k < i → (rows' k).g = (rows k).g) ∧ (∀ k, t ≤ k → k < i → rows' k = rows k) ∧ ∀ k, k < t → (rows' k).els.map (·.2) = mayBe d.sync.1 k) ⟨⟩) ?_ i ⟨0, rows, rfl, rfl, a3, m3, hbx8, fun _ _ => rfl, fun _ _ _ => rfl, fun k hk => by omega⟩
        clear a3 m3 hbx8
        rintro m st w9 ⟨t, rows', hmt, rfl, a3, m3, hbx8, hgs, hsame, hdone⟩
        have hq9l := m3.head.lt
        have hbx9l := hbx8.lt
        by_cases hm0 : m = 0
        · obtain rfl : t = i := by omega
          simp (disch := omega) only [push_cast, Nat.reduceBEq, Nat.reduceEqDiff, Nat.reduceAdd, Nat.reduceMul, Nat.reduceSub, Nat.reduceLT, Int.reduceToNat, Int.reduceLT, Int.reduceLE, Int.reduceEq, Int.reduceAdd, Int.reduceSub, Int.reduceNeg, Int.reduceMul, hbx8.cell]
          exact ⟨k - 1, by omega, j + 1, _, _, rows', by omega, by simp, a3, s2, m3, hdone⟩
        have hti : t < i := by omega
        have hc9 := m3.get hti
        obtain ⟨hrow9, hpos9⟩ := m3.row t hti
        rw [hsame t (Nat.le_refl t) hti] at hc9 hrow9 hpos9
        have hle9 := hrow9.le
        have hlen9 := hM t hti
        obtain ⟨L, hL⟩ : ∃ L, (rows t).els.length = L + 1 := ⟨(rows t).els.length - 1, by omega⟩
        have hl1 : ((rows t).els.length : Int) - 1 = (L : Int) := by omega
        have hlL : (rows t).els.length - L = 1 := by omega
        have hcL : ¬ (rows t).cap = L := by omega
        have hq9 := m3.head
        have hmb := mayBe_len (d := d) (k := t)
        simp (disch := omega) only [push_cast, Nat.reduceBEq, Nat.reduceEqDiff, Nat.reduceAdd, Nat.reduceMul, Nat.reduceSub, Nat.reduceLT, Int.reduceToNat, Int.reduceLT, Int.reduceLE, Int.reduceEq, Int.reduceAdd, Int.reduceSub, Int.reduceNeg, Int.reduceMul, hc9, hl1, hlL, hcL, hq9.free]
        have hrow9' : Row1 w9 32 (rows t).val (rows t).g (rows t).o (L + 1) (rows t).cap ((rows t).els.map (·.1)) := by rw [← hL]; exact hrow9
        have hlast := hrow9'.last
        have hdl1 : ((rows t).els.drop L).length = 1 := by rw [List.length_drop]; omega
        obtain ⟨r, hrd⟩ : ∃ r : RowP, r = ⟨(rows t).g, (rows t).o + L, (rows t).cap - L, (rows t).els.drop L⟩ := ⟨_, rfl⟩
        have hrv : r.val = .slice (some ⟨(rows t).g, (rows t).o + L, none⟩) 1 ((rows t).cap - L) := by subst hrd; show Value.slice _ ((rows t).els.drop L).length _ = _; rw [hdl1]
        have hr9 : Row1 w9 32 r.val r.g r.o r.els.length r.cap (r.els.map (·.1)) := by
          rw [hrv]
          subst hrd
          show Row1 w9 32 _ _ _ ((rows t).els.drop L).length _ (((rows t).els.drop L).map (·.1))
          rw [hdl1, List.map_drop]
          exact hlast
        have hst : rows' t = rows t := hsame t (Nat.le_refl t) hti
        have mf := m3.turn hti (r := r) (Upd.refl) a3.disk.bd hr9 (by subst hrd; show 0 < ((rows t).els.drop L).length; omega) (.inl (by rw [hst]; subst hrd; rfl)) a3.upd.size (fun z hz => by
          rw [hrd] at hz
          exact m3.cont t hti z (by rw [hst]; exact List.mem_of_mem_drop hz))
        rw [hrv] at mf
        have hset : Upd (fun b => b = w2.heap.size) w9 (w9.setCell ⟨w2.heap.size, t, none⟩ (.slice (some ⟨(rows t).g, (rows t).o + L, none⟩) 1 ((rows t).cap - L))).drew := ((Upd.refl (F := fun b => b = w2.heap.size)).setIn rfl).drew'
        have a4 := a3.turn hset (fun b hb e => hfr6 b hb e) (fun b e => by subst e; exact m3.qF.2)
        refine ⟨m - 1, by omega, t + 1, fun j => if j = t then r else rows' j, by omega, by simp, a4, mf.quiet Upd.drew, hbx8.upd hset (by omega), fun k hk => ?_, fun k h1 h2 => ?_, fun k hk => ?_⟩
        · dsimp only
          by_cases e : k = t
          · rw [if_pos e, hrd, e]
          · rw [if_neg e]; exact hgs k hk
        · dsimp only
          rw [if_neg (by omega)]
          exact hsame k (by omega) h2
        · dsimp only
          by_cases e : k = t
          · rw [if_pos e, hrd, e, hm2 t hti, if_pos er, List.map_drop, hm1 t hti]
            congr 1
            omega
          · rw [if_neg e]; exact hdone k (by omega)
    by_cases e2 : op.kind = 2
    · simp (disch := omega) only [push_cast, Nat.reduceBEq, Nat.reduceEqDiff, Nat.reduceAdd, Nat.reduceMul, Nat.reduceSub, Nat.reduceLT, Int.reduceToNat, Int.reduceLT, Int.reduceLE, Int.reduceEq, Int.reduceAdd, Int.reduceSub, Int.reduceNeg, Int.reduceMul, q0, q1, q2, q3, hbx.cell]
      generalize ((((w6.alloc (.cells #[Value.int .i64 0, .int .i64 0, .slice none 0 0, .slice none 0 0] 37 (0, 0))).setCell ⟨w6.heap.size, 0, none⟩ (.int .i64 op.kind)).setCell ⟨w6.heap.size, 1, none⟩ (.int .i64 op.at_)).setCell ⟨w6.heap.size, 2, none⟩ (.slice va op.b.length vc)).setCell ⟨w6.heap.size, 3, none⟩ (.slice ka op.keep.length kc) = w7 at *
      have a2 := a1.quiet hu7
      have m2 := m1.quiet hu7
      refine Ok.use (fail_ok a2.disk op.at_) ?_
      rintro v w8 ⟨h8, hu8⟩
      have a3 := a2.step h8 hu8
      have m3 := m2.disk hu8
      simp (disch := omega) only [push_cast, Nat.reduceBEq, Nat.reduceEqDiff, Nat.reduceAdd, Nat.reduceMul, Nat.reduceSub, Nat.reduceLT, Int.reduceToNat, Int.reduceLT, Int.reduceLE, Int.reduceEq, Int.reduceAdd, Int.reduceSub, Int.reduceNeg, Int.reduceMul]
      exact ⟨k - 1, by omega, j + 1, _, _, rows, by omega, by simp, a3, (s1.fail q6).mono (by omega), m3, fun k hk => by rw [mayBe_fail]; exact hm1 k hk⟩
    · simp (disch := omega) only [push_cast, Nat.reduceBEq, Nat.reduceEqDiff, Nat.reduceAdd, Nat.reduceMul, Nat.reduceSub, Nat.reduceLT, Int.reduceToNat, Int.reduceLT, Int.reduceLE, Int.reduceEq, Int.reduceAdd, Int.reduceSub, Int.reduceNeg, Int.reduceMul, q0, q1, q2, q3, hbx.cell]
      exact ⟨k - 1, by omega, j + 1, F, d, rows, by omega, by simp, a1.quiet hu7, s1.mono (by omega), m1.quiet hu7, hm1⟩
  obtain rfl : j = ops.length := by omega
  simp (disch := omega) only [push_cast, Nat.reduceBEq, Nat.reduceEqDiff, Nat.reduceAdd, Nat.reduceMul, Nat.reduceSub, Nat.reduceLT, Int.reduceToNat, Int.reduceLT, Int.reduceLE, Int.reduceEq, Int.reduceAdd, Int.reduceSub, Int.reduceNeg, Int.reduceMul]
  refine Ok.use (crash_ok a1.disk (by omega) (hkeep.to a1.upd a1.fresh)) ?_
  rintro v w7 ⟨h7, hu7⟩
  have a2 : At w w7 _ p (d.crash keep) := a1.step h7 hu7
  have m2 := m1.disk hu7
  have s2 := s1.crash keep
  have hcr : ∀ k, k < i → (d.crash keep).dur.getD k [] ∈ mayBe d k := fun k hk => mayBe_crash (by omega)
  have hread : ∀ k, k < i → (d.crash keep).read k = (some ((d.crash keep).dur.getD k []), 0) := by
    intro k hk
    have := s2.dur
    unfold DS.read
    rw [if_pos ⟨by omega, by omega⟩]
    rfl
  clear h7 hu7 hkj hk0
  generalize gr F w6 w7 = F7 at *
  generalize hd7 : d.crash keep = d7 at *
  have hc7 : d7.cache = [] := by rw [← hd7]; rfl
  have hz7 := s2.size
  simp (disch := omega) only [push_cast, Nat.reduceBEq, Nat.reduceEqDiff, Nat.reduceAdd, Nat.reduceMul, Nat.reduceSub, Nat.reduceLT, Int.reduceToNat, Int.reduceLT, Int.reduceLE, Int.reduceEq, Int.reduceAdd, Int.reduceSub, Int.reduceNeg, Int.reduceMul]
  refine loop_inv (I := fun k st w' => Bx (∃ j, k + j = i ∧ st = [.int .i64 (j : Int)] ∧ At w w' F7 p d7 ∧ MayAt w w' F7 w2.heap.size i rows) ⟨⟩) ?_ i ⟨0, rfl, rfl, a2, m2⟩
  clear a2 m2
  rintro k st w8 ⟨j, hkj, rfl, a2, m2⟩
  by_cases hk0 : k = 0
  · simp (disch := omega) only [push_cast, Nat.reduceBEq, Nat.reduceEqDiff, Nat.reduceAdd, Nat.reduceMul, Nat.reduceSub, Nat.reduceLT, Int.reduceToNat, Int.reduceLT, Int.reduceLE, Int.reduceEq, Int.reduceAdd, Int.reduceSub, Int.reduceNeg, Int.reduceMul]
    exact a2.upd
  have hj : j < i := by omega
  simp (disch := omega) only [push_cast, Nat.reduceBEq, Nat.reduceEqDiff, Nat.reduceAdd, Nat.reduceMul, Nat.reduceSub, Nat.reduceLT, Int.reduceToNat, Int.reduceLT, Int.reduceLE, Int.reduceEq, Int.reduceAdd, Int.reduceSub, Int.reduceNeg, Int.reduceMul]
  refine Ok.use (read_ok a2.disk (by omega) (by rw [hc7]; decide) j) ?_
  rintro v w9 ⟨u, rfl, hres, hu9⟩
  rw [hread j hj] at hres ⊢
  obtain ⟨b9, rfl, hb9l, hb9⟩ := hres
  replace a2 := a2.quiet hu9
  replace m2 := m2.quiet hu9
  have s9 : SlB w9 (fun _ => False) (.slice (some ⟨b9, 0, none⟩) (d7.dur.getD j []).length (d7.dur.getD j []).length) (d7.dur.getD j []) := ⟨_, _, rfl, fun _ => ⟨_, _, rfl, Lies.of_blk hb9, fun h => h⟩⟩
  have hin := hcr j hj
  rw [← hm1 j hj] at hin
  obtain ⟨x0, hx0, hx1⟩ := List.mem_map.1 hin
  obtain ⟨p0, hp0⟩ := List.mem_iff_getElem?.1 hx0
  have hp0l : p0 < (rows j).els.length := (List.getElem?_eq_some_iff.1 hp0).1
  have hmb := mayBe_len (d := d) (k := j)
  have hlm : (rows j).els.length = (mayBe d j).length := by rw [← hm1 j hj, List.length_map]
  simp (disch := omega) only [push_cast, Nat.reduceBEq, Nat.reduceEqDiff, Nat.reduceAdd, Nat.reduceMul, Nat.reduceSub, Nat.reduceLT, Int.reduceToNat, Int.reduceLT, Int.reduceLE, Int.reduceEq, Int.reduceAdd, Int.reduceSub, Int.reduceNeg, Int.reduceMul, CV]
  refine loop_inv (I := fun m st w' => Bx (∃ (q : Nat) (fb : Bool), m + q = (rows j).els.length ∧ st = [.bool fb, .int .i64 (q : Int)] ∧ Upd (fun _ => False) w9 w' ∧ (p0 < q → fb = true)) ⟨⟩) ?_ (rows j).els.length ⟨0, false, rfl, rfl, Upd.refl, fun h => by omega⟩
  rintro m st w10 ⟨q, fb, hmq, rfl, hu10, hfb⟩
  have m3 := m2.quiet hu10
  have hc3 := m3.get hj
  by_cases hm0 : m = 0
  · obtain rfl := hfb (by omega)
    simp (disch := omega) only [push_cast, Nat.reduceBEq, Nat.reduceEqDiff, Nat.reduceAdd, Nat.reduceMul, Nat.reduceSub, Nat.reduceLT, Int.reduceToNat, Int.reduceLT, Int.reduceLE, Int.reduceEq, Int.reduceAdd, Int.reduceSub, Int.reduceNeg, Int.reduceMul, hc3]
    exact ⟨k - 1, by omega, j + 1, by omega, by simp, a2.quiet hu10, m3⟩
  have hq : q < (rows j).els.length := by omega
  obtain ⟨hrow3, _⟩ := m3.row j hj
  have hxq := List.getElem?_eq_getElem hq
  have hxm : (rows j).els[q] ∈ (rows j).els := List.getElem_mem hq
  generalize (rows j).els[q] = z at hxq hxm
  have hcz := hrow3.cell hq
  rw [List.getElem?_map, hxq] at hcz
  have scz := (m3.cont j hj z hxm)
  have s10 := s9.upd hu10 (fun _ h => h)
  obtain ⟨z1, z2⟩ := z
  simp only [Option.map_some] at hcz
  obtain ⟨za, zc, hzv, _⟩ := id scz
  simp only at hzv
  subst hzv
  have scz' := scz.upd (Upd.drew (F := fun _ => False)) (fun _ h => h.elim)
  have s10' := s10.upd (Upd.drew (F := fun _ => False)) (fun _ h => h.elim)
  cases fb
  rotate_left
  · simp (disch := omega) only [push_cast, Nat.reduceBEq, Nat.reduceEqDiff, Nat.reduceAdd, Nat.reduceMul, Nat.reduceSub, Nat.reduceLT, Int.reduceToNat, Int.reduceLT, Int.reduceLE, Int.reduceEq, Int.reduceAdd, Int.reduceSub, Int.reduceNeg, Int.reduceMul, hc3]
    exact ⟨m - 1, by omega, q + 1, true, by omega, by simp, hu10.drew', fun _ => rfl⟩
  · have eqz : p0 = q → z2 = d7.dur.getD j [] := by
      intro e
      rw [← e, hp0] at hxq
      injection hxq with hxq
      rw [← hx1, hxq]
    simp (disch := omega) only [push_cast, Nat.reduceBEq, Nat.reduceEqDiff, Nat.reduceAdd, Nat.reduceMul, Nat.reduceSub, Nat.reduceLT, Int.reduceToNat, Int.reduceLT, Int.reduceLE, Int.reduceEq, Int.reduceAdd, Int.reduceSub, Int.reduceNeg, Int.reduceMul, hc3, hcz, cnv_u8 scz', cnv_u8 s10']
    refine ⟨m - 1, by omega, q + 1, (strOfNums z2).toList == (strOfNums (d7.dur.getD j [])).toList, by omega, by simp, hu10.drew', fun h => ?_⟩
    have hpq : p0 = q := by
      apply Classical.byContradiction
      intro e
      have := hfb (by omega)
      cases this
    rw [eqz hpq]
    exact beq_self_eq_true _
theorem diskAtomic_law {w : World} (x : Int) (_ : (Lit.int .i64 x).wf = true) (y : Int) (_ : (Lit.int .i64 y).wf = true) {v : Value} (h : ∃ l, SlO w v l)
    {vk : Value} (h3 : ∃ l, SlT w (fun b => w.heap.size ≤ b) vk l) :
    Ok (den Try.prog 5 #[.int .i64 x, .int .i64 y, v, vk] w) fun v w' => v = .bool true ∧ Upd (fun _ => False) w w' := by
  obtain ⟨l, h⟩ := h
  obtain ⟨l3, h3⟩ := h3
  exact diskAtomic_ok x y h h3
end Go.Proofs.Ytdekhojafpkgfaa.Fd
