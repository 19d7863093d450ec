/-
  The disk of the program: Write, Fail, New.
-/
import Derived.Test.YtkceoefmhppddaaDoorDk1
import Derived.KernelRfl
namespace Go.Proofs.YtkceoefmhppddaaDoor.Fd
set_option linter.unusedSimpArgs false
set_option linter.unusedVariables false
open Go
set_option maxRecDepth 100000

theorem bld_write (x : Int) (a : Option Addr) (n c : Nat) (w : World) : bldS Tryd.prog 80 #[(0, .int .i64 x), (1, .slice a n c)] w = some (.agg #[.int .i64 x, .slice a n c], w) := by kernel_rfl
theorem bsl_write (x : Int) (a : Option Addr) (n c : Nat) (w : World) : bslS Tryd.prog 64 1 #[(0, .agg #[.int .i64 x, .slice a n c])] w =
    some (.slice (some ⟨w.heap.size, 0, none⟩) 1 1, w.alloc (.cells [.int .i64 x, .slice a n c].toArray 80 (0, 0))) := by kernel_rfl
attribute [push_cast] bld_write bsl_write

def DS.write (d : DS) (x : Int) (l : List Int) : DS × Int :=
  if 0 ≤ x ∧ x < d.dur.length ∧ l.length = d.size then
    (if d.step.1 then ({ d.step.2 with cache := d.step.2.cache ++ [(x.toNat, l)] }, 0) else (d.step.2, 8))
  else (d, 1)

theorem write_ok {w : World} {F : Nat → Prop} {p : Nat} {d : DS} (h : IsDisk w F p d) (hz : 0 < d.size) (hc : d.cache.length < 1000000000) (hk : ∀ k, d.cnt = some k → k < 9223372036854775808) (x : Int) {v : Value} {l : List Int} (hv : SlB w F v l) :
    Ok (den Tryd.prog 25 #[.pointer (some ⟨p, 0, none⟩), .int .i64 x, v] w) fun u w' => u = .int .i64 (d.write x l).2 ∧ IsDisk w' (gr F w w') p (d.write x l).1 ∧ Upd F w w' := by
  have h' := h
  obtain ⟨q, durs, cv, cachs, armed, left, h⟩ := h
  obtain ⟨a, cc, rfl, hl⟩ := hv
  refine den_ok (args := [.pointer (some ⟨p, 0, none⟩), .int .i64 x, .slice a l.length cc]) rs25 Tryd.func25 rfl mixed in25 ok25 rfl ?_
  have hb := h.head
  have hdl : d.dur.length = durs.length := by rw [h.dur, List.length_map]
  simp (disch := omega) only [push_cast, Nat.reduceBEq, Nat.reduceEqDiff, Nat.reduceAdd, Nat.reduceMul, Nat.reduceSub, Nat.reduceLT, Int.reduceToNat, Int.reduceLT, Int.reduceLE, Int.reduceEq, Int.reduceAdd, Int.reduceSub, Int.reduceNeg, Int.reduceMul]
  refine Ok.use (has_ok (hb.cell 1)) ?_
  rintro v w' ⟨rfl, rfl⟩
  by_cases hx : 0 ≤ x ∧ x < durs.length
  · rw [show decide (0 ≤ x ∧ x < (durs.length : Int)) = true from by simp [hx]]
    by_cases hlen : l.length = d.size
    · have hlen' : (l.length : Int) = (d.size : Int) := by omega
      have hlb : ∃ b o, a = some ⟨b, o, none⟩ ∧ Lies w b o l ∧ ¬ F b := hl (by intro e; rw [e] at hlen; simp at hlen; omega)
      obtain ⟨b, o, rfl, hlies, hFb⟩ := hlb
      have hblt := hlies.lt (by omega)
      simp (disch := omega) only [push_cast, Nat.reduceBEq, Nat.reduceEqDiff, Nat.reduceAdd, Nat.reduceMul, Nat.reduceSub, Nat.reduceLT, Int.reduceToNat, Int.reduceLT, Int.reduceLE, Int.reduceEq, Int.reduceAdd, Int.reduceSub, Int.reduceNeg, Int.reduceMul, hb.cell]
      refine Ok.use (operate_ok h' hk) ?_
      rintro v w1 ⟨rfl, hd1, hu1⟩
      have hsz : ∀ d' : DS, d'.step.2.size = d'.size ∧ d'.step.2.dur = d'.dur ∧ d'.step.2.cache = d'.cache := by
        intro d'
        unfold DS.step
        split
        · exact ⟨rfl, rfl, rfl⟩
        · split <;> exact ⟨rfl, rfl, rfl⟩
      have hwr : d.write x l = if d.step.1 then ({ d.step.2 with cache := d.step.2.cache ++ [(x.toNat, l)] }, 0) else (d.step.2, 8) := by
        rw [DS.write, if_pos ⟨hx.1, by rw [hdl]; exact hx.2, hlen⟩]
      rw [hwr]
      obtain ⟨e1, e2, e3⟩ := hsz d
      generalize d.step.2 = d1 at *
      cases d.step.1
      · simp (disch := omega) only [push_cast, Nat.reduceBEq, Nat.reduceEqDiff, Nat.reduceAdd, Nat.reduceMul, Nat.reduceSub, Nat.reduceLT, Int.reduceToNat, Int.reduceLT, Int.reduceLE, Int.reduceEq, Int.reduceAdd, Int.reduceSub, Int.reduceNeg, Int.reduceMul]
        exact ⟨hd1.gr, hu1⟩
      · obtain ⟨q1, durs1, cv1, cachs1, armed1, left1, h1⟩ := hd1
        have hb1 := h1.head
        have hl1 : Lies w1 b o l := hlies.upd hu1 hblt hFb
        have hdl1 : d1.dur.length = durs1.length := by rw [h1.dur, List.length_map]
        have hcl1 : cachs1.length < 1000000000 := by
          have : d1.cache.length = cachs1.length := by rw [h1.cache, List.length_map]
          rw [e3] at this
          omega
        simp (disch := omega) only [push_cast, Nat.reduceBEq, Nat.reduceEqDiff, Nat.reduceAdd, Nat.reduceMul, Nat.reduceSub, Nat.reduceLT, Int.reduceToNat, Int.reduceLT, Int.reduceLE, Int.reduceEq, Int.reduceAdd, Int.reduceSub, Int.reduceNeg, Int.reduceMul, hb1.cell]
        have hcl := clone_ok (w := w1.drew) (p := p) (size := d1.size) (c := cc) (l := l) (b := b) (o := o) (hb1.drew.cell 0) (by omega) (by omega) (by have := h1.small; omega) hl1
        rw [e1, ← hlen] at hcl
        refine Ok.use hcl ?_
        rintro v w2 ⟨rfl, hnew, hu2⟩
        have hu12 : Upd (fun _ => False) w1 w2 := Upd.drew.trans hu2 (fun _ _ h => h)
        have hd2 := h1.upd hu12 (fun _ _ h => h)
        have hb2 := hd2.head
        have hn2 : Blk w2 w1.heap.size (by8 l) 5 := hnew
        have hs12 : w1.heap.size < w2.heap.size := hn2.lt
        obtain ⟨a1, c1, hcv1⟩ := own_slice hd2.own
        have hown2 := hd2.own
        have hcvc := hd2.cvc
        rw [hcv1] at hb2 hown2 hcvc
        have hp2 := hb2.lt
        simp (disch := omega) only [push_cast, Nat.reduceBEq, Nat.reduceEqDiff, Nat.reduceAdd, Nat.reduceMul, Nat.reduceSub, Nat.reduceLT, Int.reduceToNat, Int.reduceLT, Int.reduceLE, Int.reduceEq, Int.reduceAdd, Int.reduceSub, Int.reduceNeg, Int.reduceMul, hb2.cell, hb2.free, CV, h1.head.drew.cell, hcv1]
        have hb3 := hb2.alloc (.cells [Value.int .i64 x, .slice (some ⟨w1.heap.size, 0, none⟩) l.length l.length].toArray 80 (0, 0))
        have hnw := Blk.new (w := w2) (cs := [Value.int .i64 x, .slice (some ⟨w1.heap.size, 0, none⟩) l.length l.length]) (E := 80)
        refine app_own (s := 2) (by_ := 32) (n := cachs1.length) (m := 1) (news := [Value.int .i64 x, .slice (some ⟨w1.heap.size, 0, none⟩) l.length l.length]) t64_e t80_s t80_b t80_z rfl (by omega) (hown2.alloc _) rfl ?_ ?_ (by omega) (by unfold maxLen; omega) ?_
        · intro j hj
          rw [Nat.zero_add, hnw.cell]
        · intro u hu
          simp at hu
          rcases hu with rfl | rfl <;> rfl
        intro v' w4 hown4 hg4 hfr
        obtain ⟨a4, c4, rfl⟩ := own_slice hown4
        have hu34 := Upd.grown (F := fun b => (Value.slice a1 cachs1.length c1).ownBlock = some b) hg4 (fun k hk => hk)
        have hb4 := hb3.upd hu34 (fun e => (hcvc p e).2.1 rfl)
        simp (disch := omega) only [push_cast, Nat.reduceBEq, Nat.reduceEqDiff, Nat.reduceAdd, Nat.reduceMul, Nat.reduceSub, Nat.reduceLT, Int.reduceToNat, Int.reduceLT, Int.reduceLE, Int.reduceEq, Int.reduceAdd, Int.reduceSub, Int.reduceNeg, Int.reduceMul, hb3.cell, hb4.cell, hb4.free]
        have hu24 : Upd (fun b => (Value.slice a1 cachs1.length c1).ownBlock = some b) w2 w4 := Upd.alloc.trans hu34 (fun _ _ h => h)
        have hu45 : Upd (fun b => b = p) w4 (w4.setCell ⟨p, 2, none⟩ (.slice a4 (cachs1.length + 1) c4)) := Upd.set rfl
        have hb5 := hb4.set 2 (.slice a4 (cachs1.length + 1) c4)
        have hu25 : Upd (fun b => b = p ∨ (Value.slice a1 cachs1.length c1).ownBlock = some b) w2 (w4.setCell ⟨p, 2, none⟩ (.slice a4 (cachs1.length + 1) c4)) :=
          (hu24.mono (fun _ _ h => .inr h)).trans hu45 (fun _ _ h => .inl h)
        have hs15 : w1.heap.size < (w4.setCell ⟨p, 2, none⟩ (.slice a4 (cachs1.length + 1) c4)).heap.size := Nat.lt_of_lt_of_le hs12 hu25.size
        have hs34 : w2.heap.size < w4.heap.size := Nat.lt_of_lt_of_le (by rw [size_alloc]; omega) hu34.size
        have hs45 : (w4.setCell ⟨p, 2, none⟩ (.slice a4 (cachs1.length + 1) c4)).heap.size = w4.heap.size := size_set
        have hw1 : w.heap.size ≤ w1.heap.size := hu1.size
        -- where the cache's row lies now
        have hblk : ∀ g, (Value.slice a4 (cachs1.length + 1) c4).ownBlock = some g → (F g ∧ g ≠ p ∧ g ≠ q1 ∧ (Value.slice a1 cachs1.length c1).ownBlock = some g) ∨ (w2.heap.size ≤ g ∧ g < w4.heap.size) := by
          intro g hg
          rcases hfr with h | ⟨g', h, hge⟩
          · rw [h] at hg
            exact .inl ⟨(hcvc g hg).1, (hcvc g hg).2.1, (hcvc g hg).2.2, hg⟩
          · rw [h] at hg
            injection hg with hg
            subst hg
            rw [size_alloc] at hge
            exact .inr ⟨by omega, (hown4.lt _ h).2⟩
        have hpF := h1.fp
        have hqF := h1.fq
        have hpl := h1.bd p hpF
        have hql := h1.bd q1 hqF
        have hold : ∀ b, F b → b < w2.heap.size := fun b hb => Nat.lt_of_lt_of_le (h1.bd b hb) (Nat.le_of_lt hs12)
        have hown5 := ownsRow_upd hown4 hu45 (fun g hg e => by
          subst e
          rcases hblk _ hg with h | h
          · exact h.2.1 rfl
          · omega)
        have hkeep : ∀ b, F b → b ≠ p → (Value.slice a1 cachs1.length c1).ownBlock ≠ some b → ∀ {cs E}, Blk w2 b cs E → Blk (w4.setCell ⟨p, 2, none⟩ (.slice a4 (cachs1.length + 1) c4)) b cs E :=
          fun b _ h1 h2 {cs E} hb => hb.upd hu25 (fun h => h.elim h1 h2)
        have hdc := hd2.durc
        have hcc := hd2.cachc
        rw [hcv1] at hdc hcc
        have hne : ∀ b, F b → (Value.slice a1 cachs1.length c1).ownBlock ≠ some b → (Value.slice a4 (cachs1.length + 1) c4).ownBlock ≠ some b := by
          intro b hb hn hg
          rcases hblk _ hg with h | h
          · exact hn h.2.2.2
          · have := hold b hb; omega
        refine ⟨⟨q1, durs1, .slice a4 (cachs1.length + 1) c4, cachs1 ++ [(x.toNat, w1.heap.size, l)], armed1, left1, ?_, ?_, ?_, h1.dur, ?_, ?_, ?_, ?_, .inl hpF, .inl hqF, h1.pq, h1.arm, h1.small, ?_⟩, ?_⟩
        · simpa using hb5
        · exact hkeep q1 hqF h1.pq.symm (fun e => (hcvc _ e).2.2 rfl) hd2.row
        · have e5 : (cachs1 ++ [(x.toNat, w1.heap.size, l)]).flatMap cacheRow = cachs1.flatMap cacheRow ++ [.int .i64 x, .slice (some ⟨w1.heap.size, 0, none⟩) l.length l.length] := by
            simp [cacheRow, CV, Int.toNat_of_nonneg hx.1]
          rw [e5, List.length_append]
          exact hown5
        · rw [List.map_append]
          show d1.cache ++ _ = _
          rw [h1.cache]
          rfl
        · intro y hy
          obtain ⟨y1, y2, y3, y4, y5, y6⟩ := hdc y hy
          exact ⟨hkeep _ y3 y4 y6 y1, y2, .inl y3, y4, y5, hne _ y3 y6⟩
        · intro y hy
          rcases List.mem_append.1 hy with hy | hy
          · obtain ⟨y1, y2, y2', y3, y4, y5, y6⟩ := hcc y hy
            exact ⟨hkeep _ y3 y4 y6 y1, y2, y2', .inl y3, y4, y5, hne _ y3 y6⟩
          · simp only [List.mem_singleton] at hy
            subst hy
            have hdd : durs1.length = durs.length := by rw [← hdl1, e2, hdl]
            show Blk _ w1.heap.size _ _ ∧ l.length = d1.size ∧ x.toNat < durs1.length ∧ gr F w _ w1.heap.size ∧ w1.heap.size ≠ p ∧ w1.heap.size ≠ q1 ∧ Value.ownBlock _ ≠ some w1.heap.size
            refine ⟨hn2.upd hu25 ?_, by omega, by omega, .inr ⟨hw1, hs15⟩, by omega, by omega, ?_⟩
            · rintro (h | h)
              · omega
              · have := h1.bd _ (hcvc _ h).1; omega
            · intro hg
              rcases hblk _ hg with h | h
              · have := h1.bd _ h.1; omega
              · omega
        · intro g hg
          rcases hblk _ hg with h | h
          · exact ⟨.inl h.1, h.2.1, h.2.2.1⟩
          · exact ⟨.inr ⟨by omega, by rw [hs45]; exact h.2⟩, by omega, by omega⟩
        · intro b hb
          rcases hb with h | h
          · have := hold b h; rw [hs45]; omega
          · exact h.2
        · refine hu1.trans ((hu12.mono (fun _ _ h => h.elim)).trans (F := F) hu25 ?_) (fun _ _ h => h)
          intro b _ h
          rcases h with rfl | h
          · exact hpF
          · exact (hcvc b h).1
    · have hlen' : ¬ (l.length : Int) = (d.size : Int) := by omega
      simp (disch := omega) only [push_cast, Nat.reduceBEq, Nat.reduceEqDiff, Nat.reduceAdd, Nat.reduceMul, Nat.reduceSub, Nat.reduceLT, Int.reduceToNat, Int.reduceLT, Int.reduceLE, Int.reduceEq, Int.reduceAdd, Int.reduceSub, Int.reduceNeg, Int.reduceMul, hb.cell]
      have e : d.write x l = (d, 1) := by rw [DS.write, if_neg]; exact fun hh => hlen hh.2.2
      rw [e]
      exact ⟨rfl, h'.gr, Upd.refl⟩
  · rw [show decide (0 ≤ x ∧ x < (durs.length : Int)) = false from by simp [hx]]
    simp (disch := omega) only [push_cast, Nat.reduceBEq, Nat.reduceEqDiff, Nat.reduceAdd, Nat.reduceMul, Nat.reduceSub, Nat.reduceLT, Int.reduceToNat, Int.reduceLT, Int.reduceLE, Int.reduceEq, Int.reduceAdd, Int.reduceSub, Int.reduceNeg, Int.reduceMul, hb.cell]
    have e : d.write x l = (d, 1) := by rw [DS.write, if_neg]; rw [hdl]; exact fun hh => hx ⟨hh.1, hh.2.1⟩
    rw [e]
    exact ⟨rfl, h'.gr, Upd.refl⟩
end Go.Proofs.YtkceoefmhppddaaDoor.Fd
