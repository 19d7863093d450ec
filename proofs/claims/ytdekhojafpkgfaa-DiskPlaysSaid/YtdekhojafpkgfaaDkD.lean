/-
  The reference's disk: Write, Sync, Crash, Fail, New.
-/
import Derived.Test.YtdekhojafpkgfaaDkC
import Derived.KernelRfl
namespace Go.Proofs.Ytdekhojafpkgfaa.Fd
set_option linter.unusedSimpArgs false
set_option linter.unusedVariables false
open Go Go.ChangeMaps
set_option maxRecDepth 100000

theorem bld_rwrite (x : Int) (a : Option Addr) (n c : Nat) (w : World) : bldS Try.prog 66 #[(0, .int .i64 x), (1, .slice a n c)] w = some (.agg #[.int .i64 x, .slice a n c], w) := by kernel_rfl
theorem bsl_rwrite (x : Int) (a : Option Addr) (n c : Nat) (w : World) : bslS Try.prog 40 1 #[(0, .agg #[.int .i64 x, .slice a n c])] w =
    some (.slice (some ⟨w.heap.size, 0, none⟩) 1 1, w.alloc (.cells [.int .i64 x, .slice a n c].toArray 66 (0, 0))) := by kernel_rfl
theorem bsl_rsec (a : Option Addr) (n c : Nat) (w : World) : bslS Try.prog 39 1 #[(0, .slice a n c)] w =
    some (.slice (some ⟨w.heap.size, 0, none⟩) 1 1, w.alloc (.cells [.slice a n c].toArray 32 (0, 0))) := by kernel_rfl
theorem bld_rdisk (x y : Int) (w : World) : bldS Try.prog 42 #[(0, .int .i64 x), (4, .int .i64 y)] w = some (.agg #[.int .i64 x, .slice none 0 0, .slice none 0 0, .bool false, .int .i64 y], w) := by kernel_rfl
attribute [push_cast] bld_rdisk bld_rwrite bsl_rwrite bsl_rsec

theorem DS.step_same (d : DS) : d.step.2.size = d.size ∧ d.step.2.dur = d.dur ∧ d.step.2.cache = d.cache := by
  unfold DS.step
  split
  · exact ⟨rfl, rfl, rfl⟩
  · split <;> exact ⟨rfl, rfl, rfl⟩

set_option maxHeartbeats 1000000 in
theorem rwrite_ok {w : World} {F : Nat → Prop} {p : Nat} {d : DS} (h : IsRef w F p d) (hc : d.cache.length < 1000000000) (hk : ∀ k, d.cnt = some k → k < 9223372036854775808) (x : Int) {v : Value} {l : List Int} (hv : SlB w F v l) :
    Ok (den Try.prog 28 #[.pointer (some ⟨p, 0, none⟩), .int .i64 x, v] w) fun u w' => u = .int .i64 (d.write x l).2 ∧ IsRef w' (gr F w w') p (d.write x l).1 ∧ Upd F w w' := by
  have h' := h
  have hv' := hv
  obtain ⟨sv, svs, cv, cachs, h⟩ := h
  obtain ⟨a, cc, hsv⟩ := own_slice h.rows
  obtain ⟨a2, c2, rfl, hl⟩ := hv
  refine den_ok (args := [.pointer (some ⟨p, 0, none⟩), .int .i64 x, .slice a2 l.length c2]) rs28 Try.func28 rfl mixed in28 ok28 rfl ?_
  have hb := h.head
  rw [hsv] at hb
  have hdl : d.dur.length = svs.length := by rw [h.dur, List.length_map]
  by_cases hx : 0 ≤ x ∧ x < svs.length ∧ l.length = d.size
  rotate_left
  · have e : d.write x l = (d, 1) := by rw [DS.write, if_neg]; rw [hdl]; exact fun hh => hx ⟨hh.1, hh.2.1, hh.2.2⟩
    rw [e]
    by_cases h0 : x < 0
    · simp (disch := omega) only [push_cast, Nat.reduceBEq, Nat.reduceEqDiff, Nat.reduceAdd, Nat.reduceMul, Nat.reduceSub, Nat.reduceLT, Int.reduceToNat, Int.reduceLT, Int.reduceLE, Int.reduceEq, Int.reduceAdd, Int.reduceSub, Int.reduceNeg, Int.reduceMul, hb.cell]
      exact ⟨h'.gr, Upd.refl⟩
    · by_cases h1 : (svs.length : Int) ≤ x
      · simp (disch := omega) only [push_cast, Nat.reduceBEq, Nat.reduceEqDiff, Nat.reduceAdd, Nat.reduceMul, Nat.reduceSub, Nat.reduceLT, Int.reduceToNat, Int.reduceLT, Int.reduceLE, Int.reduceEq, Int.reduceAdd, Int.reduceSub, Int.reduceNeg, Int.reduceMul, hb.cell]
        exact ⟨h'.gr, Upd.refl⟩
      · have h2 : ¬ (l.length : Int) = d.size := by omega
        simp (disch := omega) only [push_cast, Nat.reduceBEq, Nat.reduceEqDiff, Nat.reduceAdd, Nat.reduceMul, Nat.reduceSub, Nat.reduceLT, Int.reduceToNat, Int.reduceLT, Int.reduceLE, Int.reduceEq, Int.reduceAdd, Int.reduceSub, Int.reduceNeg, Int.reduceMul, hb.cell]
        exact ⟨h'.gr, Upd.refl⟩
  · obtain ⟨x1, x2, x3⟩ := hx
    have x3' : (l.length : Int) = d.size := by omega
    simp (disch := omega) only [push_cast, Nat.reduceBEq, Nat.reduceEqDiff, Nat.reduceAdd, Nat.reduceMul, Nat.reduceSub, Nat.reduceLT, Int.reduceToNat, Int.reduceLT, Int.reduceLE, Int.reduceEq, Int.reduceAdd, Int.reduceSub, Int.reduceNeg, Int.reduceMul, hb.cell]
    refine Ok.use (rstep_ok h' hk) ?_
    rintro v w1 ⟨rfl, hd1, hu1⟩
    have hwr : d.write x l = if d.step.1 then ({ d.step.2 with cache := d.step.2.cache ++ [(x.toNat, l)] }, 0) else (d.step.2, 8) := by
      rw [DS.write, if_pos ⟨x1, by rw [hdl]; exact x2, x3⟩]
    rw [hwr]
    obtain ⟨e1, e2, e3⟩ := d.step_same
    generalize d.step.2 = d1 at *
    cases d.step.1
    · simp (disch := omega) only [push_cast, Nat.reduceBEq, Nat.reduceEqDiff, Nat.reduceAdd, Nat.reduceMul, Nat.reduceSub, Nat.reduceLT, Int.reduceToNat, Int.reduceLT, Int.reduceLE, Int.reduceEq, Int.reduceAdd, Int.reduceSub, Int.reduceNeg, Int.reduceMul]
      exact ⟨hd1.gr, hu1⟩
    · have hv1 := hv'.upd hu1 (fun _ h => h)
      have h0 := h.pos
      have hd1' := hd1
      obtain ⟨sv1, svs1, cv1, cachs1, h1⟩ := hd1
      have hb1 := h1.head
      obtain ⟨a1, c1, hcv1⟩ := own_slice h1.own
      have hp1 := hb1.lt
      have hcl1 : cachs1.length < 1000000000 := by
        have : d1.cache.length = cachs1.length := by rw [h1.cache, List.length_map]
        rw [e3] at this
        omega
      simp (disch := omega) only [push_cast, Nat.reduceBEq, Nat.reduceEqDiff, Nat.reduceAdd, Nat.reduceMul, Nat.reduceSub, Nat.reduceLT, Int.reduceToNat, Int.reduceLT, Int.reduceLE, Int.reduceEq, Int.reduceAdd, Int.reduceSub, Int.reduceNeg, Int.reduceMul, hb1.cell, hb1.free, hcv1]
      have hu2 : Upd (fun _ => False) w1 (w1.alloc (.cells #[] 5 (0, 0))).drew := Upd.alloc.trans Upd.drew (fun _ _ h => h)
      have hb0 : Blk (w1.alloc (.cells #[] 5 (0, 0))).drew w1.heap.size [] 5 := (Blk.new (w := w1) (cs := []) (E := 5)).drew
      have hs2 : (w1.alloc (.cells #[] 5 (0, 0))).drew.heap.size = w1.heap.size + 1 := by rw [size_drew, size_alloc]
      have hd2 := h1.upd hu2 (fun _ _ h => h)
      have hv2 := hv1.upd hu2 (fun _ h => h.elim)
      generalize (w1.alloc (.cells #[] 5 (0, 0))).drew = w2 at *
      refine app_clone hv2 (by omega) (by omega) (by omega) hb0 ?_
      intro g c4 w4 hg hu4 hbuf hlies
      have hsz4 := hu4.size
      have hu14 : Upd (fun _ => False) w1 w4 := hu2.trans hu4 (fun b h1 h2 => by omega)
      have hd4 := h1.upd hu14 (fun _ _ h => h)
      have hb4 := hd4.head
      have hown4 := hd4.own
      have hcvc := hd4.cvc
      have hsvc := hd4.svc
      have hcc := hd4.cachc
      have hdc := hd4.durc
      rw [hcv1] at hb4 hown4 hcvc hcc hdc hsvc
      have hgl : w1.heap.size ≤ g ∧ g < w4.heap.size := by omega
      have hp4 := hb4.lt
      simp (disch := omega) only [push_cast, Nat.reduceBEq, Nat.reduceEqDiff, Nat.reduceAdd, Nat.reduceMul, Nat.reduceSub, Nat.reduceLT, Int.reduceToNat, Int.reduceLT, Int.reduceLE, Int.reduceEq, Int.reduceAdd, Int.reduceSub, Int.reduceNeg, Int.reduceMul, hb1.cell, hb1.free, hb4.cell, hb4.free, hcv1]
      have hnw := Blk.new (w := w4) (cs := [Value.int .i64 x, .slice (some ⟨g, 0, none⟩) l.length c4]) (E := 66)
      have hb5 := hb4.alloc (.cells [Value.int .i64 x, .slice (some ⟨g, 0, none⟩) l.length c4].toArray 66 (0, 0))
      refine app_own (s := 2) (by_ := 32) (n := cachs1.length) (m := 1) (news := [Value.int .i64 x, .slice (some ⟨g, 0, none⟩) l.length c4]) t40_e t66_s t66_b t66_z rfl (by omega) (hown4.alloc _) rfl ?_ ?_ (by omega) (by unfold maxLen; omega) ?_
      · intro j hj
        rw [Nat.zero_add]
        exact hnw.cell j
      · intro u hu
        simp at hu
        rcases hu with rfl | rfl <;> rfl
      intro v' w6 hown6 hg6 hfr
      obtain ⟨a6, c6, rfl⟩ := own_slice hown6
      have hu56 := Upd.grown (F := fun b => (Value.slice a1 cachs1.length c1).ownBlock = some b) hg6 (fun k hk => hk)
      have hb6 := hb5.upd hu56 (fun e => (hcvc p e).2.1 rfl)
      have hu46 : Upd (fun b => (Value.slice a1 cachs1.length c1).ownBlock = some b) w4 w6 := Upd.alloc.trans hu56 (fun _ _ h => h)
      have hs46 : w4.heap.size < w6.heap.size := Nat.lt_of_lt_of_le (by rw [size_alloc]; omega) hu56.size
      have hp5 := hb5.lt
      have hp6 := hb6.lt
      have hb5' : Blk (w4.alloc (.cells #[Value.int .i64 x, .slice (some ⟨g, 0, none⟩) l.length c4] 66 (0, 0))) p _ _ := hb5
      simp (disch := omega) only [push_cast, Nat.reduceBEq, Nat.reduceEqDiff, Nat.reduceAdd, Nat.reduceMul, Nat.reduceSub, Nat.reduceLT, Int.reduceToNat, Int.reduceLT, Int.reduceLE, Int.reduceEq, Int.reduceAdd, Int.reduceSub, Int.reduceNeg, Int.reduceMul, hb1.cell, hb1.free, hb4.cell, hb4.free, hb5'.cell, hb5'.free, hb6.cell, hb6.free]
      have hu67 : Upd (fun b => b = p) w6 (w6.setCell ⟨p, 2, none⟩ (.slice a6 (cachs1.length + 1) c6)) := Upd.set rfl
      have hb7 := hb6.set 2 (.slice a6 (cachs1.length + 1) c6)
      have hs67 : (w6.setCell ⟨p, 2, none⟩ (.slice a6 (cachs1.length + 1) c6)).heap.size = w6.heap.size := size_set
      have hu47 : Upd (fun b => b = p ∨ (Value.slice a1 cachs1.length c1).ownBlock = some b) w4 (w6.setCell ⟨p, 2, none⟩ (.slice a6 (cachs1.length + 1) c6)) :=
        (hu46.mono (fun _ _ h => .inr h)).trans hu67 (fun _ _ h => .inl h)
      have hw1 : w.heap.size ≤ w1.heap.size := hu1.size
      generalize w6.setCell ⟨p, 2, none⟩ (.slice a6 (cachs1.length + 1) c6) = w7 at *
      have hblk : ∀ g, (Value.slice a6 (cachs1.length + 1) c6).ownBlock = some g → (F g ∧ g ≠ p ∧ (Value.slice a1 cachs1.length c1).ownBlock = some g) ∨ (w4.heap.size ≤ g ∧ g < w6.heap.size) := by
        intro g hg
        rcases hfr with h | ⟨g', h, hge⟩
        · rw [h] at hg
          exact .inl ⟨(hcvc g hg).1, (hcvc g hg).2.1, hg⟩
        · rw [h] at hg
          injection hg with hg
          subst hg
          rw [size_alloc] at hge
          exact .inr ⟨by omega, (hown6.lt _ h).2⟩
      have hold : ∀ b, F b → b < w1.heap.size := h1.bd
      have hown7 := ownsRow_upd hown6 hu67 (fun g hg e => by
        subst e
        rcases hblk _ hg with h | h
        · exact h.2.1 rfl
        · omega)
      have hne : ∀ b, F b → (Value.slice a1 cachs1.length c1).ownBlock ≠ some b → (Value.slice a6 (cachs1.length + 1) c6).ownBlock ≠ some b := by
        intro b hb hn hg
        rcases hblk _ hg with h | h
        · exact hn h.2.2
        · have := hold b hb; omega
      have hrc : ∀ {v : Value} {l : List Int}, RC w4 F p sv1 (Value.slice a1 cachs1.length c1) v l → RC w7 (gr F w w7) p sv1 (Value.slice a6 (cachs1.length + 1) c6) v l :=
        fun h => h.to hu47 hd4.bd (fun g _ h1 _ h3 h => h.elim h1 h3) (fun _ h => .inl h) (fun _ _ h => h) (fun b hb h => hne b hb h)
      refine ⟨⟨sv1, svs1, .slice a6 (cachs1.length + 1) c6, cachs1 ++ [(x.toNat, .slice (some ⟨g, 0, none⟩) l.length c4, l)], ?_, ?_, ?_, h1.dur, ?_, ?_, ?_, ?_, ?_, .inl h1.fp, h1.pos, ?_⟩, ?_⟩
      · exact hb7
      · exact ownsRow_upd hd4.rows hu47 (fun g hg h => h.elim (hsvc g hg).2.1 (hsvc g hg).2.2)
      · have e5 : (cachs1 ++ [(x.toNat, Value.slice (some ⟨g, 0, none⟩) l.length c4, l)]).flatMap rowR = cachs1.flatMap rowR ++ [.int .i64 x, .slice (some ⟨g, 0, none⟩) l.length c4] := by
          simp [rowR, Int.toNat_of_nonneg x1]
        rw [e5, List.length_append]
        exact hown7
      · rw [List.map_append]
        show d1.cache ++ _ = _
        rw [h1.cache]
        rfl
      · intro y hy
        exact ⟨hrc (hdc y hy).1, (hdc y hy).2⟩
      · intro y hy
        rcases List.mem_append.1 hy with hy | hy
        · exact ⟨hrc (hcc y hy).1, (hcc y hy).2⟩
        · simp only [List.mem_singleton] at hy
          subst hy
          have hdl1 : d1.dur.length = svs1.length := by rw [h1.dur, List.length_map]
          have hgF : ¬ F g := fun h => by have := hold g h; omega
          refine ⟨⟨g, c4, rfl, hlies.upd hu47 hgl.2 ?_, .inr ⟨by omega, by have := hu47.size; omega⟩, ?_, ?_, ?_⟩, ?_, ?_⟩
          · rintro (h | h)
            · exact hgF (h ▸ h1.fp)
            · exact hgF (hcvc g h).1
          · exact fun h => hgF (h ▸ h1.fp)
          · exact fun h => hgF (hsvc g h).1
          · intro h
            rcases hblk _ h with h | h
            · exact hgF h.1
            · omega
          · show l.length = d1.size
            omega
          · show x.toNat < svs1.length
            rw [← hdl1, e2, hdl]; omega
      · intro g hg
        refine ⟨.inl (hsvc g hg).1, (hsvc g hg).2.1, hne g (hsvc g hg).1 (hsvc g hg).2.2⟩
      · intro g hg
        rcases hblk _ hg with h | h
        · exact ⟨.inl h.1, h.2.1, (hcvc g h.2.2).2.2⟩
        · exact ⟨.inr ⟨by omega, by omega⟩, by omega, fun h5 => by have := hold g (hsvc g h5).1; omega⟩
      · intro b hb
        rcases hb with h | h
        · have := hold b h; omega
        · exact h.2
      · refine hu1.trans ((hu14.mono (fun _ _ h => h.elim)).trans (F := F) hu47 ?_) (fun _ _ h => h)
        intro b _ h
        rcases h with rfl | h
        · exact h1.fp
        · exact (hcvc b h).1

/-- The sectors' row behind some writes that are carried out. -/
structure Turn (w w' : World) (F : Nat → Prop) (p : Nat) (d : DS) (sv cv : Value) (n : Nat) (svs : List (Value × List Int)) (dur : List (List Int)) : Prop where
  rows : w'.ownsRow 0 32 1 sv svs.length (svs.map (·.1))
  len : svs.length = n
  dur : svs.map (·.2) = dur
  each : ∀ x ∈ svs, RC w F p sv cv x.1 x.2 ∧ x.2.length = d.size
  upd : Upd (fun b => sv.ownBlock = some b) w w'
theorem Turn.new {w : World} {F : Nat → Prop} {p : Nat} {d : DS} {sv cv : Value} {svs : List (Value × List Int)} {cachs : List (Nat × Value × List Int)} (h : RDisk w F p d sv svs cv cachs) : Turn w w F p d sv cv svs.length svs d.dur :=
  ⟨h.rows, rfl, h.dur.symm, h.durc, Upd.refl⟩
theorem Turn.set {w w' : World} {F : Nat → Prop} {p : Nat} {d : DS} {sv cv : Value} {n : Nat} {svs : List (Value × List Int)} {dur : List (List Int)} (t : Turn w w' F p d sv cv n svs dur) {q cap : Nat} (hsv : sv = .slice (some ⟨q, 0, none⟩) n cap) {s : Nat}
    {v : Value} {l : List Int} (hv : RC w F p sv cv v l ∧ l.length = d.size) : Turn w (w'.setCell ⟨q, s, none⟩ v) F p d sv cv n (svs.set s (v, l)) (dur.set s l) := by
  have h1 := t.rows
  have h2 := t.len
  refine ⟨?_, by simp [h2], by rw [List.map_set, t.dur], ?_, t.upd.setIn (by rw [hsv]; rfl)⟩
  · rw [List.length_set, List.map_set, h2]
    rw [h2] at h1
    rw [hsv] at h1 ⊢
    exact (h1.stored s v).1
  · intro x hx
    rcases List.mem_or_eq_of_mem_set hx with hx | rfl
    · exact t.each x hx
    · exact hv
theorem Turn.drew {w w' : World} {F : Nat → Prop} {p : Nat} {d : DS} {sv cv : Value} {n : Nat} {svs : List (Value × List Int)} {dur : List (List Int)} (t : Turn w w' F p d sv cv n svs dur) : Turn w w'.drew F p d sv cv n svs dur :=
  ⟨t.rows, t.len, t.dur, t.each, t.upd.drew'⟩
theorem Turn.done {w w' w2 : World} {F : Nat → Prop} {p : Nat} {d d' : DS} {sv cv : Value} {svs svs' : List (Value × List Int)} {cachs : List (Nat × Value × List Int)} {dur : List (List Int)} (h : RDisk w F p d sv svs cv cachs)
    (t : Turn w w' F p d sv cv svs.length svs' dur) (hu : Upd (fun b => b = p) w' w2) (hb : Blk w2 p [.int .i64 d'.size, sv, .slice none 0 0, .bool d'.off, .int .i64 (cntI d'.cnt)] 42)
    (h1 : d'.size = d.size) (h2 : d'.dur = dur) (h3 : d'.cache = []) : RDisk w2 F p d' sv svs' (.slice none 0 0) [] := by
  have hu2 : Upd (fun b => b = p ∨ sv.ownBlock = some b) w w2 := (t.upd.mono (fun _ _ h => .inr h)).trans hu (fun _ _ h => .inl h)
  refine ⟨hb, ownsRow_upd t.rows hu (fun g hg => (h.svc g hg).2.1), World.ownsRow_nil _ _ _ _, by rw [h2, t.dur], h3, ?_, by simp, ?_, by simp [Value.ownBlock], h.fp, by rw [h1, t.len]; exact h.pos, fun b hb => Nat.lt_of_lt_of_le (h.bd b hb) hu2.size⟩
  · intro x hx
    exact ⟨(t.each x hx).1.to hu2 h.bd (fun g _ h1 h2 _ h => h.elim h1 h2) (fun _ h => h) (fun _ _ h => h) (by simp [Value.ownBlock]), by rw [h1]; exact (t.each x hx).2⟩
  · intro g hg
    exact ⟨(h.svc g hg).1, (h.svc g hg).2.1, by simp [Value.ownBlock]⟩
theorem settled_none {ch : Nat → Bool} {c : List (Nat × List Int)} {dur : List (List Int)} {k : Nat} (hk : ∀ i, k ≤ i → ch i = false) : ∀ n, settled ch c dur (k + n) = settled ch c dur k := by
  intro n
  induction n with
  | zero => rfl
  | succ n ih =>
    show settled ch c dur ((k + n) + 1) = _
    simp only [settled]
    split
    · rw [if_neg (by rw [hk _ (by omega)]; decide)]
      exact ih
    · exact ih

theorem rsync_ok {w : World} {F : Nat → Prop} {p : Nat} {d : DS} (h : IsRef w F p d) (hc : d.cache.length < 1000000000) (hk : ∀ k, d.cnt = some k → k < 9223372036854775808) :
    Ok (den Try.prog 29 #[.pointer (some ⟨p, 0, none⟩)] w) fun u w' => u = .int .i64 d.sync.2 ∧ IsRef w' (gr F w w') p d.sync.1 ∧ Upd F w w' := by
  refine den_ok (args := [.pointer (some ⟨p, 0, none⟩)]) rs29 Try.func29 rfl mixed in29 ok29 rfl ?_
  simp (disch := omega) only [push_cast, Nat.reduceBEq, Nat.reduceEqDiff, Nat.reduceAdd, Nat.reduceMul, Nat.reduceSub, Nat.reduceLT, Int.reduceToNat, Int.reduceLT, Int.reduceLE, Int.reduceEq, Int.reduceAdd, Int.reduceSub, Int.reduceNeg, Int.reduceMul]
  refine Ok.use (rstep_ok h hk) ?_
  rintro v w1 ⟨rfl, h1, hu1⟩
  obtain ⟨-, -, hce⟩ := d.step_same
  unfold DS.sync
  generalize d.step.2 = d1 at *
  cases d.step.1
  · simp (disch := omega) only [push_cast, Nat.reduceBEq, Nat.reduceEqDiff, Nat.reduceAdd, Nat.reduceMul, Nat.reduceSub, Nat.reduceLT, Int.reduceToNat, Int.reduceLT, Int.reduceLE, Int.reduceEq, Int.reduceAdd, Int.reduceSub, Int.reduceNeg, Int.reduceMul]
    exact ⟨h1.gr, hu1⟩
  · have h1' := h1
    obtain ⟨sv, svs, cv, cachs, h1⟩ := h1
    obtain ⟨a, cc, hcv⟩ := own_slice h1.own
    obtain ⟨a2, cc2, hsv⟩ := own_slice h1.rows
    have hcl : d1.cache.length = cachs.length := by rw [h1.cache, List.length_map]
    have hcb : cachs.length < 1000000000 := by rw [← hcl, hce]; exact hc
    have hb := h1.head
    rw [hcv, hsv] at hb
    simp (disch := omega) only [push_cast, Nat.reduceBEq, Nat.reduceEqDiff, Nat.reduceAdd, Nat.reduceMul, Nat.reduceSub, Nat.reduceLT, Int.reduceToNat, Int.reduceLT, Int.reduceLE, Int.reduceEq, Int.reduceAdd, Int.reduceSub, Int.reduceNeg, Int.reduceMul]
    refine loop_inv (I := fun k st w' => Bx (∃ i svs', k + i = cachs.length ∧ st = [.int .i64 (i : Int)] ∧ Turn w1 w' F p d1 sv cv svs.length svs' (settled (fun _ => true) d1.cache d1.dur i)) ⟨⟩) ?_ cachs.length ⟨0, svs, rfl, rfl, Turn.new h1⟩
    rintro k st w' ⟨i, svs', hki, rfl, t⟩
    have hbw := hb.upd t.upd (fun e => (h1.svc p e).2.1 rfl)
    by_cases hk0 : k = 0
    · obtain rfl : i = cachs.length := by omega
      simp (disch := omega) only [push_cast, Nat.reduceBEq, Nat.reduceEqDiff, Nat.reduceAdd, Nat.reduceMul, Nat.reduceSub, Nat.reduceLT, Int.reduceToNat, Int.reduceLT, Int.reduceLE, Int.reduceEq, Int.reduceAdd, Int.reduceSub, Int.reduceNeg, Int.reduceMul, hbw.cell, hbw.free]
      have hu2 : Upd (fun b => b = p) w' (w'.setCell ⟨p, 2, none⟩ (.slice none 0 0)) := Upd.set rfl
      have hb2 := hbw.set 2 (.slice none 0 0)
      rw [← hcl] at t
      have hd := t.done h1 hu2 (d' := d1.settle fun _ => true) (by rw [hsv]; exact hb2) rfl rfl rfl
      have hu12 : Upd F w1 (w'.setCell ⟨p, 2, none⟩ (.slice none 0 0)) := (t.upd.mono (fun b _ e => (h1.svc b e).1)).trans hu2 (fun b _ e => e ▸ h1.fp)
      exact ⟨IsRef.gr ⟨_, _, _, _, hd⟩, hu1.trans hu12 (fun _ _ h => h)⟩
    · have hi : i < cachs.length := by omega
      obtain ⟨y, hy⟩ : ∃ y, cachs[i]? = some y := ⟨cachs[i], by simp⟩
      have hym := List.mem_of_getElem? hy
      obtain ⟨⟨g, c, e1, e2, e3⟩, hyl, hys⟩ := h1.cachc y hym
      obtain ⟨gb, cap', hv, hob, hcell⟩ := own_cell (f := rowR) (fun _ => rfl) (ownsRow_upd h1.own t.upd (fun g hg e => (h1.cvc g hg).2.2 e)) hy
      have hc0 := hcell 0 (by omega)
      have hc1 := hcell 1 (by omega)
      simp only [rowR, List.getElem?_cons_zero, List.getElem?_cons_succ, e1, Nat.add_zero] at hc0 hc1
      rw [hcv] at hv
      injection hv with f1 f2 f3
      subst f1
      obtain ⟨z, hz⟩ : ∃ z, svs'[y.1]? = some z := ⟨svs'[y.1]'(by rw [t.len]; exact hys), by simp⟩
      obtain ⟨q, cap, hsq, hoq, hqcell⟩ := own_cell (s := 1) (f := fun x : Value × List Int => [x.1]) (fun _ => rfl) (E := 32) (v := sv) (by rw [flat_one]; exact t.rows) hz
      have hq := hqcell 0 (by omega)
      simp only [List.getElem?_cons_zero, Nat.mul_one, Nat.add_zero] at hq
      rw [t.len] at hsq
      have hsq' := hsq
      rw [hsv] at hsq'
      injection hsq' with f4 f5 f6
      subst f4 f6
      have hfq : w'.frozen? ⟨q, y.1, none⟩ = false := by
        have := t.rows
        rw [t.len, hsq] at this
        exact this.frozenAt y.1
      simp (disch := omega) only [push_cast, Nat.reduceBEq, Nat.reduceEqDiff, Nat.reduceAdd, Nat.reduceMul, Nat.reduceSub, Nat.reduceLT, Int.reduceToNat, Int.reduceLT, Int.reduceLE, Int.reduceEq, Int.reduceAdd, Int.reduceSub, Int.reduceNeg, Int.reduceMul, hbw.cell, hc0, hc1, hq, hfq]
      refine ⟨k - 1, by omega, i + 1, svs'.set y.1 (y.2.1, y.2.2), by omega, by simp, ?_⟩
      have hs : settled (fun _ => true) d1.cache d1.dur (i + 1) = (settled (fun _ => true) d1.cache d1.dur i).set y.1 y.2.2 := by
        have : d1.cache[i]? = some (y.1, y.2.2) := by rw [h1.cache, List.getElem?_map, hy]; rfl
        simp only [settled, this, if_true]
      rw [hs, ← e1]
      exact (t.set hsq ⟨(h1.cachc y hym).1, hyl⟩).drew

theorem rcrash_ok {w : World} {F : Nat → Prop} {p : Nat} {d : DS} (h : IsRef w F p d) (hc : d.cache.length < 1000000000) {v : Value} {l : List Bool} (hv : SlT w F v l) :
    Ok (den Try.prog 31 #[.pointer (some ⟨p, 0, none⟩), v] w) fun _ w' => IsRef w' (gr F w w') p (d.crash l) ∧ Upd F w w' := by
  obtain ⟨av, cv0, rfl, hl⟩ := hv
  refine den_ok (args := [.pointer (some ⟨p, 0, none⟩), .slice av l.length cv0]) rs31 Try.func31 rfl mixed in31 ok31 rfl ?_
  obtain ⟨sv, svs, cv, cachs, h1⟩ := h
  obtain ⟨a, cc, hcv⟩ := own_slice h1.own
  obtain ⟨a2, cc2, hsv⟩ := own_slice h1.rows
  have hcl : d.cache.length = cachs.length := by rw [h1.cache, List.length_map]
  have hb := h1.head
  rw [hcv, hsv] at hb
  simp (disch := omega) only [push_cast, Nat.reduceBEq, Nat.reduceEqDiff, Nat.reduceAdd, Nat.reduceMul, Nat.reduceSub, Nat.reduceLT, Int.reduceToNat, Int.reduceLT, Int.reduceLE, Int.reduceEq, Int.reduceAdd, Int.reduceSub, Int.reduceNeg, Int.reduceMul]
  refine loop_inv (I := fun k st w' => Bx (∃ i svs', k + i = cachs.length ∧ i ≤ l.length ∧ st = [.int .i64 (i : Int)] ∧ Turn w w' F p d sv cv svs.length svs' (settled (fun i => l.getD i false) d.cache d.dur i)) ⟨⟩) ?_ cachs.length ⟨0, svs, rfl, Nat.zero_le _, rfl, Turn.new h1⟩
  rintro k st w' ⟨i, svs', hki, hil, rfl, t⟩
  have hbw := hb.upd t.upd (fun e => (h1.svc p e).2.1 rfl)
  have fin : (i = cachs.length ∨ i = l.length) → IsRef (((w'.setCell ⟨p, 2, none⟩ (.slice none 0 0)).setCell ⟨p, 3, none⟩ (.bool false)).setCell ⟨p, 4, none⟩ (.int .i64 (-1))) (gr F w (((w'.setCell ⟨p, 2, none⟩ (.slice none 0 0)).setCell ⟨p, 3, none⟩ (.bool false)).setCell ⟨p, 4, none⟩ (.int .i64 (-1)))) p (d.crash l) ∧
      Upd F w (((w'.setCell ⟨p, 2, none⟩ (.slice none 0 0)).setCell ⟨p, 3, none⟩ (.bool false)).setCell ⟨p, 4, none⟩ (.int .i64 (-1))) := by
    intro hi
    have hu2 : Upd (fun b => b = p) w' (((w'.setCell ⟨p, 2, none⟩ (.slice none 0 0)).setCell ⟨p, 3, none⟩ (.bool false)).setCell ⟨p, 4, none⟩ (.int .i64 (-1))) := (((Upd.refl (F := fun b => b = p)).setIn rfl).setIn rfl).setIn rfl
    have hb2 := ((hbw.set 2 (.slice none 0 0)).set 3 (.bool false)).set 4 (.int .i64 (-1))
    have hst : settled (fun i => l.getD i false) d.cache d.dur i = (d.crash l).dur := by
      show _ = settled (fun i => l.getD i false) d.cache d.dur d.cache.length
      rcases hi with rfl | rfl
      · rw [hcl]
      · rw [show d.cache.length = l.length + (d.cache.length - l.length) from by omega, settled_none]
        intro j hj
        simp [List.getD_eq_getElem?_getD, hj]
    have hd := t.done h1 hu2 (d' := d.crash l) (by rw [hsv]; exact hb2) rfl hst.symm rfl
    have hu12 : Upd F w _ := (t.upd.mono (fun b _ e => (h1.svc b e).1)).trans hu2 (fun b _ e => e ▸ h1.fp)
    exact ⟨IsRef.gr ⟨_, _, _, _, hd⟩, hu12⟩
  by_cases hk0 : k = 0
  · have hi : i = cachs.length := by omega
    have hi' : ¬ (i : Int) < cachs.length := by omega
    simp (disch := omega) only [push_cast, Nat.reduceBEq, Nat.reduceEqDiff, Nat.reduceAdd, Nat.reduceMul, Nat.reduceSub, Nat.reduceLT, Int.reduceToNat, Int.reduceLT, Int.reduceLE, Int.reduceEq, Int.reduceAdd, Int.reduceSub, Int.reduceNeg, Int.reduceMul, hbw.cell, hbw.free]
    exact fin (.inl hi)
  · have hi : i < cachs.length := by omega
    by_cases hil2 : i < l.length
    rotate_left
    · have hi' : ¬ (i : Int) < l.length := by omega
      simp (disch := omega) only [push_cast, Nat.reduceBEq, Nat.reduceEqDiff, Nat.reduceAdd, Nat.reduceMul, Nat.reduceSub, Nat.reduceLT, Int.reduceToNat, Int.reduceLT, Int.reduceLE, Int.reduceEq, Int.reduceAdd, Int.reduceSub, Int.reduceNeg, Int.reduceMul, hbw.cell, hbw.free]
      exact fin (.inr (by omega))
    · obtain ⟨b, o, rfl, hbl, hbc, hbF⟩ := hl (by intro e; rw [e] at hil2; simp at hil2)
      have hcc := hbc i hil2
      rw [List.getElem?_eq_getElem hil2] at hcc
      simp only [Option.map_some] at hcc
      have hkc : w'.cell? ⟨b, o + i, none⟩ = some (.bool l[i]) := by
        rw [← hcc]; exact World.cell?_of_block (t.upd.block b hbl (fun h => hbF (h1.svc b h).1))
      obtain ⟨y, hy⟩ : ∃ y, cachs[i]? = some y := ⟨cachs[i], by simp⟩
      have hym := List.mem_of_getElem? hy
      have hcy : d.cache[i]? = some (y.1, y.2.2) := by rw [h1.cache, List.getElem?_map, hy]; rfl
      have hld : l.getD i false = l[i] := by simp [List.getD_eq_getElem?_getD, hil2]
      cases hch : l[i]
      · rw [hch] at hkc hld
        simp (disch := omega) only [push_cast, Nat.reduceBEq, Nat.reduceEqDiff, Nat.reduceAdd, Nat.reduceMul, Nat.reduceSub, Nat.reduceLT, Int.reduceToNat, Int.reduceLT, Int.reduceLE, Int.reduceEq, Int.reduceAdd, Int.reduceSub, Int.reduceNeg, Int.reduceMul, hbw.cell, hkc]
        refine ⟨k - 1, by omega, i + 1, svs', by omega, by omega, by simp, ?_⟩
        have hs : settled (fun i => l.getD i false) d.cache d.dur (i + 1) = settled (fun i => l.getD i false) d.cache d.dur i := by
          simp only [settled, hcy]
          rw [if_neg (by rw [hld]; decide)]
        rw [hs]
        exact t
      · rw [hch] at hkc hld
        obtain ⟨⟨g, c, e1, e2, e3⟩, hyl, hys⟩ := h1.cachc y hym
        obtain ⟨gb, cap', hv, hob, hcell⟩ := own_cell (f := rowR) (fun _ => rfl) (ownsRow_upd h1.own t.upd (fun g hg e => (h1.cvc g hg).2.2 e)) hy
        have hc0 := hcell 0 (by omega)
        have hc1 := hcell 1 (by omega)
        simp only [rowR, List.getElem?_cons_zero, List.getElem?_cons_succ, e1, Nat.add_zero] at hc0 hc1
        rw [hcv] at hv
        injection hv with f1 f2 f3
        subst f1
        obtain ⟨z, hz⟩ : ∃ z, svs'[y.1]? = some z := ⟨svs'[y.1]'(by rw [t.len]; exact hys), by simp⟩
        obtain ⟨q, cap, hsq, hoq, hqcell⟩ := own_cell (s := 1) (f := fun x : Value × List Int => [x.1]) (fun _ => rfl) (E := 32) (v := sv) (by rw [flat_one]; exact t.rows) hz
        have hq := hqcell 0 (by omega)
        simp only [List.getElem?_cons_zero, Nat.mul_one, Nat.add_zero] at hq
        rw [t.len] at hsq
        have hsq' := hsq
        rw [hsv] at hsq'
        injection hsq' with f4 f5 f6
        subst f4 f6
        have hfq : w'.frozen? ⟨q, y.1, none⟩ = false := by
          have := t.rows
          rw [t.len, hsq] at this
          exact this.frozenAt y.1
        simp (disch := omega) only [push_cast, Nat.reduceBEq, Nat.reduceEqDiff, Nat.reduceAdd, Nat.reduceMul, Nat.reduceSub, Nat.reduceLT, Int.reduceToNat, Int.reduceLT, Int.reduceLE, Int.reduceEq, Int.reduceAdd, Int.reduceSub, Int.reduceNeg, Int.reduceMul, hbw.cell, hkc, hc0, hc1, hq, hfq]
        refine ⟨k - 1, by omega, i + 1, svs'.set y.1 (y.2.1, y.2.2), by omega, by omega, by simp, ?_⟩
        have hs : settled (fun i => l.getD i false) d.cache d.dur (i + 1) = (settled (fun i => l.getD i false) d.cache d.dur i).set y.1 y.2.2 := by
          simp only [settled, hcy]
          rw [if_pos (by rw [hld])]
        rw [hs, ← e1]
        exact (t.set hsq ⟨(h1.cachc y hym).1, hyl⟩).drew

theorem rfail_ok {w : World} {F : Nat → Prop} {p : Nat} {d : DS} (h : IsRef w F p d) (n : Int) :
    Ok (den Try.prog 30 #[.pointer (some ⟨p, 0, none⟩), .int .i64 n] w) fun _ w' => IsRef w' (gr F w w') p (d.fail n) ∧ Upd F w w' := by
  have h' := h
  obtain ⟨sv, svs, cv, cachs, h⟩ := h
  refine den_ok (args := [.pointer (some ⟨p, 0, none⟩), .int .i64 n]) rs30 Try.func30 rfl mixed in30 ok30 rfl ?_
  have hb := h.head
  obtain ⟨size, dur, cache, off, cnt⟩ := d
  cases off
  · simp (disch := omega) only [push_cast, Nat.reduceBEq, Nat.reduceEqDiff, Nat.reduceAdd, Nat.reduceMul, Nat.reduceSub, Nat.reduceLT, Int.reduceToNat, Int.reduceLT, Int.reduceLE, Int.reduceEq, Int.reduceAdd, Int.reduceSub, Int.reduceNeg, Int.reduceMul, hb.cell, hb.free]
    have hu : Upd (fun b => b = p) w (w.setCell ⟨p, 4, none⟩ (.int .i64 (max n 0))) := Upd.set rfl
    refine ⟨IsRef.gr ⟨sv, svs, cv, cachs, h.headed hu (d' := ⟨size, dur, cache, false, some (max n 0).toNat⟩) ?_ rfl rfl rfl⟩, hu.mono fun b _ e => e ▸ h.fp⟩
    have := hb.set 4 (.int .i64 (max n 0))
    rw [show cntI (some (max n 0).toNat) = max n 0 from by show (((max n 0).toNat : Nat) : Int) = max n 0; omega]
    exact this
  · simp (disch := omega) only [push_cast, Nat.reduceBEq, Nat.reduceEqDiff, Nat.reduceAdd, Nat.reduceMul, Nat.reduceSub, Nat.reduceLT, Int.reduceToNat, Int.reduceLT, Int.reduceLE, Int.reduceEq, Int.reduceAdd, Int.reduceSub, Int.reduceNeg, Int.reduceMul, hb.cell, hb.free]
    exact ⟨h'.gr, Upd.refl⟩

theorem rnew_ok {w : World} {n size : Nat} (h2 : n ≤ 65536) (h3 : 16 ≤ size) (h4 : size ≤ 4096) :
    Ok (den Try.prog 14 #[.int .i64 n, .int .i64 size] w) fun v w' => ∃ p, v = .pointer (some ⟨p, 0, none⟩) ∧ IsRef w' (gr (fun _ => False) w w') p (DS.new n size) ∧ Upd (fun _ => False) w w' := by
  refine den_ok (args := [.int .i64 n, .int .i64 size]) rs14 Try.func14 rfl mixed in14 ok14 rfl ?_
  simp (disch := omega) only [push_cast, Nat.reduceBEq, Nat.reduceEqDiff, Nat.reduceAdd, Nat.reduceMul, Nat.reduceSub, Nat.reduceLT, Int.reduceToNat, Int.reduceLT, Int.reduceLE, Int.reduceEq, Int.reduceAdd, Int.reduceSub, Int.reduceNeg, Int.reduceMul]
  have hh0 : Blk (w.alloc (.cells [Value.int .i64 (size : Int), .slice none 0 0, .slice none 0 0, .bool false, .int .i64 (-1)].toArray 42 (0, 0))) w.heap.size
      [.int .i64 (size : Int), .slice none 0 0, .slice none 0 0, .bool false, .int .i64 (-1)] 42 := Blk.new
  have hu0 : Upd (fun _ => False) w (w.alloc (.cells [Value.int .i64 (size : Int), .slice none 0 0, .slice none 0 0, .bool false, .int .i64 (-1)].toArray 42 (0, 0))) := Upd.alloc
  refine loop_inv (I := fun k st w' => Bx (∃ i vs sv, k + i = n ∧ st = [.int .i64 (i : Int)] ∧ Upd (fun _ => False) w w' ∧ vs.length = i ∧
    Blk w' w.heap.size [.int .i64 (size : Int), sv, .slice none 0 0, .bool false, .int .i64 (-1)] 42 ∧
    w'.ownsRow 0 32 1 sv vs.length (vs.map fun x : Value × List Int => x.1) ∧ (∀ g, sv.ownBlock = some g → w.heap.size < g) ∧
    ∀ x ∈ vs, x.2 = List.replicate size 0 ∧ ∃ g c, x.1 = .slice (some ⟨g, 0, none⟩) size c ∧ Lies w' g 0 x.2 ∧ w.heap.size < g ∧ g < w'.heap.size ∧ sv.ownBlock ≠ some g) ⟨⟩) ?_ n
    ⟨0, [], .slice none 0 0, rfl, rfl, hu0, rfl, hh0, World.ownsRow_nil _ _ _ _, by simp [Value.ownBlock], by simp⟩
  rintro k st w' ⟨i, vs, sv, hki, rfl, hu, hvl, hh, hown, hsv, hvs⟩
  obtain ⟨a, c, hsvf⟩ := own_slice hown
  have hl := hh.lt
  have hsz := hu.size
  by_cases hk0 : k = 0
  · subst hk0
    obtain rfl : i = n := by omega
    simp (disch := omega) only [push_cast, Nat.reduceBEq, Nat.reduceEqDiff, Nat.reduceAdd, Nat.reduceMul, Nat.reduceSub, Nat.reduceLT, Int.reduceToNat, Int.reduceLT, Int.reduceLE, Int.reduceEq, Int.reduceAdd, Int.reduceSub, Int.reduceNeg, Int.reduceMul]
    refine ⟨_, rfl, ⟨sv, vs, .slice none 0 0, [], hh, hown, World.ownsRow_nil _ _ _ _, ?_, rfl, ?_, by simp, ?_, by simp [Value.ownBlock], .inr ⟨Nat.le_refl _, hl⟩, ⟨by show 0 < size; omega, h4, by omega⟩, ?_⟩, hu⟩
    · show List.replicate i (List.replicate size 0) = vs.map (·.2)
      rw [eq_comm, List.eq_replicate_iff]
      refine ⟨by simpa using hvl, ?_⟩
      intro l hl
      obtain ⟨x, hx, rfl⟩ := List.mem_map.1 hl
      exact (hvs x hx).1
    · intro x hx
      obtain ⟨e1, g, c', e2, e3, e4, e5, e6⟩ := hvs x hx
      have e7 : x.2.length = size := by rw [e1]; simp
      refine ⟨⟨g, c', by rw [e7]; exact e2, e3, .inr ⟨by omega, e5⟩, by omega, e6, by simp [Value.ownBlock]⟩, e7⟩
    · intro g hg
      have := (hown.lt g hg).2
      have := hsv g hg
      exact ⟨.inr ⟨by omega, by omega⟩, by omega, by simp [Value.ownBlock]⟩
    · rintro b (hb | hb)
      · exact hb.elim
      · exact hb.2
  · obtain ⟨j, rfl⟩ := Nat.exists_eq_succ_of_ne_zero hk0
    rw [hsvf] at hh hown
    simp (disch := omega) only [push_cast, Nat.reduceBEq, Nat.reduceEqDiff, Nat.reduceAdd, Nat.reduceMul, Nat.reduceSub, Nat.reduceLT, Int.reduceToNat, Int.reduceLT, Int.reduceLE, Int.reduceEq, Int.reduceAdd, Int.reduceSub, Int.reduceNeg, Int.reduceMul, hh.cell, hh.free]
    have hnew : Blk ((w'.alloc (.cells (List.replicate size (Value.int .u8 0)).toArray 5 (0, 0))).alloc (.cells [Value.slice (some ⟨w'.heap.size, 0, none⟩) size size].toArray 32 (0, 0))).drew w'.heap.size (by8 (List.replicate size 0)) 5 := by
      rw [by8_zeros]; exact (Blk.new.alloc _).drew
    have hn2 : ∀ {w1 : World}, w1.heap.size = w'.heap.size + 1 → Blk (w1.alloc (.cells [Value.slice (some ⟨w'.heap.size, 0, none⟩) size size].toArray 32 (0, 0))).drew (w'.heap.size + 1) [Value.slice (some ⟨w'.heap.size, 0, none⟩) size size] 32 := by
      intro w1 h; rw [← h]; exact Blk.new.drew
    replace hn2 := hn2 (w1 := w'.alloc (.cells (List.replicate size (Value.int .u8 0)).toArray 5 (0, 0))) size_alloc
    have hu2 : Upd (fun _ => False) w' ((w'.alloc (.cells (List.replicate size (Value.int .u8 0)).toArray 5 (0, 0))).alloc (.cells [Value.slice (some ⟨w'.heap.size, 0, none⟩) size size].toArray 32 (0, 0))).drew := Upd.refl.alloc'.alloc'.drew'
    have hs2 : ((w'.alloc (.cells (List.replicate size (Value.int .u8 0)).toArray 5 (0, 0))).alloc (.cells [Value.slice (some ⟨w'.heap.size, 0, none⟩) size size].toArray 32 (0, 0))).drew.heap.size = w'.heap.size + 2 := by rw [size_drew, size_alloc, size_alloc]
    generalize ((w'.alloc (.cells (List.replicate size (Value.int .u8 0)).toArray 5 (0, 0))).alloc (.cells [Value.slice (some ⟨w'.heap.size, 0, none⟩) size size].toArray 32 (0, 0))).drew = w2 at *
    have hh2 := hh.upd hu2 (fun h => h)
    refine app_own (s := 1) (by_ := 24) (n := vs.length) (m := 1) (news := [.slice (some ⟨w'.heap.size, 0, none⟩) size size]) t39_e t32_s t32_b t32_z rfl (by omega) (ownsRow_upd hown hu2 (fun _ _ h => h)) rfl ?_ ?_ (by omega) (by unfold maxLen; omega) ?_
    · intro q hq
      rw [Nat.zero_add]
      exact hn2.cell q
    · intro u hu
      simp at hu
      subst hu
      rfl
    intro v' w4 hown4 hg4 hfr
    obtain ⟨a4, c4, rfl⟩ := own_slice hown4
    have hu24 := Upd.grown (F := fun b => (Value.slice a vs.length c).ownBlock = some b) hg4 (fun k hk => hk)
    rw [hsvf] at hsv hvs
    have hh4 := hh2.upd hu24 (fun e => by have := hsv _ e; omega)
    have hl4 := hh4.lt
    have hs4 := hu24.size
    simp (disch := omega) only [push_cast, Nat.reduceBEq, Nat.reduceEqDiff, Nat.reduceAdd, Nat.reduceMul, Nat.reduceSub, Nat.reduceLT, Int.reduceToNat, Int.reduceLT, Int.reduceLE, Int.reduceEq, Int.reduceAdd, Int.reduceSub, Int.reduceNeg, Int.reduceMul, hh.cell, hh.free, hh2.cell, hh2.free, hh4.cell, hh4.free]
    have hu45 : Upd (fun b => b = w.heap.size) w4 (w4.setCell ⟨w.heap.size, 1, none⟩ (.slice a4 (vs.length + 1) c4)) := Upd.set rfl
    have hs45 : (w4.setCell ⟨w.heap.size, 1, none⟩ (.slice a4 (vs.length + 1) c4)).heap.size = w4.heap.size := size_set
    have hh5 := hh4.set 1 (.slice a4 (vs.length + 1) c4)
    have hblk : ∀ g, (Value.slice a4 (vs.length + 1) c4).ownBlock = some g → (Value.slice a vs.length c).ownBlock = some g ∨ (w'.heap.size + 2 ≤ g ∧ g < w4.heap.size) := by
      intro g hg
      rcases hfr with h | ⟨g', h, hge⟩
      · rw [h] at hg
        exact .inl hg
      · rw [h] at hg
        injection hg with hg
        subst hg
        exact .inr ⟨by omega, (hown4.lt _ h).2⟩
    have hu25 : Upd (fun b => b = w.heap.size ∨ (Value.slice a vs.length c).ownBlock = some b) w2 (w4.setCell ⟨w.heap.size, 1, none⟩ (.slice a4 (vs.length + 1) c4)) := (hu24.mono (fun _ _ h => .inr h)).trans hu45 (fun _ _ h => .inl h)
    have hu15 : Upd (fun b => b = w.heap.size ∨ (Value.slice a vs.length c).ownBlock = some b) w' (w4.setCell ⟨w.heap.size, 1, none⟩ (.slice a4 (vs.length + 1) c4)) := (hu2.mono (fun _ _ h => h.elim)).trans hu25 (fun _ _ h => h)
    refine ⟨j, by omega, i + 1, vs ++ [(.slice (some ⟨w'.heap.size, 0, none⟩) size size, List.replicate size 0)], .slice a4 (vs.length + 1) c4, by omega, by simp, hu.trans hu15 ?_, by simp [hvl], hh5, ?_, ?_, ?_⟩
    · rintro b h1 (h | h)
      · omega
      · have := hsv b h; omega
    · rw [List.length_append, List.map_append]
      refine ownsRow_upd hown4 hu45 (fun g hg e => ?_)
      rcases hblk g hg with h | h
      · have := hsv g h; omega
      · omega
    · intro g hg
      rcases hblk g hg with h | h
      · exact hsv g h
      · omega
    · intro x hx
      rcases List.mem_append.1 hx with hx | hx
      · obtain ⟨e1, g, c', e2, e3, e4, e5, e6⟩ := hvs x hx
        refine ⟨e1, g, c', e2, e3.upd hu15 e5 ?_, e4, Nat.lt_of_lt_of_le e5 hu15.size, ?_⟩
        · rintro (h | h)
          · omega
          · exact e6 h
        · intro h
          rcases hblk g h with h | h
          · exact e6 h
          · omega
      · simp only [List.mem_singleton] at hx
        subst hx
        refine ⟨rfl, w'.heap.size, size, rfl, ?_, hl, by omega, ?_⟩
        · refine (Lies.of_blk hnew).upd hu25 (by omega) ?_
          rintro (h | h)
          · omega
          · have := (hown.lt _ h).2; omega
        · intro h
          rcases hblk _ h with h | h
          · have := (hown.lt _ h).2; omega
          · omega
end Go.Proofs.Ytdekhojafpkgfaa.Fd
