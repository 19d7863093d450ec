/-
  The reference's disk: how it lies in memory; step, Content, Read, Write.
-/
import Derived.Test.YtdekhojafpkgfaaDkA
import Derived.Laws.OwnMore
namespace Go.Proofs.Ytdekhojafpkgfaa.Fd
set_option linter.unusedSimpArgs false
set_option linter.unusedVariables false
open Go Go.ChangeMaps
set_option maxRecDepth 100000

def rowR (x : Nat × Value × List Int) : List Value := [.int .i64 x.1, x.2.1]
def cntI (c : Option Nat) : Int :=
  match c with
  | some k => k
  | none => -1
/-- A content of the reference: bytes in a block of the disk, none of its rows. -/
def RC (w : World) (F : Nat → Prop) (p : Nat) (sv cv : Value) (v : Value) (l : List Int) : Prop :=
  ∃ g c, v = .slice (some ⟨g, 0, none⟩) l.length c ∧ Lies w g 0 l ∧ F g ∧ g ≠ p ∧ sv.ownBlock ≠ some g ∧ cv.ownBlock ≠ some g
theorem RC.to {w w' : World} {F F' G : Nat → Prop} {p : Nat} {sv cv sv' cv' v : Value} {l : List Int} (h : RC w F p sv cv v l) (hu : Upd G w w') (hbd : ∀ b, F b → b < w.heap.size)
    (hG : ∀ g, F g → g ≠ p → sv.ownBlock ≠ some g → cv.ownBlock ≠ some g → ¬ G g) (hF : ∀ g, F g → F' g) (hs : ∀ g, F g → sv.ownBlock ≠ some g → sv'.ownBlock ≠ some g) (hc : ∀ g, F g → cv.ownBlock ≠ some g → cv'.ownBlock ≠ some g) :
    RC w' F' p sv' cv' v l := by
  obtain ⟨g, c, h1, h2, h3, h4, h5, h6⟩ := h
  exact ⟨g, c, h1, h2.upd hu (hbd g h3) (hG g h3 h4 h5 h6), hF g h3, h4, hs g h3 h5, hc g h3 h6⟩
/-- The reference's disk at block p, all of it in the blocks F. -/
structure RDisk (w : World) (F : Nat → Prop) (p : Nat) (d : DS) (sv : Value) (svs : List (Value × List Int)) (cv : Value) (cachs : List (Nat × Value × List Int)) : Prop where
  head : Blk w p [.int .i64 d.size, sv, cv, .bool d.off, .int .i64 (cntI d.cnt)] 42
  rows : w.ownsRow 0 32 1 sv svs.length (svs.map (·.1))
  own : w.ownsRow 0 66 2 cv cachs.length (cachs.flatMap rowR)
  dur : d.dur = svs.map (·.2)
  cache : d.cache = cachs.map fun x => (x.1, x.2.2)
  durc : ∀ x ∈ svs, RC w F p sv cv x.1 x.2 ∧ x.2.length = d.size
  cachc : ∀ x ∈ cachs, RC w F p sv cv x.2.1 x.2.2 ∧ x.2.2.length = d.size ∧ x.1 < svs.length
  svc : ∀ g, sv.ownBlock = some g → F g ∧ g ≠ p ∧ cv.ownBlock ≠ some g
  cvc : ∀ g, cv.ownBlock = some g → F g ∧ g ≠ p ∧ sv.ownBlock ≠ some g
  fp : F p
  pos : 0 < d.size ∧ d.size ≤ 4096 ∧ svs.length ≤ 65536
  bd : ∀ b, F b → b < w.heap.size
def IsRef (w : World) (F : Nat → Prop) (p : Nat) (d : DS) : Prop := ∃ sv svs cv cachs, RDisk w F p d sv svs cv cachs
theorem RDisk.upd {w w' : World} {F G : Nat → Prop} {p : Nat} {d : DS} {sv cv : Value} {svs : List (Value × List Int)} {cachs : List (Nat × Value × List Int)}
    (h : RDisk w F p d sv svs cv cachs) (hu : Upd G w w') (hG : ∀ b, F b → ¬ G b) : RDisk w' F p d sv svs cv cachs :=
  ⟨h.head.upd hu (hG _ h.fp), ownsRow_upd h.rows hu fun g hg => hG g (h.svc g hg).1, ownsRow_upd h.own hu fun g hg => hG g (h.cvc g hg).1, h.dur, h.cache,
    fun x hx => ⟨(h.durc x hx).1.to hu h.bd (fun g hg _ _ _ => hG g hg) (fun _ h => h) (fun _ _ h => h) (fun _ _ h => h), (h.durc x hx).2⟩,
    fun x hx => ⟨(h.cachc x hx).1.to hu h.bd (fun g hg _ _ _ => hG g hg) (fun _ h => h) (fun _ _ h => h) (fun _ _ h => h), (h.cachc x hx).2⟩,
    h.svc, h.cvc, h.fp, h.pos, fun b hb => Nat.lt_of_lt_of_le (h.bd b hb) hu.size⟩
theorem IsRef.upd {w w' : World} {F G : Nat → Prop} {p : Nat} {d : DS} (h : IsRef w F p d) (hu : Upd G w w') (hG : ∀ b, F b → ¬ G b) : IsRef w' F p d := by
  obtain ⟨sv, svs, cv, cachs, h⟩ := h
  exact ⟨sv, svs, cv, cachs, h.upd hu hG⟩
theorem IsRef.mono {w : World} {F G : Nat → Prop} {p : Nat} {d : DS} (h : IsRef w F p d) (hG : ∀ b, F b → G b) (hb : ∀ b, G b → b < w.heap.size) : IsRef w G p d := by
  obtain ⟨sv, svs, cv, cachs, h⟩ := h
  exact ⟨sv, svs, cv, cachs, h.head, h.rows, h.own, h.dur, h.cache,
    fun x hx => ⟨(h.durc x hx).1.to (Upd.refl (F := fun _ => False)) h.bd (fun _ _ _ _ _ h => h) hG (fun _ _ h => h) (fun _ _ h => h), (h.durc x hx).2⟩,
    fun x hx => ⟨(h.cachc x hx).1.to (Upd.refl (F := fun _ => False)) h.bd (fun _ _ _ _ _ h => h) hG (fun _ _ h => h) (fun _ _ h => h), (h.cachc x hx).2⟩,
    fun g hg => ⟨hG _ (h.svc g hg).1, (h.svc g hg).2⟩, fun g hg => ⟨hG _ (h.cvc g hg).1, (h.cvc g hg).2⟩, hG _ h.fp, h.pos, hb⟩
theorem IsRef.bd {w : World} {F : Nat → Prop} {p : Nat} {d : DS} (h : IsRef w F p d) : ∀ b, F b → b < w.heap.size := by
  obtain ⟨sv, svs, cv, cachs, h⟩ := h
  exact h.bd
theorem IsRef.gr {w w' : World} {F : Nat → Prop} {p : Nat} {d : DS} (h : IsRef w' F p d) : IsRef w' (gr F w w') p d :=
  h.mono (fun b hb => .inl hb) fun b hb => hb.elim (h.bd b) fun x => x.2
/-- A change in the head alone. -/
theorem RDisk.headed {w w' : World} {F : Nat → Prop} {p : Nat} {d d' : DS} {sv cv : Value} {svs : List (Value × List Int)} {cachs : List (Nat × Value × List Int)}
    (h : RDisk w F p d sv svs cv cachs) (hu : Upd (fun b => b = p) w w') (hb : Blk w' p [.int .i64 d'.size, sv, cv, .bool d'.off, .int .i64 (cntI d'.cnt)] 42)
    (h1 : d'.size = d.size) (h2 : d'.dur = d.dur) (h3 : d'.cache = d.cache) : RDisk w' F p d' sv svs cv cachs :=
  ⟨hb, ownsRow_upd h.rows hu fun g hg => (h.svc g hg).2.1, ownsRow_upd h.own hu fun g hg => (h.cvc g hg).2.1, h2.trans h.dur, h3.trans h.cache,
    fun x hx => ⟨(h.durc x hx).1.to hu h.bd (fun g _ h _ _ => h) (fun _ h => h) (fun _ _ h => h) (fun _ _ h => h), by rw [h1]; exact (h.durc x hx).2⟩,
    fun x hx => ⟨(h.cachc x hx).1.to hu h.bd (fun g _ h _ _ => h) (fun _ h => h) (fun _ _ h => h) (fun _ _ h => h), by rw [h1]; exact (h.cachc x hx).2⟩,
    h.svc, h.cvc, h.fp, by rw [h1]; exact h.pos, fun b hb => Nat.lt_of_lt_of_le (h.bd b hb) hu.size⟩

theorem rstep_ok {w : World} {F : Nat → Prop} {p : Nat} {d : DS} (h : IsRef w F p d) (hk : ∀ k, d.cnt = some k → k < 9223372036854775808) :
    Ok (den Try.prog 39 #[.pointer (some ⟨p, 0, none⟩)] w) fun v w' => v = .bool d.step.1 ∧ IsRef w' F p d.step.2 ∧ Upd F w w' := by
  obtain ⟨sv, svs, cv, cachs, h⟩ := h
  have hb := h.head
  obtain ⟨size, dur, cache, off, cnt⟩ := d
  simp only at hb hk
  have hF : ∀ {w' : World}, Upd (fun b => b = p) w w' → Upd F w w' := fun hu => hu.mono fun b _ e => e ▸ h.fp
  refine den_ok (args := [.pointer (some ⟨p, 0, none⟩)]) rs39 Try.func39 rfl mixed in39 ok39 rfl ?_
  cases off
  · cases cnt with
    | none =>
      have e : cntI none = -1 := rfl
      rw [e] at hb
      simp (disch := omega) only [push_cast, Nat.reduceBEq, Nat.reduceEqDiff, Nat.reduceAdd, Nat.reduceMul, Nat.reduceSub, Nat.reduceLT, Int.reduceToNat, Int.reduceLT, Int.reduceLE, Int.reduceEq, Int.reduceAdd, Int.reduceSub, Int.reduceNeg, Int.reduceMul, hb.cell, hb.free]
      exact ⟨rfl, ⟨sv, svs, cv, cachs, h⟩, Upd.refl⟩
    | some k =>
      have hk' := hk k rfl
      have e : cntI (some k) = k := rfl
      rw [e] at hb
      by_cases h0 : k = 0
      · subst h0
        simp (disch := omega) only [push_cast, Nat.reduceBEq, Nat.reduceEqDiff, Nat.reduceAdd, Nat.reduceMul, Nat.reduceSub, Nat.reduceLT, Int.reduceToNat, Int.reduceLT, Int.reduceLE, Int.reduceEq, Int.reduceAdd, Int.reduceSub, Int.reduceNeg, Int.reduceMul, hb.cell, hb.free]
        have hu : Upd (fun b => b = p) w (w.setCell ⟨p, 3, none⟩ (.bool true)) := Upd.set rfl
        exact ⟨rfl, ⟨sv, svs, cv, cachs, h.headed hu (hb.set 3 _) rfl rfl rfl⟩, hF hu⟩
      · obtain ⟨j, rfl⟩ := Nat.exists_eq_succ_of_ne_zero h0
        have h0' : ¬ ((j.succ : Nat) : Int) = 0 := by omega
        simp (disch := omega) only [push_cast, Nat.reduceBEq, Nat.reduceEqDiff, Nat.reduceAdd, Nat.reduceMul, Nat.reduceSub, Nat.reduceLT, Int.reduceToNat, Int.reduceLT, Int.reduceLE, Int.reduceEq, Int.reduceAdd, Int.reduceSub, Int.reduceNeg, Int.reduceMul, hb.cell, hb.free]
        have hu : Upd (fun b => b = p) w (w.setCell ⟨p, 4, none⟩ (.int .i64 ((j.succ : Nat) - 1))) := Upd.set rfl
        refine ⟨rfl, ⟨sv, svs, cv, cachs, h.headed hu (d' := ⟨size, dur, cache, false, some j⟩) ?_ rfl rfl rfl⟩, hF hu⟩
        have := hb.set 4 (.int .i64 ((j.succ : Nat) - 1))
        simpa [show ((j.succ : Nat) : Int) - 1 = j from by omega, cntI] using this
  · simp (disch := omega) only [push_cast, Nat.reduceBEq, Nat.reduceEqDiff, Nat.reduceAdd, Nat.reduceMul, Nat.reduceSub, Nat.reduceLT, Int.reduceToNat, Int.reduceLT, Int.reduceLE, Int.reduceEq, Int.reduceAdd, Int.reduceSub, Int.reduceNeg, Int.reduceMul, hb.cell, hb.free]
    have hu : Upd (fun b => b = p) w (w.setCell ⟨p, 3, none⟩ (.bool true)) := Upd.set rfl
    exact ⟨rfl, ⟨sv, svs, cv, cachs, h.headed hu (hb.set 3 _) rfl rfl rfl⟩, hF hu⟩

theorem flat_one {α β : Type} {f : α → β} {l : List α} : l.flatMap (fun x => [f x]) = l.map f := by
  induction l with
  | nil => rfl
  | cons x r ih => simp [ih]
/-- A content as a slice that can be read. -/
theorem RC.lies {w : World} {F : Nat → Prop} {p : Nat} {sv cv v : Value} {l : List Int} (h : RC w F p sv cv v l) : SlB w (fun b => ¬ F b) v l := by
  obtain ⟨g, c, h1, h2, h3, _⟩ := h
  exact ⟨_, c, h1, fun _ => ⟨g, 0, rfl, h2, fun h => h h3⟩⟩

theorem content_ok {w : World} {F : Nat → Prop} {p : Nat} {d : DS} (h : IsRef w F p d) (hc : d.cache.length < 1000000000) {x : Nat} (hx : x < d.dur.length) :
    Ok (den Try.prog 34 #[.pointer (some ⟨p, 0, none⟩), .int .i64 x] w) fun v w' => SlB w (fun b => ¬ F b) v (d.content x) ∧ (d.content x).length = d.size ∧ w = w' := by
  obtain ⟨sv, svs, cv, cachs, h⟩ := h
  obtain ⟨a, cc, hcv⟩ := own_slice h.own
  refine den_ok (args := [.pointer (some ⟨p, 0, none⟩), .int .i64 x]) rs34 Try.func34 rfl mixed in34 ok34 rfl ?_
  have hb := h.head
  rw [hcv] at hb
  have hdl : d.dur.length = svs.length := by rw [h.dur, List.length_map]
  have hcl : d.cache.length = cachs.length := by rw [h.cache, List.length_map]
  simp (disch := omega) only [push_cast, Nat.reduceBEq, Nat.reduceEqDiff, Nat.reduceAdd, Nat.reduceMul, Nat.reduceSub, Nat.reduceLT, Int.reduceToNat, Int.reduceLT, Int.reduceLE, Int.reduceEq, Int.reduceAdd, Int.reduceSub, Int.reduceNeg, Int.reduceMul, hb.cell]
  refine loop_inv (I := fun k st w' => Bx (w = w' ∧ k ≤ cachs.length ∧ st = [.int .i64 ((k : Int) - 1)] ∧ ∀ y ∈ cachs.drop k, (y.1 : Int) ≠ x) ⟨⟩) ?_ cachs.length ⟨rfl, Nat.le_refl _, rfl, by simp⟩
  rintro k st w' ⟨rfl, hk, rfl, hrest⟩
  by_cases hk0 : k = 0
  · subst hk0
    obtain ⟨y, hy⟩ : ∃ y, svs[x]? = some y := ⟨svs[x], by simp⟩
    have hym := List.mem_of_getElem? hy
    obtain ⟨g, cap, hsv, _, hcell⟩ := own_cell (s := 1) (f := fun x : Value × List Int => [x.1]) (fun _ => rfl) (l := svs) (E := 32) (v := sv) (by rw [flat_one]; exact h.rows) hy
    have hq := hcell 0 (by omega)
    simp only [List.getElem?_cons_zero, Nat.mul_one, Nat.add_zero] at hq
    obtain ⟨⟨g2, c2, hy1, hy2⟩, hyl⟩ := h.durc y hym
    rw [hsv] at hb
    simp (disch := omega) only [push_cast, Nat.reduceBEq, Nat.reduceEqDiff, Nat.reduceAdd, Nat.reduceMul, Nat.reduceSub, Nat.reduceLT, Int.reduceToNat, Int.reduceLT, Int.reduceLE, Int.reduceEq, Int.reduceAdd, Int.reduceSub, Int.reduceNeg, Int.reduceMul, hb.cell, hq]
    have hcon : d.content x = y.2 := by
      unfold DS.content lastOf
      rw [h.cache, h.dur, List.find?_eq_none.2 ?_]
      · simp [List.getD_eq_getElem?_getD, hy]
      · intro z hz hzx
        rw [List.mem_reverse, List.mem_map] at hz
        obtain ⟨u, hu, rfl⟩ := hz
        have := hrest u (by simpa using hu)
        simp at hzx
        omega
    rw [hcon]
    exact ⟨(h.durc y hym).1.lies, hyl⟩
  · obtain ⟨j, rfl⟩ := Nat.exists_eq_succ_of_ne_zero hk0
    rw [show ((j.succ : Nat) : Int) - 1 = (j : Int) from by omega]
    obtain ⟨y, hy⟩ : ∃ y, cachs[j]? = some y := ⟨cachs[j], by simp⟩
    have hym := List.mem_of_getElem? hy
    obtain ⟨g, cap, hv, _, hcell⟩ := own_cell (f := rowR) (fun _ => rfl) h.own hy
    have hc0 := hcell 0 (by omega)
    have hc1 := hcell 1 (by omega)
    simp only [rowR, List.getElem?_cons_zero, List.getElem?_cons_succ, Nat.add_zero] at hc0 hc1
    rw [hcv] at hv
    injection hv with e1 e2 e3
    subst e1
    by_cases hyx : (y.1 : Int) = x
    · simp (disch := omega) only [push_cast, Nat.reduceBEq, Nat.reduceEqDiff, Nat.reduceAdd, Nat.reduceMul, Nat.reduceSub, Nat.reduceLT, Int.reduceToNat, Int.reduceLT, Int.reduceLE, Int.reduceEq, Int.reduceAdd, Int.reduceSub, Int.reduceNeg, Int.reduceMul, hb.cell, hc0, hc1]
      have hcon : d.content x = y.2.2 := by
        have hsplit : cachs = cachs.take j ++ y :: cachs.drop (j + 1) := by
          rw [← List.getElem?_eq_some_iff.1 hy |>.2, ← List.drop_eq_getElem_cons (by omega), List.take_append_drop]
        unfold DS.content lastOf
        rw [h.cache, hsplit, List.map_append, List.map_cons, List.reverse_append, List.reverse_cons, List.append_assoc, List.find?_append, List.find?_eq_none.2 ?_]
        · have : (y.1 == x) = true := by simp; omega
          simp [this]
        · intro z hz hzx
          rw [List.mem_reverse, List.mem_map] at hz
          obtain ⟨u, hu, rfl⟩ := hz
          have := hrest u hu
          simp at hzx
          omega
      rw [hcon]
      exact ⟨(h.cachc y hym).1.lies, (h.cachc y hym).2.1⟩
    · simp (disch := omega) only [push_cast, Nat.reduceBEq, Nat.reduceEqDiff, Nat.reduceAdd, Nat.reduceMul, Nat.reduceSub, Nat.reduceLT, Int.reduceToNat, Int.reduceLT, Int.reduceLE, Int.reduceEq, Int.reduceAdd, Int.reduceSub, Int.reduceNeg, Int.reduceMul, hb.cell, hc0, hc1]
      refine ⟨j, by omega, rfl, by omega, rfl, ?_⟩
      intro z hz
      rw [List.drop_eq_getElem_cons (by omega)] at hz
      cases hz with
      | head => rw [List.getElem?_eq_some_iff.1 hy |>.2]; exact hyx
      | tail _ hm => exact hrest z hm

theorem rread_ok {w : World} {F : Nat → Prop} {p : Nat} {d : DS} (h : IsRef w F p d) (hz : 0 < d.size) (hz2 : d.size ≤ 4096) (hc : d.cache.length < 1000000000) (x : Int) :
    Ok (den Try.prog 20 #[.pointer (some ⟨p, 0, none⟩), .int .i64 x] w) fun v w' => ∃ u, v = .tuple #[u, .int .i64 (d.read x).2] ∧ SlB w' (fun _ => False) u ((d.read x).1.getD []) ∧ Upd (fun _ => False) w w' := by
  have h' := h
  obtain ⟨sv, svs, cv, cachs, h⟩ := h
  obtain ⟨a, cc, hcv⟩ := own_slice h.rows
  refine den_ok (args := [.pointer (some ⟨p, 0, none⟩), .int .i64 x]) rs20 Try.func20 rfl mixed in20 ok20 rfl ?_
  have hb := h.head
  rw [hcv] at hb
  have hdl : d.dur.length = svs.length := by rw [h.dur, List.length_map]
  by_cases hx : 0 ≤ x ∧ x < svs.length
  · obtain ⟨n, rfl⟩ := Int.eq_ofNat_of_zero_le hx.1
    cases hoff : d.off
    · rw [hoff] at hb
      simp (disch := omega) only [push_cast, Nat.reduceBEq, Nat.reduceEqDiff, Nat.reduceAdd, Nat.reduceMul, Nat.reduceSub, Nat.reduceLT, Int.reduceToNat, Int.reduceLT, Int.reduceLE, Int.reduceEq, Int.reduceAdd, Int.reduceSub, Int.reduceNeg, Int.reduceMul, hb.cell]
      have hread : d.read n = (some (d.content n), 0) := by
        unfold DS.read
        rw [if_pos ⟨hx.1, by rw [hdl]; exact hx.2⟩, hoff]
        rfl
      rw [hread]
      have hu0 : Upd (fun _ => False) w (w.alloc (.cells #[] 5 (0, 0))) := Upd.alloc
      have h0 := h'.upd hu0 (fun _ _ h => h)
      refine Ok.use (content_ok h0 hc (x := n) (by omega)) ?_
      rintro v w' ⟨h2, h3, rfl⟩
      have hb0 := Blk.new (w := w) (cs := []) (E := 5)
      simp (disch := omega) only [push_cast, Nat.reduceBEq, Nat.reduceEqDiff, Nat.reduceAdd, Nat.reduceMul, Nat.reduceSub, Nat.reduceLT, Int.reduceToNat, Int.reduceLT, Int.reduceLE, Int.reduceEq, Int.reduceAdd, Int.reduceSub, Int.reduceNeg, Int.reduceMul]
      refine app_clone h2 (by omega) (by omega) (g0 := w.heap.size) (by rw [size_alloc]; omega) hb0 ?_
      intro g c w4 hg hu4 hbuf hlies
      simp (disch := omega) only [push_cast, Nat.reduceBEq, Nat.reduceEqDiff, Nat.reduceAdd, Nat.reduceMul, Nat.reduceSub, Nat.reduceLT, Int.reduceToNat, Int.reduceLT, Int.reduceLE, Int.reduceEq, Int.reduceAdd, Int.reduceSub, Int.reduceNeg, Int.reduceMul]
      refine ⟨_, rfl, ⟨_, c, rfl, fun _ => ⟨g, 0, rfl, hlies, fun h => h⟩⟩, hu0.trans hu4 (fun b h1 h2 => by omega)⟩
    · rw [hoff] at hb
      simp (disch := omega) only [push_cast, Nat.reduceBEq, Nat.reduceEqDiff, Nat.reduceAdd, Nat.reduceMul, Nat.reduceSub, Nat.reduceLT, Int.reduceToNat, Int.reduceLT, Int.reduceLE, Int.reduceEq, Int.reduceAdd, Int.reduceSub, Int.reduceNeg, Int.reduceMul, hb.cell]
      have hread : d.read n = (none, 8) := by
        unfold DS.read
        rw [if_pos ⟨hx.1, by rw [hdl]; exact hx.2⟩, hoff]
        rfl
      rw [hread]
      exact ⟨_, rfl, ⟨none, 0, rfl, fun h => absurd rfl h⟩, Upd.refl⟩
  · have hread : d.read x = (none, 1) := by
      unfold DS.read
      rw [if_neg (by rw [hdl]; exact hx)]
    rw [hread]
    by_cases h0 : x < 0
    · simp (disch := omega) only [push_cast, Nat.reduceBEq, Nat.reduceEqDiff, Nat.reduceAdd, Nat.reduceMul, Nat.reduceSub, Nat.reduceLT, Int.reduceToNat, Int.reduceLT, Int.reduceLE, Int.reduceEq, Int.reduceAdd, Int.reduceSub, Int.reduceNeg, Int.reduceMul, hb.cell]
      exact ⟨_, rfl, ⟨none, 0, rfl, fun h => absurd rfl h⟩, Upd.refl⟩
    · have h1 : (svs.length : Int) ≤ x := by omega
      simp (disch := omega) only [push_cast, Nat.reduceBEq, Nat.reduceEqDiff, Nat.reduceAdd, Nat.reduceMul, Nat.reduceSub, Nat.reduceLT, Int.reduceToNat, Int.reduceLT, Int.reduceLE, Int.reduceEq, Int.reduceAdd, Int.reduceSub, Int.reduceNeg, Int.reduceMul, hb.cell]
      exact ⟨_, rfl, ⟨none, 0, rfl, fun h => absurd rfl h⟩, Upd.refl⟩
end Go.Proofs.Ytdekhojafpkgfaa.Fd
