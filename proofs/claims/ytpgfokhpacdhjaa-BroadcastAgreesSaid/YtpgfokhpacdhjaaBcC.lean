/-
  The law's world in the heap; receive.
-/
import Derived.Test.YtpgfokhpacdhjaaBcB
namespace Go.Proofs.Ytpgfokhpacdhjaa.Fd
set_option linter.unusedSimpArgs false
set_option linter.unusedVariables false
open Go Go.ChangeMaps
set_option maxRecDepth 100000

def rowN (n : Nat) (f : Nat → Value) : List Value := (List.range n).map f
theorem rowN_get {n : Nat} {f : Nat → Value} {i : Nat} (h : i < n) : (rowN n f)[i]? = some (f i) := by simp [rowN, h]
theorem rowN_length {n : Nat} {f : Nat → Value} : (rowN n f).length = n := by simp [rowN]
def upd {α : Type} (f : Nat → α) (i : Nat) (x : α) : Nat → α := fun j => if j = i then x else f j
theorem upd_same {α : Type} {f : Nat → α} {i : Nat} {x : α} : upd f i x i = x := by simp [upd]
theorem upd_other {α : Type} {f : Nat → α} {i j : Nat} {x : α} (h : j ≠ i) : upd f i x j = f j := by simp [upd, h]
theorem rowN_set {n : Nat} {f : Nat → Value} {i : Nat} {x : Value} : (rowN n f).set i x = rowN n (upd f i x) := by
  apply List.ext_getElem?
  intro j
  rw [List.getElem?_set]
  by_cases h : i = j
  · subst h
    by_cases hi : i < n
    · simp [rowN, hi, upd]
    · simp [rowN, hi]
  · rw [if_neg h]
    by_cases hj : j < n
    · rw [rowN_get hj, rowN_get hj, upd_other (Ne.symm h)]
    · simp [rowN, hj]
theorem rowN_succ {n : Nat} {f : Nat → Value} {x : Value} : rowN n f ++ [x] = rowN (n + 1) (upd f n x) := by
  apply List.ext_getElem?
  intro j
  by_cases hj : j < n
  · rw [List.getElem?_append_left (by rw [rowN_length]; exact hj), rowN_get hj, rowN_get (by omega), upd_other (by omega)]
  · by_cases he : j = n
    · subst he
      rw [List.getElem?_append_right (by rw [rowN_length]; omega), rowN_length, rowN_get (by omega), upd_same]
      simp
    · rw [List.getElem?_eq_none (by rw [List.length_append, rowN_length, List.length_singleton]; omega), List.getElem?_eq_none (by rw [rowN_length]; omega)]
theorem rowN_congr {n : Nat} {f g : Nat → Value} (h : ∀ i, i < n → f i = g i) : rowN n f = rowN n g := by
  apply List.map_congr_left
  intro i hi
  exact h i (List.mem_range.1 hi)
structure Hp where
  a : Nat
  allV : Value
  sentV : Value
  downV : Value
  uv : Value
  p : Nat → Nat
  mb : Nat → Nat
  db : Nat → Nat
  lv : Nat → Value
  m : Nat → List (NP × Value)
  ds : Nat → List (NP × Value)
  sv : Nat → Value
  pv : Nat → List Value
structure Wd where
  n : Nat
  procs : Nat → PS
  sent : Nat → List (List Int)
  down : Nat → Bool
  under : List Pk
def SnR (base : Nat) (w : World) (vs : List Value) (ls : List (List Int)) : Prop := vs.length = ls.length ∧ ∀ (j : Nat) v, vs[j]? = some v → ∃ l, ls[j]? = some l ∧ PB base w v l
theorem SnR.keep {base : Nat} {w w' : World} {vs : List Value} {ls : List (List Int)} (h : SnR base w vs ls) (k : Kp base w w') : SnR base w' vs ls :=
  ⟨h.1, fun j v hj => by obtain ⟨l, h1, h2⟩ := h.2 j v hj; exact ⟨l, h1, h2.keep k⟩⟩
def FtH (H : Hp) (i b : Nat) : Prop := Ft (H.p i) (H.mb i) (H.db i) (H.lv i) b
structure WR (base : Nat) (w : World) (H : Hp) (W : Wd) : Prop where
  obj : Blk w H.a [H.allV, H.sentV, H.downV, H.uv] tW
  ba : base ≤ H.a
  n12 : W.n ≤ 12
  all : w.ownsRow base 43 1 H.allV W.n (rowN W.n fun i => .pointer (some ⟨H.p i, 0, none⟩))
  pr : ∀ i, i < W.n → PA base w (H.p i) (W.procs i) (H.mb i) (H.db i) (H.lv i) (H.m i) (H.ds i)
  pn : ∀ i, i < W.n → (W.procs i).n = W.n ∧ (W.procs i).self = i
  dis : ∀ i j, i < W.n → j < W.n → i ≠ j → ∀ b, FtH H i b → ¬ FtH H j b
  snt : w.ownsRow base 41 1 H.sentV W.n (rowN W.n H.sv)
  sn : ∀ i, i < W.n → w.ownsRow base 28 1 (H.sv i) (H.pv i).length (H.pv i) ∧ SnR base w (H.pv i) (W.sent i)
  sdis : ∀ i j, i < W.n → j < W.n → i ≠ j → ∀ g, (H.sv i).ownBlock = some g → (H.sv j).ownBlock ≠ some g
  dwn : w.ownsRow base 4 1 H.downV W.n (rowN W.n fun i => .bool (W.down i))
  und : OwnK base base w H.uv W.under
def Knd (w : World) (b E : Nat) : Prop := ∃ cs, Blk w b cs E
theorem Knd.ne {w : World} {b E E' : Nat} (h : Knd w b E) (h' : Knd w b E') (hE : E ≠ E') : False := by
  obtain ⟨cs, h⟩ := h
  obtain ⟨cs', h'⟩ := h'
  exact hE (h.ty h')
theorem PA.kind {base : Nat} {w : World} {p : Nat} {S : PS} {mb db : Nat} {lv : Value} {m ds : List (NP × Value)} (h : PA base w p S mb db lv m ds) {b E : Nat} (hf : Ft p mb db lv b) (hk : Knd w b E) : E = 79 ∨ E = 3 ∨ E = 69 := by
  obtain ⟨cs, hk⟩ := hk
  rcases hf with rfl | rfl | rfl | hf
  · exact .inl (hk.ty h.obj)
  · have h8 := h.map; unfold Blk at hk; unfold MapP at h8; rw [hk] at h8; cases h8
  · exact .inr (.inl (hk.ty h.del))
  · obtain ⟨cs', hb⟩ := own_ty h.own hf
    exact .inr (.inr (hk.ty hb))
theorem kp_kind {base : Nat} {F : Nat → Prop} {w w' : World} (u : Upd F w w') (h : ∀ b, F b → base ≤ b ∧ ∃ E, Knd w b E ∧ E ≠ 5) : Kp base w w' :=
  Kp.of_upd u fun b hb hs => by
    obtain ⟨h1, E, ⟨cs, hk⟩, hE⟩ := h b hb
    rcases hs.2 with h2 | ⟨cs', fz, h2⟩
    · omega
    · unfold Blk at hk
      rw [hk] at h2
      simp only [Option.some.injEq, Obj.cells.injEq] at h2
      exact hE h2.2.1
theorem WR.quiet {base : Nat} {w w' : World} {H : Hp} {W : Wd} (h : WR base w H W) (u : Upd (fun _ => False) w w') : WR base w' H W :=
  ⟨h.obj.upd u (fun h => h), h.ba, h.n12, own_updB h.all u (fun _ _ h => h), fun i hi => (h.pr i hi).quiet u, h.pn, h.dis, own_updB h.snt u (fun _ _ h => h), fun i hi => ⟨own_updB (h.sn i hi).1 u (fun _ _ h => h), (h.sn i hi).2.keep (Kp.quiet u)⟩, h.sdis, own_updB h.dwn u (fun _ _ h => h), h.und.quiet u⟩
theorem WR.under {base : Nat} {w w' : World} {H : Hp} {W : Wd} (h : WR base w H W) (u : Upd (fun b => b = H.a ∨ H.uv.ownBlock = some b) w w') {uv' : Value} {under' : List Pk} (ho : Blk w' H.a [H.allV, H.sentV, H.downV, uv'] tW) (hu : OwnK base base w' uv' under') :
    WR base w' { H with uv := uv' } { W with under := under' } := by
  have hk : ∀ b, (b = H.a ∨ H.uv.ownBlock = some b) → Knd w b tW ∨ Knd w b 46 := by
    rintro b (rfl | hb)
    · exact .inl ⟨_, h.obj⟩
    · exact .inr (h.und.ty hb)
  have hne : ∀ b E, Knd w b E → E ≠ tW → E ≠ 46 → ¬ (b = H.a ∨ H.uv.ownBlock = some b) := fun b E hb h1 h2 hf => by
    rcases hk b hf with h | h
    · exact hb.ne h h1
    · exact hb.ne h h2
  have kp : Kp base w w' := kp_kind u fun b hb => by
    refine ⟨?_, ?_⟩
    · rcases hb with rfl | hb
      · exact h.ba
      · exact (h.und.ge hb).1
    · rcases hk b hb with h | h
      · exact ⟨_, h, by decide⟩
      · exact ⟨_, h, by decide⟩
  refine ⟨ho, h.ba, h.n12, own_updB h.all u (fun g hg => hne g _ (own_ty h.all hg) (by decide) (by decide)), fun i hi => (h.pr i hi).frame u (fun b hb hf => ?_) kp, h.pn, h.dis, own_updB h.snt u (fun g hg => hne g _ (own_ty h.snt hg) (by decide) (by decide)), fun i hi => ⟨own_updB (h.sn i hi).1 u (fun g hg => hne g _ (own_ty (h.sn i hi).1 hg) (by decide) (by decide)), (h.sn i hi).2.keep kp⟩, h.sdis, own_updB h.dwn u (fun g hg => hne g _ (own_ty h.dwn hg) (by decide) (by decide)), hu⟩
  rcases hk b hb with h' | h'
  · rcases (h.pr i hi).kind hf h' with e | e | e <;> exact absurd e (by decide)
  · rcases (h.pr i hi).kind hf h' with e | e | e <;> exact absurd e (by decide)
theorem WR.proc {base : Nat} {w w' : World} {H : Hp} {W : Wd} (h : WR base w H W) {i : Nat} (hi : i < W.n) (u : Upd (FtH H i) w w') {S' : PS} {lv' : Value} {m' ds' : List (NP × Value)} (hp : PA base w' (H.p i) S' (H.mb i) (H.db i) lv' m' ds')
    (hn : S'.n = (W.procs i).n) (hs : S'.self = (W.procs i).self) (hf : ∀ g, lv'.ownBlock = some g → (H.lv i).ownBlock = some g ∨ w.heap.size ≤ g) :
    WR base w' { H with lv := upd H.lv i lv', m := upd H.m i m', ds := upd H.ds i ds' } { W with procs := upd W.procs i S' } := by
  have hne : ∀ b E, Knd w b E → E ≠ 79 → E ≠ 3 → E ≠ 69 → ¬ FtH H i b := fun b E hb h1 h2 h3 hf => by
    rcases (h.pr i hi).kind hf hb with e | e | e
    · exact h1 e
    · exact h2 e
    · exact h3 e
  have kp := (h.pr i hi).kp u
  refine ⟨h.obj.upd u (hne _ _ ⟨_, h.obj⟩ (by decide) (by decide) (by decide)), h.ba, h.n12, own_updB h.all u (fun g hg => hne g _ (own_ty h.all hg) (by decide) (by decide) (by decide)), ?_, ?_, ?_, own_updB h.snt u (fun g hg => hne g _ (own_ty h.snt hg) (by decide) (by decide) (by decide)),
    fun j hj => ⟨own_updB (h.sn j hj).1 u (fun g hg => hne g _ (own_ty (h.sn j hj).1 hg) (by decide) (by decide) (by decide)), (h.sn j hj).2.keep kp⟩, h.sdis, own_updB h.dwn u (fun g hg => hne g _ (own_ty h.dwn hg) (by decide) (by decide) (by decide)), h.und.upd u (fun g hg => hne g _ (h.und.ty hg) (by decide) (by decide) (by decide)) kp⟩
  · intro j hj
    by_cases e : j = i
    · subst e
      simp only [upd_same]
      exact hp
    · simp only [upd_other e]
      exact (h.pr j hj).frame u (fun b hb => h.dis i j hi hj (Ne.symm e) b hb) kp
  · intro j hj
    by_cases e : j = i
    · subst e
      simp only [upd_same]
      exact ⟨hn.trans (h.pn j hj).1, hs.trans (h.pn j hj).2⟩
    · simp only [upd_other e]
      exact h.pn j hj
  · have key : ∀ b, FtH { H with lv := upd H.lv i lv', m := upd H.m i m', ds := upd H.ds i ds' } i b → FtH H i b ∨ w.heap.size ≤ b := by
      intro b hb
      unfold FtH Ft at hb ⊢
      simp only [upd_same] at hb
      rcases hb with h | h | h | h
      · exact .inl (.inl h)
      · exact .inl (.inr (.inl h))
      · exact .inl (.inr (.inr (.inl h)))
      · exact (hf b h).imp (fun h => .inr (.inr (.inr h))) id
    have key2 : ∀ j b, j ≠ i → FtH { H with lv := upd H.lv i lv', m := upd H.m i m', ds := upd H.ds i ds' } j b → FtH H j b := by
      intro j b hj hb
      unfold FtH at hb ⊢
      simp only [upd_other hj] at hb
      exact hb
    intro j k hj hk hjk b hb hb'
    have hj : j < W.n := hj
    have hk : k < W.n := hk
    by_cases e : j = i
    · subst e
      have hb' := key2 k b (Ne.symm hjk) hb'
      rcases key b hb with h1 | h1
      · exact h.dis j k hj hk hjk b h1 hb'
      · have := (h.pr k hk).old hb'; omega
    · have hb2 := key2 j b e hb
      by_cases e2 : k = i
      · subst e2
        rcases key b hb' with h1 | h1
        · exact h.dis j k hj hk hjk b hb2 h1
        · have := (h.pr j hj).old hb2; omega
      · exact h.dis j k hj hk hjk b hb2 (key2 k b e2 hb')
/-- The blocks of a world. -/
def Sane (S : PS) : Prop := (∀ o, 0 ≤ S.done o ∧ S.done o ≤ S.list.length) ∧ S.list.length + S.notes.length < 10000 ∧ S.made < 1000 ∧ (∀ k x, findS k S.notes = some x → x.1.length ≤ 140737488355328) ∧ (∀ x ∈ S.list, x.2.length ≤ 140737488355328)
theorem Run.keep {S S' : PS} (h : Run S S') : S'.n = S.n ∧ S'.self = S.self ∧ S'.made = S.made ∧ S'.notes = S.notes := by
  induction h with
  | done _ => exact ⟨rfl, rfl, rfl, rfl⟩
  | step _ _ _ _ ih => exact ih
theorem RcR.keep {S S' : PS} {z : Pk} {ps : List Pk} (h : RcR S z S' ps) : S'.n = S.n ∧ S'.self = S.self ∧ S'.made = S.made := by
  unfold RcR at h
  split at h
  · rw [h.1]; exact ⟨rfl, rfl, rfl⟩
  · rename_i S1 o hrc
    have hk := h.1.keep
    have : S1.n = S.n ∧ S1.self = S.self ∧ S1.made = S.made := by
      unfold rcS at hrc
      split at hrc
      · split at hrc
        · split at hrc
          · cases hrc
          · cases hrc; exact ⟨rfl, rfl, rfl⟩
        · split at hrc
          · cases hrc; exact ⟨rfl, rfl, rfl⟩
          · split at hrc
            · cases hrc; exact ⟨rfl, rfl, rfl⟩
            · cases hrc
      · cases hrc
    exact ⟨hk.1.trans this.1, hk.2.1.trans this.2.1, hk.2.2.1.trans this.2.2⟩
theorem RcR.out {S S' : PS} {z : Pk} {ps : List Pk} (h : RcR S z S' ps) : (∀ y, y ∈ ps → y.f = S.self ∧ 0 ≤ y.t ∧ y.t < S.n) ∧ ps.length ≤ S.n + 1 := by
  unfold RcR at h
  split at h
  · rw [h.2]; exact ⟨fun y hy => by simp at hy, by simp⟩
  · rename_i S1 o hrc
    rw [h.2]
    unfold rcS at hrc
    split at hrc
    · rename_i hP
      obtain ⟨_, _, pf, _⟩ := propP_of hP
      split at hrc
      · split at hrc
        · cases hrc
        · cases hrc
          refine ⟨fun y hy => ?_, by have := @rcO_length S z S.n; omega⟩
          unfold rcO at hy
          obtain ⟨to, hto, hy⟩ := List.mem_filterMap.1 hy
          have hto := List.mem_range.1 hto
          split at hy
          · cases hy
          · split at hy
            · cases hy; exact ⟨rfl, by show (0 : Int) ≤ (to : Int); omega, by show (to : Int) < _; omega⟩
            · cases hy; exact ⟨rfl, by show (0 : Int) ≤ (to : Int); omega, by show (to : Int) < _; omega⟩
      · split at hrc
        · cases hrc; exact ⟨fun y hy => by simp at hy, by simp⟩
        · split at hrc
          · cases hrc
            refine ⟨fun y hy => ?_, by simp⟩
            simp at hy
            subst hy
            exact ⟨rfl, pf.1, pf.2⟩
          · cases hrc
    · cases hrc
theorem own1 {w : World} {B E n : Nat} {v : Value} {f : Nat → Value} (h : w.ownsRow B E 1 v n (rowN n f)) {i : Nat} (hi : i < n) : ∃ g cap, v = .slice (some ⟨g, 0, none⟩) n cap ∧ n ≤ cap ∧ B ≤ g ∧ g < w.heap.size ∧ w.cell? ⟨g, i, none⟩ = some (f i) := by
  rcases id h.2 with ⟨_, h0⟩ | ⟨g, cap, cur, rfl, hB, hh, hc, _⟩
  · omega
  · refine ⟨g, cap, rfl, hc, hB, by rw [Array.getElem?_eq_some_iff] at hh; exact hh.1, ?_⟩
    rw [h.cellAt i (by omega), rowN_get hi]
theorem FtH.ge {base : Nat} {w : World} {H : Hp} {W : Wd} (h : WR base w H W) {i : Nat} (hi : i < W.n) {b : Nat} (hb : FtH H i b) : base ≤ b := by
  have hp := h.pr i hi
  rcases hb with rfl | rfl | rfl | hb
  · exact hp.b1
  · exact hp.b2
  · exact hp.b3
  · exact (own_ge hp.own hb).1
set_option maxHeartbeats 2000000 in
theorem receive_ok {base : Nat} {w : World} {H : Hp} {W : Wd} (h : WR base w H W) (z : Pk × Value) (hz : PB base w z.2 z.1.l) (hzl : z.1.l.length ≤ 140737488355328) {t : Nat} (ht : t < W.n) (hzt : z.1.t = t) (hs : Sane (W.procs t)) (hul : W.under.length < 900000) :
    Ok (den Try.prog 28 #[.pointer (some ⟨H.a, 0, none⟩), pkV z] w) fun v w' => v = .bool true ∧ ∃ H' W', WR base w' H' W' ∧ H'.a = H.a ∧ (if W.down t then W' = W else ∃ S' ps, RcR (W.procs t) z.1 S' ps ∧ W' = { W with procs := upd W.procs t S', under := W.under ++ ps }) ∧
      Upd (fun b => base ≤ b) w w' := by
  refine den_ok (args := [.pointer (some ⟨H.a, 0, none⟩), pkV z]) rs28 Try.func28 rfl mixed in28 ok28 rfl ?_
  obtain ⟨za, zc, hz2⟩ := hz.form
  obtain ⟨⟨zk, zf, zt, zo, zn, zl⟩, z2⟩ := z
  simp only at hz2 hz hzl hzt
  subst hz2
  subst hzt
  rw [W_seq]
  generalize hKs : KS _ _ _ _ _ = Ks
  simp (disch := omega) only [push_cast, Nat.reduceBEq, Nat.reduceEqDiff, Nat.reduceAdd, Nat.reduceMul, Nat.reduceSub, Nat.reduceLT, Int.reduceToNat, Int.reduceLT, Int.reduceLE, Int.reduceEq, Int.reduceAdd, Int.reduceSub, Int.reduceNeg, Int.reduceMul, pkV, pkC]
  have d1 := Blk.new (w := w) (cs := [.int .i64 zk, .int .i64 zf, .int .i64 t, .int .i64 zo, .int .i64 zn, .slice za zl.length zc]) (E := 46)
  have u1 : Upd (fun _ => False) w (w.alloc (.cells [.int .i64 zk, .int .i64 zf, .int .i64 t, .int .i64 zo, .int .i64 zn, .slice za zl.length zc].toArray 46 (0, 0))) := Upd.alloc
  generalize w.alloc (.cells [.int .i64 zk, .int .i64 zf, .int .i64 t, .int .i64 zo, .int .i64 zn, .slice za zl.length zc].toArray 46 (0, 0)) = w1 at *
  have h1 := h.quiet u1
  have hz1 := hz.keep (Kp.quiet u1)
  have hn12 := h.n12
  obtain ⟨dg, dc, hdv, hdc, hdb, hdl, hdcell⟩ := own1 h1.dwn ht
  obtain ⟨ag, ac, hav, hac, hab, hal, hacell⟩ := own1 h1.all ht
  have ho1 := h1.obj
  rw [hdv, hav] at ho1
  have hwl : base ≤ w.heap.size := by have := h.ba; have := h.obj.lt; omega
  subst hKs
  rw [KS_nor]
  cases hdn : W.down t
  · rw [hdn] at hdcell
    simp (disch := omega) only [push_cast, Nat.reduceBEq, Nat.reduceEqDiff, Nat.reduceAdd, Nat.reduceMul, Nat.reduceSub, Nat.reduceLT, Int.reduceToNat, Int.reduceLT, Int.reduceLE, Int.reduceEq, Int.reduceAdd, Int.reduceSub, Int.reduceNeg, Int.reduceMul, ho1.cell, d1.cell, hdcell, hacell]
    have v2 : Upd (fun _ => False) w1 w1.drew.drew := Upd.drew.trans Upd.drew (fun _ _ h => h)
    have h2 := h1.quiet v2
    have hz2 := hz1.keep (Kp.quiet v2)
    have hrc := Receive_ok (h2.pr t ht) hs.1 (by have := hs.2.1; omega) (⟨zk, zf, t, zo, zn, zl⟩, .slice za zl.length zc) hz2 hzl hs.2.2.2.1
    unfold pkV pkC at hrc
    simp only at hrc
    refine Ok.use hrc ?_
    clear hrc
    rintro ov w3 ⟨S', lv', m', ds', ps, hR, hp3, hu3, hf3, hov⟩
    obtain ⟨hk1, hk2, _⟩ := hR.keep
    obtain ⟨hout, hpl⟩ := hR.out
    have h3 := h2.proc ht hu3 hp3 hk1 hk2 hf3
    have d3 := d1.drew.drew.upd hu3 (fun hb => by have := (h.pr t ht).old hb; omega)
    have ho3 := h3.obj
    simp only at ho3
    rw [hdv, hav] at ho3
    obtain ⟨oa, oc, rfl⟩ := hov.form
    have s23 := hu3.size
    have s12 : w1.heap.size = w1.drew.drew.heap.size := rfl
    have hpn := h.pn t ht
    simp (disch := omega) only [push_cast, Nat.reduceBEq, Nat.reduceEqDiff, Nat.reduceAdd, Nat.reduceMul, Nat.reduceSub, Nat.reduceLT, Int.reduceToNat, Int.reduceLT, Int.reduceLE, Int.reduceEq, Int.reduceAdd, Int.reduceSub, Int.reduceNeg, Int.reduceMul, ho1.cell, d1.cell, hacell, d3.cell]
    refine Ok.use (send_ok (n := W.n) ho3 ⟨_, _, rfl⟩ h3.und hov (fun g hg e => ?_) h3.ba (t : Int) (fun y hy => by obtain ⟨q1, q2, q3⟩ := hout y hy; rw [hpn.2] at q1; rw [hpn.1] at q3; exact ⟨q1, q2, q3⟩) (by simp only; rw [hpn.1] at hpl; omega) hn12) ?_
    · have := (hov.ge hg).1
      have := (h2.und.ge e).2
      omega
    rintro v w4 ⟨rfl, uv4, ho4, hu4, hup4, hf4⟩
    have h4 := h3.under hup4 (by simp only; rw [hdv, hav]; exact ho4) hu4
    simp (disch := omega) only [push_cast, Nat.reduceBEq, Nat.reduceEqDiff, Nat.reduceAdd, Nat.reduceMul, Nat.reduceSub, Nat.reduceLT, Int.reduceToNat, Int.reduceLT, Int.reduceLE, Int.reduceEq, Int.reduceAdd, Int.reduceSub, Int.reduceNeg, Int.reduceMul, ho1.cell, d1.cell, hacell, d3.cell]
    refine ⟨_, _, h4, rfl, ⟨S', ps, hR, rfl⟩, ?_⟩
    refine ((((u1.trans v2 (fun _ _ h => h)).mono (fun _ _ h => h.elim)).trans hu3 (fun b _ hb => FtH.ge h2 ht hb)).trans hup4 (fun b _ hb => ?_))
    rcases hb with rfl | hb
    · exact h.ba
    · exact (h3.und.ge hb).1
  · rw [hdn] at hdcell
    simp (disch := omega) only [push_cast, Nat.reduceBEq, Nat.reduceEqDiff, Nat.reduceAdd, Nat.reduceMul, Nat.reduceSub, Nat.reduceLT, Int.reduceToNat, Int.reduceLT, Int.reduceLE, Int.reduceEq, Int.reduceAdd, Int.reduceSub, Int.reduceNeg, Int.reduceMul, ho1.cell, d1.cell, hdcell]
    exact ⟨H, W, h1.quiet Upd.drew, rfl, rfl, (u1.trans Upd.drew (fun _ _ h => h)).mono (fun _ _ h => h.elim)⟩
end Go.Proofs.Ytpgfokhpacdhjaa.Fd
