/-
  play: one event.
-/
import Derived.Test.YtpgfokhpacdhjaaBcC
namespace Go.Proofs.Ytpgfokhpacdhjaa.Fd
set_option linter.unusedSimpArgs false
set_option linter.unusedVariables false
open Go Go.ChangeMaps
set_option maxRecDepth 100000

theorem WR.sents {base : Nat} {w w' : World} {H : Hp} {W : Wd} (h : WR base w H W) {p : Nat} (hp : p < W.n) (u : Upd (fun b => (H.sv p).ownBlock = some b ∨ H.sentV.ownBlock = some b) w w') {v' x : Value} {l : List Int}
    (hs : w'.ownsRow base 41 1 H.sentV W.n (rowN W.n (upd H.sv p v'))) (hv : w'.ownsRow base 28 1 v' ((H.pv p).length + 1) (H.pv p ++ [x])) (hx : PB base w' x l) (hf : ∀ g, v'.ownBlock = some g → (H.sv p).ownBlock = some g ∨ w.heap.size ≤ g) :
    WR base w' { H with sv := upd H.sv p v', pv := upd H.pv p (H.pv p ++ [x]) } { W with sent := upd W.sent p (W.sent p ++ [l]) } := by
  have hk : ∀ b, ((H.sv p).ownBlock = some b ∨ H.sentV.ownBlock = some b) → Knd w b 28 ∨ Knd w b 41 := by
    rintro b (hb | hb)
    · exact .inl (own_ty (h.sn p hp).1 hb)
    · exact .inr (own_ty h.snt hb)
  have hne : ∀ b E, Knd w b E → E ≠ 28 → E ≠ 41 → ¬ ((H.sv p).ownBlock = some b ∨ H.sentV.ownBlock = some b) := fun b E hb h1 h2 hf => by
    rcases hk b hf with h | h
    · exact hb.ne h h1
    · exact hb.ne h h2
  have kp : Kp base w w' := kp_kind u fun b hb => by
    refine ⟨?_, ?_⟩
    · rcases hb with hb | hb
      · exact (own_ge (h.sn p hp).1 hb).1
      · exact (own_ge h.snt hb).1
    · rcases hk b hb with h | h
      · exact ⟨_, h, by decide⟩
      · exact ⟨_, h, by decide⟩
  refine ⟨h.obj.upd u (hne _ _ ⟨_, h.obj⟩ (by decide) (by decide)), h.ba, h.n12, own_updB h.all u (fun g hg => hne g _ (own_ty h.all hg) (by decide) (by decide)), fun i hi => (h.pr i hi).frame u (fun b hb hf => ?_) kp, h.pn, h.dis, hs, fun i hi => ?_, ?_, own_updB h.dwn u (fun g hg => hne g _ (own_ty h.dwn hg) (by decide) (by decide)), h.und.upd u (fun g hg => hne g _ (h.und.ty hg) (by decide) (by decide)) kp⟩
  · rcases hk b hb with h' | h'
    · rcases (h.pr i hi).kind hf h' with e | e | e <;> exact absurd e (by decide)
    · rcases (h.pr i hi).kind hf h' with e | e | e <;> exact absurd e (by decide)
  · by_cases e : i = p
    · subst e
      simp only [upd_same]
      refine ⟨by rw [List.length_append, List.length_singleton]; exact hv, ⟨by rw [List.length_append, List.length_append, (h.sn i hi).2.1]; rfl, fun j y hj => ?_⟩⟩
      have hle := (h.sn i hi).2.1
      rw [List.getElem?_append] at hj
      split at hj
      · obtain ⟨l', e1, e2⟩ := (h.sn i hi).2.2 j y hj
        rename_i hjl
        exact ⟨l', by rw [List.getElem?_append_left (by omega)]; exact e1, e2.keep kp⟩
      · rename_i hjl
        have hj0 : j - (H.pv i).length = 0 := by
          rw [List.getElem?_eq_some_iff] at hj
          obtain ⟨hj, _⟩ := hj
          simp at hj
          omega
        rw [hj0] at hj
        simp only [List.getElem?_cons_zero, Option.some.injEq] at hj
        subst hj
        exact ⟨l, by rw [List.getElem?_append_right (by omega), ← hle, hj0]; rfl, hx⟩
    · simp only [upd_other e]
      refine ⟨own_updB (h.sn i hi).1 u (fun g hg hf => ?_), (h.sn i hi).2.keep kp⟩
      rcases hf with hf | hf
      · exact h.sdis i p hi hp e g hg hf
      · exact (own_ty (h.sn i hi).1 hg).elim fun cs hc => by
          obtain ⟨cs', hc'⟩ := own_ty h.snt hf
          exact absurd (hc.ty hc') (by decide)
  · intro i j hi hj hij g hgi hgj
    simp only at hgi hgj
    by_cases e : i = p
    · subst e
      rw [upd_same] at hgi
      rw [upd_other (Ne.symm hij)] at hgj
      rcases hf g hgi with h1 | h1
      · exact h.sdis i j hi hj hij g h1 hgj
      · have := (own_ge (h.sn j hj).1 hgj).2; omega
    · rw [upd_other e] at hgi
      by_cases e2 : j = p
      · subst e2
        rw [upd_same] at hgj
        rcases hf g hgj with h1 | h1
        · exact h.sdis i j hi hj hij g hgi h1
        · have := (own_ge (h.sn i hi).1 hgi).2; omega
      · rw [upd_other e2] at hgj
        exact h.sdis i j hi hj hij g hgi hgj
theorem WR.downs {base : Nat} {w w' : World} {H : Hp} {W : Wd} (h : WR base w H W) {p : Nat} (u : Upd (fun b => H.downV.ownBlock = some b) w w') (hd : w'.ownsRow base 4 1 H.downV W.n (rowN W.n (upd (fun i => .bool (W.down i)) p (.bool true)))) :
    WR base w' H { W with down := upd W.down p true } := by
  have hne : ∀ b E, Knd w b E → E ≠ 4 → ¬ H.downV.ownBlock = some b := fun b E hb h1 hf => hb.ne (own_ty h.dwn hf) h1
  have kp : Kp base w w' := kp_kind u fun b hb => ⟨(own_ge h.dwn hb).1, _, own_ty h.dwn hb, by decide⟩
  refine ⟨h.obj.upd u (hne _ _ ⟨_, h.obj⟩ (by decide)), h.ba, h.n12, own_updB h.all u (fun g hg => hne g _ (own_ty h.all hg) (by decide)), fun i hi => (h.pr i hi).frame u (fun b hb hf => ?_) kp, h.pn, h.dis, own_updB h.snt u (fun g hg => hne g _ (own_ty h.snt hg) (by decide)), fun i hi => ⟨own_updB (h.sn i hi).1 u (fun g hg => hne g _ (own_ty (h.sn i hi).1 hg) (by decide)), (h.sn i hi).2.keep kp⟩, h.sdis, ?_, h.und.upd u (fun g hg => hne g _ (h.und.ty hg) (by decide)) kp⟩
  · rcases (h.pr i hi).kind hf (own_ty h.dwn hb) with e | e | e <;> exact absurd e (by decide)
  · rw [show (rowN W.n fun i => Value.bool (upd W.down p true i)) = rowN W.n (upd (fun i => .bool (W.down i)) p (.bool true)) from rowN_congr fun i _ => by
      by_cases e : i = p
      · subst e; rw [upd_same, upd_same]
      · rw [upd_other e, upd_other e]]
    exact hd
def idx (A : Int) (k : Nat) : Nat := ((A % 18446744073709551616) % k).toNat
theorem idx_lt {A : Int} {k : Nat} (hk : 0 < k) : idx A k < k := by
  unfold idx
  have h1 : (0 : Int) ≤ (A % 18446744073709551616) % k := Int.emod_nonneg _ (by omega)
  have h2 : (A % 18446744073709551616) % k < k := Int.emod_lt_of_pos _ (by omega)
  omega
theorem cnv_i_u {k : IntKind} {n : Int} {w : World} : cnvS Try.prog 3 26 (.int k n) w = some (.int .u64 (IntKind.u64.wrap n), w) := cnv_int (by kernel_rfl) (by kernel_rfl)
theorem cnv_u_i {k : IntKind} {n : Int} {w : World} : cnvS Try.prog 26 3 (.int k n) w = some (.int .i64 (IntKind.i64.wrap n), w) := cnv_int (by kernel_rfl) (by kernel_rfl)
theorem u_nat {n : Nat} (h : n < 9223372036854775808) : IntKind.u64.wrap (n : Int) = (n : Int) := by
  show ((n : Int) % (2 ^ 64 : Int)) = _
  omega
theorem u_idx {A : Int} {k : Nat} (hk : 0 < k) : (IntKind.u64.wrap A).tmod (k : Int) = (idx A k : Int) := by
  show (A % (2 ^ 64 : Int)).tmod (k : Int) = _
  have h0 : (0 : Int) ≤ A % (2 ^ 64 : Int) := Int.emod_nonneg _ (by decide)
  rw [Int.tmod_eq_emod_of_nonneg h0]
  unfold idx
  have h1 : (0 : Int) ≤ (A % 18446744073709551616) % k := Int.emod_nonneg _ (by omega)
  rw [Int.toNat_of_nonneg h1]
  rfl
theorem bsl_b1 (a : Option Addr) (n c : Nat) (w : World) : bslS Try.prog 41 1 #[(0, .slice a n c)] w = some (.slice (some ⟨w.heap.size, 0, none⟩) 1 1, w.alloc (.cells [.slice a n c].toArray 28 (0, 0))) := by kernel_rfl
structure Ev where
  k : Int
  A : Int
  l : List Int
def evC (x : Ev × Value) : List Value := [.int .i64 x.1.k, .int .i64 x.1.A, x.2]
def evV (x : Ev × Value) : Value := .agg (evC x).toArray
inductive PlayR (x : Ev) : Wd → Wd → Prop
  | same (W : Wd) : PlayR x W W
  | bc {W : Wd} {p : Nat} {S' : PS} (hp : p < W.n) (hd : W.down p = false) (hr : Run (bcS (W.procs p) x.l) S') : PlayR x W { W with procs := upd W.procs p S', sent := upd W.sent p (W.sent p ++ [x.l]), under := W.under ++ bcO (W.procs p) x.l (W.procs p).n }
  | rc {W : Wd} {i t : Nat} {z : Pk} {S' : PS} {ps : List Pk} (hz : W.under[i]? = some z) (hzt : z.t = t) (ht : t < W.n) (hd : W.down t = false) (hr : RcR (W.procs t) z S' ps) : PlayR x W { W with procs := upd W.procs t S', under := W.under.eraseIdx i ++ ps }
  | drop {W : Wd} {i : Nat} : PlayR x W { W with under := W.under.eraseIdx i }
  | dup {W : Wd} {i : Nat} {z : Pk} (hz : W.under[i]? = some z) (hl : W.under.length < 500) : PlayR x W { W with under := W.under ++ [z] }
  | crash {W : Wd} {p : Nat} (hp : p < W.n) : PlayR x W { W with down := upd W.down p true }
  | rs {W : Wd} {p : Nat} {ss : List NP} (hp : p < W.n) (hd : W.down p = false) (hl : W.under.length < 500) (hss : ss.Perm ((W.procs p).notes.map (·.1))) : PlayR x W { W with under := W.under ++ rsO (W.procs p) ss }
/-- What play wants of a world. -/
structure Rdy (W : Wd) : Prop where
  n1 : 1 ≤ W.n
  sane : ∀ i, i < W.n → Sane (W.procs i)
  pk : ∀ z, z ∈ W.under → 0 ≤ z.t ∧ z.t < W.n ∧ z.l.length ≤ 140737488355328
  ul : W.under.length < 800000
  sl : ∀ i, i < W.n → (W.sent i).length < 100000
set_option maxHeartbeats 4000000 in
theorem play1_ok {base : Nat} {w : World} {H : Hp} {W : Wd} (h : WR base w H W) (hR : Rdy W) (x : Ev × Value) (hx : PB base w x.2 x.1.l) (hxl : x.1.l.length ≤ 140737488355328) (hn6 : ¬ (x.1.k = 6 ∧ W.down (idx x.1.A W.n) = false ∧ W.under.length < 500)) :
    Ok (den Try.prog 9 #[.pointer (some ⟨H.a, 0, none⟩), evV x] w) fun v w' => v = .bool true ∧ ∃ H' W', WR base w' H' W' ∧ H'.a = H.a ∧ PlayR x.1 W W' ∧ Upd (fun b => base ≤ b) w w' := by
  refine den_ok (args := [.pointer (some ⟨H.a, 0, none⟩), evV x]) rs9 Try.func9 rfl mixed in9 ok9 rfl ?_
  obtain ⟨za, zc, hx2⟩ := hx.form
  obtain ⟨⟨xk, xA, xl⟩, x2⟩ := x
  simp only at hx2 hx hxl hn6
  subst hx2
  rw [W_seq]
  generalize hKs : KS _ _ _ _ _ = Ks
  simp (disch := omega) only [push_cast, Nat.reduceBEq, Nat.reduceEqDiff, Nat.reduceAdd, Nat.reduceMul, Nat.reduceSub, Nat.reduceLT, Int.reduceToNat, Int.reduceLT, Int.reduceLE, Int.reduceEq, Int.reduceAdd, Int.reduceSub, Int.reduceNeg, Int.reduceMul, evV, evC]
  have d1 := Blk.new (w := w) (cs := [.int .i64 xk, .int .i64 xA, .slice za xl.length zc]) (E := 30)
  have u1 : Upd (fun _ => False) w (w.alloc (.cells [.int .i64 xk, .int .i64 xA, .slice za xl.length zc].toArray 30 (0, 0))) := Upd.alloc
  generalize w.alloc (.cells [.int .i64 xk, .int .i64 xA, .slice za xl.length zc].toArray 30 (0, 0)) = w1 at *
  have h1 := h.quiet u1
  have hx1 := hx.keep (Kp.quiet u1)
  have hn12 := h.n12
  have hn1 := hR.n1
  have hpl := idx_lt (A := xA) (k := W.n) (by omega)
  have hid := u_idx (A := xA) (k := W.n) (by omega)
  generalize hP : idx xA W.n = p at *
  obtain ⟨dg, dc, hdv, hdc, hdb, hdl, hdcell⟩ := own1 h1.dwn hpl
  obtain ⟨ag, ac, hav, hac, hab, hal, hacell⟩ := own1 h1.all hpl
  obtain ⟨ua, uc, huv⟩ := h1.und.form
  have ho1 := h1.obj
  rw [hdv, hav, huv] at ho1
  have hwl : base ≤ w.heap.size := by have := h.ba; have := h.obj.lt; omega
  have hul := hR.ul
  subst hKs
  rw [KS_nor]
  rw [W_seq]
  generalize hKs : KS _ _ _ _ _ = Ks
  simp (disch := omega) only [push_cast, Nat.reduceBEq, Nat.reduceEqDiff, Nat.reduceAdd, Nat.reduceMul, Nat.reduceSub, Nat.reduceLT, Int.reduceToNat, Int.reduceLT, Int.reduceLE, Int.reduceEq, Int.reduceAdd, Int.reduceSub, Int.reduceNeg, Int.reduceMul, ho1.cell, d1.cell]
  subst hKs
  rw [KS_nor]
  have hwn := u_nat (n := W.n) (by omega)
  have hwu := u_nat (n := W.under.length) (by omega)
  rw [W_seq]
  generalize hKs : KS _ _ _ _ _ = Ks
  simp (disch := omega) only [push_cast, Nat.reduceBEq, Nat.reduceEqDiff, Nat.reduceAdd, Nat.reduceMul, Nat.reduceSub, Nat.reduceLT, Int.reduceToNat, Int.reduceLT, Int.reduceLE, Int.reduceEq, Int.reduceAdd, Int.reduceSub, Int.reduceNeg, Int.reduceMul, ho1.cell, d1.cell, cnv_i_u, cnv_u_i, hwn, hid]
  subst hKs
  rw [KS_nor]
  rw [W_seq]
  generalize hKs : KS _ _ _ _ _ = Ks
  simp (disch := omega) only [push_cast, Nat.reduceBEq, Nat.reduceEqDiff, Nat.reduceAdd, Nat.reduceMul, Nat.reduceSub, Nat.reduceLT, Int.reduceToNat, Int.reduceLT, Int.reduceLE, Int.reduceEq, Int.reduceAdd, Int.reduceSub, Int.reduceNeg, Int.reduceMul]
  obtain ⟨sg, sc, hsv, hsc, hsb, hsl, hscell⟩ := own1 h1.snt hpl
  obtain ⟨pa, pc, hpv⟩ := own_slice (h1.sn p hpl).1
  rw [hsv] at ho1
  rw [hpv] at hscell
  by_cases hu0 : W.under.length = 0
  · subst hKs
    rw [KS_nor]
    rw [W_seq]
    generalize hKs : KS _ _ _ _ _ = Ks
    simp (disch := omega) only [push_cast, Nat.reduceBEq, Nat.reduceEqDiff, Nat.reduceAdd, Nat.reduceMul, Nat.reduceSub, Nat.reduceLT, Int.reduceToNat, Int.reduceLT, Int.reduceLE, Int.reduceEq, Int.reduceAdd, Int.reduceSub, Int.reduceNeg, Int.reduceMul, ho1.cell, d1.cell, hu0]
    have uW : Upd (fun _ => False) w1 w1 := Upd.refl
    subst hKs
    rw [KS_nor]
    by_cases hk1 : xk = 1
    · subst hk1
      cases hdn : W.down p
      rotate_left
      · rw [hdn] at hdcell
        simp (disch := omega) only [push_cast, Nat.reduceBEq, Nat.reduceEqDiff, Nat.reduceAdd, Nat.reduceMul, Nat.reduceSub, Nat.reduceLT, Int.reduceToNat, Int.reduceLT, Int.reduceLE, Int.reduceEq, Int.reduceAdd, Int.reduceSub, Int.reduceNeg, Int.reduceMul, ho1.cell, d1.cell, hdcell]
        exact ⟨H, W, h1.quiet uW, rfl, .same W, (u1.trans uW (fun _ _ h => h)).mono (fun _ _ h => h.elim)⟩
      rw [hdn] at hdcell
      have hal1 := ho1.lt
      have fct : ∀ {w' : World}, Upd (fun _ => False) w1 w' → Blk w' H.a [.slice (some ⟨ag, 0, none⟩) W.n ac, .slice (some ⟨sg, 0, none⟩) W.n sc, .slice (some ⟨dg, 0, none⟩) W.n dc, .slice ua W.under.length uc] tW ∧ w'.cell? ⟨sg, p, none⟩ = some (.slice pa (H.pv p).length pc) ∧ Blk w' w.heap.size [.int .i64 1, .int .i64 xA, .slice za xl.length zc] 30 := fun u => ⟨ho1.upd u (fun h => h), by rw [World.cell?_of_block (a := ⟨sg, p, none⟩) (u.block sg hsl (fun h => h))]; exact hscell, d1.upd u (fun h => h)⟩
      have hba := Blk.new (w := w1) (cs := []) (E := 5)
      have uA : Upd (fun _ => False) w1 (w1.alloc (.cells #[] 5 (0, 0))) := Upd.alloc
      obtain ⟨fa1, fa2, fa3⟩ := fct uA
      simp (disch := omega) only [push_cast, Nat.reduceBEq, Nat.reduceEqDiff, Nat.reduceAdd, Nat.reduceMul, Nat.reduceSub, Nat.reduceLT, Int.reduceToNat, Int.reduceLT, Int.reduceLE, Int.reduceEq, Int.reduceAdd, Int.reduceSub, Int.reduceNeg, Int.reduceMul, ho1.cell, d1.cell, hdcell, hscell, bsl_bytes0, fa1.cell, fa2, fa3.cell]
      refine app_by (w := (w1.alloc (.cells #[] 5 (0, 0))).drew) (Bow.empty (hba.drew)) ((hx1.keep (Kp.quiet (uA.trans (Upd.drew (F := fun _ => False)) (fun _ _ h => h)))).slb) (by rw [List.length_nil]; omega) ?_
      intro vx w4 hx4 hu4 _
      rw [List.nil_append] at hx4
      have u4 : Upd (fun _ => False) w1 w4 := (uA.trans (Upd.drew (F := fun _ => False)) (fun _ _ h => h)).trans hu4 (fun b h1 h2 => by simp [Value.ownBlock] at h2; omega)
      have hx4 := PB.bow (base := base) hx.1 hx4
      obtain ⟨va, vc, rfl⟩ := hx4.form
      obtain ⟨fb1, fb2, fb3⟩ := fct u4
      have hbc := Blk.new (w := w4) (cs := [.slice va xl.length vc]) (E := 28)
      have uC : Upd (fun _ => False) w4 (w4.alloc (.cells [.slice va xl.length vc].toArray 28 (0, 0))) := Upd.alloc
      obtain ⟨fc1, fc2, fc3⟩ := fct (u4.trans uC (fun _ _ h => h))
      simp (disch := omega) only [push_cast, Nat.reduceBEq, Nat.reduceEqDiff, Nat.reduceAdd, Nat.reduceMul, Nat.reduceSub, Nat.reduceLT, Int.reduceToNat, Int.reduceLT, Int.reduceLE, Int.reduceEq, Int.reduceAdd, Int.reduceSub, Int.reduceNeg, Int.reduceMul, ho1.cell, d1.cell, hdcell, hscell, bsl_bytes0, fa1.cell, fa2, fa3.cell, fb1.cell, fb2, fb3.cell, fc1.cell, fc2, fc3.cell, bsl_b1]
      have hsvn := (h1.sn p hpl).1
      rw [hpv] at hsvn
      have hpn := h1.pn p hpl
      have hslp : (H.pv p).length < 100000 := by have := hR.sl p hpl; have := (h1.sn p hpl).2.1; omega
      refine app_rec (s := 1) (by_ := 24) t41_e t28_s t28_b t28_z rfl (by omega) (own_updB hsvn (u4.trans uC (fun _ _ h => h)) (fun _ _ h => h)) rfl (by have := (u4.trans uC (fun _ _ h => h)).size; omega) hbc (by intro u hu; simp at hu; subst hu; rfl) (by omega) (by omega) ?_
      intro v5 w5 hrow5 hu5 hf5
      obtain ⟨ya, yc, rfl⟩ := own_slice hrow5
      have u45 : Upd (fun b => (H.sv p).ownBlock = some b) w1 w5 := ((u4.trans uC (fun _ _ h => h)).mono (fun _ _ h => h.elim)).trans hu5 (fun b h1 h2 => by rw [hpv]; exact h2)
      have hkp : ∀ g, (H.sv p).ownBlock = some g → Knd w1 g 28 := fun g hg => own_ty (h1.sn p hpl).1 hg
      have ho5 := ho1.upd u45 (fun e => (hkp _ e).ne ⟨_, ho1⟩ (by decide))
      have hksg : Knd w1 sg 41 := own_ty h1.snt (by rw [hsv]; rfl)
      have hs5 : w5.cell? ⟨sg, p, none⟩ = some (.slice pa (H.pv p).length pc) := by rw [World.cell?_of_block (a := ⟨sg, p, none⟩) (u45.block sg hsl (fun e => (hkp _ e).ne hksg (by decide)))]; exact hscell
      have d5 := d1.upd u45 (fun e => (hkp _ e).ne ⟨_, d1⟩ (by decide))
      have hsr5 := own_updB h1.snt u45 (fun g hg e => (hkp _ e).ne (own_ty h1.snt hg) (by decide))
      have hfz5 : w5.frozen? ⟨sg, p, none⟩ = false := by rw [hsv] at hsr5; exact hsr5.frozenAt p
      have hns1 : ¬ H.a = sg := fun e => (show Knd w1 H.a tW from ⟨_, ho1⟩).ne (by rw [e]; exact hksg) (by decide)
      have hns2 : ¬ w.heap.size = sg := fun e => (show Knd w1 w.heap.size 30 from ⟨_, d1⟩).ne (by rw [e]; exact hksg) (by decide)
      have hkag : Knd w1 ag 43 := own_ty h1.all (by rw [hav]; rfl)
      have hns3 : ¬ ag = sg := fun e => hkag.ne (by rw [e]; exact hksg) (by decide)
      have ha5 : w5.cell? ⟨ag, p, none⟩ = some (.pointer (some ⟨H.p p, 0, none⟩)) := by rw [World.cell?_of_block (a := ⟨ag, p, none⟩) (u45.block ag hal (fun e => (hkp _ e).ne hkag (by decide)))]; exact hacell
      simp (disch := omega) only [push_cast, Nat.reduceBEq, Nat.reduceEqDiff, Nat.reduceAdd, Nat.reduceMul, Nat.reduceSub, Nat.reduceLT, Int.reduceToNat, Int.reduceLT, Int.reduceLE, Int.reduceEq, Int.reduceAdd, Int.reduceSub, Int.reduceNeg, Int.reduceMul, ho1.cell, d1.cell, hdcell, hscell, bsl_bytes0, fa1.cell, fa2, fa3.cell, fb1.cell, fb2, fb3.cell, fc1.cell, fc2, fc3.cell, bsl_b1, ho5.cell, hs5, d5.cell, hfz5, hns1, hns2, hns3, ha5]
      have u56 : Upd (fun b => b = sg) w5 (w5.setCell ⟨sg, p, none⟩ (.slice ya ((H.pv p).length + 1) yc)).drew := (Upd.set (F := fun b => b = sg) rfl).drew'
      have hsvo : H.sentV.ownBlock = some sg := by rw [hsv]; rfl
      have u16 : Upd (fun b => (H.sv p).ownBlock = some b ∨ H.sentV.ownBlock = some b) w1 (w5.setCell ⟨sg, p, none⟩ (.slice ya ((H.pv p).length + 1) yc)).drew := (u45.mono (fun _ _ h => .inl h)).trans u56 (fun b _ h => .inr (by rw [h]; exact hsvo))
      have kp16 : Kp base w1 _ := kp_kind u16 fun b hb => by
        rcases hb with hb | hb
        · exact ⟨(own_ge (h1.sn p hpl).1 hb).1, _, hkp _ hb, by decide⟩
        · exact ⟨(own_ge h1.snt hb).1, _, own_ty h1.snt hb, by decide⟩
      have hx5 := (hx4.keep (Kp.quiet uC)).keep (Kp.of_upd hu5 fun b hb hst => by
        rw [← hpv] at hb
        have hbl := own_ge (h1.sn p hpl).1 hb
        have hst' : Still base w1 b := ⟨hbl.2, hst.2.imp id (fun ⟨cs, fz, h⟩ => ⟨cs, fz, by rw [← (u4.trans uC (fun _ _ h => h)).block b hbl.2 (fun h => h)]; exact h⟩)⟩
        rcases hst'.2 with hq | ⟨cs, fz, hq⟩
        · omega
        · obtain ⟨cs', hk⟩ := hkp _ hb
          unfold Blk at hk
          rw [hk] at hq
          cases hq)
      have hsr6 := (by rw [hsv] at hsr5; exact (hsr5.stored p (.slice ya ((H.pv p).length + 1) yc)).1)
      rw [rowN_set, ← hsv] at hsr6
      have hx6 := hx5.keep (kp_kind u56 fun b hb => by subst hb; exact ⟨hsb, _, (own_ty hsr5 hsvo), by decide⟩)
      have hrow6 := own_updB hrow5 u56 (fun g hg e => by obtain ⟨cs, hk⟩ := own_ty hrow5 hg; subst e; exact (show Knd w5 g _ from ⟨cs, hk⟩).ne (own_ty hsr5 hsvo) (by decide))
      have h6 := h1.sents (l := xl) hpl u16 hsr6 hrow6 hx6 (fun g hg => by
        rcases hf5 g hg with h | h
        · exact .inl (by rw [hpv]; exact h)
        · exact .inr (by have := (u4.trans uC (fun _ _ h => h)).size; omega))
      have hxa := hx1.keep kp16
      clear hsr6 hx5 hx6 hrow6
      generalize (w5.setCell ⟨sg, p, none⟩ (.slice ya ((H.pv p).length + 1) yc)).drew = w6 at *
      have hsn := hR.sane p hpl
      refine Ok.use (Broadcast_ok (h6.pr p hpl) hsn.1 (by have := hsn.2.1; simp only; omega) hxa hxl (by have := hsn.2.2.1; simp only; omega)) ?_
      rintro ov w7 ⟨S', lv', m', ds', hrun, hp7, hu7, hf7, hov⟩
      obtain ⟨hq1, hq2, _, _⟩ := hrun.keep
      have h7 := h6.proc hpl hu7 hp7 hq1 hq2 hf7
      have ho7 := h7.obj
      simp only at ho7
      rw [hdv, hav] at ho7
      obtain ⟨oa, oc, rfl⟩ := hov.form
      have hbol := @bcO_length (W.procs p) xl (W.procs p).n
      simp (disch := omega) only [push_cast, Nat.reduceBEq, Nat.reduceEqDiff, Nat.reduceAdd, Nat.reduceMul, Nat.reduceSub, Nat.reduceLT, Int.reduceToNat, Int.reduceLT, Int.reduceLE, Int.reduceEq, Int.reduceAdd, Int.reduceSub, Int.reduceNeg, Int.reduceMul, ho1.cell]
      refine Ok.use (send_ok (n := W.n) ho7 ⟨_, _, rfl⟩ h7.und hov (fun g hg e => ?_) h7.ba (p : Int) (fun y hy => ?_) (by simp only; rw [hpn.1] at hbol ⊢; omega) hn12) ?_
      · have := (hov.ge hg).1
        have := (h6.und.ge e).2
        omega
      · unfold bcO at hy
        obtain ⟨to, hto, hy⟩ := List.mem_filterMap.1 hy
        have hto := List.mem_range.1 hto
        split at hy
        · cases hy
        · cases hy
          rw [hpn.1] at hto
          exact ⟨by simp only; rw [hpn.2], by show (0 : Int) ≤ (to : Int); omega, by show (to : Int) < _; omega⟩
      rintro v w8 ⟨rfl, uv8, ho8, hu8, hup8, hf8⟩
      have h8 := h7.under hup8 (by simp only; rw [hdv, hav]; exact ho8) hu8
      simp (disch := omega) only [push_cast, Nat.reduceBEq, Nat.reduceEqDiff, Nat.reduceAdd, Nat.reduceMul, Nat.reduceSub, Nat.reduceLT, Int.reduceToNat, Int.reduceLT, Int.reduceLE, Int.reduceEq, Int.reduceAdd, Int.reduceSub, Int.reduceNeg, Int.reduceMul]
      refine ⟨_, _, h8, rfl, PlayR.bc hpl hdn hrun, ?_⟩
      refine (((u1.mono (fun _ _ h => h.elim)).trans u16 (fun b _ hb => ?_)).trans hu7 (fun b _ hb => FtH.ge h6 hpl hb)).trans hup8 (fun b _ hb => ?_)
      · rcases hb with hb | hb
        · exact (own_ge (h1.sn p hpl).1 hb).1
        · exact (own_ge h1.snt hb).1
      · rcases hb with rfl | hb
        · exact h.ba
        · exact (h7.und.ge hb).1
    by_cases hk2 : xk = 2
    · subst hk2
      simp (disch := omega) only [push_cast, Nat.reduceBEq, Nat.reduceEqDiff, Nat.reduceAdd, Nat.reduceMul, Nat.reduceSub, Nat.reduceLT, Int.reduceToNat, Int.reduceLT, Int.reduceLE, Int.reduceEq, Int.reduceAdd, Int.reduceSub, Int.reduceNeg, Int.reduceMul, ho1.cell, d1.cell]
      exact ⟨H, W, h1.quiet (uW.trans (Upd.refl) (fun _ _ h => h)), rfl, .same W, (u1.trans (uW.trans (Upd.refl) (fun _ _ h => h)) (fun _ _ h => h)).mono (fun _ _ h => h.elim)⟩
    by_cases hk3 : xk = 3
    · subst hk3
      simp (disch := omega) only [push_cast, Nat.reduceBEq, Nat.reduceEqDiff, Nat.reduceAdd, Nat.reduceMul, Nat.reduceSub, Nat.reduceLT, Int.reduceToNat, Int.reduceLT, Int.reduceLE, Int.reduceEq, Int.reduceAdd, Int.reduceSub, Int.reduceNeg, Int.reduceMul, ho1.cell, d1.cell]
      exact ⟨H, W, h1.quiet (uW.trans (Upd.refl) (fun _ _ h => h)), rfl, .same W, (u1.trans (uW.trans (Upd.refl) (fun _ _ h => h)) (fun _ _ h => h)).mono (fun _ _ h => h.elim)⟩
    by_cases hk4 : xk = 4
    · subst hk4
      simp (disch := omega) only [push_cast, Nat.reduceBEq, Nat.reduceEqDiff, Nat.reduceAdd, Nat.reduceMul, Nat.reduceSub, Nat.reduceLT, Int.reduceToNat, Int.reduceLT, Int.reduceLE, Int.reduceEq, Int.reduceAdd, Int.reduceSub, Int.reduceNeg, Int.reduceMul, ho1.cell, d1.cell]
      exact ⟨H, W, h1.quiet (uW.trans (Upd.refl) (fun _ _ h => h)), rfl, .same W, (u1.trans (uW.trans (Upd.refl) (fun _ _ h => h)) (fun _ _ h => h)).mono (fun _ _ h => h.elim)⟩
    by_cases hk5 : xk = 5
    · subst hk5
      have hdr := h1.dwn
      rw [hdv] at hdr
      have hdfz := hdr.frozenAt p
      simp (disch := omega) only [push_cast, Nat.reduceBEq, Nat.reduceEqDiff, Nat.reduceAdd, Nat.reduceMul, Nat.reduceSub, Nat.reduceLT, Int.reduceToNat, Int.reduceLT, Int.reduceLE, Int.reduceEq, Int.reduceAdd, Int.reduceSub, Int.reduceNeg, Int.reduceMul, ho1.cell, d1.cell, hdcell, hdfz]
      have hst := (hdr.stored p (.bool true)).1
      rw [rowN_set, ← hdv] at hst
      have ud : Upd (fun b => H.downV.ownBlock = some b) w1 (w1.setCell ⟨dg, p, none⟩ (.bool true)) := Upd.set (by rw [hdv]; rfl)
      have h5 := h1.downs ud hst
      have uq : Upd (fun _ => False) (w1.setCell ⟨dg, p, none⟩ (.bool true)) (w1.setCell ⟨dg, p, none⟩ (.bool true)) := Upd.refl
      exact ⟨H, _, h5.quiet uq, rfl, PlayR.crash hpl, ((u1.mono (fun _ _ h => h.elim)).trans ud (fun b _ hb => (own_ge h1.dwn hb).1)).trans uq (fun _ _ h => h.elim)⟩
    by_cases hk6 : xk = 6
    · subst hk6
      cases hdn : W.down p
      · exact absurd ⟨rfl, hdn, by omega⟩ hn6
      · rw [hdn] at hdcell
        simp (disch := omega) only [push_cast, Nat.reduceBEq, Nat.reduceEqDiff, Nat.reduceAdd, Nat.reduceMul, Nat.reduceSub, Nat.reduceLT, Int.reduceToNat, Int.reduceLT, Int.reduceLE, Int.reduceEq, Int.reduceAdd, Int.reduceSub, Int.reduceNeg, Int.reduceMul, ho1.cell, d1.cell, hdcell]
        exact ⟨H, W, h1.quiet (uW.trans (Upd.refl) (fun _ _ h => h)), rfl, .same W, (u1.trans (uW.trans (Upd.refl) (fun _ _ h => h)) (fun _ _ h => h)).mono (fun _ _ h => h.elim)⟩
    simp (disch := omega) only [push_cast, Nat.reduceBEq, Nat.reduceEqDiff, Nat.reduceAdd, Nat.reduceMul, Nat.reduceSub, Nat.reduceLT, Int.reduceToNat, Int.reduceLT, Int.reduceLE, Int.reduceEq, Int.reduceAdd, Int.reduceSub, Int.reduceNeg, Int.reduceMul, ho1.cell, d1.cell, hk1, hk2, hk3, hk4, hk5, hk6]
    exact ⟨H, W, h1.quiet (uW.trans (Upd.refl) (fun _ _ h => h)), rfl, .same W, (u1.trans (uW.trans (Upd.refl) (fun _ _ h => h)) (fun _ _ h => h)).mono (fun _ _ h => h.elim)⟩
  · have hu0' : (0 : Int) < W.under.length := by omega
    have hiu := u_idx (A := xA) (k := W.under.length) (by omega)
    have hil := idx_lt (A := xA) (k := W.under.length) (by omega)
    subst hKs
    rw [KS_nor]
    rw [W_seq]
    generalize hKs : KS _ _ _ _ _ = Ks
    simp (disch := omega) only [push_cast, Nat.reduceBEq, Nat.reduceEqDiff, Nat.reduceAdd, Nat.reduceMul, Nat.reduceSub, Nat.reduceLT, Int.reduceToNat, Int.reduceLT, Int.reduceLE, Int.reduceEq, Int.reduceAdd, Int.reduceSub, Int.reduceNeg, Int.reduceMul, ho1.cell, d1.cell, hu0', cnv_i_u, cnv_u_i, hwu, hiu]
    have uW : Upd (fun _ => False) w1 w1.drew := Upd.drew
    subst hKs
    rw [KS_nor]
    by_cases hk1 : xk = 1
    · subst hk1
      cases hdn : W.down p
      rotate_left
      · rw [hdn] at hdcell
        simp (disch := omega) only [push_cast, Nat.reduceBEq, Nat.reduceEqDiff, Nat.reduceAdd, Nat.reduceMul, Nat.reduceSub, Nat.reduceLT, Int.reduceToNat, Int.reduceLT, Int.reduceLE, Int.reduceEq, Int.reduceAdd, Int.reduceSub, Int.reduceNeg, Int.reduceMul, ho1.cell, d1.cell, hdcell]
        exact ⟨H, W, h1.quiet uW, rfl, .same W, (u1.trans uW (fun _ _ h => h)).mono (fun _ _ h => h.elim)⟩
      rw [hdn] at hdcell
      have hal1 := ho1.lt
      have fct : ∀ {w' : World}, Upd (fun _ => False) w1 w' → Blk w' H.a [.slice (some ⟨ag, 0, none⟩) W.n ac, .slice (some ⟨sg, 0, none⟩) W.n sc, .slice (some ⟨dg, 0, none⟩) W.n dc, .slice ua W.under.length uc] tW ∧ w'.cell? ⟨sg, p, none⟩ = some (.slice pa (H.pv p).length pc) ∧ Blk w' w.heap.size [.int .i64 1, .int .i64 xA, .slice za xl.length zc] 30 := fun u => ⟨ho1.upd u (fun h => h), by rw [World.cell?_of_block (a := ⟨sg, p, none⟩) (u.block sg hsl (fun h => h))]; exact hscell, d1.upd u (fun h => h)⟩
      have hba := Blk.new (w := w1) (cs := []) (E := 5)
      have uA : Upd (fun _ => False) w1 (w1.alloc (.cells #[] 5 (0, 0))) := Upd.alloc
      obtain ⟨fa1, fa2, fa3⟩ := fct uA
      simp (disch := omega) only [push_cast, Nat.reduceBEq, Nat.reduceEqDiff, Nat.reduceAdd, Nat.reduceMul, Nat.reduceSub, Nat.reduceLT, Int.reduceToNat, Int.reduceLT, Int.reduceLE, Int.reduceEq, Int.reduceAdd, Int.reduceSub, Int.reduceNeg, Int.reduceMul, ho1.cell, d1.cell, hdcell, hscell, bsl_bytes0, fa1.cell, fa2, fa3.cell]
      refine app_by (w := (w1.alloc (.cells #[] 5 (0, 0))).drew.drew) (Bow.empty (hba.drew.drew)) ((hx1.keep (Kp.quiet (uA.trans (Upd.drew (F := fun _ => False)).drew' (fun _ _ h => h)))).slb) (by rw [List.length_nil]; omega) ?_
      intro vx w4 hx4 hu4 _
      rw [List.nil_append] at hx4
      have u4 : Upd (fun _ => False) w1 w4 := (uA.trans (Upd.drew (F := fun _ => False)).drew' (fun _ _ h => h)).trans hu4 (fun b h1 h2 => by simp [Value.ownBlock] at h2; omega)
      have hx4 := PB.bow (base := base) hx.1 hx4
      obtain ⟨va, vc, rfl⟩ := hx4.form
      obtain ⟨fb1, fb2, fb3⟩ := fct u4
      have hbc := Blk.new (w := w4) (cs := [.slice va xl.length vc]) (E := 28)
      have uC : Upd (fun _ => False) w4 (w4.alloc (.cells [.slice va xl.length vc].toArray 28 (0, 0))) := Upd.alloc
      obtain ⟨fc1, fc2, fc3⟩ := fct (u4.trans uC (fun _ _ h => h))
      simp (disch := omega) only [push_cast, Nat.reduceBEq, Nat.reduceEqDiff, Nat.reduceAdd, Nat.reduceMul, Nat.reduceSub, Nat.reduceLT, Int.reduceToNat, Int.reduceLT, Int.reduceLE, Int.reduceEq, Int.reduceAdd, Int.reduceSub, Int.reduceNeg, Int.reduceMul, ho1.cell, d1.cell, hdcell, hscell, bsl_bytes0, fa1.cell, fa2, fa3.cell, fb1.cell, fb2, fb3.cell, fc1.cell, fc2, fc3.cell, bsl_b1]
      have hsvn := (h1.sn p hpl).1
      rw [hpv] at hsvn
      have hpn := h1.pn p hpl
      have hslp : (H.pv p).length < 100000 := by have := hR.sl p hpl; have := (h1.sn p hpl).2.1; omega
      refine app_rec (s := 1) (by_ := 24) t41_e t28_s t28_b t28_z rfl (by omega) (own_updB hsvn (u4.trans uC (fun _ _ h => h)) (fun _ _ h => h)) rfl (by have := (u4.trans uC (fun _ _ h => h)).size; omega) hbc (by intro u hu; simp at hu; subst hu; rfl) (by omega) (by omega) ?_
      intro v5 w5 hrow5 hu5 hf5
      obtain ⟨ya, yc, rfl⟩ := own_slice hrow5
      have u45 : Upd (fun b => (H.sv p).ownBlock = some b) w1 w5 := ((u4.trans uC (fun _ _ h => h)).mono (fun _ _ h => h.elim)).trans hu5 (fun b h1 h2 => by rw [hpv]; exact h2)
      have hkp : ∀ g, (H.sv p).ownBlock = some g → Knd w1 g 28 := fun g hg => own_ty (h1.sn p hpl).1 hg
      have ho5 := ho1.upd u45 (fun e => (hkp _ e).ne ⟨_, ho1⟩ (by decide))
      have hksg : Knd w1 sg 41 := own_ty h1.snt (by rw [hsv]; rfl)
      have hs5 : w5.cell? ⟨sg, p, none⟩ = some (.slice pa (H.pv p).length pc) := by rw [World.cell?_of_block (a := ⟨sg, p, none⟩) (u45.block sg hsl (fun e => (hkp _ e).ne hksg (by decide)))]; exact hscell
      have d5 := d1.upd u45 (fun e => (hkp _ e).ne ⟨_, d1⟩ (by decide))
      have hsr5 := own_updB h1.snt u45 (fun g hg e => (hkp _ e).ne (own_ty h1.snt hg) (by decide))
      have hfz5 : w5.frozen? ⟨sg, p, none⟩ = false := by rw [hsv] at hsr5; exact hsr5.frozenAt p
      have hns1 : ¬ H.a = sg := fun e => (show Knd w1 H.a tW from ⟨_, ho1⟩).ne (by rw [e]; exact hksg) (by decide)
      have hns2 : ¬ w.heap.size = sg := fun e => (show Knd w1 w.heap.size 30 from ⟨_, d1⟩).ne (by rw [e]; exact hksg) (by decide)
      have hkag : Knd w1 ag 43 := own_ty h1.all (by rw [hav]; rfl)
      have hns3 : ¬ ag = sg := fun e => hkag.ne (by rw [e]; exact hksg) (by decide)
      have ha5 : w5.cell? ⟨ag, p, none⟩ = some (.pointer (some ⟨H.p p, 0, none⟩)) := by rw [World.cell?_of_block (a := ⟨ag, p, none⟩) (u45.block ag hal (fun e => (hkp _ e).ne hkag (by decide)))]; exact hacell
      simp (disch := omega) only [push_cast, Nat.reduceBEq, Nat.reduceEqDiff, Nat.reduceAdd, Nat.reduceMul, Nat.reduceSub, Nat.reduceLT, Int.reduceToNat, Int.reduceLT, Int.reduceLE, Int.reduceEq, Int.reduceAdd, Int.reduceSub, Int.reduceNeg, Int.reduceMul, ho1.cell, d1.cell, hdcell, hscell, bsl_bytes0, fa1.cell, fa2, fa3.cell, fb1.cell, fb2, fb3.cell, fc1.cell, fc2, fc3.cell, bsl_b1, ho5.cell, hs5, d5.cell, hfz5, hns1, hns2, hns3, ha5]
      have u56 : Upd (fun b => b = sg) w5 (w5.setCell ⟨sg, p, none⟩ (.slice ya ((H.pv p).length + 1) yc)).drew := (Upd.set (F := fun b => b = sg) rfl).drew'
      have hsvo : H.sentV.ownBlock = some sg := by rw [hsv]; rfl
      have u16 : Upd (fun b => (H.sv p).ownBlock = some b ∨ H.sentV.ownBlock = some b) w1 (w5.setCell ⟨sg, p, none⟩ (.slice ya ((H.pv p).length + 1) yc)).drew := (u45.mono (fun _ _ h => .inl h)).trans u56 (fun b _ h => .inr (by rw [h]; exact hsvo))
      have kp16 : Kp base w1 _ := kp_kind u16 fun b hb => by
        rcases hb with hb | hb
        · exact ⟨(own_ge (h1.sn p hpl).1 hb).1, _, hkp _ hb, by decide⟩
        · exact ⟨(own_ge h1.snt hb).1, _, own_ty h1.snt hb, by decide⟩
      have hx5 := (hx4.keep (Kp.quiet uC)).keep (Kp.of_upd hu5 fun b hb hst => by
        rw [← hpv] at hb
        have hbl := own_ge (h1.sn p hpl).1 hb
        have hst' : Still base w1 b := ⟨hbl.2, hst.2.imp id (fun ⟨cs, fz, h⟩ => ⟨cs, fz, by rw [← (u4.trans uC (fun _ _ h => h)).block b hbl.2 (fun h => h)]; exact h⟩)⟩
        rcases hst'.2 with hq | ⟨cs, fz, hq⟩
        · omega
        · obtain ⟨cs', hk⟩ := hkp _ hb
          unfold Blk at hk
          rw [hk] at hq
          cases hq)
      have hsr6 := (by rw [hsv] at hsr5; exact (hsr5.stored p (.slice ya ((H.pv p).length + 1) yc)).1)
      rw [rowN_set, ← hsv] at hsr6
      have hx6 := hx5.keep (kp_kind u56 fun b hb => by subst hb; exact ⟨hsb, _, (own_ty hsr5 hsvo), by decide⟩)
      have hrow6 := own_updB hrow5 u56 (fun g hg e => by obtain ⟨cs, hk⟩ := own_ty hrow5 hg; subst e; exact (show Knd w5 g _ from ⟨cs, hk⟩).ne (own_ty hsr5 hsvo) (by decide))
      have h6 := h1.sents (l := xl) hpl u16 hsr6 hrow6 hx6 (fun g hg => by
        rcases hf5 g hg with h | h
        · exact .inl (by rw [hpv]; exact h)
        · exact .inr (by have := (u4.trans uC (fun _ _ h => h)).size; omega))
      have hxa := hx1.keep kp16
      clear hsr6 hx5 hx6 hrow6
      generalize (w5.setCell ⟨sg, p, none⟩ (.slice ya ((H.pv p).length + 1) yc)).drew = w6 at *
      have hsn := hR.sane p hpl
      refine Ok.use (Broadcast_ok (h6.pr p hpl) hsn.1 (by have := hsn.2.1; simp only; omega) hxa hxl (by have := hsn.2.2.1; simp only; omega)) ?_
      rintro ov w7 ⟨S', lv', m', ds', hrun, hp7, hu7, hf7, hov⟩
      obtain ⟨hq1, hq2, _, _⟩ := hrun.keep
      have h7 := h6.proc hpl hu7 hp7 hq1 hq2 hf7
      have ho7 := h7.obj
      simp only at ho7
      rw [hdv, hav] at ho7
      obtain ⟨oa, oc, rfl⟩ := hov.form
      have hbol := @bcO_length (W.procs p) xl (W.procs p).n
      simp (disch := omega) only [push_cast, Nat.reduceBEq, Nat.reduceEqDiff, Nat.reduceAdd, Nat.reduceMul, Nat.reduceSub, Nat.reduceLT, Int.reduceToNat, Int.reduceLT, Int.reduceLE, Int.reduceEq, Int.reduceAdd, Int.reduceSub, Int.reduceNeg, Int.reduceMul, ho1.cell]
      refine Ok.use (send_ok (n := W.n) ho7 ⟨_, _, rfl⟩ h7.und hov (fun g hg e => ?_) h7.ba (p : Int) (fun y hy => ?_) (by simp only; rw [hpn.1] at hbol ⊢; omega) hn12) ?_
      · have := (hov.ge hg).1
        have := (h6.und.ge e).2
        omega
      · unfold bcO at hy
        obtain ⟨to, hto, hy⟩ := List.mem_filterMap.1 hy
        have hto := List.mem_range.1 hto
        split at hy
        · cases hy
        · cases hy
          rw [hpn.1] at hto
          exact ⟨by simp only; rw [hpn.2], by show (0 : Int) ≤ (to : Int); omega, by show (to : Int) < _; omega⟩
      rintro v w8 ⟨rfl, uv8, ho8, hu8, hup8, hf8⟩
      have h8 := h7.under hup8 (by simp only; rw [hdv, hav]; exact ho8) hu8
      simp (disch := omega) only [push_cast, Nat.reduceBEq, Nat.reduceEqDiff, Nat.reduceAdd, Nat.reduceMul, Nat.reduceSub, Nat.reduceLT, Int.reduceToNat, Int.reduceLT, Int.reduceLE, Int.reduceEq, Int.reduceAdd, Int.reduceSub, Int.reduceNeg, Int.reduceMul]
      refine ⟨_, _, h8, rfl, PlayR.bc hpl hdn hrun, ?_⟩
      refine (((u1.mono (fun _ _ h => h.elim)).trans u16 (fun b _ hb => ?_)).trans hu7 (fun b _ hb => FtH.ge h6 hpl hb)).trans hup8 (fun b _ hb => ?_)
      · rcases hb with hb | hb
        · exact (own_ge (h1.sn p hpl).1 hb).1
        · exact (own_ge h1.snt hb).1
      · rcases hb with rfl | hb
        · exact h.ba
        · exact (h7.und.ge hb).1
    by_cases hk2 : xk = 2
    · subst hk2
      simp (disch := omega) only [push_cast, Nat.reduceBEq, Nat.reduceEqDiff, Nat.reduceAdd, Nat.reduceMul, Nat.reduceSub, Nat.reduceLT, Int.reduceToNat, Int.reduceLT, Int.reduceLE, Int.reduceEq, Int.reduceAdd, Int.reduceSub, Int.reduceNeg, Int.reduceMul, ho1.cell, d1.cell]
      have hzi := List.getElem?_eq_getElem hil
      have hzm := hR.pk _ (List.getElem_mem hil)
      generalize W.under[idx xA W.under.length] = z at *
      have h2 := h1.quiet uW
      refine Ok.use (remove_ok h2.obj h2.und h2.ba hzi (by omega)) ?_
      rintro v w3 ⟨pv, uv3, rfl, hpv3, ho3, hu3, hup3, hf3⟩
      have h3 := h2.under (hup3.mono fun _ _ h => .inl h) ho3 hu3
      obtain ⟨t, hzt⟩ : ∃ t : Nat, z.t = (t : Int) := ⟨z.t.toNat, by omega⟩
      have htn : t < W.n := by omega
      simp (disch := omega) only [push_cast, Nat.reduceBEq, Nat.reduceEqDiff, Nat.reduceAdd, Nat.reduceMul, Nat.reduceSub, Nat.reduceLT, Int.reduceToNat, Int.reduceLT, Int.reduceLE, Int.reduceEq, Int.reduceAdd, Int.reduceSub, Int.reduceNeg, Int.reduceMul]
      refine Ok.use (receive_ok h3 (z, pv) hpv3 hzm.2.2 htn hzt (hR.sane t htn) (by simp only; rw [List.length_eraseIdx_of_lt hil]; omega)) ?_
      rintro v w4 ⟨rfl, H4, W4, h4, ha4, hW4, hup4⟩
      simp (disch := omega) only [push_cast, Nat.reduceBEq, Nat.reduceEqDiff, Nat.reduceAdd, Nat.reduceMul, Nat.reduceSub, Nat.reduceLT, Int.reduceToNat, Int.reduceLT, Int.reduceLE, Int.reduceEq, Int.reduceAdd, Int.reduceSub, Int.reduceNeg, Int.reduceMul]
      refine ⟨H4, W4, h4, ha4, ?_, ((((u1.trans uW (fun _ _ h => h)).mono (fun _ _ h => h.elim)).trans hup3 (fun b _ hb => by rw [hb]; exact h.ba)).trans hup4 (fun _ _ h => h))⟩
      simp only at hW4
      cases hdn : W.down t
      · rw [hdn, if_neg (by decide)] at hW4
        obtain ⟨S', ps, hRc, rfl⟩ := hW4
        exact PlayR.rc hzi hzt htn hdn hRc
      · rw [hdn, if_pos rfl] at hW4
        rw [hW4]
        exact PlayR.drop
    by_cases hk3 : xk = 3
    · subst hk3
      simp (disch := omega) only [push_cast, Nat.reduceBEq, Nat.reduceEqDiff, Nat.reduceAdd, Nat.reduceMul, Nat.reduceSub, Nat.reduceLT, Int.reduceToNat, Int.reduceLT, Int.reduceLE, Int.reduceEq, Int.reduceAdd, Int.reduceSub, Int.reduceNeg, Int.reduceMul, ho1.cell, d1.cell]
      have hzi := List.getElem?_eq_getElem hil
      have h2 := h1.quiet uW
      refine Ok.use (remove_ok h2.obj h2.und h2.ba hzi (by omega)) ?_
      rintro v w3 ⟨pv, uv3, rfl, hpv3, ho3, hu3, hup3, hf3⟩
      have h3 := h2.under (hup3.mono fun _ _ h => .inl h) ho3 hu3
      simp (disch := omega) only [push_cast, Nat.reduceBEq, Nat.reduceEqDiff, Nat.reduceAdd, Nat.reduceMul, Nat.reduceSub, Nat.reduceLT, Int.reduceToNat, Int.reduceLT, Int.reduceLE, Int.reduceEq, Int.reduceAdd, Int.reduceSub, Int.reduceNeg, Int.reduceMul]
      exact ⟨_, _, h3, rfl, PlayR.drop, ((u1.trans uW (fun _ _ h => h)).mono (fun _ _ h => h.elim)).trans hup3 (fun b _ hb => by rw [hb]; exact h.ba)⟩
    by_cases hk4 : xk = 4
    · subst hk4
      by_cases h500 : W.under.length < 500
      · have h500' : (W.under.length : Int) < 500 := by omega
        have hzi := List.getElem?_eq_getElem hil
        generalize hze : W.under[idx xA W.under.length] = z at *
        obtain ⟨g, cap, pv, hv, hgo, hpvz, hcell⟩ := h1.und.get hzi
        rw [huv] at hv
        injection hv with e1 e2 e3
        subst e1
        subst e3
        obtain ⟨qa, qc, rfl⟩ := hpvz.form
        have q0 := hcell 0 (by omega)
        have q1 := hcell 1 (by omega)
        have q2 := hcell 2 (by omega)
        have q3 := hcell 3 (by omega)
        have q4 := hcell 4 (by omega)
        have q5 := hcell 5 (by omega)
        simp only [pkC, List.getElem?_cons_succ, List.getElem?_cons_zero, Nat.add_zero] at q0 q1 q2 q3 q4 q5
        obtain ⟨yk, yf, yt, yo, yn, yl⟩ := z
        simp only at hpvz q0 q1 q2 q3 q4 q5
        have hgl : g < w1.heap.size := (h1.und.ge hgo).2
        have hal1 := ho1.lt
        have ho2 := ho1.alloc (.cells [.int .i64 yk, .int .i64 yf, .int .i64 yt, .int .i64 yo, .int .i64 yn, .slice qa yl.length qc].toArray 46 (0, 0))
        have d2 := d1.alloc (.cells [.int .i64 yk, .int .i64 yf, .int .i64 yt, .int .i64 yo, .int .i64 yn, .slice qa yl.length qc].toArray 46 (0, 0))
        have uA : Upd (fun _ => False) w1 (w1.alloc (.cells [.int .i64 yk, .int .i64 yf, .int .i64 yt, .int .i64 yo, .int .i64 yn, .slice qa yl.length qc].toArray 46 (0, 0))) := Upd.alloc
        have hb2 := Blk.new (w := w1) (cs := pkC (⟨yk, yf, yt, yo, yn, yl⟩, .slice qa yl.length qc)) (E := 46)
        simp (disch := omega) only [push_cast, Nat.reduceBEq, Nat.reduceEqDiff, Nat.reduceAdd, Nat.reduceMul, Nat.reduceSub, Nat.reduceLT, Int.reduceToNat, Int.reduceLT, Int.reduceLE, Int.reduceEq, Int.reduceAdd, Int.reduceSub, Int.reduceNeg, Int.reduceMul, ho1.cell, d1.cell, h500', q0, q1, q2, q3, q4, q5, bsl_pk, ho2.cell]
        have uA2 : Upd (fun _ => False) w1 (w1.alloc (.cells [.int .i64 yk, .int .i64 yf, .int .i64 yt, .int .i64 yo, .int .i64 yn, .slice qa yl.length qc].toArray 46 (0, 0))).drew.drew := uA.drew'.drew'
        have s12 := uA2.size
        have hund2 := h1.und.quiet uA2
        rw [huv] at hund2
        refine app_pk (z := (⟨yk, yf, yt, yo, yn, yl⟩, .slice qa yl.length qc)) hund2 (hpvz.keep (Kp.quiet uA2)) (Nat.le_refl _) (by omega) (by omega) hb2.drew.drew ?_
        intro v' w3 hu3 hup3 hf3
        obtain ⟨va, vc, rfl⟩ := hu3.form
        have hkg : Knd w1 g 46 := h1.und.ty hgo
        have ha1 : ¬ (Value.slice (some ⟨g, 0, none⟩) W.under.length uc).ownBlock = some H.a := fun e => by
          simp [Value.ownBlock] at e
          exact (show Knd w1 H.a tW from ⟨_, ho1⟩).ne (by rw [← e]; exact hkg) (by decide)
        have ho3 := ho2.drew.drew.upd hup3 ha1
        generalize hln : (W.under ++ [(⟨yk, yf, yt, yo, yn, yl⟩ : Pk)]).length = LN at *
        have ha3 : ∀ g', (Value.slice va LN vc).ownBlock = some g' → g' ≠ H.a := fun g' hg e => by
          obtain ⟨cs, hb⟩ := hu3.ty hg
          rw [e] at hb
          exact absurd (hb.ty ho3) (by decide)
        clear ho2 hb2
        simp (disch := omega) only [push_cast, Nat.reduceBEq, Nat.reduceEqDiff, Nat.reduceAdd, Nat.reduceMul, Nat.reduceSub, Nat.reduceLT, Int.reduceToNat, Int.reduceLT, Int.reduceLE, Int.reduceEq, Int.reduceAdd, Int.reduceSub, Int.reduceNeg, Int.reduceMul, ho1.cell, d1.cell, h500', q0, q1, q2, q3, q4, q5, bsl_pk, ho3.cell, ho3.free]
        have u4 : Upd (fun b => b = H.a) w3 (w3.setCell ⟨H.a, 3, none⟩ (.slice va LN vc)) := Upd.set rfl
        have ho4 := ho3.set 3 (.slice va LN vc)
        have hu4 := hu3.upd u4 ha3 (kp_new u4 ho3 (by decide) h.ba)
        have u14 : Upd (fun b => b = H.a ∨ H.uv.ownBlock = some b) w1 (w3.setCell ⟨H.a, 3, none⟩ (.slice va LN vc)) := ((uA2.mono (fun _ _ h => h.elim)).trans hup3 (fun b _ hb => .inr (by rw [huv]; exact hb))).trans u4 (fun b _ hb => .inl hb)
        have h4 := h1.under u14 (by rw [hdv, hav, hsv]; exact ho4) hu4
        refine ⟨_, _, h4, rfl, PlayR.dup hzi h500, (u1.mono (fun _ _ h => h.elim)).trans u14 (fun b _ hb => ?_)⟩
        rcases hb with rfl | hb
        · exact h.ba
        · exact (h1.und.ge hb).1
      · have h500' : ¬ (W.under.length : Int) < 500 := by omega
        simp (disch := omega) only [push_cast, Nat.reduceBEq, Nat.reduceEqDiff, Nat.reduceAdd, Nat.reduceMul, Nat.reduceSub, Nat.reduceLT, Int.reduceToNat, Int.reduceLT, Int.reduceLE, Int.reduceEq, Int.reduceAdd, Int.reduceSub, Int.reduceNeg, Int.reduceMul, ho1.cell, d1.cell, h500']
        exact ⟨H, W, h1.quiet (uW.trans (Upd.refl) (fun _ _ h => h)), rfl, .same W, (u1.trans (uW.trans (Upd.refl) (fun _ _ h => h)) (fun _ _ h => h)).mono (fun _ _ h => h.elim)⟩
    by_cases hk5 : xk = 5
    · subst hk5
      have hdr := h1.dwn
      rw [hdv] at hdr
      have hdfz := hdr.frozenAt p
      simp (disch := omega) only [push_cast, Nat.reduceBEq, Nat.reduceEqDiff, Nat.reduceAdd, Nat.reduceMul, Nat.reduceSub, Nat.reduceLT, Int.reduceToNat, Int.reduceLT, Int.reduceLE, Int.reduceEq, Int.reduceAdd, Int.reduceSub, Int.reduceNeg, Int.reduceMul, ho1.cell, d1.cell, hdcell, hdfz]
      have hst := (hdr.stored p (.bool true)).1
      rw [rowN_set, ← hdv] at hst
      have ud : Upd (fun b => H.downV.ownBlock = some b) w1 (w1.setCell ⟨dg, p, none⟩ (.bool true)) := Upd.set (by rw [hdv]; rfl)
      have h5 := h1.downs ud hst
      have uq : Upd (fun _ => False) (w1.setCell ⟨dg, p, none⟩ (.bool true)) (w1.setCell ⟨dg, p, none⟩ (.bool true)).drew := Upd.drew
      exact ⟨H, _, h5.quiet uq, rfl, PlayR.crash hpl, ((u1.mono (fun _ _ h => h.elim)).trans ud (fun b _ hb => (own_ge h1.dwn hb).1)).trans uq (fun _ _ h => h.elim)⟩
    by_cases hk6 : xk = 6
    · subst hk6
      cases hdn : W.down p
      · rw [hdn] at hdcell
        have h500' : ¬ (W.under.length : Int) < 500 := fun h => hn6 ⟨rfl, hdn, by omega⟩
        simp (disch := omega) only [push_cast, Nat.reduceBEq, Nat.reduceEqDiff, Nat.reduceAdd, Nat.reduceMul, Nat.reduceSub, Nat.reduceLT, Int.reduceToNat, Int.reduceLT, Int.reduceLE, Int.reduceEq, Int.reduceAdd, Int.reduceSub, Int.reduceNeg, Int.reduceMul, ho1.cell, d1.cell, hdcell, h500']
        exact ⟨H, W, h1.quiet (uW.trans (Upd.refl) (fun _ _ h => h)), rfl, .same W, (u1.trans (uW.trans (Upd.refl) (fun _ _ h => h)) (fun _ _ h => h)).mono (fun _ _ h => h.elim)⟩
      · rw [hdn] at hdcell
        simp (disch := omega) only [push_cast, Nat.reduceBEq, Nat.reduceEqDiff, Nat.reduceAdd, Nat.reduceMul, Nat.reduceSub, Nat.reduceLT, Int.reduceToNat, Int.reduceLT, Int.reduceLE, Int.reduceEq, Int.reduceAdd, Int.reduceSub, Int.reduceNeg, Int.reduceMul, ho1.cell, d1.cell, hdcell]
        exact ⟨H, W, h1.quiet (uW.trans (Upd.refl) (fun _ _ h => h)), rfl, .same W, (u1.trans (uW.trans (Upd.refl) (fun _ _ h => h)) (fun _ _ h => h)).mono (fun _ _ h => h.elim)⟩
    simp (disch := omega) only [push_cast, Nat.reduceBEq, Nat.reduceEqDiff, Nat.reduceAdd, Nat.reduceMul, Nat.reduceSub, Nat.reduceLT, Int.reduceToNat, Int.reduceLT, Int.reduceLE, Int.reduceEq, Int.reduceAdd, Int.reduceSub, Int.reduceNeg, Int.reduceMul, ho1.cell, d1.cell, hk1, hk2, hk3, hk4, hk5, hk6]
    exact ⟨H, W, h1.quiet (uW.trans (Upd.refl) (fun _ _ h => h)), rfl, .same W, (u1.trans (uW.trans (Upd.refl) (fun _ _ h => h)) (fun _ _ h => h)).mono (fun _ _ h => h.elim)⟩
end Go.Proofs.Ytpgfokhpacdhjaa.Fd
