/-
  BroadcastExact: the reading.
-/
import Derived.Test.YtpgfokhpacdhjaaBeB
import Derived.Test.YtpgfokhpacdhjaaBcG
namespace Go.Proofs.Ytpgfokhpacdhjaa.Fd
set_option linter.unusedSimpArgs false
set_option linter.unusedVariables false
open Go Go.ChangeMaps
set_option maxRecDepth 100000

theorem EInv.start {n k : Nat} (h : k < n) : EInv 0 ⟨n, k, 0, [], fun _ => 0, []⟩ ⟨n, k, 0, [], fun _ => 0, []⟩ :=
  ⟨⟨rfl, rfl, rfl, rfl, rfl, fun _ => rfl, List.Perm.refl _, List.Pairwise.nil⟩, fun _ => ⟨Int.le_refl _, Int.le_refl _⟩, Nat.le_refl _, Nat.le_refl _, Nat.le_refl _, fun k x hk => (by cases hk), fun k x hk => (by cases hk), fun k x hk => (by cases hk), fun d hd => (by cases hd), h, fun n h1 h2 => (by have h2 : n ≤ 0 := h2; omega)⟩
/-- A step of the row, in a world that has only changed blocks not older than base. -/
theorem SlSt.get {w w' : World} {v : Value} {xs : List St} (h : SlSt w v xs) (u : Upd (fun b => w.heap.size ≤ b) w w') {j : Nat} {x : St} (hj : xs[j]? = some x) :
    ∃ b o c pv qv, v = .slice (some ⟨b, o, none⟩) xs.length c ∧ PB w.heap.size w' pv x.l ∧ PB w.heap.size w' qv x.z.l ∧ ∀ i, i < 8 → w'.cell? ⟨b, o + j * 8 + i, none⟩ = [.int .i64 x.k, pv, .int .i64 x.z.k, .int .i64 x.z.f, .int .i64 x.z.t, .int .i64 x.z.o, .int .i64 x.z.n, qv][i]? := by
  obtain ⟨a, c, hv, hl⟩ := h
  obtain ⟨b, o, rfl, hb, hc⟩ := hl (fun e => by rw [e] at hj; simp at hj)
  obtain ⟨pv, qv, h3, h4, h5⟩ := hc j x hj
  have e : ∀ o, w'.cell? ⟨b, o, none⟩ = w.cell? ⟨b, o, none⟩ := fun o => World.cell?_of_block (u.block b hb (fun h => by omega))
  have kp : Kp w.heap.size w w' := ⟨u.size, fun b' hs => u.block b' hs.1 (fun h => by have := hs.1; omega)⟩
  exact ⟨b, o, c, pv, qv, hv, h3.keep kp, h4.keep kp, fun i hi => by rw [e]; exact h5 i hi⟩
def stC (x : St) (pv qv : Value) : List Value := [.int .i64 x.k, pv, .int .i64 x.z.k, .int .i64 x.z.f, .int .i64 x.z.t, .int .i64 x.z.o, .int .i64 x.z.n, qv]
theorem zer_st : zer Try.prog 54 = some (.agg #[.int .i64 0, .slice none 0 0, .int .i64 0, .int .i64 0, .int .i64 0, .int .i64 0, .int .i64 0, .slice none 0 0]) := by kernel_rfl
theorem st_st {w : World} {b : Nat} {cs : List Value} {E : TypeId} (h : Blk w b cs E) (hl : cs.length = 8) {x : St} {a1 a2 : Option Addr} {n1 n2 c1 c2 : Nat} :
    stS Try.prog 54 (.pointer (some ⟨b, 0, none⟩)) (.agg (stC x (.slice a1 n1 c1) (.slice a2 n2 c2)).toArray) w = some (undef, w.setRow b (stC x (.slice a1 n1 c1) (.slice a2 n2 c2)).toArray) :=
  st_blk (cs' := stC x (.slice a1 n1 c1) (.slice a2 n2 c2)) h (by kernel_rfl) (by rw [hl]; rfl) (by
    intro u hu
    simp [stC] at hu
    rcases hu with rfl | rfl | rfl | rfl | rfl | rfl | rfl | rfl <;> rfl)
theorem ld_step {w : World} {b o : Nat} {x : St} {a1 a2 : Option Addr} {n1 n2 c1 c2 : Nat} (h : ∀ i, i < 8 → w.cell? ⟨b, o + i, none⟩ = (stC x (.slice a1 n1 c1) (.slice a2 n2 c2))[i]?) :
    ldS Try.prog 54 (.pointer (some ⟨b, o, none⟩)) w = some (.agg (stC x (.slice a1 n1 c1) (.slice a2 n2 c2)).toArray, w) := by
  refine ld_agg (P := Try.prog) (by kernel_rfl) (by kernel_rfl) fun j hj => ?_
  rw [← h j hj]
  congr 1
  unfold Addr.add
  by_cases hj0 : j = 0
  · subst hj0; rfl
  · simp [hj0]
theorem PA.notK {base : Nat} {w : World} {p : Nat} {S : PS} {mb db : Nat} {lv : Value} {m ds : List (NP × Value)} (h : PA base w p S mb db lv m ds) {b E : Nat} (hk : Knd w b E) (h1 : E ≠ 79) (h2 : E ≠ 3) (h3 : E ≠ 69) : ¬ Ft p mb db lv b := fun hf => by
  rcases h.kind hf hk with e | e | e
  · exact h1 e
  · exact h2 e
  · exact h3 e
theorem PA.notD {base : Nat} {w : World} {p : Nat} {S : PS} {mb db : Nat} {lv : Value} {m ds : List (NP × Value)} (h : PA base w p S mb db lv m ds) {b : Nat} (hk : Knd w b 69) (hd : lv.ownBlock ≠ some b) : ¬ Ft p mb db lv b := fun hf => by
  rcases hf with rfl | rfl | rfl | hf
  · exact hk.ne ⟨_, h.obj⟩ (by decide)
  · obtain ⟨cs, hk⟩ := hk
    have h8 := h.map; unfold Blk at hk; unfold MapP at h8; rw [hk] at h8; cases h8
  · exact hk.ne ⟨_, h.del⟩ (by decide)
  · exact hd hf
theorem PA.ge {base : Nat} {w : World} {p : Nat} {S : PS} {mb db : Nat} {lv : Value} {m ds : List (NP × Value)} (h : PA base w p S mb db lv m ds) {b : Nat} (hf : Ft p mb db lv b) : base ≤ b := by
  rcases hf with rfl | rfl | rfl | hf
  · exact h.b1
  · exact h.b2
  · exact h.b3
  · exact (own_ge h.own hf).1
theorem RA.ge3 {base : Nat} {w : World} {q : Nat} {R : PS} {nv ov : Value} {zs : List (Rn × Value)} {ds : List (NP × Value)} (h : RA base w q R nv ov zs ds) {b : Nat} (hb : FtR3 q nv ov b) : base ≤ b := by
  rcases hb with rfl | hb | hb
  · exact h.bq
  · exact (own_ge h.nts hb).1
  · exact (own_ge h.own hb).1
/-- The two processes in one heap do not share what they write. -/
theorem apart {base : Nat} {w : World} {p : Nat} {S : PS} {mb db : Nat} {lv : Value} {m ds : List (NP × Value)} (h : PA base w p S mb db lv m ds) {q : Nat} {R : PS} {nv ov : Value} {zs : List (Rn × Value)} {ds2 : List (NP × Value)} (k : RA base w q R nv ov zs ds2) (hd : ∀ g, ov.ownBlock = some g → lv.ownBlock ≠ some g) {b : Nat} (hb : FtR3 q nv ov b) : ¬ Ft p mb db lv b := by
  rcases hb with rfl | hb | hb
  · exact h.notK ⟨_, k.obj⟩ (by decide) (by decide) (by decide)
  · exact h.notK (own_ty k.nts hb) (by decide) (by decide) (by decide)
  · exact h.notD (own_ty k.own hb) (hd b hb)
theorem RA.kind3 {base : Nat} {w : World} {q : Nat} {R : PS} {nv ov : Value} {zs : List (Rn × Value)} {ds : List (NP × Value)} (h : RA base w q R nv ov zs ds) {b E : Nat} (hb : FtR3 q nv ov b) (hk : Knd w b E) (h1 : E ≠ 64) (h2 : E ≠ 87) (h3 : E ≠ 69) : False := by
  rcases hb with rfl | hb | hb
  · exact hk.ne ⟨_, h.obj⟩ h1
  · exact hk.ne (own_ty h.nts hb) h2
  · exact hk.ne (own_ty h.own hb) h3
theorem OwnK.low {base B B' : Nat} {w : World} {v : Value} {ps : List Pk} (h : OwnK base B w v ps) (hB : B' ≤ B) : OwnK base B' w v ps := by
  obtain ⟨zs, h1, h2, h3⟩ := h
  exact ⟨zs, h1, own_ofB (own_to0 h2) fun g hg => by have := (own_ge h2 hg).1; omega, h3⟩
theorem EInv.dnS {i : Nat} {S R : PS} (h : EInv i S R) : ∀ o, 0 ≤ S.done o ∧ S.done o ≤ S.list.length := by rw [h.eq.done, h.eq.list]; exact h.dn
theorem EInv.lenS {i : Nat} {S R : PS} (h : EInv i S R) : S.list.length + S.notes.length ≤ 2 * i := by
  have := h.ls
  have := h.nt
  have := h.eq.len
  rw [h.eq.list]
  omega
theorem EInv.lenR {i : Nat} {S R : PS} (h : EInv i S R) : R.list.length + R.notes.length ≤ 2 * i := by
  have := h.ls
  have := h.nt
  omega
theorem EInv.plS {i : Nat} {S R : PS} (h : EInv i S R) : ∀ k x, findS k S.notes = some x → x.1.length ≤ 140737488355328 := fun k x hx => h.pl k x (by rw [← h.eq.fnd]; exact hx)
theorem EInv.mdS {i : Nat} {S R : PS} (h : EInv i S R) : S.made ≤ i := by rw [h.eq.made]; exact h.md
theorem RrR.self {R R' : PS} {z : Pk} {ps : List Pk} (h : RrR R z R' ps) : R'.self = R.self := by
  unfold RrR at h
  split at h
  · rw [h.1]
  · rename_i S1 o hrc
    rw [h.1.keepE.2.1]
    unfold rrS at hrc
    split at hrc
    · split at hrc
      · split at hrc
        · cases hrc
        · injection hrc with hrc; injection hrc with e1 e2; rw [← e1]
      · split at hrc
        · injection hrc with hrc; injection hrc with e1 e2; rw [← e1]
        · split at hrc
          · injection hrc with hrc; injection hrc with e1 e2; rw [← e1]
          · cases hrc
    · cases hrc
theorem RcR.len {S S' : PS} {z : Pk} {ps : List Pk} (h : RcR S z S' ps) : ps.length ≤ S.n + 1 := by
  unfold RcR at h
  split at h
  · rw [h.2]; simp
  · rename_i S1 o hrc
    rw [h.2]
    unfold rcS at hrc
    split at hrc
    · split at hrc
      · split at hrc
        · cases hrc
        · injection hrc with hrc; injection hrc with e1 e2; rw [← e2]; have := @rcO_length S z S.n; omega
      · split at hrc
        · injection hrc with hrc; injection hrc with e1 e2; rw [← e2]; simp
        · split at hrc
          · injection hrc with hrc; injection hrc with e1 e2; rw [← e2]; simp
          · cases hrc
    · cases hrc
theorem EInv.stb {i : Nat} {S R : PS} (h : EInv i S R) (k : NP) (hn : R.n ≤ 12) : (match findS k S.notes with | some x => decide (ones x.2 = S.n) | none => false) = stB R k := by
  unfold stB
  rw [h.eq.fnd]
  cases hf : findS k R.notes with
  | none => rfl
  | some x => simp only; rw [h.eq.n, ones_cnt (n := R.n) (by omega) (h.bt k x hf)]
set_option maxHeartbeats 8000000 in
theorem broadcastExact_calls {w : World} (n me : Int) {v : Value} {xs : List St} (hv : SlSt w v xs) (hx : ∀ x, x ∈ xs → x.l.length ≤ 140737488351232 ∧ x.z.l.length ≤ 140737488351232) :
    Calls Try.prog 6 #[.int .i64 n, .int .i64 me, v] w fun e w' => ∃ u, e = .returned u ∧ u = .bool true ∧ Upd (fun _ => False) w w' := by
  obtain ⟨ea, ec, rfl, _⟩ := id hv
  refine calls_of_wr (args := [.int .i64 n, .int .i64 me, .slice ea xs.length ec]) rs6 Try.func6 rfl ok6 rfl (R := fun u w' => u = .bool true ∧ Upd (fun _ => False) w w') ?_
  refine wr_seq (wr_of_w mixed ?_)
  simp (disch := omega) only [push_cast, Nat.reduceBEq, Nat.reduceEqDiff, Nat.reduceAdd, Nat.reduceMul, Nat.reduceSub, Nat.reduceLT, Int.reduceToNat, Int.reduceLT, Int.reduceLE, Int.reduceEq, Int.reduceAdd, Int.reduceSub, Int.reduceNeg, Int.reduceMul, KSr_nor]
  refine wr_seq (wr_of_w mixed ?_)
  simp (disch := omega) only [push_cast, Nat.reduceBEq, Nat.reduceEqDiff, Nat.reduceAdd, Nat.reduceMul, Nat.reduceSub, Nat.reduceLT, Int.reduceToNat, Int.reduceLT, Int.reduceLE, Int.reduceEq, Int.reduceAdd, Int.reduceSub, Int.reduceNeg, Int.reduceMul, KSr_nor]
  refine Ok.use awake_ok ?_
  rintro v0 w1 ⟨rfl, hu1⟩
  simp (disch := omega) only [push_cast, Nat.reduceBEq, Nat.reduceEqDiff, Nat.reduceAdd, Nat.reduceMul, Nat.reduceSub, Nat.reduceLT, Int.reduceToNat, Int.reduceLT, Int.reduceLE, Int.reduceEq, Int.reduceAdd, Int.reduceSub, Int.reduceNeg, Int.reduceMul, KSr_nor]
  refine wr_seq (wr_of_w mixed ?_)
  simp (disch := omega) only [push_cast, Nat.reduceBEq, Nat.reduceEqDiff, Nat.reduceAdd, Nat.reduceMul, Nat.reduceSub, Nat.reduceLT, Int.reduceToNat, Int.reduceLT, Int.reduceLE, Int.reduceEq, Int.reduceAdd, Int.reduceSub, Int.reduceNeg, Int.reduceMul, KSr_nor]
  refine Ok.use (New_ok (base := w.heap.size) hu1.size n me) ?_
  rintro v2 w2 ⟨hu2, hv2⟩
  have u02 := hu1.trans hu2 (fun _ _ h => h)
  by_cases hok : 1 ≤ n ∧ n ≤ 12 ∧ 0 ≤ me ∧ me < n
  rotate_left
  · rw [if_neg hok] at hv2
    subst hv2
    simp (disch := omega) only [push_cast, Nat.reduceBEq, Nat.reduceEqDiff, Nat.reduceAdd, Nat.reduceMul, Nat.reduceSub, Nat.reduceLT, Int.reduceToNat, Int.reduceLT, Int.reduceLE, Int.reduceEq, Int.reduceAdd, Int.reduceSub, Int.reduceNeg, Int.reduceMul, KSr_nor]
    refine wr_seq (wr_of_w mixed ?_)
    simp (disch := omega) only [push_cast, Nat.reduceBEq, Nat.reduceEqDiff, Nat.reduceAdd, Nat.reduceMul, Nat.reduceSub, Nat.reduceLT, Int.reduceToNat, Int.reduceLT, Int.reduceLE, Int.reduceEq, Int.reduceAdd, Int.reduceSub, Int.reduceNeg, Int.reduceMul, KSr_nor]
    refine Ok.use (rNew_ok (base := w.heap.size) u02.size n me) ?_
    rintro v3 w3 ⟨hu3, hv3⟩
    rw [if_neg hok] at hv3
    subst hv3
    simp (disch := omega) only [push_cast, Nat.reduceBEq, Nat.reduceEqDiff, Nat.reduceAdd, Nat.reduceMul, Nat.reduceSub, Nat.reduceLT, Int.reduceToNat, Int.reduceLT, Int.reduceLE, Int.reduceEq, Int.reduceAdd, Int.reduceSub, Int.reduceNeg, Int.reduceMul, KSr_nor]
    refine wr_seq (wr_of_w mixed ?_)
    simp (disch := omega) only [push_cast, Nat.reduceBEq, Nat.reduceEqDiff, Nat.reduceAdd, Nat.reduceMul, Nat.reduceSub, Nat.reduceLT, Int.reduceToNat, Int.reduceLT, Int.reduceLE, Int.reduceEq, Int.reduceAdd, Int.reduceSub, Int.reduceNeg, Int.reduceMul, KSr_nor, KSr_ret]
    exact u02.trans hu3 (fun _ _ h => h)
  rw [if_pos hok] at hv2
  obtain ⟨p, mb, db, rfl, hp, p1, p2, p3⟩ := hv2
  simp (disch := omega) only [push_cast, Nat.reduceBEq, Nat.reduceEqDiff, Nat.reduceAdd, Nat.reduceMul, Nat.reduceSub, Nat.reduceLT, Int.reduceToNat, Int.reduceLT, Int.reduceLE, Int.reduceEq, Int.reduceAdd, Int.reduceSub, Int.reduceNeg, Int.reduceMul, KSr_nor]
  refine wr_seq (wr_of_w mixed ?_)
  simp (disch := omega) only [push_cast, Nat.reduceBEq, Nat.reduceEqDiff, Nat.reduceAdd, Nat.reduceMul, Nat.reduceSub, Nat.reduceLT, Int.reduceToNat, Int.reduceLT, Int.reduceLE, Int.reduceEq, Int.reduceAdd, Int.reduceSub, Int.reduceNeg, Int.reduceMul, KSr_nor]
  refine Ok.use (rNew_ok (base := w.heap.size) u02.size n me) ?_
  rintro v3 w3 ⟨hu3, hv3⟩
  rw [if_pos hok] at hv3
  obtain ⟨q, rfl, hq, q1⟩ := hv3
  have hp := hp.quiet hu3
  have u03 := (u02.trans hu3 (fun _ _ h => h)).mono (G := fun b => w.heap.size ≤ b) (fun _ _ h => h.elim)
  simp (disch := omega) only [push_cast, Nat.reduceBEq, Nat.reduceEqDiff, Nat.reduceAdd, Nat.reduceMul, Nat.reduceSub, Nat.reduceLT, Int.reduceToNat, Int.reduceLT, Int.reduceLE, Int.reduceEq, Int.reduceAdd, Int.reduceSub, Int.reduceNeg, Int.reduceMul, KSr_nor]
  refine wr_seq (wr_of_w mixed ?_)
  simp (disch := omega) only [push_cast, Nat.reduceBEq, Nat.reduceEqDiff, Nat.reduceAdd, Nat.reduceMul, Nat.reduceSub, Nat.reduceLT, Int.reduceToNat, Int.reduceLT, Int.reduceLE, Int.reduceEq, Int.reduceAdd, Int.reduceSub, Int.reduceNeg, Int.reduceMul, KSr_nor]
  refine wr_seq (wr_of_w mixed ?_)
  simp (disch := omega) only [push_cast, Nat.reduceBEq, Nat.reduceEqDiff, Nat.reduceAdd, Nat.reduceMul, Nat.reduceSub, Nat.reduceLT, Int.reduceToNat, Int.reduceLT, Int.reduceLE, Int.reduceEq, Int.reduceAdd, Int.reduceSub, Int.reduceNeg, Int.reduceMul, KSr_nor]
  refine wr_seq (wr_seq (wr_of_w mixed ?_))
  simp (disch := omega) only [push_cast, Nat.reduceBEq, Nat.reduceEqDiff, Nat.reduceAdd, Nat.reduceMul, Nat.reduceSub, Nat.reduceLT, Int.reduceToNat, Int.reduceLT, Int.reduceLE, Int.reduceEq, Int.reduceAdd, Int.reduceSub, Int.reduceNeg, Int.reduceMul, KSr_nor]
  obtain ⟨nn, rfl⟩ : ∃ nn : Nat, n = (nn : Int) := ⟨n.toNat, by omega⟩
  obtain ⟨mm, rfl⟩ : ∃ mm : Nat, me = (mm : Int) := ⟨me.toNat, by omega⟩
  simp only [Int.toNat_natCast] at hp hq
  refine wr_block (wr_loop (fun k st w' => ∃ (i : Nat) (S R : PS) (lv : Value) (m ds : List (NP × Value)) (nv ov : Value) (zs : List (Rn × Value)) (ds2 : List (NP × Value)), k + i = min xs.length 60 ∧ st = [.int .i64 (i : Int)] ∧
    PA w.heap.size w' p S mb db lv m ds ∧ RA w.heap.size w' q R nv ov zs ds2 ∧ EInv i S R ∧ (∀ g, ov.ownBlock = some g → lv.ownBlock ≠ some g) ∧ Upd (fun b => w.heap.size ≤ b) w w' ∧ R.self = mm) ?_ (min xs.length 60) ⟨0, _, _, _, _, _, _, _, _, _, rfl, rfl, hp, hq, EInv.start (by omega), fun g hg => (by cases hg), u03, rfl⟩)
  clear hp hq u03 hu3 u02 hu2 hu1
  rintro k st w4 ⟨i, S, R, lv, m, ds, nv, ov, zs, ds2, hk, rfl, hp, hq, hI, hdis, u04, hme⟩
  by_cases hk0 : k = 0
  · refine wr_seq (wr_of_w mixed ?_)
    by_cases hil : i < xs.length
    · have hil' : (i : Int) < xs.length := by omega
      have h60 : ¬ (i : Int) < 60 := by omega
      simp (disch := omega) only [push_cast, Nat.reduceBEq, Nat.reduceEqDiff, Nat.reduceAdd, Nat.reduceMul, Nat.reduceSub, Nat.reduceLT, Int.reduceToNat, Int.reduceLT, Int.reduceLE, Int.reduceEq, Int.reduceAdd, Int.reduceSub, Int.reduceNeg, Int.reduceMul, hil', h60, KSr_exit, KJr_exit, KSr_nor]
      refine wr_of_w mixed ?_
      simp (disch := omega) only [push_cast, Nat.reduceBEq, Nat.reduceEqDiff, Nat.reduceAdd, Nat.reduceMul, Nat.reduceSub, Nat.reduceLT, Int.reduceToNat, Int.reduceLT, Int.reduceLE, Int.reduceEq, Int.reduceAdd, Int.reduceSub, Int.reduceNeg, Int.reduceMul]
      exact u04.mono fun b hb h => by omega
    · have hil' : ¬ (i : Int) < xs.length := by omega
      simp (disch := omega) only [push_cast, Nat.reduceBEq, Nat.reduceEqDiff, Nat.reduceAdd, Nat.reduceMul, Nat.reduceSub, Nat.reduceLT, Int.reduceToNat, Int.reduceLT, Int.reduceLE, Int.reduceEq, Int.reduceAdd, Int.reduceSub, Int.reduceNeg, Int.reduceMul, hil', KSr_exit, KJr_exit, KSr_nor]
      refine wr_of_w mixed ?_
      simp (disch := omega) only [push_cast, Nat.reduceBEq, Nat.reduceEqDiff, Nat.reduceAdd, Nat.reduceMul, Nat.reduceSub, Nat.reduceLT, Int.reduceToNat, Int.reduceLT, Int.reduceLE, Int.reduceEq, Int.reduceAdd, Int.reduceSub, Int.reduceNeg, Int.reduceMul]
      exact u04.mono fun b hb h => by omega
  refine wr_seq (wr_of_w mixed ?_)
  have hil : i < xs.length := by omega
  have hil' : (i : Int) < xs.length := by omega
  have h60 : (i : Int) < 60 := by omega
  simp (disch := omega) only [push_cast, Nat.reduceBEq, Nat.reduceEqDiff, Nat.reduceAdd, Nat.reduceMul, Nat.reduceSub, Nat.reduceLT, Int.reduceToNat, Int.reduceLT, Int.reduceLE, Int.reduceEq, Int.reduceAdd, Int.reduceSub, Int.reduceNeg, Int.reduceMul, hil', h60, KSr_nor]
  have hxi := List.getElem?_eq_getElem hil
  obtain ⟨hxl, hxz⟩ := hx _ (List.getElem_mem hil)
  generalize xs[i] = x at *
  obtain ⟨eb, eo, ec', pv, qv, he, hpv, hqv, hcell⟩ := hv.get u04 hxi
  injection he with e1 _ e3
  subst e1
  subst e3
  obtain ⟨pa, pc, rfl⟩ := hpv.form
  obtain ⟨qa, qc, rfl⟩ := hqv.form
  have hld := ld_step (x := x) hcell
  obtain ⟨xk, xl, ⟨zk, zf, zt, zo, zn, zl⟩⟩ := x
  simp only at hpv hqv hxl hxz
  refine wr_seq (wr_block (wr_seq (wr_of_w mixed ?_)))
  have b5 := Blk.new (w := w4) (cs := [.int .i64 0, .slice none 0 0, .int .i64 0, .int .i64 0, .int .i64 0, .int .i64 0, .int .i64 0, .slice none 0 0]) (E := 54)
  have u5 : Upd (fun _ => False) w4 (w4.alloc (.cells [.int .i64 0, .slice none 0 0, .int .i64 0, .int .i64 0, .int .i64 0, .int .i64 0, .int .i64 0, .slice none 0 0].toArray 54 (0, 0))) := Upd.alloc
  simp (config := { maxSteps := 3000000 }) (disch := omega) only [push_cast, Nat.reduceBEq, Nat.reduceEqDiff, Nat.reduceAdd, Nat.reduceMul, Nat.reduceSub, Nat.reduceLT, Int.reduceToNat, Int.reduceLT, Int.reduceLE, Int.reduceEq, Int.reduceAdd, Int.reduceSub, Int.reduceNeg, Int.reduceMul, hld, zer_st, st_st b5 rfl, KSr_nor]
  have b6 := b5.setRow (cs' := stC ⟨xk, xl, ⟨zk, zf, zt, zo, zn, zl⟩⟩ (.slice pa xl.length pc) (.slice qa zl.length qc))
  have u6 := u5.trans (Upd.setRow (F := fun b => b = w4.heap.size) (w := w4.alloc (.cells [.int .i64 0, .slice none 0 0, .int .i64 0, .int .i64 0, .int .i64 0, .int .i64 0, .int .i64 0, .slice none 0 0].toArray 54 (0, 0))) (g := w4.heap.size) (cs := (stC ⟨xk, xl, ⟨zk, zf, zt, zo, zn, zl⟩⟩ (.slice pa xl.length pc) (.slice qa zl.length qc)).toArray) rfl) (fun b h1 h2 => by omega)
  generalize (w4.alloc (.cells [.int .i64 0, .slice none 0 0, .int .i64 0, .int .i64 0, .int .i64 0, .int .i64 0, .int .i64 0, .slice none 0 0].toArray 54 (0, 0))).setRow w4.heap.size (stC ⟨xk, xl, ⟨zk, zf, zt, zo, zn, zl⟩⟩ (.slice pa xl.length pc) (.slice qa zl.length qc)).toArray = w6 at *
  clear b5 u5 hld hcell
  have hs46 : w4.heap.size < w6.heap.size := b6.lt
  have hw4 : w.heap.size ≤ w4.heap.size := u04.size
  refine wr_seq (wr_of_w mixed ?_)
  simp (disch := omega) only [push_cast, Nat.reduceBEq, Nat.reduceEqDiff, Nat.reduceAdd, Nat.reduceMul, Nat.reduceSub, Nat.reduceLT, Int.reduceToNat, Int.reduceLT, Int.reduceLE, Int.reduceEq, Int.reduceAdd, Int.reduceSub, Int.reduceNeg, Int.reduceMul, bsl_pk0, KSr_nor]
  refine wr_seq (wr_of_w mixed ?_)
  simp (disch := omega) only [push_cast, Nat.reduceBEq, Nat.reduceEqDiff, Nat.reduceAdd, Nat.reduceMul, Nat.reduceSub, Nat.reduceLT, Int.reduceToNat, Int.reduceLT, Int.reduceLE, Int.reduceEq, Int.reduceAdd, Int.reduceSub, Int.reduceNeg, Int.reduceMul, bsl_pk0, KSr_nor]
  have u7 : Upd (fun _ => False) w6 (w6.alloc (.cells #[] 46 (0, 0))) := Upd.alloc
  have s7 : (w6.alloc (.cells #[] 46 (0, 0))).heap.size = w6.heap.size + 1 := size_alloc
  have oa7 : OwnK w.heap.size w.heap.size (w6.alloc (.cells #[] 46 (0, 0))) (.slice (some ⟨w6.heap.size, 0, none⟩) 0 0) [] := OwnK.empty (by omega)
  generalize w6.alloc (.cells #[] 46 (0, 0)) = w7 at *
  have u8 : Upd (fun _ => False) w7 (w7.alloc (.cells #[] 46 (0, 0))) := Upd.alloc
  have s8 : (w7.alloc (.cells #[] 46 (0, 0))).heap.size = w7.heap.size + 1 := size_alloc
  have ob8 : OwnK w.heap.size w.heap.size (w7.alloc (.cells #[] 46 (0, 0))) (.slice (some ⟨w7.heap.size, 0, none⟩) 0 0) [] := OwnK.empty (by omega)
  generalize w7.alloc (.cells #[] 46 (0, 0)) = w8 at *
  have oa8 := oa7.quiet u8
  have u48 := (u6.trans u7 (fun _ _ h => h)).trans u8 (fun _ _ h => h)
  have b8 := (b6.upd u7 (fun h => h)).upd u8 (fun h => h)
  have hp8 := hp.quiet u48
  have hq8 := hq.quiet u48
  have hpv8 := hpv.keep (Kp.quiet u48)
  have hqv8 := hqv.keep (Kp.quiet u48)
  clear hp hq hpv hqv b6 u6 u7 u8 oa7
  refine wr_seq ?_
  generalize hKc : KSr _ _ _ _ = Kc
  refine wr_seq (wr_of_w mixed ?_)
  simp only [stC] at b8
  rw [s7] at ob8
  simp (disch := omega) only [push_cast, Nat.reduceBEq, Nat.reduceEqDiff, Nat.reduceAdd, Nat.reduceMul, Nat.reduceSub, Nat.reduceLT, Int.reduceToNat, Int.reduceLT, Int.reduceLE, Int.reduceEq, Int.reduceAdd, Int.reduceSub, Int.reduceNeg, Int.reduceMul, b8.cell, KSr_nor]
  have ks8 : w4.heap.size ≤ w8.heap.size := u48.size
  refine (fun (hend : ∀ (ρ : Env) (S' R' : PS) (lv' : Value) (m' ds' : List (NP × Value)) (nv' ov' : Value) (zs' : List (Rn × Value)) (ds2' : List (NP × Value)) (av bv : Value) (ps : List Pk) (w9 : World), ρ 1 = .int .i64 (mm : Int) → ρ 2 = .slice (some ⟨eb, eo, none⟩) xs.length ec →
      ρ 7 = .pointer (some ⟨p, 0, none⟩) → ρ 9 = .pointer (some ⟨q, 0, none⟩) → ρ 10 = .int .i64 (i : Int) → ρ 11 = .pointer (some ⟨w4.heap.size, 0, none⟩) → ρ 12 = av → ρ 13 = bv →
      PA w.heap.size w9 p S' mb db lv' m' ds' → RA w.heap.size w9 q R' nv' ov' zs' ds2' → EInv (i + 1) S' R' → (∀ g, ov'.ownBlock = some g → lv'.ownBlock ≠ some g) → R'.self = mm → Upd (fun b => w.heap.size ≤ b) w w9 → ps.length < 1000000 →
      OwnK w.heap.size w.heap.size w9 av ps → OwnK w.heap.size w.heap.size w9 bv ps → (w9.cell? ⟨w4.heap.size, 5, none⟩ = some (.int .i64 zo) ∧ w9.cell? ⟨w4.heap.size, 6, none⟩ = some (.int .i64 zn) ∧ w4.heap.size < w9.heap.size) → Kc (.normal, ρ, w9)) => ?_) ?_
  rotate_left
  · intro ρ S' R' lv' m' ds' nv' ov' zs' ds2' av bv ps w9 e1 e2 e7 e9 e10 e11 e12 e13 hp9 hq9 hI' hdis' hme' u09 hps ha9 hb9 ⟨x5, x6, hXl⟩
    subst hKc
    rw [KSr_nor]
    obtain ⟨aa, ac, rfl⟩ := ha9.form
    obtain ⟨ba, bc, rfl⟩ := hb9.form
    obtain ⟨na, nc, rfl⟩ := own_slice hq9.nts
    obtain ⟨oa, oc, rfl⟩ := own_slice hq9.own
    have fct : ∀ {w' : World}, Upd (fun _ => False) w9 w' → w'.cell? ⟨q, 3, none⟩ = some (.slice na zs'.length nc) ∧ w'.cell? ⟨q, 16, none⟩ = some (.slice oa ds2'.length oc) ∧ w'.cell? ⟨w4.heap.size, 5, none⟩ = some (.int .i64 zo) ∧ w'.cell? ⟨w4.heap.size, 6, none⟩ = some (.int .i64 zn) := fun u => by
      have hob : Blk _ q (obC R' (.slice na zs'.length nc) (.slice oa ds2'.length oc)) 64 := (hq9.quiet u).obj
      refine ⟨hob.cell 3, by rw [hob.cell]; exact obC_out, ?_, ?_⟩
      · rw [World.cell?_of_block (a := ⟨w4.heap.size, 5, none⟩) (u.block _ hXl (fun h => h))]; exact x5
      · rw [World.cell?_of_block (a := ⟨w4.heap.size, 6, none⟩) (u.block _ hXl (fun h => h))]; exact x6
    obtain ⟨c3, c16, _, _⟩ := fct Upd.refl
    have hlR := hI'.lenR
    have hll : S'.list.length ≤ 1000000 := by have := hI'.lenS; omega
    have hzl : zs'.length = S'.notes.length := by rw [hI'.eq.len, hq9.nz, List.length_map]
    have hdl : ds2'.length = S'.list.length := by rw [hI'.eq.list]; exact hq9.lst.1
    refine wr_seq (wr_of_w mixed ?_)
    simp (config := { maxSteps := 3000000 }) (disch := omega) only [push_cast, Nat.reduceBEq, Nat.reduceEqDiff, Nat.reduceAdd, Nat.reduceMul, Nat.reduceSub, Nat.reduceLT, Int.reduceToNat, Int.reduceLT, Int.reduceLE, Int.reduceEq, Int.reduceAdd, Int.reduceSub, Int.reduceNeg, Int.reduceMul, ↓nthK_zero, ↓nthK_succ, e1, e2, e7, e9, e10, e11, e12, e13, c3, c16]
    have uD : Upd (fun _ => False) w9 w9.drew := Upd.drew
    refine Ok.use (same_ok (ha9.quiet uD) (hb9.quiet uD) hps) ?_
    rintro vA wA ⟨rfl, hA⟩
    have u9A := uD.trans hA (fun _ _ h => h)
    obtain ⟨a3, a16, _, _⟩ := fct u9A
    simp (config := { maxSteps := 3000000 }) (disch := omega) only [push_cast, Nat.reduceBEq, Nat.reduceEqDiff, Nat.reduceAdd, Nat.reduceMul, Nat.reduceSub, Nat.reduceLT, Int.reduceToNat, Int.reduceLT, Int.reduceLE, Int.reduceEq, Int.reduceAdd, Int.reduceSub, Int.reduceNeg, Int.reduceMul, ↓nthK_zero, ↓nthK_succ, e1, e2, e7, e9, e10, e11, e12, e13, c3, c16, a3, a16]
    refine Ok.use (Delivered_ok (hp9.quiet u9A) hll (fun x hx => hI'.lp x (by rw [← hI'.eq.list]; exact hx))) ?_
    rintro vB wB ⟨hdB, hB⟩
    have u9B := u9A.trans hB (fun _ _ h => h)
    obtain ⟨b3, b16, _, _⟩ := fct u9B
    obtain ⟨va, vc, rfl⟩ := hdB.form
    simp (config := { maxSteps := 3000000 }) (disch := omega) only [push_cast, Nat.reduceBEq, Nat.reduceEqDiff, Nat.reduceAdd, Nat.reduceMul, Nat.reduceSub, Nat.reduceLT, Int.reduceToNat, Int.reduceLT, Int.reduceLE, Int.reduceEq, Int.reduceAdd, Int.reduceSub, Int.reduceNeg, Int.reduceMul, ↓nthK_zero, ↓nthK_succ, e1, e2, e7, e9, e10, e11, e12, e13, c3, c16, a3, a16, b3, b16]
    have hqB := hq9.quiet u9B
    have hdQ : OwnD w.heap.size w.heap.size wB (.slice oa ds2'.length oc) S'.list := ⟨ds2', hqB.own, by rw [hI'.eq.list]; exact hqB.lst⟩
    refine Ok.use (sameD_ok hdB hdQ (by have := hI'.lenS; omega)) ?_
    rintro vC wC ⟨rfl, hC⟩
    have u9C := u9B.trans hC (fun _ _ h => h)
    obtain ⟨d3, d16, _, _⟩ := fct u9C
    simp (config := { maxSteps := 3000000 }) (disch := omega) only [push_cast, Nat.reduceBEq, Nat.reduceEqDiff, Nat.reduceAdd, Nat.reduceMul, Nat.reduceSub, Nat.reduceLT, Int.reduceToNat, Int.reduceLT, Int.reduceLE, Int.reduceEq, Int.reduceAdd, Int.reduceSub, Int.reduceNeg, Int.reduceMul, ↓nthK_zero, ↓nthK_succ, e1, e2, e7, e9, e10, e11, e12, e13, c3, c16, a3, a16, b3, b16, d3, d16]
    refine Ok.use (Waiting_ok (hp9.quiet u9C) (by have := hI'.lenS; omega)) ?_
    rintro vE wE ⟨rfl, hE⟩
    have u9E := u9C.trans hE (fun _ _ h => h)
    obtain ⟨f3, f16, _, _⟩ := fct u9E
    rw [← hzl, ← hdl]
    have hwr : IntKind.i64.wrap ((zs'.length : Int) - ds2'.length) = (zs'.length : Int) - ds2'.length := wrap_ok (by have := hI'.lenS; omega) (by have := hI'.lenS; omega)
    simp (config := { maxSteps := 3000000 }) (disch := omega) only [push_cast, Nat.reduceBEq, Nat.reduceEqDiff, Nat.reduceAdd, Nat.reduceMul, Nat.reduceSub, Nat.reduceLT, Int.reduceToNat, Int.reduceLT, Int.reduceLE, Int.reduceEq, Int.reduceAdd, Int.reduceSub, Int.reduceNeg, Int.reduceMul, ↓nthK_zero, ↓nthK_succ, e1, e2, e7, e9, e10, e11, e12, e13, c3, c16, a3, a16, b3, b16, d3, d16, f3, f16, hwr, KSr_nor]
    obtain ⟨_, _, g5, g6⟩ := fct u9E
    clear c3 c16 a3 a16 b3 b16 d3 d16 f3 f16 hdB hdQ hqB
    have hnR := hq9.n12
    have hzR : zs'.length < 1000000 := by have := hI'.lenS; omega
    have u9e : Upd (fun _ => False) w9 wE.drew := u9E.drew'
    refine wr_seq (wr_of_w mixed ?_)
    simp (config := { maxSteps := 3000000 }) (disch := omega) only [push_cast, Nat.reduceBEq, Nat.reduceEqDiff, Nat.reduceAdd, Nat.reduceMul, Nat.reduceSub, Nat.reduceLT, Int.reduceToNat, Int.reduceLT, Int.reduceLE, Int.reduceEq, Int.reduceAdd, Int.reduceSub, Int.reduceNeg, Int.reduceMul, ↓nthK_zero, ↓nthK_succ, e1, e2, e7, e9, e10, e11, e12, e13, g5, g6]
    refine Ok.use (Stable_ok (hp9.quiet u9e) (zo, zn)) ?_
    rintro vF wF ⟨hvF, hF⟩
    have hvF : vF = .bool (stB R' (zo, zn)) := hvF.trans (congrArg Value.bool (hI'.stb (zo, zn) hnR))
    subst hvF
    have u9F := u9e.trans hF (fun _ _ h => h)
    obtain ⟨_, _, i5, i6⟩ := fct u9F
    simp (config := { maxSteps := 3000000 }) (disch := omega) only [push_cast, Nat.reduceBEq, Nat.reduceEqDiff, Nat.reduceAdd, Nat.reduceMul, Nat.reduceSub, Nat.reduceLT, Int.reduceToNat, Int.reduceLT, Int.reduceLE, Int.reduceEq, Int.reduceAdd, Int.reduceSub, Int.reduceNeg, Int.reduceMul, ↓nthK_zero, ↓nthK_succ, e1, e2, e7, e9, e10, e11, e12, e13, g5, g6, i5, i6]
    refine Ok.use (rStable_ok (hq9.quiet u9F) (zo, zn) hzR) ?_
    rintro vG wG ⟨rfl, hG⟩
    have u9G := u9F.trans hG (fun _ _ h => h)
    obtain ⟨_, _, j5, j6⟩ := fct u9G
    simp (config := { maxSteps := 3000000 }) (disch := omega) only [push_cast, Nat.reduceBEq, Nat.reduceEqDiff, Nat.reduceAdd, Nat.reduceMul, Nat.reduceSub, Nat.reduceLT, Int.reduceToNat, Int.reduceLT, Int.reduceLE, Int.reduceEq, Int.reduceAdd, Int.reduceSub, Int.reduceNeg, Int.reduceMul, ↓nthK_zero, ↓nthK_succ, e1, e2, e7, e9, e10, e11, e12, e13, beq_self_eq_true, Bool.not_true, g5, g6, i5, i6, j5, j6]
    refine Ok.use (Stable_ok (hp9.quiet u9G) ((mm : Int), 1)) ?_
    rintro vH wH ⟨hvH, hH⟩
    have hvH : vH = .bool (stB R' ((mm : Int), 1)) := hvH.trans (congrArg Value.bool (hI'.stb ((mm : Int), 1) hnR))
    subst hvH
    have u9H := u9G.trans hH (fun _ _ h => h)
    obtain ⟨_, _, l5, l6⟩ := fct u9H
    simp (config := { maxSteps := 3000000 }) (disch := omega) only [push_cast, Nat.reduceBEq, Nat.reduceEqDiff, Nat.reduceAdd, Nat.reduceMul, Nat.reduceSub, Nat.reduceLT, Int.reduceToNat, Int.reduceLT, Int.reduceLE, Int.reduceEq, Int.reduceAdd, Int.reduceSub, Int.reduceNeg, Int.reduceMul, ↓nthK_zero, ↓nthK_succ, e1, e2, e7, e9, e10, e11, e12, e13, beq_self_eq_true, Bool.not_true, g5, g6, i5, i6, j5, j6, l5, l6]
    refine Ok.use (rStable_ok (hq9.quiet u9H) ((mm : Int), 1) hzR) ?_
    rintro vI wI ⟨rfl, hI2⟩
    have u9I := u9H.trans hI2 (fun _ _ h => h)
    obtain ⟨_, _, m5, m6⟩ := fct u9I
    simp (config := { maxSteps := 3000000 }) (disch := omega) only [push_cast, Nat.reduceBEq, Nat.reduceEqDiff, Nat.reduceAdd, Nat.reduceMul, Nat.reduceSub, Nat.reduceLT, Int.reduceToNat, Int.reduceLT, Int.reduceLE, Int.reduceEq, Int.reduceAdd, Int.reduceSub, Int.reduceNeg, Int.reduceMul, ↓nthK_zero, ↓nthK_succ, e1, e2, e7, e9, e10, e11, e12, e13, beq_self_eq_true, Bool.not_true, g5, g6, i5, i6, j5, j6, l5, l6, m5, m6, KSr_nor]
    refine wr_of_w mixed ?_
    simp (disch := omega) only [push_cast, Nat.reduceBEq, Nat.reduceEqDiff, Nat.reduceAdd, Nat.reduceMul, Nat.reduceSub, Nat.reduceLT, Int.reduceToNat, Int.reduceLT, Int.reduceLE, Int.reduceEq, Int.reduceAdd, Int.reduceSub, Int.reduceNeg, Int.reduceMul, KSr_nor]
    refine wr_of_w mixed ?_
    simp (disch := omega) only [push_cast, Nat.reduceBEq, Nat.reduceEqDiff, Nat.reduceAdd, Nat.reduceMul, Nat.reduceSub, Nat.reduceLT, Int.reduceToNat, Int.reduceLT, Int.reduceLE, Int.reduceEq, Int.reduceAdd, Int.reduceSub, Int.reduceNeg, Int.reduceMul, e10, KJr_nor]
    exact ⟨k - 1, by omega, i + 1, S', R', lv', m', ds', _, _, zs', ds2', by omega, by simp, hp9.quiet u9I, hq9.quiet u9I, hI', hdis', u09.trans u9I (fun _ _ h => h.elim), hme'⟩
  have uw8 := u04.trans (u48.mono (G := fun b => w.heap.size ≤ b) (fun _ _ h => h.elim)) (fun _ _ h => h)
  refine wr_block (wr_seq (wr_of_w mixed ?_))
  by_cases hk1 : xk = 1
  · subst hk1
    simp (disch := omega) only [push_cast, Nat.reduceBEq, Nat.reduceEqDiff, Nat.reduceAdd, Nat.reduceMul, Nat.reduceSub, Nat.reduceLT, Int.reduceToNat, Int.reduceLT, Int.reduceLE, Int.reduceEq, Int.reduceAdd, Int.reduceSub, Int.reduceNeg, Int.reduceMul, KSr_nor]
    refine wr_of_w mixed ?_
    simp (disch := omega) only [push_cast, Nat.reduceBEq, Nat.reduceEqDiff, Nat.reduceAdd, Nat.reduceMul, Nat.reduceSub, Nat.reduceLT, Int.reduceToNat, Int.reduceLT, Int.reduceLE, Int.reduceEq, Int.reduceAdd, Int.reduceSub, Int.reduceNeg, Int.reduceMul, b8.cell]
    refine Ok.use (Broadcast_ok hp8 hI.dnS (by have := hI.lenS; omega) hpv8 (by omega) (by have := hI.mdS; omega)) ?_
    rintro av w9 ⟨S', lv', m', ds', hrun, hp9, hu9, hf9, ha9⟩
    have kp9 := hp8.kp hu9
    have nX : ¬ Ft p mb db lv w4.heap.size := hp8.notK ⟨_, b8⟩ (by decide) (by decide) (by decide)
    have hq9 := hq8.frame hu9 (apart hp8 hq8 hdis (.inl rfl)) (fun g hg => apart hp8 hq8 hdis (.inr (.inl hg))) (fun g hg => apart hp8 hq8 hdis (.inr (.inr hg))) kp9
    have b9 := b8.upd hu9 nX
    have s89 := hu9.size
    have hdis9 : ∀ g, ov.ownBlock = some g → lv'.ownBlock ≠ some g := fun g hg e => by
      rcases hf9 g e with h | h
      · exact hdis g hg h
      · have := (own_ge hq8.own hg).2; omega
    simp (disch := omega) only [push_cast, Nat.reduceBEq, Nat.reduceEqDiff, Nat.reduceAdd, Nat.reduceMul, Nat.reduceSub, Nat.reduceLT, Int.reduceToNat, Int.reduceLT, Int.reduceLE, Int.reduceEq, Int.reduceAdd, Int.reduceSub, Int.reduceNeg, Int.reduceMul, b9.cell]
    refine Ok.use (rBroadcast_ok hq9 hI.dn (by have := hI.lenR; omega) hI.bt hI.pl hI.fresh hI.sn (hpv8.keep kp9) (by omega) (by have := hI.md; omega)) ?_
    rintro bv w10 ⟨R', nv', ov', zs', ds2', hrun2, hq10, hu10, hn10, hf10, hb10⟩
    obtain ⟨hI', hps⟩ := hI.bc (l := xl) (by omega) hrun hrun2
    have kp10 : Kp w.heap.size w9 w10 := hq9.kp3 hu10 fun b hb => hb
    have hp10 := hp9.frame hu10 (fun b hb => apart hp9 hq9 hdis9 hb) kp10
    have ha10 := (ha9.low (by omega : w.heap.size ≤ w8.heap.size)).upd hu10 (fun g hg hF => hq9.kind3 hF (ha9.ty hg) (by decide) (by decide) (by decide)) kp10
    have b10 := b9.upd hu10 (fun hF => hq9.kind3 hF ⟨_, b9⟩ (by decide) (by decide) (by decide))
    have hb10 := hb10.low (by omega : w.heap.size ≤ w9.heap.size)
    have hdis10 : ∀ g, ov'.ownBlock = some g → lv'.ownBlock ≠ some g := fun g hg e => by
      rcases hf10 g hg with h | h
      · exact hdis9 g h e
      · have := (own_ge hp9.own e).2; omega
    rw [← hps] at hb10
    simp (disch := omega) only [push_cast, Nat.reduceBEq, Nat.reduceEqDiff, Nat.reduceAdd, Nat.reduceMul, Nat.reduceSub, Nat.reduceLT, Int.reduceToNat, Int.reduceLT, Int.reduceLE, Int.reduceEq, Int.reduceAdd, Int.reduceSub, Int.reduceNeg, Int.reduceMul]
    have u10 : Upd (fun b => w.heap.size ≤ b) w w10 := (uw8.trans (hu9.mono (G := fun b => w.heap.size ≤ b) fun b _ h => hp8.ge h) (fun _ _ h => h)).trans (hu10.mono (G := fun b => w.heap.size ≤ b) fun b _ h => hq9.ge3 h) (fun _ _ h => h)
    have hR : R'.self = mm := by rw [hrun2.keepE.2.1]; exact hme
    exact hend _ S' R' lv' m' ds' nv' ov' zs' ds2' av bv _ w10 rfl rfl rfl rfl rfl rfl rfl rfl hp10 hq10 hI' hdis10 hR u10 (by have := @bcO_length S xl S.n; have := hp8.n12; omega) ha10 hb10 ⟨b10.cell 5, b10.cell 6, b10.lt⟩
  by_cases hk2 : xk = 2
  · subst hk2
    simp (disch := omega) only [push_cast, Nat.reduceBEq, Nat.reduceEqDiff, Nat.reduceAdd, Nat.reduceMul, Nat.reduceSub, Nat.reduceLT, Int.reduceToNat, Int.reduceLT, Int.reduceLE, Int.reduceEq, Int.reduceAdd, Int.reduceSub, Int.reduceNeg, Int.reduceMul, KSr_nor]
    refine wr_of_w mixed ?_
    simp (disch := omega) only [push_cast, Nat.reduceBEq, Nat.reduceEqDiff, Nat.reduceAdd, Nat.reduceMul, Nat.reduceSub, Nat.reduceLT, Int.reduceToNat, Int.reduceLT, Int.reduceLE, Int.reduceEq, Int.reduceAdd, Int.reduceSub, Int.reduceNeg, Int.reduceMul, b8.cell]
    have hrc := Receive_ok hp8 hI.dnS (by have := hI.lenS; omega) (⟨zk, zf, zt, zo, zn, zl⟩, .slice qa zl.length qc) hqv8 (by simp only; omega) hI.plS
    unfold pkV pkC at hrc
    simp only at hrc
    refine Ok.use hrc ?_
    clear hrc
    rintro av w9 ⟨S', lv', m', ds', ps1, hrun, hp9, hu9, hf9, ha9⟩
    have kp9 := hp8.kp hu9
    have nX : ¬ Ft p mb db lv w4.heap.size := hp8.notK ⟨_, b8⟩ (by decide) (by decide) (by decide)
    have hq9 := hq8.frame hu9 (apart hp8 hq8 hdis (.inl rfl)) (fun g hg => apart hp8 hq8 hdis (.inr (.inl hg))) (fun g hg => apart hp8 hq8 hdis (.inr (.inr hg))) kp9
    have b9 := b8.upd hu9 nX
    have s89 := hu9.size
    have hdis9 : ∀ g, ov.ownBlock = some g → lv'.ownBlock ≠ some g := fun g hg e => by
      rcases hf9 g e with h | h
      · exact hdis g hg h
      · have := (own_ge hq8.own hg).2; omega
    simp (disch := omega) only [push_cast, Nat.reduceBEq, Nat.reduceEqDiff, Nat.reduceAdd, Nat.reduceMul, Nat.reduceSub, Nat.reduceLT, Int.reduceToNat, Int.reduceLT, Int.reduceLE, Int.reduceEq, Int.reduceAdd, Int.reduceSub, Int.reduceNeg, Int.reduceMul, b9.cell]
    have hrc := rReceive_ok hq9 hI.dn (by have := hI.lenR; omega) hI.bt hI.pl hI.sn hI.all (⟨zk, zf, zt, zo, zn, zl⟩, .slice qa zl.length qc) (hqv8.keep kp9) (by simp only; omega)
    unfold pkV pkC at hrc
    simp only at hrc
    refine Ok.use hrc ?_
    clear hrc
    rintro bv w10 ⟨R', nv', ov', zs', ds2', ps2, hrun2, hq10, hu10, hn10, hf10, hb10⟩
    obtain ⟨hI', hps⟩ := hI.rc (by simp only; omega) hrun hrun2
    have kp10 : Kp w.heap.size w9 w10 := hq9.kp3 hu10 fun b hb => hb
    have hp10 := hp9.frame hu10 (fun b hb => apart hp9 hq9 hdis9 hb) kp10
    have ha10 := (ha9.low (by omega : w.heap.size ≤ w8.heap.size)).upd hu10 (fun g hg hF => hq9.kind3 hF (ha9.ty hg) (by decide) (by decide) (by decide)) kp10
    have b10 := b9.upd hu10 (fun hF => hq9.kind3 hF ⟨_, b9⟩ (by decide) (by decide) (by decide))
    have hb10 := hb10.low (by omega : w.heap.size ≤ w9.heap.size)
    have hdis10 : ∀ g, ov'.ownBlock = some g → lv'.ownBlock ≠ some g := fun g hg e => by
      rcases hf10 g hg with h | h
      · exact hdis9 g h e
      · have := (own_ge hp9.own e).2; omega
    rw [← hps] at hb10
    simp (disch := omega) only [push_cast, Nat.reduceBEq, Nat.reduceEqDiff, Nat.reduceAdd, Nat.reduceMul, Nat.reduceSub, Nat.reduceLT, Int.reduceToNat, Int.reduceLT, Int.reduceLE, Int.reduceEq, Int.reduceAdd, Int.reduceSub, Int.reduceNeg, Int.reduceMul]
    have u10 : Upd (fun b => w.heap.size ≤ b) w w10 := (uw8.trans (hu9.mono (G := fun b => w.heap.size ≤ b) fun b _ h => hp8.ge h) (fun _ _ h => h)).trans (hu10.mono (G := fun b => w.heap.size ≤ b) fun b _ h => hq9.ge3 h) (fun _ _ h => h)
    have hR : R'.self = mm := by rw [← hI'.eq.self, hI'.eq.self]; rw [RrR.self hrun2]; exact hme
    exact hend _ S' R' lv' m' ds' nv' ov' zs' ds2' av bv _ w10 rfl rfl rfl rfl rfl rfl rfl rfl hp10 hq10 hI' hdis10 hR u10 (by have := RcR.len hrun; have := hp8.n12; omega) ha10 hb10 ⟨b10.cell 5, b10.cell 6, b10.lt⟩
  by_cases hk3 : xk = 3
  · subst hk3
    simp (disch := omega) only [push_cast, Nat.reduceBEq, Nat.reduceEqDiff, Nat.reduceAdd, Nat.reduceMul, Nat.reduceSub, Nat.reduceLT, Int.reduceToNat, Int.reduceLT, Int.reduceLE, Int.reduceEq, Int.reduceAdd, Int.reduceSub, Int.reduceNeg, Int.reduceMul, KSr_nor]
    refine wr_cond (t := false) rfl ?_
    rw [if_neg (by decide)]
    refine wr_seq (wr_of_w mixed ?_)
    simp (disch := omega) only [push_cast, Nat.reduceBEq, Nat.reduceEqDiff, Nat.reduceAdd, Nat.reduceMul, Nat.reduceSub, Nat.reduceLT, Int.reduceToNat, Int.reduceLT, Int.reduceLE, Int.reduceEq, Int.reduceAdd, Int.reduceSub, Int.reduceNeg, Int.reduceMul, KSr_nor]
    refine wr_cond (t := false) rfl ?_
    rw [if_neg (by decide)]
    refine wr_seq (wr_of_w mixed ?_)
    simp (disch := omega) only [push_cast, Nat.reduceBEq, Nat.reduceEqDiff, Nat.reduceAdd, Nat.reduceMul, Nat.reduceSub, Nat.reduceLT, Int.reduceToNat, Int.reduceLT, Int.reduceLE, Int.reduceEq, Int.reduceAdd, Int.reduceSub, Int.reduceNeg, Int.reduceMul, KSr_nor]
    refine wr_cond (t := true) rfl ?_
    rw [if_pos rfl]
    refine wr_seq (wr_region (wlr_step ?_))
    simp (disch := omega) only [push_cast, Nat.reduceBEq, Nat.reduceEqDiff, Nat.reduceAdd, Nat.reduceMul, Nat.reduceSub, Nat.reduceLT, Int.reduceToNat, Int.reduceLT, Int.reduceLE, Int.reduceEq, Int.reduceAdd, Int.reduceSub, Int.reduceNeg, Int.reduceMul]
    refine wlr_call (w1 := w8) (f := 13) (args := #[.pointer (some ⟨p, 0, none⟩)]) rfl (by kernel_rfl) ?_
    refine (Resend_calls hp8 (by have := hI.lenS; omega) hI.plS).mono ?_
    rintro e w9 ⟨av, rfl, ss, hpm, hpw, ha9, hu9⟩
    refine ⟨_, rfl, wlr_of_wl ?_⟩
    rw [hI.eq.rs hpm hpw] at ha9
    have hq9 := hq8.quiet hu9
    have b9 := b8.upd hu9 (fun h => h)
    simp (disch := omega) only [push_cast, Nat.reduceBEq, Nat.reduceEqDiff, Nat.reduceAdd, Nat.reduceMul, Nat.reduceSub, Nat.reduceLT, Int.reduceToNat, Int.reduceLT, Int.reduceLE, Int.reduceEq, Int.reduceAdd, Int.reduceSub, Int.reduceNeg, Int.reduceMul, KSr_nor]
    refine wr_of_w mixed ?_
    simp (disch := omega) only [push_cast, Nat.reduceBEq, Nat.reduceEqDiff, Nat.reduceAdd, Nat.reduceMul, Nat.reduceSub, Nat.reduceLT, Int.reduceToNat, Int.reduceLT, Int.reduceLE, Int.reduceEq, Int.reduceAdd, Int.reduceSub, Int.reduceNeg, Int.reduceMul]
    refine Ok.use (rResend_ok hq9 (by have := hI.lenR; omega) (fun z hz => hI.pl z.1 z.2 (find_of_mem hI.eq.srt.nodup hz))) ?_
    rintro bv w10 ⟨hb10, hu10⟩
    have u810 := hu9.trans hu10 (fun _ _ h => h)
    have s89 := hu9.size
    simp (disch := omega) only [push_cast, Nat.reduceBEq, Nat.reduceEqDiff, Nat.reduceAdd, Nat.reduceMul, Nat.reduceSub, Nat.reduceLT, Int.reduceToNat, Int.reduceLT, Int.reduceLE, Int.reduceEq, Int.reduceAdd, Int.reduceSub, Int.reduceNeg, Int.reduceMul]
    have b10 := b9.upd hu10 (fun h => h)
    have hlen : (rrO R R.notes).length < 1000000 := by
      have h1 := @rrO_length R R.notes
      have h2 := hI.nt
      have h3 := hq8.n12
      have h4 : R.notes.length * R.n ≤ 60 * 12 := Nat.mul_le_mul (by omega) h3
      omega
    exact hend _ S R lv m ds nv ov zs ds2 av bv _ w10 rfl rfl rfl rfl rfl rfl rfl rfl (hp8.quiet u810) (hq8.quiet u810) hI.mono hdis hme (uw8.trans (u810.mono (G := fun b => w.heap.size ≤ b) (fun _ _ h => h.elim)) (fun _ _ h => h)) hlen ((ha9.quiet hu10).low (by omega)) (hb10.low (by omega)) ⟨b10.cell 5, b10.cell 6, b10.lt⟩
  simp (disch := omega) only [push_cast, Nat.reduceBEq, Nat.reduceEqDiff, Nat.reduceAdd, Nat.reduceMul, Nat.reduceSub, Nat.reduceLT, Int.reduceToNat, Int.reduceLT, Int.reduceLE, Int.reduceEq, Int.reduceAdd, Int.reduceSub, Int.reduceNeg, Int.reduceMul, KSr_nor]
  refine wr_of_w mixed ?_
  simp (disch := omega) only [push_cast, Nat.reduceBEq, Nat.reduceEqDiff, Nat.reduceAdd, Nat.reduceMul, Nat.reduceSub, Nat.reduceLT, Int.reduceToNat, Int.reduceLT, Int.reduceLE, Int.reduceEq, Int.reduceAdd, Int.reduceSub, Int.reduceNeg, Int.reduceMul]
  exact hend _ S R lv m ds nv ov zs ds2 _ _ [] w8 rfl rfl rfl rfl rfl rfl rfl rfl hp8 hq8 hI.mono hdis hme uw8 (by simp) oa8 ob8 ⟨b8.cell 5, b8.cell 6, b8.lt⟩
theorem calls_law {f : FuncId} {args : Array Value} {w : World} (h : Calls Try.prog f args w fun e w' => ∃ u, e = .returned u ∧ u = .bool true ∧ Upd (fun _ => False) w w') :
    Calls Try.prog f args w fun e w' => e = .returned (.bool true) ∧ RowKit.Below w.heap.size w w' := by
  refine h.mono ?_
  rintro e w' ⟨u, rfl, rfl, hu⟩
  exact ⟨rfl, hu.os, hu.tape, hu.output, hu.size, fun k hk => hu.block k hk (fun h => h)⟩
theorem broadcastExact_law {w : World} (n : Int) (_hn : (Lit.int .i64 n).wf = true) (me : Int) (_hm : (Lit.int .i64 me).wf = true) {v : Value} (h : ∃ l, SlSt w v l ∧ ∀ x, x ∈ l → x.l.length ≤ 140737488351232 ∧ x.z.l.length ≤ 140737488351232) :
    Calls Try.prog 6 #[.int .i64 n, .int .i64 me, v] w fun e w' => e = .returned (.bool true) ∧ RowKit.Below w.heap.size w w' := by
  obtain ⟨l, h1, h2⟩ := h
  exact calls_law (broadcastExact_calls n me h1 h2)
end Go.Proofs.Ytpgfokhpacdhjaa.Fd
