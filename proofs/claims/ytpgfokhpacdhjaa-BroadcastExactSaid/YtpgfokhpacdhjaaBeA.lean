/-
  The reference: Broadcast.
-/
import Derived.Test.YtpgfokhpacdhjaaBe6
import Derived.Test.YtpgfokhpacdhjaaBe8
namespace Go.Proofs.Ytpgfokhpacdhjaa.Fd
set_option linter.unusedSimpArgs false
set_option linter.unusedVariables false
open Go Go.ChangeMaps
set_option maxRecDepth 100000

theorem posN_lead {k : NP} : ∀ {zs : List (Rn × Value)}, posN k zs = leadN k (zs.map fun z => (z.1.k, (z.1.l, z.1.D)))
  | [] => rfl
  | z :: r => by
    unfold posN
    rw [List.map_cons, leadN, posN_lead]
theorem insZ_map {x : Rn × Value} {zs : List (Rn × Value)} : ((insZ x zs).map fun z => (z.1.k, (z.1.l, z.1.D))) = insN x.1.k (x.1.l, x.1.D) (zs.map fun z => (z.1.k, (z.1.l, z.1.D))) := by
  unfold insZ insN
  rw [posN_lead, List.map_append, List.map_cons, List.map_take, List.map_drop]
theorem bld_rn (a b : Int) (x : Option Addr) (n c : Nat) (w : World) : bldS Try.prog 87 #[(0, .int .i64 a), (1, .int .i64 b), (2, .slice x n c)] w = some (.agg (rnC (⟨(a, b), [], 0#16⟩, .slice x n c)).toArray, w) := by kernel_rfl
theorem st_rn {w : World} {b : Nat} {cs : List Value} {E : TypeId} (h : Blk w b cs E) (hl : cs.length = 15) {x : Rn × Value} {a : Option Addr} {n c : Nat} (hx : x.2 = .slice a n c) :
    stS Try.prog 87 (.pointer (some ⟨b, 0, none⟩)) (.agg (rnC x).toArray) w = some (undef, w.setRow b (rnC x).toArray) :=
  st_blk (cs' := rnC x) h (by obtain ⟨⟨k, l, D⟩, xv⟩ := x; simp only at hx; subst hx; kernel_rfl) (by rw [hl, rnC_len]) (by
    intro u hu
    unfold rnC knV at hu
    rcases List.mem_append.1 hu with hu | hu
    · simp at hu
      rcases hu with rfl | rfl | rfl
      · rfl
      · rfl
      · rw [hx]; rfl
    · obtain ⟨i, _, rfl⟩ := List.mem_map.1 hu
      rfl)
def FtR3 (q : Nat) (nv ov : Value) (b : Nat) : Prop := b = q ∨ nv.ownBlock = some b ∨ ov.ownBlock = some b
set_option maxHeartbeats 8000000 in
theorem rBroadcast_ok {base : Nat} {w : World} {q : Nat} {R : PS} {nv ov : Value} {zs : List (Rn × Value)} {ds : List (NP × Value)} (h : RA base w q R nv ov zs ds) (hd : ∀ o, 0 ≤ R.done o ∧ R.done o ≤ R.list.length) (hb : R.list.length + R.notes.length < 999999) (hbt : Bits R)
    (hnl : ∀ k x, findS k R.notes = some x → x.1.length ≤ 140737488355328) (hfr : findS ((R.self : Int), (R.made : Int) + 1) R.notes = none) (hsn : R.self < R.n)
    {v : Value} {l : List Int} (hv : PB base w v l) (hl : l.length ≤ 140737488355328) (hmd : R.made < 1000000) :
    Ok (den Try.prog 17 #[.pointer (some ⟨q, 0, none⟩), v] w) fun out w' => ∃ R' nv' ov' zs' ds', Run (rbS R l) R' ∧ RA base w' q R' nv' ov' zs' ds' ∧ Upd (FtR3 q nv ov) w w' ∧ (∀ g, nv'.ownBlock = some g → nv.ownBlock = some g ∨ w.heap.size ≤ g) ∧ (∀ g, ov'.ownBlock = some g → ov.ownBlock = some g ∨ w.heap.size ≤ g) ∧
      OwnK base w.heap.size w' out (bcO R l R.n) := by
  obtain ⟨pa, pc, rfl⟩ := hv.form
  have hbw : base ≤ w.heap.size := by have := h.bq; have := h.obj.lt; omega
  refine den_okS (args := [.pointer (some ⟨q, 0, none⟩), .slice pa l.length pc]) rs17 Try.func17 rfl mixed in17 ok17 ae17 rfl ?_
  rw [W_seq]
  generalize hKs : KS _ _ _ _ _ = Ks
  simp (disch := omega) only [push_cast, Nat.reduceBEq, Nat.reduceEqDiff, Nat.reduceAdd, Nat.reduceMul, Nat.reduceSub, Nat.reduceLT, Int.reduceToNat, Int.reduceLT, Int.reduceLE, Int.reduceEq, Int.reduceAdd, Int.reduceSub, Int.reduceNeg, Int.reduceMul]
  subst hKs
  rw [KS_nor]
  have e1 : ((R.made : Int) + 1) = ((R.made + 1 : Nat) : Int) := by omega
  have c2 := h.obj.cell 2
  simp only [List.cons_append, List.nil_append, List.getElem?_cons_succ, List.getElem?_cons_zero] at c2
  rw [W_seq]
  generalize hKs : KS _ _ _ _ _ = Ks
  simp (disch := omega) only [push_cast, Nat.reduceBEq, Nat.reduceEqDiff, Nat.reduceAdd, Nat.reduceMul, Nat.reduceSub, Nat.reduceLT, Int.reduceToNat, Int.reduceLT, Int.reduceLE, Int.reduceEq, Int.reduceAdd, Int.reduceSub, Int.reduceNeg, Int.reduceMul, c2, h.obj.free]
  have ho1 := h.obj.set 2 (.int .i64 (R.made + 1 : Nat))
  simp only [List.cons_append, List.nil_append, List.set_cons_succ, List.set_cons_zero] at ho1
  have u1 : Upd (fun b => b = q) w (w.setCell ⟨q, 2, none⟩ (.int .i64 ((R.made + 1 : Nat) : Int))) := Upd.set rfl
  have kp1 := kp_new u1 h.obj (by decide) h.bq
  have h1 : RA base (w.setCell ⟨q, 2, none⟩ (.int .i64 ((R.made + 1 : Nat) : Int))) q { R with made := R.made + 1 } nv ov zs ds :=
    ⟨by simpa using ho1, h.bq, own_updB h.nts u1 (fun g hg e => by subst e; exact Knd.ne (own_ty h.nts hg) ⟨_, h.obj⟩ (by decide)), h.nz, fun z hz => (h.pb z hz).keep kp1, own_updB h.own u1 (fun g hg e => by subst e; exact Knd.ne (own_ty h.own hg) ⟨_, h.obj⟩ (by decide)), h.lst.keep kp1, h.n12⟩
  have hv1 := hv.keep kp1
  rw [← e1] at h1 hv1 u1
  generalize w.setCell ⟨q, 2, none⟩ (.int .i64 ((R.made : Int) + 1)) = w1 at *
  clear ho1 c2 kp1
  subst hKs
  rw [KS_nor]
  rw [W_seq]
  generalize hKs : KS _ _ _ _ _ = Ks
  rw [W_alts, WT_node, WT_node]
  have hwl : base ≤ w1.heap.size := by have := h1.bq; have := h1.obj.lt; omega
  have fct : ∀ {w' : World}, Upd (fun _ => False) w1 w' → w'.cell? ⟨q, 1, none⟩ = some (.int .i64 R.self) ∧ w'.cell? ⟨q, 2, none⟩ = some (.int .i64 ((R.made : Int) + 1)) := fun u => by
    have c1 := (h1.quiet u).obj.cell 1
    have c2 := (h1.quiet u).obj.cell 2
    simp only [List.cons_append, List.nil_append, List.getElem?_cons_succ, List.getElem?_cons_zero] at c1 c2
    exact ⟨c1, by rw [c2, ← e1]⟩
  obtain ⟨cS, cM⟩ := fct Upd.refl
  refine (fun (hend : ∀ X va vc wE, w1.heap.size ≤ X → Blk wE X (rnC (⟨((R.self : Int), (R.made : Int) + 1), l, 0#16⟩, .slice va l.length vc)) 87 → PB base wE (.slice va l.length vc) l → Upd (fun _ => False) w1 wE →
      Ks (Exit.normal, (env0 [.pointer (some ⟨q, 0, none⟩), .slice pa l.length pc]).set 5 (.pointer (some ⟨X, 0, none⟩)), wE)) => ?_) ?_

  refine ⟨fun _ => ⟨fun _ => ?_, fun _ => ?_⟩, fun _ => ?_⟩
  · rw [WT_leaf]
    have uA : Upd (fun _ => False) w1 (w1.alloc (.cells #[] 5 (0, 0))) := Upd.alloc
    obtain ⟨cSA, cMA⟩ := fct uA
    have hba := Blk.new (w := w1) (cs := []) (E := 5)
    simp (config := { maxSteps := 3000000 }) (disch := omega) only [push_cast, Nat.reduceBEq, Nat.reduceEqDiff, Nat.reduceAdd, Nat.reduceMul, Nat.reduceSub, Nat.reduceLT, Int.reduceToNat, Int.reduceLT, Int.reduceLE, Int.reduceEq, Int.reduceAdd, Int.reduceSub, Int.reduceNeg, Int.reduceMul, cS, cM, cSA, cMA, bsl_bytes0]
    refine app_by (w := (w1.alloc (.cells #[] 5 (0, 0))).drew) (Bow.empty hba.drew) ((hv1.keep (Kp.quiet uA.drew')).slb) (by rw [List.length_nil]; omega) ?_
    intro vx w5 hx5 hu5 _
    rw [List.nil_append] at hx5
    have u5 : Upd (fun _ => False) w1 w5 := uA.drew'.trans hu5 (fun b h1 h2 => by simp [Value.ownBlock] at h2; omega)
    have hv5 := PB.bow (base := base) hv1.1 hx5
    obtain ⟨va, vc, rfl⟩ := hv5.form
    obtain ⟨cS5, cM5⟩ := fct u5
    have b6 := Blk.new (w := w5) (cs := [.int .i64 0, .int .i64 0, .slice none 0 0, .bool false, .bool false, .bool false, .bool false, .bool false, .bool false, .bool false, .bool false, .bool false, .bool false, .bool false, .bool false]) (E := 87)
    have u6 : Upd (fun _ => False) w5 (w5.alloc (.cells #[.int .i64 0, .int .i64 0, .slice none 0 0, .bool false, .bool false, .bool false, .bool false, .bool false, .bool false, .bool false, .bool false, .bool false, .bool false, .bool false, .bool false] 87 (0, 0))) := Upd.alloc
    have u16 := u5.trans u6 (fun _ _ h => h)
    obtain ⟨cS6, cM6⟩ := fct u16
    have s5 := u5.size
    simp (config := { maxSteps := 3000000 }) (disch := omega) only [push_cast, Nat.reduceBEq, Nat.reduceEqDiff, Nat.reduceAdd, Nat.reduceMul, Nat.reduceSub, Nat.reduceLT, Int.reduceToNat, Int.reduceLT, Int.reduceLE, Int.reduceEq, Int.reduceAdd, Int.reduceSub, Int.reduceNeg, Int.reduceMul, cS, cM, cSA, cMA, bsl_bytes0, cS5, cM5, bld_rn, zer_nt, cS6, cM6, st_rn (x := (⟨((R.self : Int), (R.made : Int) + 1), [], 0#16⟩, .slice va l.length vc)) b6 rfl rfl]
    have bE := (b6).setRow (cs' := rnC (⟨((R.self : Int), (R.made : Int) + 1), l, 0#16⟩, .slice va l.length vc))
    have uE : Upd (fun b => b = w5.heap.size) (w5.alloc (.cells #[.int .i64 0, .int .i64 0, .slice none 0 0, .bool false, .bool false, .bool false, .bool false, .bool false, .bool false, .bool false, .bool false, .bool false, .bool false, .bool false, .bool false] 87 (0, 0))) ((w5.alloc (.cells #[.int .i64 0, .int .i64 0, .slice none 0 0, .bool false, .bool false, .bool false, .bool false, .bool false, .bool false, .bool false, .bool false, .bool false, .bool false, .bool false, .bool false] 87 (0, 0))).setRow w5.heap.size (rnC (⟨((R.self : Int), (R.made : Int) + 1), l, 0#16⟩, .slice va l.length vc)).toArray) := Upd.setRow rfl
    exact hend _ va vc _ (by omega) bE ((hv5.keep (Kp.quiet u6)).keep (kp_new uE (b6) (by decide) (by omega))) ((u16).trans uE (fun b h1 h2 => by omega))
  · rw [WT_leaf]
    have uA : Upd (fun _ => False) w1 (w1.alloc (.cells #[] 5 (0, 0))) := Upd.alloc
    obtain ⟨cSA, cMA⟩ := fct uA
    have hba := Blk.new (w := w1) (cs := []) (E := 5)
    have sA : (w1.alloc (.cells #[] 5 (0, 0))).heap.size = w1.heap.size + 1 := size_alloc
    generalize hwA : w1.alloc (.cells #[] 5 (0, 0)) = wA at *
    have b6 := Blk.new (w := wA) (cs := [.int .i64 0, .int .i64 0, .slice none 0 0, .bool false, .bool false, .bool false, .bool false, .bool false, .bool false, .bool false, .bool false, .bool false, .bool false, .bool false, .bool false]) (E := 87)
    have u6 : Upd (fun _ => False) wA (wA.alloc (.cells #[.int .i64 0, .int .i64 0, .slice none 0 0, .bool false, .bool false, .bool false, .bool false, .bool false, .bool false, .bool false, .bool false, .bool false, .bool false, .bool false, .bool false] 87 (0, 0))) := Upd.alloc
    have u16 := uA.trans u6 (fun _ _ h => h)
    obtain ⟨cS6, cM6⟩ := fct u16
    simp (config := { maxSteps := 3000000 }) (disch := omega) only [push_cast, Nat.reduceBEq, Nat.reduceEqDiff, Nat.reduceAdd, Nat.reduceMul, Nat.reduceSub, Nat.reduceLT, Int.reduceToNat, Int.reduceLT, Int.reduceLE, Int.reduceEq, Int.reduceAdd, Int.reduceSub, Int.reduceNeg, Int.reduceMul, cS, cM, cSA, cMA, bsl_bytes0, zer_nt, cS6, cM6, hwA]
    refine app_by (w := (wA.alloc (.cells #[.int .i64 0, .int .i64 0, .slice none 0 0, .bool false, .bool false, .bool false, .bool false, .bool false, .bool false, .bool false, .bool false, .bool false, .bool false, .bool false, .bool false] 87 (0, 0))).drew) (Bow.empty ((hba.upd u6 (fun h => h)).drew)) ((hv1.keep (Kp.quiet u16.drew')).slb) (by rw [List.length_nil]; omega) ?_
    intro vx w5 hx5 hu5 _
    rw [List.nil_append] at hx5
    have u5 : Upd (fun _ => False) w1 w5 := u16.drew'.trans hu5 (fun b h1 h2 => by simp [Value.ownBlock] at h2; omega)
    have hv5 := PB.bow (base := base) hv1.1 hx5
    obtain ⟨va, vc, rfl⟩ := hv5.form
    obtain ⟨cS5, cM5⟩ := fct u5
    have b7 : Blk w5 wA.heap.size [.int .i64 0, .int .i64 0, .slice none 0 0, .bool false, .bool false, .bool false, .bool false, .bool false, .bool false, .bool false, .bool false, .bool false, .bool false, .bool false, .bool false] 87 := b6.drew.upd hu5 (fun e => by simp [Value.ownBlock] at e; omega)
    have s5 := u5.size
    simp (config := { maxSteps := 3000000 }) (disch := omega) only [push_cast, Nat.reduceBEq, Nat.reduceEqDiff, Nat.reduceAdd, Nat.reduceMul, Nat.reduceSub, Nat.reduceLT, Int.reduceToNat, Int.reduceLT, Int.reduceLE, Int.reduceEq, Int.reduceAdd, Int.reduceSub, Int.reduceNeg, Int.reduceMul, cS, cM, cSA, cMA, bsl_bytes0, cS5, cM5, bld_rn, zer_nt, cS6, cM6, hwA, st_rn (x := (⟨((R.self : Int), (R.made : Int) + 1), [], 0#16⟩, .slice va l.length vc)) b7 rfl rfl]
    have bE := (b7).setRow (cs' := rnC (⟨((R.self : Int), (R.made : Int) + 1), l, 0#16⟩, .slice va l.length vc))
    have uE : Upd (fun b => b = wA.heap.size) w5 (w5.setRow wA.heap.size (rnC (⟨((R.self : Int), (R.made : Int) + 1), l, 0#16⟩, .slice va l.length vc)).toArray) := Upd.setRow rfl
    exact hend _ va vc _ (by omega) bE ((hv5).keep (kp_new uE (b7) (by decide) (by omega))) ((u5).trans uE (fun b h1 h2 => by omega))
  · rw [WT_leaf]
    have b6 := Blk.new (w := w1) (cs := [.int .i64 0, .int .i64 0, .slice none 0 0, .bool false, .bool false, .bool false, .bool false, .bool false, .bool false, .bool false, .bool false, .bool false, .bool false, .bool false, .bool false]) (E := 87)
    have uN : Upd (fun _ => False) w1 (w1.alloc (.cells #[.int .i64 0, .int .i64 0, .slice none 0 0, .bool false, .bool false, .bool false, .bool false, .bool false, .bool false, .bool false, .bool false, .bool false, .bool false, .bool false, .bool false] 87 (0, 0))) := Upd.alloc
    have sN : (w1.alloc (.cells #[.int .i64 0, .int .i64 0, .slice none 0 0, .bool false, .bool false, .bool false, .bool false, .bool false, .bool false, .bool false, .bool false, .bool false, .bool false, .bool false, .bool false] 87 (0, 0))).heap.size = w1.heap.size + 1 := size_alloc
    obtain ⟨cSA, cMA⟩ := fct uN
    generalize hwA : w1.alloc (.cells #[.int .i64 0, .int .i64 0, .slice none 0 0, .bool false, .bool false, .bool false, .bool false, .bool false, .bool false, .bool false, .bool false, .bool false, .bool false, .bool false, .bool false] 87 (0, 0)) = wA at *
    have hba := Blk.new (w := wA) (cs := []) (E := 5)
    have u6 : Upd (fun _ => False) wA (wA.alloc (.cells #[] 5 (0, 0))) := Upd.alloc
    have u16 := uN.trans u6 (fun _ _ h => h)
    obtain ⟨cS6, cM6⟩ := fct u16
    simp (config := { maxSteps := 3000000 }) (disch := omega) only [push_cast, Nat.reduceBEq, Nat.reduceEqDiff, Nat.reduceAdd, Nat.reduceMul, Nat.reduceSub, Nat.reduceLT, Int.reduceToNat, Int.reduceLT, Int.reduceLE, Int.reduceEq, Int.reduceAdd, Int.reduceSub, Int.reduceNeg, Int.reduceMul, cS, cM, cSA, cMA, bsl_bytes0, zer_nt, cS6, cM6, hwA]
    refine app_by (w := (wA.alloc (.cells #[] 5 (0, 0))).drew) (Bow.empty hba.drew) ((hv1.keep (Kp.quiet u16.drew')).slb) (by rw [List.length_nil]; omega) ?_
    intro vx w5 hx5 hu5 _
    rw [List.nil_append] at hx5
    have u5 : Upd (fun _ => False) w1 w5 := u16.drew'.trans hu5 (fun b h1 h2 => by simp [Value.ownBlock] at h2; omega)
    have hv5 := PB.bow (base := base) hv1.1 hx5
    obtain ⟨va, vc, rfl⟩ := hv5.form
    obtain ⟨cS5, cM5⟩ := fct u5
    have b7 : Blk w5 w1.heap.size [.int .i64 0, .int .i64 0, .slice none 0 0, .bool false, .bool false, .bool false, .bool false, .bool false, .bool false, .bool false, .bool false, .bool false, .bool false, .bool false, .bool false] 87 := ((b6.upd u6 (fun h => h)).drew).upd hu5 (fun e => by simp [Value.ownBlock] at e; omega)
    have s5 := u5.size
    simp (config := { maxSteps := 3000000 }) (disch := omega) only [push_cast, Nat.reduceBEq, Nat.reduceEqDiff, Nat.reduceAdd, Nat.reduceMul, Nat.reduceSub, Nat.reduceLT, Int.reduceToNat, Int.reduceLT, Int.reduceLE, Int.reduceEq, Int.reduceAdd, Int.reduceSub, Int.reduceNeg, Int.reduceMul, cS, cM, cSA, cMA, bsl_bytes0, cS5, cM5, bld_rn, zer_nt, cS6, cM6, hwA, st_rn (x := (⟨((R.self : Int), (R.made : Int) + 1), [], 0#16⟩, .slice va l.length vc)) b7 rfl rfl]
    have bE := (b7).setRow (cs' := rnC (⟨((R.self : Int), (R.made : Int) + 1), l, 0#16⟩, .slice va l.length vc))
    have uE : Upd (fun b => b = w1.heap.size) w5 (w5.setRow w1.heap.size (rnC (⟨((R.self : Int), (R.made : Int) + 1), l, 0#16⟩, .slice va l.length vc)).toArray) := Upd.setRow rfl
    exact hend _ va vc _ (by omega) bE ((hv5).keep (kp_new uE (b7) (by decide) (by omega))) ((u5).trans uE (fun b h1 h2 => by omega))
  intro X va vc wE hX hbX hpv uE
  subst hKs
  rw [KS_nor]
  have hE := h1.quiet uE
  have s1E := uE.size
  have s01 := u1.size
  clear fct cS cM hv1
  have cS := hE.obj.cell 1
  simp only [List.cons_append, List.nil_append, List.getElem?_cons_succ, List.getElem?_cons_zero] at cS
  have hsn12 : R.self < 12 := by have := hE.n12; simp only at this; omega
  have cX := hbX.cell (3 + R.self)
  rw [rnC_bit hsn12] at cX
  rw [W_seq]
  generalize hKs : KS _ _ _ _ _ = Ks
  simp (disch := omega) only [push_cast, Nat.reduceBEq, Nat.reduceEqDiff, Nat.reduceAdd, Nat.reduceMul, Nat.reduceSub, Nat.reduceLT, Int.reduceToNat, Int.reduceLT, Int.reduceLE, Int.reduceEq, Int.reduceAdd, Int.reduceSub, Int.reduceNeg, Int.reduceMul, cS, hbX.free, cX]
  have uF : Upd (fun b => b = X) wE (wE.setCell ⟨X, 3 + R.self, none⟩ (.bool true)) := Upd.set rfl
  have hbF := hbX.set (3 + R.self) (.bool true)
  rw [rnC_set hsn12] at hbF
  simp only [BitVec.zero_or] at hbF
  have kpF : Kp base wE (wE.setCell ⟨X, 3 + R.self, none⟩ (.bool true)) := kp_new uF hbX (by decide) (by omega)
  have hqX : q ≠ X := by have := h1.obj.lt; omega
  have hF : RA base (wE.setCell ⟨X, 3 + R.self, none⟩ (.bool true)) q { R with made := R.made + 1 } nv ov zs ds := hE.frame uF hqX (fun g hg e => by have := (own_ge h1.nts hg).2; omega) (fun g hg e => by have := (own_ge h1.own hg).2; omega) kpF
  have hpF := hpv.keep kpF
  have u1F : Upd (fun _ => False) w1 (wE.setCell ⟨X, 3 + R.self, none⟩ (.bool true)) := uE.trans uF (fun b h1 h2 => by omega)
  generalize wE.setCell ⟨X, 3 + R.self, none⟩ (.bool true) = wF at *
  clear hbX hpv uE uF kpF hE cS cX
  subst hKs
  rw [KS_nor]
  have hzl : zs.length = R.notes.length := by rw [h.nz, List.length_map]
  rw [W_seq]
  generalize hKs : KS _ _ _ _ _ = Ks
  simp (disch := omega) only [push_cast, Nat.reduceBEq, Nat.reduceEqDiff, Nat.reduceAdd, Nat.reduceMul, Nat.reduceSub, Nat.reduceLT, Int.reduceToNat, Int.reduceLT, Int.reduceLE, Int.reduceEq, Int.reduceAdd, Int.reduceSub, Int.reduceNeg, Int.reduceMul, ld_blk (P := Try.prog) (t := 87) hbF (by kernel_rfl) (by kernel_rfl)]
  refine Ok.use (rput_ok hF (⟨((R.self : Int), (R.made : Int) + 1), l, BitVec.twoPow 16 R.self⟩, .slice va l.length vc) hpF (by omega)) ?_
  rintro v wG ⟨nv', hG, uFG, hfG⟩
  rw [insZ_map] at hG
  simp only at hG
  rw [← h.nz] at hG
  have hG : RA base wG q (rbS R l) nv' ov _ ds := hG
  have hbG := hbF.upd uFG (fun e => hqX e.symm)
  have kpG : Kp base wF wG := kp_kind uFG fun b hb => by subst hb; exact ⟨hF.bq, _, ⟨_, hF.obj⟩, by decide⟩
  have hpG := hpF.keep kpG
  have u1G : Upd (fun b => b = q) w1 wG := (u1F.mono (fun _ _ h => h.elim)).trans uFG (fun _ _ h => h)
  simp (disch := omega) only [push_cast, Nat.reduceBEq, Nat.reduceEqDiff, Nat.reduceAdd, Nat.reduceMul, Nat.reduceSub, Nat.reduceLT, Int.reduceToNat, Int.reduceLT, Int.reduceLE, Int.reduceEq, Int.reduceAdd, Int.reduceSub, Int.reduceNeg, Int.reduceMul]
  subst hKs
  rw [KS_nor]
  have bsl_pk0 : ∀ w : World, bslS Try.prog 35 0 #[] w = some (.slice (some ⟨w.heap.size, 0, none⟩) 0 0, w.alloc (.cells #[] 46 (0, 0))) := fun w => by kernel_rfl
  rw [W_seq]
  generalize hKs : KS _ _ _ _ _ = Ks
  simp (disch := omega) only [push_cast, Nat.reduceBEq, Nat.reduceEqDiff, Nat.reduceAdd, Nat.reduceMul, Nat.reduceSub, Nat.reduceLT, Int.reduceToNat, Int.reduceLT, Int.reduceLE, Int.reduceEq, Int.reduceAdd, Int.reduceSub, Int.reduceNeg, Int.reduceMul, bsl_pk0]
  have uH : Upd (fun _ => False) wG (wG.alloc (.cells #[] 46 (0, 0))) := Upd.alloc
  have hoH : OwnK base w.heap.size (wG.alloc (.cells #[] 46 (0, 0))) (.slice (some ⟨wG.heap.size, 0, none⟩) 0 0) [] := ⟨[], rfl, ⟨rfl, .inr ⟨_, 0, #[], rfl, by have := u1G.size; omega, Blk.new (cs := []), Nat.le_refl _, Nat.zero_le _, rfl, rfl⟩⟩, fun z hz => by cases hz⟩
  have s1G := u1G.size
  subst hKs
  rw [KS_nor]
  simp (disch := omega) only [push_cast, Nat.reduceBEq, Nat.reduceEqDiff, Nat.reduceAdd, Nat.reduceMul, Nat.reduceSub, Nat.reduceLT, Int.reduceToNat, Int.reduceLT, Int.reduceLE, Int.reduceEq, Int.reduceAdd, Int.reduceSub, Int.reduceNeg, Int.reduceMul]
  have hXG := hbG.lt
  have hbb := hG.bq
  have hql := h1.obj.lt
  refine loop_inv (I := fun k st w' => Bx (∃ (i : Nat) (pv : Value), k + i = R.n ∧ st = [pv, .int .i64 (i : Int)] ∧ Upd (fun _ => False) wG w' ∧ OwnK base w.heap.size w' pv (bcO R l i) ∧ ∀ g, pv.ownBlock = some g → wG.heap.size ≤ g) ⟨⟩) ?_ R.n ⟨0, _, rfl, rfl, uH, hoH, fun g hg => by simp [Value.ownBlock] at hg; omega⟩
  clear uH hoH
  rintro k st w5 ⟨i, pv, hk, rfl, hu5, ho, hg⟩
  have h5 := hG.quiet hu5
  have c5 := hbG.upd hu5 (fun h => h)
  have d0 := h5.obj.cell 0
  have d1 := h5.obj.cell 1
  simp only [List.cons_append, List.nil_append, List.getElem?_cons_succ, List.getElem?_cons_zero] at d0 d1
  have rn1 : (rbS R l).n = R.n := rfl
  have rn2 : (rbS R l).self = R.self := rfl
  rw [rn1] at d0
  rw [rn2] at d1
  by_cases hk0 : k = 0
  · obtain rfl : i = R.n := by omega
    obtain ⟨oa, oc, rfl⟩ := ho.form
    simp (disch := omega) only [push_cast, Nat.reduceBEq, Nat.reduceEqDiff, Nat.reduceAdd, Nat.reduceMul, Nat.reduceSub, Nat.reduceLT, Int.reduceToNat, Int.reduceLT, Int.reduceLE, Int.reduceEq, Int.reduceAdd, Int.reduceSub, Int.reduceNeg, Int.reduceMul, d0]
    refine Ok.use (rdeliver_ok h5 hd (by show R.list.length + (insN _ _ R.notes).length < _; rw [insN_length]; omega) ?_ ?_) ?_
    · intro k x hx j hj
      simp only [rbS, insN_find hfr] at hx
      split at hx
      · injection hx with hx
        rw [← hx] at hj
        rw [tw_bit hj]
        exact hsn
      · exact hbt k x hx j hj
    · intro k x hx
      simp only [rbS, insN_find hfr] at hx
      split at hx
      · injection hx with hx
        rw [← hx]; exact hl
      · exact hnl k x hx
    rintro v w6 ⟨R', ov', ds', hrun, h6, hu6, hf6⟩
    simp (disch := omega) only [push_cast, Nat.reduceBEq, Nat.reduceEqDiff, Nat.reduceAdd, Nat.reduceMul, Nat.reduceSub, Nat.reduceLT, Int.reduceToNat, Int.reduceLT, Int.reduceLE, Int.reduceEq, Int.reduceAdd, Int.reduceSub, Int.reduceNeg, Int.reduceMul]
    refine ⟨R', nv', ov', _, ds', hrun, h6, ?_, fun g hg' => ?_, fun g hg' => (hf6 g hg').imp id (fun h => by have := hu5.size; omega), ho.upd hu6 (fun g hg' hF' => ?_) (kp_kind hu6 fun b hb => ?_)⟩
    · refine (((u1.mono (fun _ _ h => .inl h)).trans u1G (fun _ _ h => .inl h)).trans hu5 (fun _ _ h => h.elim)).trans hu6 (fun b _ h => ?_)
      rcases h with h | h
      · exact .inl h
      · exact .inr (.inr h)
    · have := hfG g hg'
      have := u1F.size
      exact .inr (by omega)
    · have := hg g hg'
      rcases hF' with h | h
      · omega
      · have := (own_ge hG.own h).2; omega
    · rcases hb with rfl | hb
      · exact ⟨h5.bq, _, ⟨_, h5.obj⟩, by decide⟩
      · exact ⟨(own_ge h5.own hb).1, _, own_ty h5.own hb, by decide⟩
  have hi : i < R.n := by omega
  by_cases hs : i = R.self
  · simp (disch := omega) only [push_cast, Nat.reduceBEq, Nat.reduceEqDiff, Nat.reduceAdd, Nat.reduceMul, Nat.reduceSub, Nat.reduceLT, Int.reduceToNat, Int.reduceLT, Int.reduceLE, Int.reduceEq, Int.reduceAdd, Int.reduceSub, Int.reduceNeg, Int.reduceMul, d0, d1, hs]
    refine ⟨k - 1, by omega, i + 1, _, by omega, by simp [hs], hu5, ?_, hg⟩
    rw [bcO_succ, if_pos hs, List.append_nil]
    exact ho
  · have hs' : ¬ (i : Int) = (R.self : Int) := by omega
    simp (disch := omega) only [push_cast, Nat.reduceBEq, Nat.reduceEqDiff, Nat.reduceAdd, Nat.reduceMul, Nat.reduceSub, Nat.reduceLT, Int.reduceToNat, Int.reduceLT, Int.reduceLE, Int.reduceEq, Int.reduceAdd, Int.reduceSub, Int.reduceNeg, Int.reduceMul, d0, d1, hs', ld_blk (P := Try.prog) (t := 87) c5 (by kernel_rfl) (by kernel_rfl)]
    have hpk := rpacket_ok h5.obj 1 (i : Int) (⟨((R.self : Int), (R.made : Int) + 1), l, BitVec.twoPow 16 R.self⟩, .slice va l.length vc) (hpG.keep (Kp.quiet hu5)) hl (by have := hu5.size; omega)
    refine Ok.use hpk ?_
    rintro v w6 ⟨pv6, rfl, hpv6, hu6⟩
    rw [if_pos rfl] at hpv6 ⊢
    obtain ⟨qa, qc, rfl⟩ := hpv6.form
    have ho6 := ho.quiet hu6
    unfold pkV pkC
    simp (disch := omega) only [push_cast, Nat.reduceBEq, Nat.reduceEqDiff, Nat.reduceAdd, Nat.reduceMul, Nat.reduceSub, Nat.reduceLT, Int.reduceToNat, Int.reduceLT, Int.reduceLE, Int.reduceEq, Int.reduceAdd, Int.reduceSub, Int.reduceNeg, Int.reduceMul, bsl_pk, rn2]
    have hu7 : Upd (fun _ => False) w6 (w6.alloc (.cells (pkC (⟨1, R.self, i, R.self, (R.made : Int) + 1, l⟩, .slice qa l.length qc)).toArray 46 (0, 0))) := Upd.alloc
    have hb7 := Blk.new (w := w6) (cs := pkC (⟨1, R.self, i, R.self, (R.made : Int) + 1, l⟩, .slice qa l.length qc)) (E := 46)
    have s67 := hu6.size
    have s45 := hu5.size
    have s77 := hu7.size
    have hn12 : R.n ≤ 12 := h.n12
    refine app_pk (z := (⟨1, R.self, i, R.self, (R.made : Int) + 1, l⟩, .slice qa l.length qc)) (ho6.quiet hu7) (hpv6.keep (Kp.quiet hu7)) (by omega) (by omega) (by have := @bcO_length R l i; omega) hb7 ?_
    intro v' w8 h8 hu8 hf8
    simp (disch := omega) only [push_cast, Nat.reduceBEq, Nat.reduceEqDiff, Nat.reduceAdd, Nat.reduceMul, Nat.reduceSub, Nat.reduceLT, Int.reduceToNat, Int.reduceLT, Int.reduceLE, Int.reduceEq, Int.reduceAdd, Int.reduceSub, Int.reduceNeg, Int.reduceMul]
    refine ⟨k - 1, by omega, i + 1, v', by omega, by simp, ?_, ?_, ?_⟩
    · exact ((hu5.trans hu6 (fun _ _ h => h)).trans hu7 (fun _ _ h => h)).trans hu8 (fun b h1 h2 => by have := hg b h2; omega)
    · rw [bcO_succ, if_neg hs]
      exact h8
    · intro g hg'
      rcases hf8 g hg' with h | h
      · exact hg g h
      · omega
end Go.Proofs.Ytpgfokhpacdhjaa.Fd
