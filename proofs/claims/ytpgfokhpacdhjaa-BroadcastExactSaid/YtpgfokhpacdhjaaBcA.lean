/-
  The law's world: send, remove.
-/
import Derived.Test.YtpgfokhpacdhjaaBc7
import Derived.Test.YtpgfokhpacdhjaaBc8
import Derived.Test.YtpgfokhpacdhjaaBc9
namespace Go.Proofs.Ytpgfokhpacdhjaa.Fd
set_option linter.unusedSimpArgs false
set_option linter.unusedVariables false
open Go Go.ChangeMaps
set_option maxRecDepth 100000

abbrev tW : TypeId := 37
theorem OwnK.get {base B : Nat} {w : World} {v : Value} {ps : List Pk} (h : OwnK base B w v ps) {i : Nat} {z : Pk} (hz : ps[i]? = some z) :
    ∃ g cap pv, v = .slice (some ⟨g, 0, none⟩) ps.length cap ∧ v.ownBlock = some g ∧ PB base w pv z.l ∧ ∀ r, r < 6 → w.cell? ⟨g, i * 6 + r, none⟩ = (pkC (z, pv))[r]? := by
  obtain ⟨zs, rfl, h2, h3⟩ := h
  rw [List.getElem?_map] at hz
  cases hj : zs[i]? with
  | none => rw [hj] at hz; cases hz
  | some y =>
    rw [hj] at hz
    injection hz with hz
    subst hz
    obtain ⟨g, cap, h4, h5, h6⟩ := own_cell (s := 6) (f := pkC) (fun _ => rfl) (own_to0 h2) hj
    exact ⟨g, cap, y.2, by rw [List.length_map]; exact h4, h5, h3 y (List.mem_of_getElem? hj), fun r hr => h6 r hr⟩
set_option maxHeartbeats 2000000 in
theorem send_ok {base B n : Nat} {w : World} {a : Nat} {allV sentV downV uv lv : Value} {under ps : List Pk} (ho : Blk w a [allV, sentV, downV, uv] tW) (hal : ∃ aa ac, allV = .slice aa n ac) (hu : OwnK base base w uv under) (hl : OwnK base B w lv ps)
    (hd : ∀ g, lv.ownBlock = some g → uv.ownBlock ≠ some g) (ba : base ≤ a) (fr : Int) (hps : ∀ z, z ∈ ps → z.f = fr ∧ 0 ≤ z.t ∧ z.t < n) (hsz : under.length + ps.length < 1000000) (hn : n ≤ 12) :
    Ok (den Try.prog 27 #[.pointer (some ⟨a, 0, none⟩), .int .i64 fr, lv] w) fun v w' => v = .bool true ∧ ∃ uv', Blk w' a [allV, sentV, downV, uv'] tW ∧ OwnK base base w' uv' (under ++ ps) ∧ Upd (fun b => b = a ∨ uv.ownBlock = some b) w w' ∧
      (∀ g, uv'.ownBlock = some g → uv.ownBlock = some g ∨ w.heap.size ≤ g) := by
  obtain ⟨aa, ac, rfl⟩ := hal
  obtain ⟨la, lc, rfl⟩ := hl.form
  refine den_ok (args := [.pointer (some ⟨a, 0, none⟩), .int .i64 fr, .slice la ps.length lc]) rs27 Try.func27 rfl mixed in27 ok27 rfl ?_
  simp (disch := omega) only [push_cast, Nat.reduceBEq, Nat.reduceEqDiff, Nat.reduceAdd, Nat.reduceMul, Nat.reduceSub, Nat.reduceLT, Int.reduceToNat, Int.reduceLT, Int.reduceLE, Int.reduceEq, Int.reduceAdd, Int.reduceSub, Int.reduceNeg, Int.reduceMul]
  refine loop_inv (I := fun k st w' => Bx (∃ (i : Nat) (uv' : Value), k + i = ps.length ∧ st = [.int .i64 (i : Int)] ∧ Blk w' a [.slice aa n ac, sentV, downV, uv'] tW ∧ OwnK base base w' uv' (under ++ ps.take i) ∧ Upd (fun b => b = a ∨ uv.ownBlock = some b) w w' ∧
      (∀ g, uv'.ownBlock = some g → uv.ownBlock = some g ∨ w.heap.size ≤ g)) ⟨⟩) ?_ ps.length ⟨0, uv, rfl, rfl, ho, by simpa using hu, Upd.refl, fun g hg => .inl hg⟩
  rintro k st w1 ⟨i, uv1, hk, rfl, ho1, hu1, hup, hf1⟩
  by_cases hk0 : k = 0
  · obtain rfl : i = ps.length := by omega
    simp (disch := omega) only [push_cast, Nat.reduceBEq, Nat.reduceEqDiff, Nat.reduceAdd, Nat.reduceMul, Nat.reduceSub, Nat.reduceLT, Int.reduceToNat, Int.reduceLT, Int.reduceLE, Int.reduceEq, Int.reduceAdd, Int.reduceSub, Int.reduceNeg, Int.reduceMul]
    rw [List.take_length] at hu1
    exact ⟨uv1, ho1, hu1, hup, hf1⟩
  have hi : i < ps.length := by omega
  have halt := ho.lt
  have hns : ∀ b, (b = a ∨ uv.ownBlock = some b) → ¬ Still base w b := by
    rintro b (rfl | hb)
    · rintro ⟨_, h | ⟨cs, fz, h⟩⟩
      · omega
      · have h9 := ho; unfold Blk at h9; rw [h9] at h; cases h
    · exact hu.still (Nat.le_refl _) hb
  have hla : ∀ g, (Value.slice la ps.length lc).ownBlock = some g → ¬ (g = a ∨ uv.ownBlock = some g) := by
    rintro g hg (rfl | h)
    · obtain ⟨cs, hb⟩ := hl.ty hg
      exact absurd (hb.ty ho) (by decide)
    · exact hd g hg h
  have hl1 := hl.upd hup hla (Kp.of_upd hup hns)
  have hzi := List.getElem?_eq_getElem hi
  obtain ⟨hz1, hz2, hz3⟩ := hps _ (List.getElem_mem hi)
  generalize ps[i] = z at *
  obtain ⟨g, cap, pv, hv, hgo, hpv, hcell⟩ := hl1.get hzi
  injection hv with e1 e2 e3
  subst e1
  subst e3
  obtain ⟨qa, qc, rfl⟩ := hpv.form
  have q0 := hcell 0 (by omega)
  have q1 := hcell 1 (by omega)
  have q2 := hcell 2 (by omega)
  have q3 := hcell 3 (by omega)
  have q4 := hcell 4 (by omega)
  have q5 := hcell 5 (by omega)
  simp only [pkC, List.getElem?_cons_succ, List.getElem?_cons_zero, Nat.add_zero] at q0 q1 q2 q3 q4 q5
  obtain ⟨zk, zf, zt, zo, zn, zl⟩ := z
  simp only at *
  subst hz1
  have hz2' : ¬ zt < 0 := by omega
  have hz3' : ¬ (n : Int) ≤ zt := by omega
  obtain ⟨ua, uc, rfl⟩ := hu1.form
  have hgl : g < w1.heap.size := (hl1.ge hgo).2
  have hal1 := ho1.lt
  have ho2 := ho1.alloc (.cells [.int .i64 zk, .int .i64 zf, .int .i64 zt, .int .i64 zo, .int .i64 zn, .slice qa zl.length qc].toArray 46 (0, 0))
  have u2 : Upd (fun _ => False) w1 (w1.alloc (.cells [.int .i64 zk, .int .i64 zf, .int .i64 zt, .int .i64 zo, .int .i64 zn, .slice qa zl.length qc].toArray 46 (0, 0))).drew.drew := Upd.alloc.drew'.drew'
  have hb2 := (Blk.new (w := w1) (cs := pkC (⟨zk, zf, zt, zo, zn, zl⟩, .slice qa zl.length qc)) (E := 46)).drew.drew
  simp (disch := omega) only [push_cast, Nat.reduceBEq, Nat.reduceEqDiff, Nat.reduceAdd, Nat.reduceMul, Nat.reduceSub, Nat.reduceLT, Int.reduceToNat, Int.reduceLT, Int.reduceLE, Int.reduceEq, Int.reduceAdd, Int.reduceSub, Int.reduceNeg, Int.reduceMul, q0, q1, q2, q3, q4, q5, hz2', hz3', ho1.cell, bsl_pk, ho2.cell]
  have bW : base ≤ w1.heap.size := by omega
  have htl : (ps.take i).length = i := by rw [List.length_take]; omega
  have s01 := hup.size
  have s12 := u2.size
  refine app_pk (z := (⟨zk, zf, zt, zo, zn, zl⟩, .slice qa zl.length qc)) (hu1.quiet u2) (hpv.keep (Kp.quiet u2)) (Nat.le_refl _) (by omega) (by rw [List.length_append]; omega) hb2 ?_
  intro v' w3 hu3 hup3 hf3
  obtain ⟨va, vc, rfl⟩ := hu3.form
  have ha1 : ¬ (Value.slice ua (under ++ List.take i ps).length uc).ownBlock = some a := fun e => by
    obtain ⟨cs, hb⟩ := hu1.ty e
    exact absurd (hb.ty ho1) (by decide)
  have ho3 := ho2.drew.drew.upd hup3 ha1
  have ha3 : ∀ g, (Value.slice va (under ++ List.take i ps ++ [(⟨zk, zf, zt, zo, zn, zl⟩ : Pk)]).length vc).ownBlock = some g → g ≠ a := fun g hg e => by
    obtain ⟨cs, hb⟩ := hu3.ty hg
    rw [e] at hb
    exact absurd (hb.ty ho3) (by decide)
  clear ho2 hb2
  generalize (w1.alloc (.cells [.int .i64 zk, .int .i64 zf, .int .i64 zt, .int .i64 zo, .int .i64 zn, .slice qa zl.length qc].toArray 46 (0, 0))).drew.drew = w2 at *
  generalize hlen : (under ++ List.take i ps ++ [(⟨zk, zf, zt, zo, zn, zl⟩ : Pk)]).length = LN at *
  simp (disch := omega) only [push_cast, Nat.reduceBEq, Nat.reduceEqDiff, Nat.reduceAdd, Nat.reduceMul, Nat.reduceSub, Nat.reduceLT, Int.reduceToNat, Int.reduceLT, Int.reduceLE, Int.reduceEq, Int.reduceAdd, Int.reduceSub, Int.reduceNeg, Int.reduceMul, ho3.cell, ho3.free, ho1.cell]
  have u4 : Upd (fun b => b = a) w3 (w3.setCell ⟨a, 3, none⟩ (.slice va LN vc)) := Upd.set rfl
  refine ⟨k - 1, by omega, i + 1, .slice va LN vc, by omega, by simp, ho3.set 3 _, ?_, ?_, ?_⟩
  · have e : under ++ List.take (i + 1) ps = under ++ List.take i ps ++ [(⟨zk, zf, zt, zo, zn, zl⟩ : Pk)] := by
      rw [List.append_assoc, List.take_add_one, hzi]; rfl
    rw [e]
    exact hu3.upd u4 ha3 (kp_new u4 ho3 (by decide) ba)
  · refine ((hup.trans u2 (fun _ _ h => h.elim)).trans hup3 (fun b h1 h2 => ?_)).trans u4 (fun b _ h => .inl h)
    rcases hf1 b h2 with h | h
    · exact .inr h
    · omega
  · intro g hg
    rcases hf3 g hg with h | h
    · exact hf1 g h
    · omega
end Go.Proofs.Ytpgfokhpacdhjaa.Fd
