/-
  Delivered.
-/
import Derived.Test.YtpgfokhpacdhjaaBc5
namespace Go.Proofs.Ytpgfokhpacdhjaa.Fd
set_option linter.unusedSimpArgs false
set_option linter.unusedVariables false
open Go Go.ChangeMaps
set_option maxRecDepth 100000

theorem bin_nilD {ox oy : Operand} {a : Option Addr} {n c : Nat} {w : World} : binS Try.prog .eql 59 ox oy (.slice a n c) (.slice none 0 0) w = some (.bool a.isNone, w) := bin_eqlN (by kernel_rfl)
theorem bsl_dl0 (w : World) : bslS Try.prog 59 0 #[] w = some (.slice (some ⟨w.heap.size, 0, none⟩) 0 0, w.alloc (.cells #[] 69 (0, 0))) := by kernel_rfl
theorem own_src {P : Program} {w : World} {t e E : TypeId} (hk : P.underlying t = some (.slice e)) {B s n : Nat} {v : Value} {xs : List Value} (h : w.ownsRow B E s v n xs) (h1 : ∀ u ∈ xs, u.oneCell' = true) : Src P s t v n xs w := by
  rcases id h.2 with ⟨rfl, rfl⟩ | ⟨g, cap, cur, rfl, _⟩
  · have : xs = [] := List.eq_nil_of_length_eq_zero (by simpa using h.1)
    subst this
    exact Src.ofNil w hk 0
  · exact Src.ofSlice w hk ⟨g, 0, none⟩ n cap xs h.1 (h.cells (g := g) rfl) h1
theorem dl_one {base : Nat} {w : World} {ds : List (NP × Value)} {list : List (NP × List Int)} (h : LsR base w ds list) : ∀ u ∈ ds.flatMap dlC, u.oneCell' = true := by
  intro u hu
  obtain ⟨d, hd, hu⟩ := List.mem_flatMap.1 hu
  obtain ⟨j, hj⟩ := List.getElem?_of_mem hd
  obtain ⟨l, _, hl⟩ := h.2 j d hj
  simp [dlC] at hu
  rcases hu with rfl | rfl | rfl
  · rfl
  · rfl
  · exact hl.one
def OwnD (base B : Nat) (w : World) (v : Value) (list : List (NP × List Int)) : Prop := ∃ ds, w.ownsRow B 69 3 v ds.length (ds.flatMap dlC) ∧ LsR base w ds list
theorem cloneD_ok {base B : Nat} {w : World} {v : Value} {ds : List (NP × Value)} {list : List (NP × List Int)} (h : w.ownsRow B 69 3 v ds.length (ds.flatMap dlC)) (hl : LsR base w ds list) (hn : ds.length ≤ 1000000) :
    Ok (den Try.prog 41 #[v] w) fun u w' => w'.ownsRow w.heap.size 69 3 u ds.length (ds.flatMap dlC) ∧ Upd (fun _ => False) w w' := by
  obtain ⟨a, c, rfl⟩ := own_slice h
  refine den_ok (args := [.slice a ds.length c]) rs41 Try.func41 rfl mixed in41 ok41 rfl ?_
  cases a with
  | none =>
    simp (disch := omega) only [push_cast, Nat.reduceBEq, Nat.reduceEqDiff, Nat.reduceAdd, Nat.reduceMul, Nat.reduceSub, Nat.reduceLT, Int.reduceToNat, Int.reduceLT, Int.reduceLE, Int.reduceEq, Int.reduceAdd, Int.reduceSub, Int.reduceNeg, Int.reduceMul, bin_nilD]
    refine ⟨?_, Upd.refl⟩
    rcases h.2 with ⟨_, h0⟩ | ⟨g, cap, cur, h0, _⟩
    · have : ds = [] := List.eq_nil_of_length_eq_zero h0
      subst this
      exact ⟨rfl, .inl ⟨rfl, rfl⟩⟩
    · cases h0
  | some a =>
    simp (disch := omega) only [push_cast, Nat.reduceBEq, Nat.reduceEqDiff, Nat.reduceAdd, Nat.reduceMul, Nat.reduceSub, Nat.reduceLT, Int.reduceToNat, Int.reduceLT, Int.reduceLE, Int.reduceEq, Int.reduceAdd, Int.reduceSub, Int.reduceNeg, Int.reduceMul, bin_nilD, bsl_dl0]
    have h2 := own_updB h (Upd.alloc (F := fun _ => False) (o := .cells #[] 69 (0, 0))) (fun _ _ h => h)
    have u1 : Upd (fun _ => False) w (w.alloc (.cells #[] 69 (0, 0))) := Upd.alloc
    have b1 := Blk.new (w := w) (cs := []) (E := 69)
    have hown : (w.alloc (.cells #[] 69 (0, 0))).ownsRow 0 69 3 (.slice (some ⟨w.heap.size, 0, none⟩) 0 0) 0 [] := ⟨rfl, .inr ⟨w.heap.size, 0, #[], rfl, Nat.zero_le _, b1, Nat.le_refl _, Nat.zero_le _, rfl, rfl⟩⟩
    refine app_src (s := 3) (by_ := 40) t59_e t69_s t69_b t69_z rfl (by omega) hown (own_src (Try.underlying59) h2 (dl_one hl)) (by omega) (by unfold maxLen; omega) ?_
    intro v' w' h3 h4 h5
    rw [List.nil_append, Nat.zero_add] at h3
    simp (disch := omega) only [push_cast, Nat.reduceBEq, Nat.reduceEqDiff, Nat.reduceAdd, Nat.reduceMul, Nat.reduceSub, Nat.reduceLT, Int.reduceToNat, Int.reduceLT, Int.reduceLE, Int.reduceEq, Int.reduceAdd, Int.reduceSub, Int.reduceNeg, Int.reduceMul]
    refine ⟨own_ofB h3 fun g hg => ?_, u1.trans h4 (fun b h1 h2 => by simp [Value.ownBlock] at h2; omega)⟩
    rcases h5 g hg with h | h
    · simp [Value.ownBlock] at h; omega
    · have := u1.size; omega
theorem dl_set {ds : List (NP × Value)} {i : Nat} {d : NP × Value} (h : ds[i]? = some d) (u : Value) : (ds.flatMap dlC).set (i * 3 + 2) u = (ds.set i (d.1, u)).flatMap dlC := by
  induction ds generalizing i with
  | nil => simp at h
  | cons x r ih =>
    cases i with
    | zero =>
      simp at h
      subst h
      simp [dlC]
    | succ i =>
      have ih' := ih (i := i) (by simpa using h)
      rw [List.set_cons_succ, List.flatMap_cons, List.flatMap_cons, ← ih']
      rw [List.set_append_right _ _ (by simp [dlC]; omega)]
      congr 2
      simp [dlC]
      omega
set_option maxHeartbeats 1000000 in
theorem Delivered_ok {base : Nat} {w : World} {p : Nat} {S : PS} {mb db : Nat} {lv : Value} {m ds : List (NP × Value)} (h : PA base w p S mb db lv m ds) (hb : S.list.length ≤ 1000000) (hl : ∀ x ∈ S.list, x.2.length ≤ 140737488355328) :
    Ok (den Try.prog 23 #[.pointer (some ⟨p, 0, none⟩)] w) fun v w' => OwnD base w.heap.size w' v S.list ∧ Upd (fun _ => False) w w' := by
  refine den_ok (args := [.pointer (some ⟨p, 0, none⟩)]) rs23 Try.func23 rfl mixed in23 ok23 rfl ?_
  have hdl : ds.length ≤ 1000000 := by rw [h.lst.1]; exact hb
  have hpl := h.obj.lt
  have hpb := h.b1
  simp (disch := omega) only [push_cast, Nat.reduceBEq, Nat.reduceEqDiff, Nat.reduceAdd, Nat.reduceMul, Nat.reduceSub, Nat.reduceLT, Int.reduceToNat, Int.reduceLT, Int.reduceLE, Int.reduceEq, Int.reduceAdd, Int.reduceSub, Int.reduceNeg, Int.reduceMul, h.obj.cell]
  refine Ok.use (cloneD_ok h.own h.lst hdl) ?_
  rintro v w1 ⟨h1, hu1⟩
  obtain ⟨a, c, rfl⟩ := own_slice h1
  have hls1 := h.lst.keep (Kp.quiet hu1)
  simp (disch := omega) only [push_cast, Nat.reduceBEq, Nat.reduceEqDiff, Nat.reduceAdd, Nat.reduceMul, Nat.reduceSub, Nat.reduceLT, Int.reduceToNat, Int.reduceLT, Int.reduceLE, Int.reduceEq, Int.reduceAdd, Int.reduceSub, Int.reduceNeg, Int.reduceMul]
  refine loop_inv (I := fun k st w' => Bx (∃ (i : Nat) (ds' : List (NP × Value)), k + i = ds.length ∧ st = [.int .i64 (i : Int)] ∧ Upd (fun _ => False) w w' ∧ w'.ownsRow w.heap.size 69 3 (.slice a ds.length c) ds'.length (ds'.flatMap dlC) ∧ ds'.length = ds.length ∧ LsR base w' ds' S.list) ⟨⟩) ?_ ds.length ⟨0, ds, rfl, rfl, hu1, h1, rfl, hls1⟩
  clear h1
  rintro k st w2 ⟨i, ds', hk, rfl, hu2, h2, hlen, hls⟩
  by_cases hk0 : k = 0
  · obtain rfl : i = ds.length := by omega
    simp (disch := omega) only [push_cast, Nat.reduceBEq, Nat.reduceEqDiff, Nat.reduceAdd, Nat.reduceMul, Nat.reduceSub, Nat.reduceLT, Int.reduceToNat, Int.reduceLT, Int.reduceLE, Int.reduceEq, Int.reduceAdd, Int.reduceSub, Int.reduceNeg, Int.reduceMul]
    exact ⟨⟨ds', h2, hls⟩, hu2⟩
  have hi : i < ds.length := by omega
  have hgi : ds'[i]? = some ds'[i] := List.getElem?_eq_getElem (by omega)
  obtain ⟨l, hli, hpv⟩ := hls.2 i _ hgi
  generalize ds'[i] = d at *
  obtain ⟨⟨x, y⟩, pv⟩ := d
  obtain ⟨g, cap, hga, hgo, hcell⟩ := own_cell (s := 3) (f := dlC) (fun _ => rfl) (own_to0 h2) hgi
  injection hga with e1 e2 e3
  subst e1
  subst e3
  have hc2 := hcell 2 (by omega)
  simp only [dlC, List.getElem?_cons_succ, List.getElem?_cons_zero] at hc2
  obtain ⟨qa, qc, hq⟩ := hpv.form
  simp only at hq
  subst hq
  have hfz : ∀ j, w2.frozen? ⟨g, j, none⟩ = false := fun j => by rw [← hlen] at h2; exact h2.frozenAt j
  have hli2 := hl _ (List.mem_of_getElem? hli)
  simp (disch := omega) only [push_cast, Nat.reduceBEq, Nat.reduceEqDiff, Nat.reduceAdd, Nat.reduceMul, Nat.reduceSub, Nat.reduceLT, Int.reduceToNat, Int.reduceLT, Int.reduceLE, Int.reduceEq, Int.reduceAdd, Int.reduceSub, Int.reduceNeg, Int.reduceMul, hc2]
  refine Ok.use (clone_ok hpv hli2) ?_
  rintro v w3 ⟨hv3, hu3⟩
  obtain ⟨va, vc, rfl⟩ := hv3.form
  have h3 := own_updB h2 hu3 (fun _ _ h => h)
  have hls3 := hls.keep (Kp.quiet hu3)
  obtain ⟨g', cap', hga', _, hcell'⟩ := own_cell (s := 3) (f := dlC) (fun _ => rfl) (own_to0 h3) hgi
  injection hga' with e1' e2' e3'
  simp only [Option.some.injEq, Addr.mk.injEq, and_true] at e1'
  subst e1'
  have hc3 := hcell' 2 (by omega)
  simp only [dlC, List.getElem?_cons_succ, List.getElem?_cons_zero] at hc3
  have hfz3 : w3.frozen? ⟨g, i * 3 + 2, none⟩ = false := by rw [← hlen] at h3; exact h3.frozenAt _
  simp (disch := omega) only [push_cast, Nat.reduceBEq, Nat.reduceEqDiff, Nat.reduceAdd, Nat.reduceMul, Nat.reduceSub, Nat.reduceLT, Int.reduceToNat, Int.reduceLT, Int.reduceLE, Int.reduceEq, Int.reduceAdd, Int.reduceSub, Int.reduceNeg, Int.reduceMul, hc3, hfz3]
  have hst := (by rw [← hlen] at h3; exact h3.stored (i * 3 + 2) (.slice va l.length vc))
  obtain ⟨hst, hgr⟩ := hst
  have us := Upd.grown (F := fun b => b = g) hgr (fun k hk => by injection hk with hk; exact hk.symm)
  have hgge : w.heap.size ≤ g ∧ g < w3.heap.size := own_ge h3 rfl
  have kp : Kp base w3 (w3.setCell ⟨g, i * 3 + 2, none⟩ (.slice va l.length vc)) := Kp.of_upd us fun b hb hs => by
    subst hb
    rcases hs.2 with hq | ⟨cs, fz, hq⟩
    · omega
    · obtain ⟨cs', hq'⟩ := own_ty h3 (g := b) rfl
      unfold Blk at hq'
      rw [hq'] at hq; cases hq
  rw [dl_set hgi] at hst
  refine ⟨k - 1, by omega, i + 1, ds'.set i ((x, y), .slice va l.length vc), by omega, by simp, (hu2.trans hu3 (fun _ _ h => h)).trans us (fun b h1 h2 => by omega), ?_, by rw [List.length_set]; exact hlen, ⟨by rw [List.length_set]; exact hls.1, fun j d hj => ?_⟩⟩
  · rw [List.length_set]
    rw [hlen] at hst ⊢
    exact hst
  · rw [List.getElem?_set] at hj
    split at hj
    · rename_i e
      subst e
      rw [if_pos (by omega)] at hj
      injection hj with hj
      subst hj
      exact ⟨l, hli, hv3.keep kp⟩
    · obtain ⟨l', e1, e2⟩ := hls3.2 j d hj
      exact ⟨l', e1, e2.keep kp⟩
end Go.Proofs.Ytpgfokhpacdhjaa.Fd
