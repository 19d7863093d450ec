/-
  ChainCover.
-/
import Derived.Test.YtfjccccfkpgmgaaOrR
namespace Go.Proofs.Ytfjccccfkpgmgaa.Fd
set_option linter.unusedSimpArgs false
set_option linter.unusedVariables false
open Go
set_option maxRecDepth 100000

def SlL (w : World) (v : Value) (css : List (List Nat)) : Prop :=
  ∃ a c, v = .slice a css.length c ∧ (css ≠ [] → ∃ b o, a = some ⟨b, o, none⟩ ∧ b < w.heap.size ∧ ∀ j ch, css[j]? = some ch → ∃ u, w.cell? ⟨b, o + j, none⟩ = some u ∧ SlI w u (toI ch))
theorem SlL.of_own {w : World} {v : Value} {vs : List Value} {css : List (List Nat)} (h : w.ownsRow 0 26 1 v vs.length vs) (hl : vs.length = css.length)
    (hs : ∀ (j : Nat) u c, vs[j]? = some u → css[j]? = some c → SlI w u (toI c)) : SlL w v css := by
  rcases id h.2 with ⟨rfl, h0⟩ | ⟨g, cap, cur, hv, _, hg, _⟩
  · have : css = [] := List.eq_nil_of_length_eq_zero (by omega)
    subst this
    exact ⟨none, 0, rfl, fun h => absurd rfl h⟩
  · refine ⟨_, cap, by rw [← hl]; exact hv, fun _ => ⟨g, 0, rfl, (Array.getElem?_eq_some_iff.1 hg).1, fun j c hj => ?_⟩⟩
    have hlt := (List.getElem?_eq_some_iff.1 hj).1
    have hu := List.getElem?_eq_getElem (l := vs) (i := j) (by omega)
    generalize vs[j]'(by omega) = u at hu
    obtain ⟨g', cap', hv', _, hc⟩ := own_cell (s := 1) (f := fun x : Value => [x]) (fun _ => rfl) (v := v) (E := 26) (by rw [flat_one (f := fun x : Value => x), List.map_id']; exact h) hu
    rw [hv] at hv'
    injection hv' with e1 _ _
    injection e1 with e1
    injection e1 with e1
    subst e1
    have h0 := hc 0 (by omega)
    simp only [List.getElem?_cons_zero, Nat.add_zero, Nat.mul_one] at h0
    exact ⟨u, by rw [Nat.zero_add]; exact h0, hs j u c hu hj⟩
theorem SlI.updF {w w' : World} {F : Nat → Prop} {v : Value} {l : List Int} (h : SlI w v l) (hu : Upd F w w') (hF : ∀ g, v.ownBlock = some g → ¬ F g) : SlI w' v l := by
  obtain ⟨a, c, hv, hl⟩ := h
  refine ⟨a, c, hv, fun h0 => ?_⟩
  obtain ⟨b, o, h1, h2, h3⟩ := hl h0
  have e := hu.block b h2 (hF b (by rw [hv, h1]; rfl))
  exact ⟨b, o, h1, Nat.lt_of_lt_of_le h2 hu.size, fun j x hj => by rw [World.cell?_of_block e]; exact h3 j x hj⟩
/-- One more slice of ints at the end of an owned row. -/
theorem app_sli {w : World} {v x : Value} {vs : List Value} (hown : w.ownsRow 0 26 1 v vs.length vs) (hlen : vs.length < 1000000) {b c : Nat} {ty : TypeId} (hx : x.oneCell' = true)
    (hb : Blk w b [x] 26) {K : Value × World → Prop} (hk : ∀ v' w', w'.ownsRow 0 26 1 v' (vs ++ [x]).length (vs ++ [x]) → Upd (fun b => v.ownBlock = some b) w w' → (∀ g, v'.ownBlock = some g → v.ownBlock = some g ∨ (w.heap.size ≤ g ∧ g < w'.heap.size)) → K (v', w')) :
    Okk (appS Try.prog #[43, 43] ty v (.slice (some ⟨b, 0, none⟩) 1 c) w) K := by
  refine app_own (s := 1) (by_ := 24) (n := vs.length) (m := 1) (news := [x]) t43_e t26_s t26_b t26_z rfl (by omega) hown rfl ?_ ?_ (by omega) (by unfold maxLen; omega) ?_
  · intro j hj
    rw [Nat.zero_add]
    exact hb.cell j
  · intro u hu
    simp at hu
    subst hu
    exact hx
  intro v' w' h1 h2 h3
  refine hk v' w' ?_ (Upd.grown (F := fun b => v.ownBlock = some b) h2 (fun k hk => hk)) ?_
  · rw [List.length_append]
    simpa using h1
  · intro g hg
    rcases h3 with h | ⟨g', h, hge⟩
    · rw [h] at hg; exact .inl hg
    · rw [h] at hg; injection hg with hg; subst hg; exact .inr ⟨hge, (h1.lt _ h).2⟩
theorem bsl_sli (a : Option Addr) (n c : Nat) (w : World) : bslS Try.prog 43 1 #[(0, .slice a n c)] w = some (.slice (some ⟨w.heap.size, 0, none⟩) 1 1, w.alloc (.cells [.slice a n c].toArray 26 (0, 0))) := by kernel_rfl
theorem firsts_succ {P : Mt} {i : Nat} : firsts P (i + 1) = if P i = none then firsts P i ++ [i] else firsts P i := by
  unfold firsts
  rw [List.range_succ, List.filter_append, List.filter_cons]
  cases h : P i <;> simp
theorem firsts_le {P : Mt} {i : Nat} : (firsts P i).length ≤ i := by
  have := List.length_filter_le (fun x => (P x).isNone) (List.range i)
  rw [List.length_range] at this
  exact this
/-- A chain under way: b comes next. -/
structure PCh (Q : Mt) (a : Nat) (c : List Nat) (b : Option Nat) : Prop where
  nil : c = [] → b = some a
  head : ∀ x, c[0]? = some x → x = a
  step : ∀ (i x y : Nat), c[i]? = some x → c[i + 1]? = some y → Q x = some y
  last : ∀ x, c[c.length - 1]? = some x → Q x = b
theorem PCh.done {Q : Mt} {a : Nat} {c : List Nat} (h : PCh Q a c none) : ChQ Q a c := by
  refine ⟨?_, h.step, h.last⟩
  cases c with
  | nil => have := h.nil rfl; cases this
  | cons x c => have := h.head x rfl; rw [this]; rfl
theorem PCh.push {Q : Mt} {a x : Nat} {c : List Nat} (h : PCh Q a c (some x)) : PCh Q a (c ++ [x]) (Q x) := by
  refine ⟨fun e => by simp at e, fun y hy => ?_, fun i y z hy hz => ?_, fun y hy => ?_⟩
  · cases c with
    | nil =>
      have := h.nil rfl
      cases this
      simp at hy
      exact hy.symm
    | cons u c =>
      exact h.head y (by simpa using hy)
  · by_cases h1 : i + 1 < c.length
    · rw [List.getElem?_append_left (by omega)] at hy
      rw [List.getElem?_append_left h1] at hz
      exact h.step i y z hy hz
    · have h2 := (List.getElem?_eq_some_iff.1 hz).1
      rw [List.length_append, List.length_singleton] at h2
      have h3 : i + 1 = c.length := by omega
      rw [List.getElem?_append_left (by omega)] at hy
      rw [List.getElem?_append_right (by omega), h3, Nat.sub_self] at hz
      cases hz
      exact h.last y (by rw [show c.length - 1 = i from by omega]; exact hy)
  · rw [List.length_append, List.length_singleton, Nat.add_sub_cancel, List.getElem?_append_right (Nat.le_refl _), Nat.sub_self] at hy
    cases hy
    rfl
def left2 (E : Rel) (b : Option Nat) : Nat :=
  match b with
  | none => 0
  | some x => cnt (E x) + 1
set_option maxHeartbeats 2000000 in
theorem ChainCover_ok {w : World} (n : Int) {v : Value} {l : List Pr} (hv : SlP w v l) :
    Ok (den Try.prog 32 #[.int .i64 n, v] w) fun u w' => ∃ u0, u = .tuple #[u0, .int .i64 (flt n l)] ∧
      (flt n l = 0 → ∃ css, IsWd (less n l) (fun x => decide (x < n.toNat)) css.length ∧ Cover n.toNat (less n l) css ∧ SlL w' u0 css) ∧ Upd (fun _ => False) w w' := by
  have t := fun {a b c : World} (x : Upd (fun _ => False) a b) (y : Upd (fun _ => False) b c) => x.trans y (F := fun _ => False) (fun _ _ h => h)
  refine den_ok (args := [.int .i64 n, v]) rs32 Try.func32 rfl mixed in32 ok32 rfl ?_
  simp (disch := omega) only [push_cast, Nat.reduceBEq, Nat.reduceEqDiff, Nat.reduceAdd, Nat.reduceMul, Nat.reduceSub, Nat.reduceLT, Int.reduceToNat, Int.reduceLT, Int.reduceLE, Int.reduceEq, Int.reduceAdd, Int.reduceSub, Int.reduceNeg, Int.reduceMul]
  refine Ok.use (acyclic_ok n hv) ?_
  rintro v w1 ⟨r, rfl, hr, hu1⟩
  have hb2 : Blk (w1.alloc (.cells (tabL fun _ => 0#64).toArray 53 (0, 0))) w1.heap.size (tabL fun _ => 0#64) 53 := Blk.new
  by_cases hc : flt n l = 0
  rotate_left
  · obtain ⟨hb3, hu3⟩ := new_tab (w := w1) (r := r)
    simp (disch := omega) only [push_cast, Nat.reduceBEq, Nat.reduceEqDiff, Nat.reduceAdd, Nat.reduceMul, Nat.reduceSub, Nat.reduceLT, Int.reduceToNat, Int.reduceLT, Int.reduceLE, Int.reduceEq, Int.reduceAdd, Int.reduceSub, Int.reduceNeg, Int.reduceMul, st_tab hb2]
    exact ⟨_, rfl, fun h => absurd h hc, t hu1 hu3⟩
  obtain ⟨m, rfl, hm, hl4, hall, _, hcy⟩ := flt_zero hc
  obtain ⟨r', e1, e2⟩ := tab_norm (hr hc) (fun a b h => by have := less_lt hall h; omega)
  rw [← e1, hc, Int.toNat_natCast]
  obtain ⟨hb3, hu3⟩ := new_tab (w := w1) (r := r')
  have hu13 := t hu1 hu3
  simp (disch := omega) only [push_cast, Nat.reduceBEq, Nat.reduceEqDiff, Nat.reduceAdd, Nat.reduceMul, Nat.reduceSub, Nat.reduceLT, Int.reduceToNat, Int.reduceLT, Int.reduceLE, Int.reduceEq, Int.reduceAdd, Int.reduceSub, Int.reduceNeg, Int.reduceMul, st_tab hb2]
  generalize (w1.alloc (.cells (tabL fun _ => 0#64).toArray 53 (0, 0))).setRow w1.heap.size (tabL r').toArray = w3 at *
  have htr := less_trans hall
  have hir := less_irr hall hcy
  have hrow : ∀ a x, (r' a).getLsbD x = less m l a x := fun a x => by rw [← e2]; rfl
  refine Ok.use (whole_ok hm) ?_
  rintro v w3' ⟨rfl, s, rfl, hs⟩
  simp (disch := omega) only [push_cast, Nat.reduceBEq, Nat.reduceEqDiff, Nat.reduceAdd, Nat.reduceMul, Nat.reduceSub, Nat.reduceLT, Int.reduceToNat, Int.reduceLT, Int.reduceLE, Int.reduceEq, Int.reduceAdd, Int.reduceSub, Int.reduceNeg, Int.reduceMul]
  refine Ok.use (match_ok hb3) ?_
  rintro v w4 ⟨P, Q, C, rfl, hG, hu4⟩
  have hu14 := t hu13 hu4
  have hbn : Blk (w4.alloc (.cells (List.replicate 64 (.int .i64 0)).toArray 60 (0, 0))) w4.heap.size (List.replicate 64 (.int .i64 0)) 60 := Blk.new
  have l1 := st_mt (P := Q) hbn (by simp)
  simp (disch := omega) only [push_cast, Nat.reduceBEq, Nat.reduceEqDiff, Nat.reduceAdd, Nat.reduceMul, Nat.reduceSub, Nat.reduceLT, Int.reduceToNat, Int.reduceLT, Int.reduceLE, Int.reduceEq, Int.reduceAdd, Int.reduceSub, Int.reduceNeg, Int.reduceMul, l1]
  have hq5 : Blk ((w4.alloc (.cells (List.replicate 64 (.int .i64 0)).toArray 60 (0, 0))).setRow w4.heap.size (mtL Q).toArray) w4.heap.size (mtL Q) 60 := hbn.row
  have hu5 : Upd (fun _ => False) w ((w4.alloc (.cells (List.replicate 64 (.int .i64 0)).toArray 60 (0, 0))).setRow w4.heap.size (mtL Q).toArray) :=
    hu14.alloc'.trans (Upd.setRow (F := fun b => b = w4.heap.size) rfl) (fun b h1 h2 => by have := hu14.size; omega)
  generalize (w4.alloc (.cells (List.replicate 64 (.int .i64 0)).toArray 60 (0, 0))).setRow w4.heap.size (mtL Q).toArray = w5 at *
  refine Ok.use (whole_ok hm) ?_
  rintro v w5' ⟨rfl, s2, rfl, hs2⟩
  have hSe : (fun x => s.getLsbD x) = fun x => decide (x < m) := funext hs
  have hE : ∀ a b, edg r' s a b = (less m l a b && decide (b < m)) := fun a b => by unfold edg; rw [BitVec.getLsbD_and, hrow, hs]
  rw [hSe] at hG
  generalize edg r' s = E at *
  have hE1 : ∀ a b, E a b = true → less m l a b = true ∧ b < m := fun a b h => by rw [hE, Bool.and_eq_true, decide_eq_true_eq] at h; exact h
  have hQm : ∀ x b, Q x = some b → b < m ∧ x < m := fun x b h => by
    have h1 := hG.q.1 h
    exact ⟨(hE1 _ _ (hG.edge b x h1)).2, by simpa using (hG.dom b x h1).2⟩
  clear hs hSe hu3 hu13 hb3 hu14 hu4 hbn l1 hb2
  simp (disch := omega) only [push_cast, Nat.reduceBEq, Nat.reduceEqDiff, Nat.reduceAdd, Nat.reduceMul, Nat.reduceSub, Nat.reduceLT, Int.reduceToNat, Int.reduceLT, Int.reduceLE, Int.reduceEq, Int.reduceAdd, Int.reduceSub, Int.reduceNeg, Int.reduceMul]
  refine loop_inv (I := fun k st w' => Bx (∃ (a : Nat) (fw : BitVec 64), k + a = m ∧ st = [.int .u64 (fw.toNat : Nat), .int .i64 (a : Int)] ∧ w' = w5' ∧
    ∀ x, fw.getLsbD x = true ↔ (x < m ∧ ∀ y, y < a → Q y ≠ some x)) ⟨⟩) ?_ m
    ⟨0, s2, rfl, rfl, rfl, fun x => by rw [hs2, decide_eq_true_eq]; exact ⟨fun h => ⟨h, fun y hy => by omega⟩, fun h => h.1⟩⟩
  rintro k st w6 ⟨a, fw, hka, rfl, rfl, hfw⟩
  by_cases hk0 : k = 0
  rotate_left
  · have ha : a < m := by omega
    cases hQa : Q a with
    | none =>
      simp (disch := omega) only [push_cast, Nat.reduceBEq, Nat.reduceEqDiff, Nat.reduceAdd, Nat.reduceMul, Nat.reduceSub, Nat.reduceLT, Int.reduceToNat, Int.reduceLT, Int.reduceLE, Int.reduceEq, Int.reduceAdd, Int.reduceSub, Int.reduceNeg, Int.reduceMul, hq5.cell, mtL_get, hQa, optI]
      refine ⟨k - 1, by omega, a + 1, fw, by omega, by simp, rfl, fun x => ?_⟩
      rw [hfw]
      refine ⟨fun h => ⟨h.1, fun y hy => ?_⟩, fun h => ⟨h.1, fun y hy => h.2 y (by omega)⟩⟩
      by_cases e : y = a
      · rw [e, hQa]; exact nofun
      · exact h.2 y (by omega)
    | some b =>
      obtain ⟨hbm, _⟩ := hQm a b hQa
      simp (disch := omega) only [push_cast, Nat.reduceBEq, Nat.reduceEqDiff, Nat.reduceAdd, Nat.reduceMul, Nat.reduceSub, Nat.reduceLT, Int.reduceToNat, Int.reduceLT, Int.reduceLE, Int.reduceEq, Int.reduceAdd, Int.reduceSub, Int.reduceNeg, Int.reduceMul, hq5.cell, mtL_get, hQa, optI]
      refine ⟨k - 1, by omega, a + 1, _, by omega, by simp only [Int.natCast_add, Int.natCast_one]; rfl, rfl, fun x => ?_⟩
      rw [bv_minus (by omega), minus_true, hfw]
      refine ⟨fun h => ⟨h.1.1, fun y hy => ?_⟩, fun h => ⟨⟨h.1, fun y hy => h.2 y (by omega)⟩, fun e => h.2 a (by omega) (by rw [hQa, e])⟩⟩
      by_cases e : y = a
      · rw [e, hQa]
        intro h2
        cases h2
        exact h.2 rfl
      · exact h.1.2 y (by omega)
  obtain rfl : a = m := by omega
  have hfw' : ∀ x, x < a → (fw.getLsbD x = true ↔ P x = none) := by
    intro x hx
    rw [hfw]
    constructor
    · intro h
      cases hp : P x with
      | none => rfl
      | some y =>
        have h1 := hG.link x y hp
        exact absurd h1 (h.2 y (hQm y x h1).2)
    · intro h
      refine ⟨hx, fun y _ h2 => ?_⟩
      rw [hG.q.1 h2] at h
      cases h
  clear hfw hka hk0
  simp (disch := omega) only [push_cast, Nat.reduceBEq, Nat.reduceEqDiff, Nat.reduceAdd, Nat.reduceMul, Nat.reduceSub, Nat.reduceLT, Int.reduceToNat, Int.reduceLT, Int.reduceLE, Int.reduceEq, Int.reduceAdd, Int.reduceSub, Int.reduceNeg, Int.reduceMul]
  have het : ∀ a b c, E a c = true → E c b = true → E a b = true := fun a b c h1 h2 => by rw [hE, htr _ _ _ (hE1 _ _ h1).1 (hE1 _ _ h2).1, decide_eq_true (hE1 _ _ h2).2]; rfl
  have hei : ∀ a, E a a = false := fun a => by rw [hE, hir]; rfl
  refine loop_inv (I := fun k st w' => Bx (∃ (i : Nat) (v : Value) (vs : List Value) (css : List (List Nat)), k + i = a ∧ st = [v, .int .i64 (i : Int)] ∧ Upd (fun _ => False) w6 w' ∧ w'.ownsRow 0 26 1 v vs.length vs ∧ (∀ g, v.ownBlock = some g → w6.heap.size ≤ g) ∧
    vs.length = css.length ∧ css.length = (firsts P i).length ∧ (∀ (j : Nat) c, css[j]? = some c → ∃ x, (firsts P i)[j]? = some x ∧ ChQ Q x c) ∧
    (∀ (j : Nat) u c, vs[j]? = some u → css[j]? = some c → SlI w' u (toI c) ∧ ∀ g, u.ownBlock = some g → g < w'.heap.size ∧ v.ownBlock ≠ some g)) ⟨⟩) ?_ a
    ⟨0, .slice none 0 0, [], [], rfl, rfl, Upd.refl, World.ownsRow_nil _ _ _ _, by simp [Value.ownBlock], rfl, rfl, by simp, by simp⟩
  rintro k st w7 ⟨i, v, vs, css, hki, rfl, hu7, hown, hfr, hvl, hcl, hcs, hvs⟩
  obtain ⟨ov, oc, rfl⟩ := own_slice hown
  by_cases hk0 : k = 0
  · obtain rfl : i = a := by omega
    simp (disch := omega) only [push_cast, Nat.reduceBEq, Nat.reduceEqDiff, Nat.reduceAdd, Nat.reduceMul, Nat.reduceSub, Nat.reduceLT, Int.reduceToNat, Int.reduceLT, Int.reduceLE, Int.reduceEq, Int.reduceAdd, Int.reduceSub, Int.reduceNeg, Int.reduceMul]
    have hfl := firsts_len hm (fun a b h => (hE1 a b h).2) hG
    obtain ⟨_, hkw⟩ := konig hE (fun x hx => by rw [decide_eq_true_eq] at hx; omega) htr hir hG
    rw [← hfl, ← hcl] at hkw
    exact ⟨_, rfl, fun _ => ⟨css, hkw, cover_of hE1 het hei hG hcl hcs, SlL.of_own hown hvl fun j u c h1 h2 => (hvs j u c h1 h2).1⟩, t hu5 hu7⟩
  have hi : i < a := by omega
  have hPi := hfw' i hi
  cases hbit : fw.getLsbD i
  · simp (disch := omega) only [push_cast, Nat.reduceBEq, Nat.reduceEqDiff, Nat.reduceAdd, Nat.reduceMul, Nat.reduceSub, Nat.reduceLT, Int.reduceToNat, Int.reduceLT, Int.reduceLE, Int.reduceEq, Int.reduceAdd, Int.reduceSub, Int.reduceNeg, Int.reduceMul, hbit]
    have hf : firsts P (i + 1) = firsts P i := by
      rw [firsts_succ, if_neg]
      intro h
      rw [hPi.2 h] at hbit
      cases hbit
    exact ⟨k - 1, by omega, i + 1, _, vs, css, by omega, by simp, hu7, hown, hfr, hvl, by rw [hf]; exact hcl, by rw [hf]; exact hcs, hvs⟩
  have hPn := hPi.1 hbit
  have hf : firsts P (i + 1) = firsts P i ++ [i] := by rw [firsts_succ, if_pos hPn]
  have hfle := firsts_le (P := P) (i := i)
  simp (disch := omega) only [push_cast, Nat.reduceBEq, Nat.reduceEqDiff, Nat.reduceAdd, Nat.reduceMul, Nat.reduceSub, Nat.reduceLT, Int.reduceToNat, Int.reduceLT, Int.reduceLE, Int.reduceEq, Int.reduceAdd, Int.reduceSub, Int.reduceNeg, Int.reduceMul, hbit]
  have c64 : cnt (E i) ≤ 64 := List.length_filter_le _ _
  refine loop_inv (I := fun k2 st w' => Bx (∃ (cv : Value) (c : List Nat) (b : Option Nat), k2 = left2 E b ∧ st = [cv, .int .i64 (optI b)] ∧ Upd (fun _ => False) w7 w' ∧ w'.ownsRow 0 3 1 cv (toI c).length ((toI c).map (Value.int .i64)) ∧
    (∀ g, cv.ownBlock = some g → w7.heap.size ≤ g) ∧ PCh Q i c b ∧ (∀ x, b = some x → x < a) ∧ c.length + k2 ≤ cnt (E i) + 1) ⟨⟩) ?_ (left2 E (some i))
    ⟨.slice none 0 0, [], some i, rfl, rfl, Upd.refl, World.ownsRow_nil _ _ _ _, by simp [Value.ownBlock], ⟨fun _ => rfl, nofun, nofun, nofun⟩, fun x h => by cases h; exact hi, by simp [left2]⟩
  rintro k2 st w8 ⟨cv, c, b, hk2, rfl, hu8, hown8, hfr8, hpc, hbm, hlen⟩
  obtain ⟨cov, coc, rfl⟩ := own_slice hown8
  have hcI : (toI c).length = c.length := toI_length
  rw [hcI] at hfr8 ⊢
  have hown8' : w8.ownsRow 0 3 1 (.slice cov c.length coc) (toI c).length ((toI c).map (Value.int .i64)) := by
    have := hown8
    rw [hcI] at this ⊢
    exact this
  clear hown8
  cases b with
  | some x =>
    have hxa := hbm x rfl
    have oI : optI (some x) = (x : Int) := rfl
    simp (disch := omega) only [push_cast, Nat.reduceBEq, Nat.reduceEqDiff, Nat.reduceAdd, Nat.reduceMul, Nat.reduceSub, Nat.reduceLT, Int.reduceToNat, Int.reduceLT, Int.reduceLE, Int.reduceEq, Int.reduceAdd, Int.reduceSub, Int.reduceNeg, Int.reduceMul, oI]
    refine app_int (hown8'.alloc _) (by omega) (x := (x : Int)) Blk.new ?_
    intro v' w9 hown9 hu9 hfr9
    have hu89 : Upd (fun b => (Value.slice cov c.length coc).ownBlock = some b) w8 w9 := Upd.alloc.trans hu9 (fun _ _ h => h)
    have hu79 : Upd (fun _ => False) w7 w9 := hu8.trans hu89 (fun b h1 h2 => by have := hfr8 b h2; omega)
    have hq9 := (hq5.upd hu7 (fun h => h)).upd hu79 (fun h => h)
    simp (disch := omega) only [push_cast, Nat.reduceBEq, Nat.reduceEqDiff, Nat.reduceAdd, Nat.reduceMul, Nat.reduceSub, Nat.reduceLT, Int.reduceToNat, Int.reduceLT, Int.reduceLE, Int.reduceEq, Int.reduceAdd, Int.reduceSub, Int.reduceNeg, Int.reduceMul, hq9.cell, mtL_get]
    have hI : toI (c ++ [x]) = toI c ++ [(x : Int)] := by simp [toI]
    have hlt : left2 E (Q x) < left2 E (some x) := by
      cases hqx : Q x with
      | none => simp [left2]
      | some y =>
        have hE2 := hG.edge y x (hG.q.1 hqx)
        have := cnt_lt (f := E y) (g := E x) (fun z _ hz => het _ _ _ hE2 hz) (by have := (hQm x y hqx).1; omega) (hei y) hE2
        simp [left2]
        omega
    refine ⟨left2 E (Q x), by omega, v', c ++ [x], Q x, rfl, rfl, hu79, by rw [hI]; exact hown9, fun g hg => ?_, hpc.push, fun y hy => (hQm x y hy).1, ?_⟩
    · rcases hfr9 g hg with h | h
      · exact hfr8 g h
      · rw [size_alloc] at h
        have := hu8.size
        omega
    · rw [List.length_append, List.length_singleton]
      omega
  | none =>
    have oN : optI none = -1 := rfl
    have hovl : ∀ g, (Value.slice ov vs.length oc).ownBlock = some g → g < w7.heap.size := fun g hg => (hown.lt _ hg).2
    have hown := ownsRow_upd hown hu8 (fun _ _ h => h)
    have hs7 := hu7.size
    have hs8 := hu8.size
    simp (disch := omega) only [push_cast, Nat.reduceBEq, Nat.reduceEqDiff, Nat.reduceAdd, Nat.reduceMul, Nat.reduceSub, Nat.reduceLT, Int.reduceToNat, Int.reduceLT, Int.reduceLE, Int.reduceEq, Int.reduceAdd, Int.reduceSub, Int.reduceNeg, Int.reduceMul, oN, bsl_sli]
    refine app_sli (hown.alloc _) (by omega) rfl Blk.new ?_
    intro v' w9 hown9 hu9 hfr9
    simp (disch := omega) only [push_cast, Nat.reduceBEq, Nat.reduceEqDiff, Nat.reduceAdd, Nat.reduceMul, Nat.reduceSub, Nat.reduceLT, Int.reduceToNat, Int.reduceLT, Int.reduceLE, Int.reduceEq, Int.reduceAdd, Int.reduceSub, Int.reduceNeg, Int.reduceMul]
    have hu89 : Upd (fun b => (Value.slice ov vs.length oc).ownBlock = some b) w8 w9 := Upd.alloc.trans hu9 (fun _ _ h => h)
    have hu69 : Upd (fun _ => False) w6 w9 := (t hu7 hu8).trans hu89 (fun b h1 h2 => by have := hfr b h2; omega)
    refine ⟨k - 1, by omega, i + 1, v', vs ++ [.slice cov c.length coc], css ++ [c], by omega, by simp, hu69, hown9, fun g hg => ?_, by simp [hvl], by rw [hf]; simp [hcl], fun j c' hj => ?_, fun j u c' hj hj' => ?_⟩
    · rcases hfr9 g hg with h | h
      · exact hfr g h
      · rw [size_alloc] at h
        omega
    · rw [hf]
      by_cases h1 : j < css.length
      · rw [List.getElem?_append_left h1] at hj
        obtain ⟨x, h2, h3⟩ := hcs j c' hj
        exact ⟨x, by rw [List.getElem?_append_left (by omega)]; exact h2, h3⟩
      · have h2 := (List.getElem?_eq_some_iff.1 hj).1
        rw [List.length_append, List.length_singleton] at h2
        rw [List.getElem?_append_right (by omega), show j - css.length = 0 from by omega] at hj
        cases hj
        exact ⟨i, by rw [List.getElem?_append_right (by omega), show j - (firsts P i).length = 0 from by omega]; rfl, hpc.done⟩
    · -- the slices: the old ones and the new one
      have hnew : ∀ g, v'.ownBlock = some g → (Value.slice ov vs.length oc).ownBlock = some g ∨ w8.heap.size < g := fun g hg => by
        rcases hfr9 g hg with h | h
        · exact .inl h
        · rw [size_alloc] at h; exact .inr (by omega)
      by_cases h1 : j < css.length
      · rw [List.getElem?_append_left h1] at hj'
        rw [List.getElem?_append_left (by omega)] at hj
        obtain ⟨h2, h3⟩ := hvs j u c' hj hj'
        have hs9 := hu89.size
        refine ⟨(h2.upd hu8).updF hu89 (fun g hg h5 => (h3 g hg).2 h5), fun g hg => ⟨by have := (h3 g hg).1; omega, fun h5 => ?_⟩⟩
        rcases hnew g h5 with h6 | h6
        · exact (h3 g hg).2 h6
        · have := (h3 g hg).1
          omega
      · have h2 := (List.getElem?_eq_some_iff.1 hj').1
        rw [List.length_append, List.length_singleton] at h2
        rw [List.getElem?_append_right (by omega), show j - css.length = 0 from by omega] at hj'
        rw [List.getElem?_append_right (by omega), show j - vs.length = 0 from by omega] at hj
        cases hj
        cases hj'
        have hs9 := hu89.size
        have hcl8 : ∀ g, (Value.slice cov c.length coc).ownBlock = some g → g < w8.heap.size := fun g hg => (hown8'.lt _ hg).2
        refine ⟨(SlI.of_own hown8').updF hu89 (fun g hg h5 => by have := hfr8 g hg; have := hovl g h5; omega), fun g hg => ⟨by have := hcl8 g hg; omega, fun h5 => ?_⟩⟩
        have h6 := hcl8 g hg
        rcases hnew g h5 with h7 | h7
        · have := hfr8 g hg; have := hovl g h7; omega
        · omega
end Go.Proofs.Ytfjccccfkpgmgaa.Fd
