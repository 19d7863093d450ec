/-
  The walk of order.Downsets.
-/
import Derived.Test.YtfjccccfkpgmgaaDw1
namespace Go.Proofs.Ytfjccccfkpgmgaa.Fd
set_option linter.unusedSimpArgs false
set_option linter.unusedVariables false
open Go
set_option maxRecDepth 100000

/-- What stands behind some of the walk: the lists collected so far, in new blocks. -/
def WS (w0 w : World) (bs : Nat) (css : List (List Nat)) : Prop :=
  Upd (fun b => b = bs) w0 w ∧ ∃ V vs, Blk w bs [V] 43 ∧ w.ownsRow 0 26 1 V vs.length vs ∧ (∀ g, V.ownBlock = some g → w0.heap.size ≤ g) ∧ vs.length = css.length ∧
    ∀ (j : Nat) u c, vs[j]? = some u → css[j]? = some c → u.oneCell' = true ∧ SlI w u (toI c) ∧ ∀ g, u.ownBlock = some g → w0.heap.size ≤ g ∧ g < w.heap.size ∧ V.ownBlock ≠ some g
theorem WS.upd {w0 w w' : World} {bs : Nat} {css : List (List Nat)} (h : WS w0 w bs css) (hu : Upd (fun _ => False) w w') : WS w0 w' bs css := by
  obtain ⟨h0, V, vs, h1, h2, h3, h4, h5⟩ := h
  have hs := hu.size
  refine ⟨h0.trans hu (fun _ _ h => h.elim), V, vs, h1.upd hu (fun h => h), ownsRow_upd h2 hu (fun _ _ h => h), h3, h4, fun j u c hj hc => ?_⟩
  obtain ⟨k0, k1, k2⟩ := h5 j u c hj hc
  exact ⟨k0, k1.upd hu, fun g hg => ⟨(k2 g hg).1, by have := (k2 g hg).2.1; omega, (k2 g hg).2.2⟩⟩
structure WkC (w0 : World) (n lim : Nat) (bn bs bl bw bt bo : Nat) (r : Nat → BitVec 64) (o : List Nat) : Prop where
  hn : Blk w0 bn [.int .i64 (n : Int)] 3
  hl : Blk w0 bl [.int .i64 (lim : Int)] 3
  hw : Blk w0 bw [.func (.func 51) #[] #[.pointer (some ⟨bn, 0, none⟩), .pointer (some ⟨bs, 0, none⟩), .pointer (some ⟨bl, 0, none⟩), .pointer (some ⟨bw, 0, none⟩), .pointer (some ⟨bt, 0, none⟩), .pointer (some ⟨bo, 0, none⟩)]] 70
  ht : Blk w0 bt (tabL r) 53
  ho : 0 < n → ∃ a c b f, a = some ⟨b, f, none⟩ ∧ Blk w0 bo [.slice a o.length c] 26 ∧ b < w0.heap.size ∧ b ≠ bs ∧ ∀ (j x : Nat), o[j]? = some x → w0.cell? ⟨b, f + j, none⟩ = some (.int .i64 (x : Int))
  s : bs < w0.heap.size
  n1 : bn ≠ bs
  n2 : bl ≠ bs
  n3 : bw ≠ bs
  n4 : bt ≠ bs
  n5 : bo ≠ bs
  len : o.length = n
  n12 : n ≤ 12
  all : ∀ x, x ∈ o → x < n
theorem wSets_len {n : Nat} {lt : Nat → Nat → Bool} : ∀ {o : List Nat} {S : Nat → Bool}, (wSets n lt o S).length ≤ 2 ^ o.length
  | [], _ => by simp [wSets]
  | x :: o, S => by
    rw [wSets, List.length_append, List.length_cons, Nat.pow_succ]
    have h1 := wSets_len (n := n) (lt := lt) (o := o) (S := S)
    have h2 := wSets_len (n := n) (lt := lt) (o := o) (S := addS S x)
    split
    · simp; omega
    · omega
theorem addS_bits {D : BitVec 64} {x : Nat} (hx : x < 64) : addS (fun a => D.getLsbD a) x = fun a => (D ||| BitVec.twoPow 64 x).getLsbD a := by
  funext a
  unfold addS
  rw [BitVec.getLsbD_or, BitVec.getLsbD_twoPow]
  by_cases e : a = x
  · subst e; simp [hx]
  · have : ¬ x = a := fun h => e h.symm
    simp [e, this]
set_option maxHeartbeats 4000000 in
theorem walk_ok {w0 : World} {n lim bn bs bl bw bt bo : Nat} {r : Nat → BitVec 64} {o : List Nat} (C : WkC w0 n lim bn bs bl bw bt bo r o) : ∀ (k i : Nat) (D : BitVec 64) (w : World) (acc : List (List Nat)), k + i = n →
    WS w0 w bs acc → acc.length ≤ lim → acc.length + 2 ^ k ≤ 4096 →
    Ok (den Try.prog 51 #[.int .i64 (i : Int), U D, .pointer (some ⟨bn, 0, none⟩), .pointer (some ⟨bs, 0, none⟩), .pointer (some ⟨bl, 0, none⟩), .pointer (some ⟨bw, 0, none⟩), .pointer (some ⟨bt, 0, none⟩), .pointer (some ⟨bo, 0, none⟩)] w) fun v w' =>
      match walkP n (rbit r) lim (o.drop i) (fun a => D.getLsbD a) acc with
      | some acc' => v = .bool true ∧ WS w0 w' bs acc'
      | none => v = .bool false ∧ Upd (fun b => b = bs) w0 w'
  | 0, i, D, w, acc, hki, hW, hlim, hlen => by
    obtain rfl : i = n := by omega
    obtain ⟨hu, V, vs, g1, hown, hVb, hvl, hvs⟩ := id hW
    have hn := C.hn.upd hu C.n1
    have hl := C.hl.upd hu C.n2
    have hod : o.drop i = [] := by rw [← C.len]; simp
    rw [hod, walkP]
    obtain ⟨av, cv, rfl⟩ := own_slice hown
    rw [hvl] at g1 hown hVb hvs
    refine den_ok (args := [.int .i64 (i : Int), U D, .pointer (some ⟨bn, 0, none⟩), .pointer (some ⟨bs, 0, none⟩), .pointer (some ⟨bl, 0, none⟩), .pointer (some ⟨bw, 0, none⟩), .pointer (some ⟨bt, 0, none⟩), .pointer (some ⟨bo, 0, none⟩)]) rs51 Try.func51 rfl mixed in51 ok51 rfl ?_
    by_cases hal : acc.length = lim
    · have hal' : (acc.length : Int) = lim := by omega
      rw [if_pos hal]
      simp (disch := omega) only [push_cast, Nat.reduceBEq, Nat.reduceEqDiff, Nat.reduceAdd, Nat.reduceMul, Nat.reduceSub, Nat.reduceLT, Int.reduceToNat, Int.reduceLT, Int.reduceLE, Int.reduceEq, Int.reduceAdd, Int.reduceSub, Int.reduceNeg, Int.reduceMul, hn.cell, hl.cell, g1.cell, hal']
      exact hu
    have hal' : ¬ (acc.length : Int) = lim := by omega
    rw [if_neg hal]
    have hu1 : Upd (fun _ => False) w (w.alloc (.cells #[] 3 (0, 0))) := Upd.alloc
    have hn1 := hn.upd hu1 (fun h => h)
    have hown1 : (w.alloc (.cells #[] 3 (0, 0))).ownsRow 0 3 1 (.slice (some ⟨w.heap.size, 0, none⟩) 0 0) 0 [] := by
      refine ⟨rfl, .inr ⟨w.heap.size, 0, #[], rfl, Nat.zero_le _, ?_, Nat.le_refl _, by decide, rfl, rfl⟩⟩
      exact (Blk.new (w := w) (cs := []) (E := 3) : _)
    simp (disch := omega) only [push_cast, Nat.reduceBEq, Nat.reduceEqDiff, Nat.reduceAdd, Nat.reduceMul, Nat.reduceSub, Nat.reduceLT, Int.reduceToNat, Int.reduceLT, Int.reduceLE, Int.reduceEq, Int.reduceAdd, Int.reduceSub, Int.reduceNeg, Int.reduceMul, hn.cell, hl.cell, g1.cell, hal', hn1.cell]
    have hsz1 : (w.alloc (.cells #[] 3 (0, 0))).heap.size = w.heap.size + 1 := size_alloc
    generalize w.alloc (.cells #[] 3 (0, 0)) = w1 at *
    refine loop_inv (I := fun k st w' => Bx (∃ (b : Nat) (v : Value), k + b = i ∧ st = [v, .int .i64 (b : Int)] ∧ Upd (fun _ => False) w w' ∧
      w'.ownsRow 0 3 1 v (toI ((List.range b).filter fun a => D.getLsbD a)).length ((toI ((List.range b).filter fun a => D.getLsbD a)).map (Value.int .i64)) ∧ ∀ g, v.ownBlock = some g → w.heap.size ≤ g) ⟨⟩) ?_ i
      ⟨0, .slice (some ⟨w.heap.size, 0, none⟩) 0 0, rfl, rfl, hu1, hown1, fun g hg => by cases hg; exact Nat.le_refl _⟩
    clear hu1 hn1 hown1
    rintro k st w2 ⟨b, v, hkb, rfl, hu2, hown2, hfr⟩
    have h12 := C.n12
    have hlb : (toI ((List.range b).filter fun a => D.getLsbD a)).length ≤ b := by
      rw [toI_length]
      have := List.length_filter_le (fun a => D.getLsbD a) (List.range b)
      rw [List.length_range] at this
      exact this
    obtain ⟨lv, lc, rfl⟩ := own_slice hown2
    have hs2 := hu2.size
    by_cases hk0 : k = 0
    · obtain rfl : b = i := by omega
      have g12 := g1.upd hu2 (fun h => h)
      have ho2 := ownsRow_upd hown hu2 (fun _ _ h => h)
      generalize (List.range b).filter (fun a => D.getLsbD a) = l at *
      have ho2' : w2.ownsRow 0 26 1 (.slice av acc.length cv) vs.length vs := by rw [hvl]; exact ho2
      simp (disch := omega) only [push_cast, Nat.reduceBEq, Nat.reduceEqDiff, Nat.reduceAdd, Nat.reduceMul, Nat.reduceSub, Nat.reduceLT, Int.reduceToNat, Int.reduceLT, Int.reduceLE, Int.reduceEq, Int.reduceAdd, Int.reduceSub, Int.reduceNeg, Int.reduceMul, g12.cell, bsl_sli]
      refine app_sli (ho2'.alloc _) (by omega) rfl Blk.new ?_
      intro v' w9 hown9 hu9 hfr9
      have hVl : ∀ g, (Value.slice av acc.length cv).ownBlock = some g → g < w.heap.size := fun g hg => (hown.lt _ hg).2
      have hll : ∀ g, (Value.slice lv (toI l).length lc).ownBlock = some g → g < w2.heap.size := fun g hg => (hown2.lt _ hg).2
      have hu29 : Upd (fun b => (Value.slice av acc.length cv).ownBlock = some b) w2 w9 := Upd.alloc.trans hu9 (fun _ _ h => h)
      have hCs := C.s
      have hs0 := hu.size
      have hs29 := hu29.size
      have g19 := g12.upd hu29 (fun h => by have := hVb _ h; omega)
      obtain ⟨av2, cv2, rfl⟩ := own_slice hown9
      simp (disch := omega) only [push_cast, Nat.reduceBEq, Nat.reduceEqDiff, Nat.reduceAdd, Nat.reduceMul, Nat.reduceSub, Nat.reduceLT, Int.reduceToNat, Int.reduceLT, Int.reduceLE, Int.reduceEq, Int.reduceAdd, Int.reduceSub, Int.reduceNeg, Int.reduceMul, g19.cell, g19.free]
      generalize hv' : Value.slice av2 (vs ++ [Value.slice lv (toI l).length lc]).length cv2 = v' at *
      have huB : Upd (fun b => b = bs) w9 (w9.setCell ⟨bs, 0, none⟩ v') := Upd.set rfl
      have hnew : ∀ g, v'.ownBlock = some g → (Value.slice av acc.length cv).ownBlock = some g ∨ w2.heap.size < g := fun g hg => by
        rcases hfr9 g hg with h | h
        · exact .inl h
        · rw [size_alloc] at h; exact .inr (by omega)
      have hnew0 : ∀ g, v'.ownBlock = some g → w0.heap.size ≤ g := fun g hg => by
        rcases hnew g hg with h | h
        · exact hVb g h
        · omega
      refine ⟨((hu.trans hu2 (fun _ _ h => h.elim)).trans hu29 (fun b h1 h2 => by have := hVb b h2; omega)).trans huB (fun _ _ h => h), v', vs ++ [.slice lv (toI l).length lc], g19.set 0 v', ownsRow_upd hown9 huB (fun g hg e => by have := hnew0 g hg; omega), hnew0, by simp [hvl], fun j u c hj hc => ?_⟩
      have hsB : (w9.setCell ⟨bs, 0, none⟩ v').heap.size = w9.heap.size := size_set
      rw [hsB]
      by_cases h1 : j < acc.length
      · rw [List.getElem?_append_left h1] at hc
        rw [List.getElem?_append_left (by omega)] at hj
        obtain ⟨k0, k1, k2⟩ := hvs j u c hj hc
        refine ⟨k0, ((k1.upd hu2).updF hu29 fun g hg h5 => (k2 g hg).2.2 h5).updF huB fun g hg h5 => ?_, fun g hg => ⟨(k2 g hg).1, by have := (k2 g hg).2.1; omega, fun h5 => ?_⟩⟩
        · have := (k2 g hg).1; omega
        · rcases hnew g h5 with h6 | h6
          · exact (k2 g hg).2.2 h6
          · have := (k2 g hg).2.1; omega
      · have h2 := (List.getElem?_eq_some_iff.1 hc).1
        rw [List.length_append, List.length_singleton] at h2
        rw [List.getElem?_append_right (by omega), show j - acc.length = 0 from by omega] at hc
        rw [List.getElem?_append_right (by omega), show j - vs.length = 0 from by omega] at hj
        cases hj
        cases hc
        refine ⟨rfl, ((SlI.of_own hown2).updF hu29 fun g hg h5 => ?_).updF huB fun g hg h5 => ?_, fun g hg => ⟨by have := hfr g hg; omega, by have := hll g hg; omega, fun h5 => ?_⟩⟩
        · have := hfr g hg; have := hVl g h5; omega
        · have := hfr g hg; omega
        · have := hll g hg
          rcases hnew g h5 with h6 | h6
          · have := hfr g hg; have := hVl g h6; omega
          · omega
    · have hb : b < i := by omega
      cases hd : D.getLsbD b
      · simp (disch := omega) only [push_cast, Nat.reduceBEq, Nat.reduceEqDiff, Nat.reduceAdd, Nat.reduceMul, Nat.reduceSub, Nat.reduceLT, Int.reduceToNat, Int.reduceLT, Int.reduceLE, Int.reduceEq, Int.reduceAdd, Int.reduceSub, Int.reduceNeg, Int.reduceMul, hd]
        refine ⟨k - 1, by omega, b + 1, .slice lv _ lc, by omega, by simp, hu2, ?_, hfr⟩
        rw [List.range_succ, List.filter_append, List.filter_cons, if_neg (by simp [hd]), List.filter_nil, List.append_nil]
        exact hown2
      · simp (disch := omega) only [push_cast, Nat.reduceBEq, Nat.reduceEqDiff, Nat.reduceAdd, Nat.reduceMul, Nat.reduceSub, Nat.reduceLT, Int.reduceToNat, Int.reduceLT, Int.reduceLE, Int.reduceEq, Int.reduceAdd, Int.reduceSub, Int.reduceNeg, Int.reduceMul, hd]
        refine app_int (hown2.alloc _) (by omega) (x := (b : Int)) Blk.new ?_
        intro v' w9 hown9 hu9 hfr9
        simp (disch := omega) only [push_cast, Nat.reduceBEq, Nat.reduceEqDiff, Nat.reduceAdd, Nat.reduceMul, Nat.reduceSub, Nat.reduceLT, Int.reduceToNat, Int.reduceLT, Int.reduceLE, Int.reduceEq, Int.reduceAdd, Int.reduceSub, Int.reduceNeg, Int.reduceMul]
        have hu29 : Upd (fun g => (Value.slice lv (toI ((List.range b).filter fun a => D.getLsbD a)).length lc).ownBlock = some g) w2 w9 := Upd.alloc.trans hu9 (fun _ _ h => h)
        have hI : toI ((List.range (b + 1)).filter fun a => D.getLsbD a) = toI ((List.range b).filter fun a => D.getLsbD a) ++ [(b : Int)] := by
          rw [List.range_succ, List.filter_append, List.filter_cons, if_pos hd]; simp [toI]
        refine ⟨k - 1, by omega, b + 1, v', by omega, by simp, hu2.trans hu29 (fun b h1 h2 => by have := hfr b h2; omega), by rw [hI]; exact hown9, fun g hg => ?_⟩
        rcases hfr9 g hg with h | h
        · exact hfr g h
        · rw [size_alloc] at h; omega
  | k + 1, i, D, w, acc, hki, hW, hlim, hlen => by
    have hi : i < n := by omega
    obtain ⟨hu, V, vs, g1, hown, hVb, hvl, hvs⟩ := id hW
    have hn := C.hn.upd hu C.n1
    have hw := C.hw.upd hu C.n3
    refine den_ok (args := [.int .i64 (i : Int), U D, .pointer (some ⟨bn, 0, none⟩), .pointer (some ⟨bs, 0, none⟩), .pointer (some ⟨bl, 0, none⟩), .pointer (some ⟨bw, 0, none⟩), .pointer (some ⟨bt, 0, none⟩), .pointer (some ⟨bo, 0, none⟩)]) rs51 Try.func51 rfl mixed in51 ok51 rfl ?_
    have h12 := C.n12
    have ihA := walk_ok C k (i + 1) D w acc (by omega) hW hlim (by rw [Nat.pow_succ] at hlen; omega)
    obtain ⟨x, hx⟩ : ∃ x, o[i]? = some x := ⟨_, List.getElem?_eq_getElem (by rw [C.len]; exact hi)⟩
    have hdr : o.drop i = x :: o.drop (i + 1) := by
      obtain ⟨h1, rfl⟩ := List.getElem?_eq_some_iff.1 hx
      exact List.drop_eq_getElem_cons h1
    have hxn := C.all x (List.mem_of_getElem? hx)
    rw [hdr, walkP]
    simp (disch := omega) only [push_cast, Nat.reduceBEq, Nat.reduceEqDiff, Nat.reduceAdd, Nat.reduceMul, Nat.reduceSub, Nat.reduceLT, Int.reduceToNat, Int.reduceLT, Int.reduceLE, Int.reduceEq, Int.reduceAdd, Int.reduceSub, Int.reduceNeg, Int.reduceMul, hn.cell, hw.cell]
    refine Ok.use ihA ?_
    rintro v w1 hr
    have hwl := walkP_eq (n := n) (lt := rbit r) (limit := lim) (o := o.drop (i + 1)) (S := fun a => D.getLsbD a) hlim
    cases hp : walkP n (rbit r) lim (o.drop (i + 1)) (fun a => D.getLsbD a) acc with
    | none =>
      rw [hp] at hr
      obtain ⟨rfl, hr⟩ := hr
      simp (disch := omega) only [push_cast, Nat.reduceBEq, Nat.reduceEqDiff, Nat.reduceAdd, Nat.reduceMul, Nat.reduceSub, Nat.reduceLT, Int.reduceToNat, Int.reduceLT, Int.reduceLE, Int.reduceEq, Int.reduceAdd, Int.reduceSub, Int.reduceNeg, Int.reduceMul]
      exact hr
    | some acc1 =>
      rw [hp] at hr hwl
      obtain ⟨rfl, hW1⟩ := hr
      have hu1 := hW1.1
      obtain ⟨oa, oc, ob, of, rfl, ho, hob, hobs, hcell⟩ := C.ho (by omega)
      have hn1 := C.hn.upd hu1 C.n1
      have hol := C.len
      have hacc1 : acc1.length ≤ lim ∧ acc1.length + 2 ^ k ≤ 4096 := by
        have h1 := wSets_len (n := n) (lt := rbit r) (o := o.drop (i + 1)) (S := fun a => D.getLsbD a)
        rw [List.length_drop, C.len, show n - (i + 1) = k from by omega] at h1
        rw [Nat.pow_succ] at hlen
        split at hwl
        · rw [Option.some.injEq] at hwl
          rw [hwl, List.length_append]
          omega
        · cases hwl
      simp (disch := omega) only [push_cast, Nat.reduceBEq, Nat.reduceEqDiff, Nat.reduceAdd, Nat.reduceMul, Nat.reduceSub, Nat.reduceLT, Int.reduceToNat, Int.reduceLT, Int.reduceLE, Int.reduceEq, Int.reduceAdd, Int.reduceSub, Int.reduceNeg, Int.reduceMul, hn1.cell]
      refine loop_inv (I := fun k2 st w' => Bx (∃ a : Nat, k2 + a = n ∧ st = [.int .i64 (a : Int)] ∧ Upd (fun _ => False) w1 w' ∧ ∀ j, j < a → (rbit r j x && !D.getLsbD j) = false) ⟨⟩) ?_ n ⟨0, rfl, rfl, Upd.refl, fun j hj => by omega⟩
      rintro k2 st w2 ⟨a, hka, rfl, hu2, hno⟩
      have hu02 := hu1.trans hu2 (fun _ _ h => h.elim)
      have ht2 := C.ht.upd hu02 C.n4
      have ho2 := ho.upd hu02 C.n5
      have hw2 := C.hw.upd hu02 C.n3
      have hc2 := hcell i x hx
      rw [← World.cell?_of_block (hu02.block ob hob hobs)] at hc2
      by_cases hk0 : k2 = 0
      · obtain rfl : a = n := by omega
        have hW2 : WS w0 w2.drew bs acc1 := (hW1.upd hu2).upd Upd.drew
        have hany : ((List.range a).any fun b => rbit r b x && !D.getLsbD b) = false := by
          rw [List.any_eq_false]
          intro j hj
          rw [hno j (List.mem_range.1 hj)]
          exact Bool.false_ne_true
        rw [Option.bind_some, if_neg (by rw [hany]; exact Bool.false_ne_true), addS_bits (by omega)]
        have ih2 := walk_ok C k (i + 1) (D ||| BitVec.twoPow 64 x) w2.drew acc1 (by omega) hW2 hacc1.1 hacc1.2
        simp (disch := omega) only [push_cast, Nat.reduceBEq, Nat.reduceEqDiff, Nat.reduceAdd, Nat.reduceMul, Nat.reduceSub, Nat.reduceLT, Int.reduceToNat, Int.reduceLT, Int.reduceLE, Int.reduceEq, Int.reduceAdd, Int.reduceSub, Int.reduceNeg, Int.reduceMul, hw2.cell, ho2.cell, hc2]
        refine Ok.use ih2 ?_
        rintro v w3 hr3
        cases hp2 : walkP a (rbit r) lim (o.drop (i + 1)) (fun b => (D ||| BitVec.twoPow 64 x).getLsbD b) acc1 with
        | none =>
          rw [hp2] at hr3
          obtain ⟨rfl, hr3⟩ := hr3
          simp (disch := omega) only [push_cast, Nat.reduceBEq, Nat.reduceEqDiff, Nat.reduceAdd, Nat.reduceMul, Nat.reduceSub, Nat.reduceLT, Int.reduceToNat, Int.reduceLT, Int.reduceLE, Int.reduceEq, Int.reduceAdd, Int.reduceSub, Int.reduceNeg, Int.reduceMul]
          exact hr3
        | some acc2 =>
          rw [hp2] at hr3
          obtain ⟨rfl, hr3⟩ := hr3
          simp (disch := omega) only [push_cast, Nat.reduceBEq, Nat.reduceEqDiff, Nat.reduceAdd, Nat.reduceMul, Nat.reduceSub, Nat.reduceLT, Int.reduceToNat, Int.reduceLT, Int.reduceLE, Int.reduceEq, Int.reduceAdd, Int.reduceSub, Int.reduceNeg, Int.reduceMul]
          exact hr3
      · have ha : a < n := by omega
        cases hb : (r a).getLsbD x
        · simp (disch := omega) only [push_cast, Nat.reduceBEq, Nat.reduceEqDiff, Nat.reduceAdd, Nat.reduceMul, Nat.reduceSub, Nat.reduceLT, Int.reduceToNat, Int.reduceLT, Int.reduceLE, Int.reduceEq, Int.reduceAdd, Int.reduceSub, Int.reduceNeg, Int.reduceMul, ht2.cell, tabL_get, ho2.cell, hc2, hb]
          refine ⟨k2 - 1, by omega, a + 1, by omega, by simp, hu2.trans Upd.drew (fun _ _ h => h), fun j hj => ?_⟩
          by_cases hja : j = a
          · subst hja; show ((r j).getLsbD x && _) = false; rw [hb]; rfl
          · exact hno j (by omega)
        · cases hd : D.getLsbD a
          · have hany : ((List.range n).any fun b => rbit r b x && !D.getLsbD b) = true := by
              rw [List.any_eq_true]
              refine ⟨a, List.mem_range.2 ha, ?_⟩
              show ((r a).getLsbD x && !D.getLsbD a) = true
              rw [hb, hd]; rfl
            rw [Option.bind_some, if_pos hany]
            have hW2 : WS w0 w2.drew bs acc1 := (hW1.upd hu2).upd Upd.drew
            simp (disch := omega) only [push_cast, Nat.reduceBEq, Nat.reduceEqDiff, Nat.reduceAdd, Nat.reduceMul, Nat.reduceSub, Nat.reduceLT, Int.reduceToNat, Int.reduceLT, Int.reduceLE, Int.reduceEq, Int.reduceAdd, Int.reduceSub, Int.reduceNeg, Int.reduceMul, ht2.cell, tabL_get, ho2.cell, hc2, hb, hd]
            exact hW2
          · simp (disch := omega) only [push_cast, Nat.reduceBEq, Nat.reduceEqDiff, Nat.reduceAdd, Nat.reduceMul, Nat.reduceSub, Nat.reduceLT, Int.reduceToNat, Int.reduceLT, Int.reduceLE, Int.reduceEq, Int.reduceAdd, Int.reduceSub, Int.reduceNeg, Int.reduceMul, ht2.cell, tabL_get, ho2.cell, hc2, hb, hd]
            refine ⟨k2 - 1, by omega, a + 1, by omega, by simp, hu2.trans Upd.drew (fun _ _ h => h), fun j hj => ?_⟩
            by_cases hja : j = a
            · subst hja; show (_ && !D.getLsbD j) = false; rw [hd]; simp
            · exact hno j (by omega)
end Go.Proofs.Ytfjccccfkpgmgaa.Fd
