/-
  The specification's Holds.
-/
import Derived.Test.YtlnladcfgieggaaJn8
namespace Go.Proofs.Ytlnladcfgieggaa.Fd
set_option linter.unusedSimpArgs false
set_option linter.unusedVariables false
open Go
set_option maxRecDepth 100000

def holdsP (head area : List Int) : Option (List (List Int)) :=
  match headD head with
  | none => none
  | some n => if area.length < n then none else spl (area.take n)
theorem bld_in (a : Option Addr) (n c : Nat) (w : World) : bldS Try.prog 91 #[(0, .slice a n c)] w = some (.agg #[.slice a n c, .int .i64 0, .int .i64 0, .bool false], w) := by kernel_rfl
attribute [push_cast] bld_in
theorem slc_take {w : World} {F : Nat → Prop} {b o c : Nat} {d : List Int} (h : SlB w F (.slice (some ⟨b, o, none⟩) d.length c) d) {n : Nat} (hn : n ≤ d.length) (hc : d.length ≤ c) : SlC w F (.slice (some ⟨b, o, none⟩) n c) (d.take n) := by
  have hl : (d.take n).length = n := by rw [List.length_take]; omega
  obtain ⟨a', c', hv, hli⟩ := h
  injection hv with e1 e2 e3
  subst e1
  refine ⟨⟨_, c, by rw [hl], fun h0 => ?_⟩, _, c, by rw [hl], by omega⟩
  obtain ⟨b', o', h1, h2, h3⟩ := hli (by intro e; subst e; simp at h0)
  refine ⟨b', o', h1, fun j hj => ?_, h3⟩
  rw [by8_length, hl] at hj
  rw [h2 j (by rw [by8_length]; omega), by8, by8, List.getElem?_map, List.getElem?_map, List.getElem?_take_of_lt hj]
set_option maxHeartbeats 2000000 in
theorem rHolds_ok {w : World} {F : Nat → Prop} {v1 v2 : Value} {hd ar : List Int} (h1 : SlC w F v1 hd) (h2 : SlC w F v2 ar) (r1 : Rng hd) (r2 : Rng ar) (l1 : hd.length ≤ 100000) (l2 : ar.length ≤ 100000) (z1 : 0 < hd.length) (z2 : 0 < ar.length) :
    Ok (den Try.prog 27 #[v1, v2] w) fun u w' => (∃ u0 ok, u = .tuple #[u0, .bool ok] ∧ match holdsP hd ar with | none => ok = false | some ls => ok = true ∧ SlR w' (fun b => b < w.heap.size) u0 ls) ∧ Upd (fun _ => False) w w' := by
  replace h2 := h2.mono (G := fun b => w.heap.size ≤ b) fun b h g => by omega
  obtain ⟨a1, c1, hv1, hc1⟩ := h1.2
  subst hv1
  obtain ⟨a2, c2, hv2, hc2⟩ := h2.2
  subst hv2
  refine den_ok (args := [.slice a1 hd.length c1, .slice a2 ar.length c2]) rs27 Try.func27 rfl mixed in27 ok27 rfl ?_
  simp (config := { maxSteps := 3000000 }) (disch := omega) only [push_cast, Nat.reduceBEq, Nat.reduceEqDiff, Nat.reduceAdd, Nat.reduceMul, Nat.reduceSub, Nat.reduceLT, Int.reduceToNat, Int.reduceLT, Int.reduceLE, Int.reduceEq, Int.reduceAdd, Int.reduceSub, Int.reduceNeg, Int.reduceMul]
  have hu0 : Upd (fun _ => False) w (w.alloc (.cells #[] 46 (0, 0))) := Upd.alloc
  have hB0 : Blk (w.alloc (.cells #[] 46 (0, 0))) w.heap.size [] 46 := Blk.new (cs := [])
  have hrow0 : RowB (w.alloc (.cells #[] 46 (0, 0))) (fun b => b < w.heap.size) (.slice (some ⟨w.heap.size, 0, none⟩) 0 0) [] := RowB.empty (Blk.new (cs := [])) (by omega)
  have hsz0 : (w.alloc (.cells #[] 46 (0, 0))).heap.size = w.heap.size + 1 := size_alloc
  generalize (w.alloc (.cells #[] 46 (0, 0))) = w0 at *
  refine Ok.use (rzeros_ok (h1.1.upd hu0 (fun _ h => h.elim)) (by omega)) ?_
  rintro u w1 ⟨rfl, hu1⟩
  have hu01 := hu0.trans hu1 (fun _ _ h => h)
  have hrow1 := hrow0.go hu1 (F' := fun b => b < w.heap.size) fun b _ h => h.elim False.elim id
  cases hz : zer0 hd
  rotate_left
  · simp (config := { maxSteps := 3000000 }) (disch := omega) only [push_cast, Nat.reduceBEq, Nat.reduceEqDiff, Nat.reduceAdd, Nat.reduceMul, Nat.reduceSub, Nat.reduceLT, Int.reduceToNat, Int.reduceLT, Int.reduceLE, Int.reduceEq, Int.reduceAdd, Int.reduceSub, Int.reduceNeg, Int.reduceMul]
    have hH : holdsP hd ar = some [] := by
      unfold holdsP headD
      rw [if_pos hz]
      dsimp only
      rw [if_neg (by omega), List.take_zero]
      rfl
    rw [hH]
    exact ⟨⟨_, true, rfl, rfl, hrow1.slr⟩, hu01⟩
  have hD : headD hd = match byt_ hd 0 with
      | none => none
      | some (s, a) => match num hd a with
        | none => none
        | some (n, b) => if s = titleL ∧ n ≤ 1099511627776 ∧ zer0 (hd.drop b) then some n else none := by
    unfold headD
    rw [if_neg (by rw [hz]; decide)]
    rfl
  simp (config := { maxSteps := 3000000 }) (disch := omega) only [push_cast, Nat.reduceBEq, Nat.reduceEqDiff, Nat.reduceAdd, Nat.reduceMul, Nat.reduceSub, Nat.reduceLT, Int.reduceToNat, Int.reduceLT, Int.reduceLE, Int.reduceEq, Int.reduceAdd, Int.reduceSub, Int.reduceNeg, Int.reduceMul]
  have hsl1 : SlC (w1.alloc (.cells [.slice a1 hd.length c1, .int .i64 0, .int .i64 0, .bool false].toArray 91 (0, 0))) (fun b => b = w1.heap.size) (.slice a1 hd.length c1) hd :=
    (h1.go hu01 (F' := F) (fun b _ h => h.elim False.elim id)).go (Upd.alloc (F := fun _ => False)) fun b hb h => h.elim False.elim fun e => by omega
  have hR : Ri (w1.alloc (.cells [.slice a1 hd.length c1, .int .i64 0, .int .i64 0, .bool false].toArray 91 (0, 0))) w1.heap.size hd 0 0 false (.slice a1 hd.length c1) := ⟨Blk.new, hsl1, r1, by omega, Nat.zero_le _⟩
  have hu2 : Upd (fun _ => False) w1 (w1.alloc (.cells [.slice a1 hd.length c1, .int .i64 0, .int .i64 0, .bool false].toArray 91 (0, 0))) := Upd.alloc
  generalize w1.alloc (.cells [.slice a1 hd.length c1, .int .i64 0, .int .i64 0, .bool false].toArray 91 (0, 0)) = w2 at *
  have hs01 := hu01.size
  have hs011 := hu1.size
  have hs12 := hu2.size
  have hpl := hR.head.lt
  generalize hpe : w1.heap.size = p at *
  have hrow2 := hrow1.go hu2 (F' := fun b => b < w.heap.size) fun b _ h => h.elim False.elim id
  have hu02 := hu01.trans hu2 (fun _ _ h => h)
  have key : ∀ {w3 w' : World}, Upd (fun _ => False) w w3 → Upd (fun b => b = p) w3 w' → Upd (fun _ => False) w w' := fun h hu => h.trans hu fun b hb e => by omega
  have hnone : headD hd = none → holdsP hd ar = none := by
    intro h
    unfold holdsP
    rw [h]
  refine Ok.use (riText_ok hR) ?_
  rintro u w3 ⟨hb, hu3⟩
  have hu03 := key hu02 hu3
  cases hby : byt_ hd 0 with
  | none =>
    rw [hby] at hb hD
    obtain ⟨rfl, last', hR3⟩ := hb
    simp (config := { maxSteps := 3000000 }) (disch := omega) only [push_cast, Nat.reduceBEq, Nat.reduceEqDiff, Nat.reduceAdd, Nat.reduceMul, Nat.reduceSub, Nat.reduceLT, Int.reduceToNat, Int.reduceLT, Int.reduceLE, Int.reduceEq, Int.reduceAdd, Int.reduceSub, Int.reduceNeg, Int.reduceMul]
    refine Ok.use (riUintE_ok hR3) ?_
    rintro u w4 ⟨rfl, rfl⟩
    simp (config := { maxSteps := 3000000 }) (disch := omega) only [push_cast, Nat.reduceBEq, Nat.reduceEqDiff, Nat.reduceAdd, Nat.reduceMul, Nat.reduceSub, Nat.reduceLT, Int.reduceToNat, Int.reduceLT, Int.reduceLE, Int.reduceEq, Int.reduceAdd, Int.reduceSub, Int.reduceNeg, Int.reduceMul, hR3.head.cell]
    rw [hnone hD]
    exact ⟨⟨_, false, rfl, rfl⟩, hu03⟩
  | some y =>
  obtain ⟨s, a⟩ := y
  rw [hby] at hb hD
  dsimp only at hD
  obtain ⟨rfl, last', hR3⟩ := hb
  have hsr := byt_rng r1 hby
  have hte := title_eq hsr
  simp (config := { maxSteps := 3000000 }) (disch := omega) only [push_cast, Nat.reduceBEq, Nat.reduceEqDiff, Nat.reduceAdd, Nat.reduceMul, Nat.reduceSub, Nat.reduceLT, Int.reduceToNat, Int.reduceLT, Int.reduceLE, Int.reduceEq, Int.reduceAdd, Int.reduceSub, Int.reduceNeg, Int.reduceMul]
  refine Ok.use (riUint_ok hR3) ?_
  rintro u w4 ⟨hn, ⟨x, rfl⟩, hu4⟩
  have hu04 := key hu03 hu4
  cases hnum : num hd a with
  | none =>
    rw [hnum] at hn hD
    obtain ⟨last4, hR4⟩ := hn
    simp (config := { maxSteps := 3000000 }) (disch := omega) only [push_cast, Nat.reduceBEq, Nat.reduceEqDiff, Nat.reduceAdd, Nat.reduceMul, Nat.reduceSub, Nat.reduceLT, Int.reduceToNat, Int.reduceLT, Int.reduceLE, Int.reduceEq, Int.reduceAdd, Int.reduceSub, Int.reduceNeg, Int.reduceMul, hR4.head.cell]
    rw [hnone hD]
    exact ⟨⟨_, false, rfl, rfl⟩, hu04⟩
  | some y =>
  obtain ⟨n, b⟩ := y
  rw [hnum] at hn hD
  dsimp only at hD
  obtain ⟨hx, last4, hR4⟩ := hn
  injection hx with _ hx
  subst hx
  have hnx := num_next hnum
  by_cases ht : s = titleL
  rotate_left
  · rw [if_neg (fun h => ht h.1)] at hD
    rw [decide_eq_false ht] at hte
    simp (config := { maxSteps := 3000000 }) (disch := omega) only [push_cast, Nat.reduceBEq, Nat.reduceEqDiff, Nat.reduceAdd, Nat.reduceMul, Nat.reduceSub, Nat.reduceLT, Int.reduceToNat, Int.reduceLT, Int.reduceLE, Int.reduceEq, Int.reduceAdd, Int.reduceSub, Int.reduceNeg, Int.reduceMul, hR4.head.cell, hte]
    rw [hnone hD]
    exact ⟨⟨_, false, rfl, rfl⟩, by first | exact hu04 | exact hu04.drew'⟩
  rw [decide_eq_true ht] at hte
  have hd0 := List.getElem?_eq_getElem (l := hd) (i := 0) z1
  obtain ⟨g, o, c, hv, _⟩ := h1.at_ hd0
  injection hv with e1 _ e3
  subst e1
  subst e3
  have ha0 := List.getElem?_eq_getElem (l := ar) (i := 0) z2
  obtain ⟨g2, o2, c, hv, _⟩ := h2.at_ ha0
  injection hv with e1 _ e3
  subst e1
  subst e3
  have hsl := slc_lo_sl (h1.1.upd hu04 (fun _ h => h.elim)) (l := b) hnx.2 hc1
  have hdl : (hd.drop b).length = hd.length - b := List.length_drop
  rw [← hdl] at hsl
  simp (config := { maxSteps := 3000000 }) (disch := omega) only [push_cast, Nat.reduceBEq, Nat.reduceEqDiff, Nat.reduceAdd, Nat.reduceMul, Nat.reduceSub, Nat.reduceLT, Int.reduceToNat, Int.reduceLT, Int.reduceLE, Int.reduceEq, Int.reduceAdd, Int.reduceSub, Int.reduceNeg, Int.reduceMul, hR4.head.cell, hte]
  rw [← hdl]
  refine Ok.use (rzeros_ok hsl (by omega)) ?_
  rintro u w5 ⟨rfl, hu5⟩
  have hu05 := hu04.trans hu5 (fun _ _ h => h)
  cases hz5 : zer0 (hd.drop b)
  · rw [if_neg (fun h => by rw [hz5] at h; exact absurd h.2.2 (by decide))] at hD
    simp (config := { maxSteps := 3000000 }) (disch := omega) only [push_cast, Nat.reduceBEq, Nat.reduceEqDiff, Nat.reduceAdd, Nat.reduceMul, Nat.reduceSub, Nat.reduceLT, Int.reduceToNat, Int.reduceLT, Int.reduceLE, Int.reduceEq, Int.reduceAdd, Int.reduceSub, Int.reduceNeg, Int.reduceMul, hR4.head.cell, hte]
    rw [hnone hD]
    exact ⟨⟨_, false, rfl, rfl⟩, by first | exact hu05 | exact hu05.drew'⟩
  have e1 : IntKind.u64.wrap (ar.length : Int) = (ar.length : Int) := by rw [IntKind.wrap_u64]; omega
  by_cases hfit : n ≤ ar.length
  rotate_left
  · have hfit' : (ar.length : Int) < n := by omega
    have hH : holdsP hd ar = none := by
      by_cases h40 : n ≤ 1099511627776
      · rw [if_pos ⟨ht, h40, hz5⟩] at hD
        unfold holdsP
        rw [hD]
        dsimp only
        rw [if_pos (by omega)]
      · rw [if_neg (fun h => h40 h.2.1)] at hD
        exact hnone hD
    simp (config := { maxSteps := 3000000 }) (disch := omega) only [push_cast, Nat.reduceBEq, Nat.reduceEqDiff, Nat.reduceAdd, Nat.reduceMul, Nat.reduceSub, Nat.reduceLT, Int.reduceToNat, Int.reduceLT, Int.reduceLE, Int.reduceEq, Int.reduceAdd, Int.reduceSub, Int.reduceNeg, Int.reduceMul, hR4.head.cell, hte, e1]
    rw [hH]
    exact ⟨⟨_, false, rfl, rfl⟩, by first | exact hu05 | exact hu05.drew'⟩
  have hfit' : ¬ (ar.length : Int) < n := by omega
  rw [if_pos ⟨ht, by omega, hz5⟩] at hD
  have hH : holdsP hd ar = spl (ar.take n) := by
    unfold holdsP
    rw [hD]
    dsimp only
    rw [if_neg (by omega)]
  rw [hH]
  have htk := slc_take (h2.1.upd hu05 (fun _ h => h.elim)) hfit hc2
  have htl : (ar.take n).length = n := by rw [List.length_take]; omega
  have rtk := r2.take n
  simp (config := { maxSteps := 3000000 }) (disch := omega) only [push_cast, Nat.reduceBEq, Nat.reduceEqDiff, Nat.reduceAdd, Nat.reduceMul, Nat.reduceSub, Nat.reduceLT, Int.reduceToNat, Int.reduceLT, Int.reduceLE, Int.reduceEq, Int.reduceAdd, Int.reduceSub, Int.reduceNeg, Int.reduceMul, hR4.head.cell, hte, e1]
  generalize ar.take n = d at *
  have hpw : w.heap.size ≠ p := by omega
  have hB5 := ((((hB0.upd hu1 (fun h => h)).upd hu2 (fun h => h)).upd hu3 hpw).upd hu4 hpw).upd hu5 (fun h => h)
  have hB6 := hB5.alloc (.cells [.slice (some ⟨g2, o2, none⟩) n c2, .int .i64 0, .int .i64 0, .bool false].toArray 91 (0, 0))
  have hu6 : Upd (fun _ => False) w5 (w5.alloc (.cells [.slice (some ⟨g2, o2, none⟩) n c2, .int .i64 0, .int .i64 0, .bool false].toArray 91 (0, 0))) := Upd.alloc
  have hdat : SlC (w5.alloc (.cells [.slice (some ⟨g2, o2, none⟩) n c2, .int .i64 0, .int .i64 0, .bool false].toArray 91 (0, 0))) (fun b => w.heap.size ≤ b) (.slice (some ⟨g2, o2, none⟩) n c2) d := htk.upd (Upd.alloc (F := fun _ => False)) (fun _ h => h.elim)
  have hsl5 : SlC (w5.alloc (.cells [.slice (some ⟨g2, o2, none⟩) n c2, .int .i64 0, .int .i64 0, .bool false].toArray 91 (0, 0))) (fun b => b = w5.heap.size) (.slice (some ⟨g2, o2, none⟩) n c2) d :=
    (htk.go (Upd.refl (F := fun _ => False)) (F' := fun _ => False) (fun b _ h => h.elim False.elim False.elim)).go (F' := fun b => b = w5.heap.size) (Upd.alloc (F := fun _ => False)) fun b hb h => h.elim False.elim fun e => by omega
  have hR : Ri (w5.alloc (.cells [.slice (some ⟨g2, o2, none⟩) n c2, .int .i64 0, .int .i64 0, .bool false].toArray 91 (0, 0))) w5.heap.size d 0 0 false (.slice (some ⟨g2, o2, none⟩) n c2) := ⟨Blk.new, hsl5, rtk, by omega, Nat.zero_le _⟩
  have hsz6 : (w5.alloc (.cells [.slice (some ⟨g2, o2, none⟩) n c2, .int .i64 0, .int .i64 0, .bool false].toArray 91 (0, 0))).heap.size = w5.heap.size + 1 := size_alloc
  generalize w5.alloc (.cells [.slice (some ⟨g2, o2, none⟩) n c2, .int .i64 0, .int .i64 0, .bool false].toArray 91 (0, 0)) = w6 at *
  generalize hrve : (Value.slice (some ⟨g2, o2, none⟩) n c2) = rv at *
  have hu06 := hu05.trans hu6 (fun _ _ h => h)
  have hs06 := hu06.size
  have hs05 := hu05.size
  have hp2 : w.heap.size < w5.heap.size := by
    have := hB5.lt
    omega
  clear hnone hu1 hu2 hu3 hu4 hu5 hu6 hu01 hu02 hu03 hu04 hrow1 hrow2 hrow0 hB0 hB5 hsl hsl5 htk hR3 hR4 key
  refine loop_inv (I := fun k st w' => Bx (∃ (at_ item : Nat) (acc : List (List Int)) (v' : Value), d.length ≤ at_ + k ∧ st = [v'] ∧ Ri w' w5.heap.size d at_ item false rv ∧ spl d = (splF d k at_).map (acc ++ ·) ∧ acc.length ≤ at_ ∧ RowB w' (fun b => b < w6.heap.size ∧ b ≠ w.heap.size) v' acc ∧ Upd (fun b => b = w5.heap.size ∨ b = w.heap.size) w6 w') ⟨⟩) ?_ d.length
    ⟨0, 0, [], _, by omega, rfl, hR, by simp [spl], Nat.le_refl _, RowB.empty hB6 (fun h => h.2 rfl), Upd.refl⟩
  clear hR hB6
  rintro k st w' ⟨at_, item, acc, v', hk, rfl, hR, hspl, hal, hrow, hu⟩
  have huw : Upd (fun _ => False) w w' := hu06.trans hu fun b hb e => by omega
  obtain ⟨oa, oc, rfl⟩ := hrow.form
  have hle := hR.le
  simp (config := { maxSteps := 3000000 }) (disch := omega) only [push_cast, Nat.reduceBEq, Nat.reduceEqDiff, Nat.reduceAdd, Nat.reduceMul, Nat.reduceSub, Nat.reduceLT, Int.reduceToNat, Int.reduceLT, Int.reduceLE, Int.reduceEq, Int.reduceAdd, Int.reduceSub, Int.reduceNeg, Int.reduceMul]
  refine Ok.use (riLeft_ok hR) ?_
  rintro u w7 ⟨rfl, hu7⟩
  have hR7 := hR.upd hu7
  by_cases hend : at_ < d.length
  rotate_left
  · rw [splF_end hend] at hspl
    have he : ¬ (0 : Int) < (d.length : Int) - at_ := by omega
    simp (config := { maxSteps := 3000000 }) (disch := omega) only [push_cast, Nat.reduceBEq, Nat.reduceEqDiff, Nat.reduceAdd, Nat.reduceMul, Nat.reduceSub, Nat.reduceLT, Int.reduceToNat, Int.reduceLT, Int.reduceLE, Int.reduceEq, Int.reduceAdd, Int.reduceSub, Int.reduceNeg, Int.reduceMul]
    rw [hspl]
    refine ⟨⟨_, true, rfl, ?_⟩, huw.trans hu7 (fun _ _ h => h)⟩
    simp only [Option.map_some, List.append_nil]
    exact ⟨trivial, (hrow.go hu7 (F' := fun b => b < w6.heap.size ∧ b ≠ w.heap.size) fun b _ h => h.elim False.elim id).slr.go (Upd.refl (F := fun _ => False)) fun b _ h => h.elim False.elim fun h => ⟨by omega, by omega⟩⟩
  have he : (0 : Int) < (d.length : Int) - at_ := by omega
  simp (config := { maxSteps := 3000000 }) (disch := omega) only [push_cast, Nat.reduceBEq, Nat.reduceEqDiff, Nat.reduceAdd, Nat.reduceMul, Nat.reduceSub, Nat.reduceLT, Int.reduceToNat, Int.reduceLT, Int.reduceLE, Int.reduceEq, Int.reduceAdd, Int.reduceSub, Int.reduceNeg, Int.reduceMul]
  obtain ⟨k', rfl, hsF⟩ := splF_more hend hk
  rw [hsF] at hspl
  refine Ok.use (riBytes_ok hR7) ?_
  rintro u w8 ⟨hb, hu8⟩
  have hs8 := hu8.size
  have hs7 := hu7.size
  have hs' := hu.size
  cases hby2 : byt_ d at_ with
  | none =>
    rw [hby2] at hb hspl
    obtain ⟨rfl, item', hR8⟩ := hb
    simp (config := { maxSteps := 3000000 }) (disch := omega) only [push_cast, Nat.reduceBEq, Nat.reduceEqDiff, Nat.reduceAdd, Nat.reduceMul, Nat.reduceSub, Nat.reduceLT, Int.reduceToNat, Int.reduceLT, Int.reduceLE, Int.reduceEq, Int.reduceAdd, Int.reduceSub, Int.reduceNeg, Int.reduceMul, hR8.head.cell]
    rw [hspl]
    exact ⟨⟨_, false, rfl, rfl⟩, (huw.trans hu7 (fun _ _ h => h)).trans hu8 fun b hb e => by omega⟩
  | some x =>
    obtain ⟨bb, nx⟩ := x
    have hnx := byt_next hby2
    rw [hby2] at hb hspl
    obtain ⟨hown, hfr, item', hR8⟩ := hb
    obtain ⟨ba, bc, rfl, _⟩ := hown.form
    simp (config := { maxSteps := 3000000 }) (disch := omega) only [push_cast, Nat.reduceBEq, Nat.reduceEqDiff, Nat.reduceAdd, Nat.reduceMul, Nat.reduceSub, Nat.reduceLT, Int.reduceToNat, Int.reduceLT, Int.reduceLE, Int.reduceEq, Int.reduceAdd, Int.reduceSub, Int.reduceNeg, Int.reduceMul, hR8.head.cell]
    have hrow8 : RowB w8 (fun b => b < w6.heap.size ∧ b ≠ w.heap.size) (.slice oa acc.length oc) acc := (hrow.go hu7 (F' := fun b => b < w6.heap.size ∧ b ≠ w.heap.size) fun b _ h => h.elim False.elim id).go hu8 fun b _ h => h.elim (fun e => ⟨by omega, by omega⟩) id
    have hsl : SlB w8 (fun b => (b < w6.heap.size ∧ b ≠ w.heap.size) ∨ (Value.slice oa acc.length oc).ownBlock = some b) (.slice ba bb.length bc) bb := hown.slb fun g hg h => by
      have h1 := hfr g hg
      rcases h with h | h
      · omega
      · have := hrow.lt h; omega
    refine app_row (hrow8.go (Upd.alloc (F := fun _ => False)) fun b _ h => h.elim False.elim id) (slr_one hsl fun h => by
      rcases h with h | h
      · omega
      · have := hrow.lt h; omega) (by simp; omega) (fun b hb => by rw [size_alloc]; omega) ?_
    intro v4 w9 hrow9 hu9 hfr9
    obtain ⟨va4, vc4, rfl⟩ := hrow9.form
    simp (config := { maxSteps := 3000000 }) (disch := omega) only [push_cast, Nat.reduceBEq, Nat.reduceEqDiff, Nat.reduceAdd, Nat.reduceMul, Nat.reduceSub, Nat.reduceLT, Int.reduceToNat, Int.reduceLT, Int.reduceLE, Int.reduceEq, Int.reduceAdd, Int.reduceSub, Int.reduceNeg, Int.reduceMul]
    have hlt : ∀ g, (Value.slice oa acc.length oc).ownBlock = some g → g ≠ w5.heap.size ∧ (g < w6.heap.size → g = w.heap.size) := fun g hg => by
      obtain ⟨us, _, _, _, h4⟩ := hrow
      have h5 := h4 g hg
      exact ⟨fun e => h5 ⟨by omega, by omega⟩, fun h => Classical.byContradiction fun h6 => h5 ⟨h, h6⟩⟩
    have hu89 : Upd (fun b => (Value.slice oa acc.length oc).ownBlock = some b) w8 w9 := Upd.alloc.trans hu9 (fun _ _ h => h)
    have hacc : ((acc ++ [bb]).length : Int) = (acc.length : Int) + 1 := by simp
    have hu69 : Upd (fun b => b = w5.heap.size ∨ b = w.heap.size) w6 w9 := ((hu.trans hu7 (fun _ _ h => h.elim)).trans hu8 (fun _ _ h => .inl h)).trans hu89 fun b' hb' e => .inr ((hlt b' e).2 hb')
    have hR9 : Ri w9 w5.heap.size d nx item' false rv := by
      refine ⟨hR8.head.upd hu89 fun e => (hlt _ e).1 rfl, ?_, hR8.rng, hR8.len, hR8.le⟩
      exact hdat.go hu69 fun b hb h => by
        rcases h with (h | h) | h <;> omega
    refine ⟨k', by omega, nx, item', acc ++ [bb], _, by omega, by simp, hR9, ?_, by simp; omega, hrow9, hu69⟩
    · rw [hspl]
      simp [Option.map_map]
      rfl
end Go.Proofs.Ytlnladcfgieggaa.Fd
