/-
  The length that a head states; digits; the specification's Stream, Head, Left.
-/
import Derived.Test.YtlnladcfgieggaaJn7
namespace Go.Proofs.Ytlnladcfgieggaa.Fd
set_option linter.unusedSimpArgs false
set_option linter.unusedVariables false
open Go
set_option maxRecDepth 100000

theorem title_str : strOfNums titleL = (⟨#[106, 111, 117, 114, 110, 97, 108]⟩ : ByteArray) := by rfl
theorem title_rng : Rng titleL := by
  intro x hx
  simp [titleL] at hx
  omega
theorem title_eq {b : List Int} (h : Rng b) : ((strOfNums b).toList == (⟨#[106, 111, 117, 114, 110, 97, 108]⟩ : ByteArray).toList) = decide (b = titleL) := by
  rw [← title_str]; exact str_eq h title_rng
theorem slc_lo_sl {w : World} {F : Nat → Prop} {b o c : Nat} {d : List Int} (h : SlB w F (.slice (some ⟨b, o, none⟩) d.length c) d) {l : Nat} (hl : l ≤ d.length) (hc : d.length ≤ c) : SlB w F (.slice (some ⟨b, if c = l then o else o + l, none⟩) (d.length - l) (c - l)) (d.drop l) := by
  have := slb_lh h (l := l) (n := d.length - l) (by omega) hc
  rwa [List.take_of_length_le (by rw [List.length_drop]; omega)] at this
set_option maxHeartbeats 1000000 in
theorem length_ok {w : World} {F : Nat → Prop} {v : Value} {d : List Int} (h : SlC w F v d) (hr : Rng d) (hl : d.length ≤ 100000) (h0 : 0 < d.length) :
    Ok (den Try.prog 38 #[v] w) fun u w' => (∃ n ok, u = .tuple #[.int .i64 ((n : Nat) : Int), .bool ok] ∧ (headD d = if ok then some n else none) ∧ (ok = true → n ≤ 1099511627776)) ∧ Upd (fun _ => False) w w' := by
  obtain ⟨va, vc, hv, hvc⟩ := h.2
  subst hv
  refine den_ok (args := [.slice va d.length vc]) rs38 Try.func38 rfl mixed in38 ok38 rfl ?_
  simp (config := { maxSteps := 3000000 }) (disch := omega) only [push_cast, Nat.reduceBEq, Nat.reduceEqDiff, Nat.reduceAdd, Nat.reduceMul, Nat.reduceSub, Nat.reduceLT, Int.reduceToNat, Int.reduceLT, Int.reduceLE, Int.reduceEq, Int.reduceAdd, Int.reduceSub, Int.reduceNeg, Int.reduceMul]
  refine Ok.use (zeros_ok h.1 (by omega)) ?_
  rintro u w1 ⟨rfl, hu1⟩
  cases hz : zer0 d
  rotate_left
  · simp (config := { maxSteps := 3000000 }) (disch := omega) only [push_cast, Nat.reduceBEq, Nat.reduceEqDiff, Nat.reduceAdd, Nat.reduceMul, Nat.reduceSub, Nat.reduceLT, Int.reduceToNat, Int.reduceLT, Int.reduceLE, Int.reduceEq, Int.reduceAdd, Int.reduceSub, Int.reduceNeg, Int.reduceMul]
    exact ⟨⟨0, true, rfl, by unfold headD; rw [if_pos hz]; rfl, fun _ => by omega⟩, hu1⟩
  have hD : headD d = match byt_ d 0 with
      | none => none
      | some (s, a) => match num d a with
        | none => none
        | some (n, b) => if s = titleL ∧ n ≤ 1099511627776 ∧ zer0 (d.drop b) then some n else none := by
    unfold headD
    rw [if_neg (by rw [hz]; decide)]
    rfl
  rw [hD]
  simp (config := { maxSteps := 3000000 }) (disch := omega) only [push_cast, Nat.reduceBEq, Nat.reduceEqDiff, Nat.reduceAdd, Nat.reduceMul, Nat.reduceSub, Nat.reduceLT, Int.reduceToNat, Int.reduceLT, Int.reduceLE, Int.reduceEq, Int.reduceAdd, Int.reduceSub, Int.reduceNeg, Int.reduceMul]
  refine Ok.use (NewReader_ok (h.1.upd hu1 (fun _ h => h.elim)) hr (by omega)) ?_
  rintro u w2 ⟨p, rv, rfl, hR, hp, hu2⟩
  simp (config := { maxSteps := 3000000 }) (disch := omega) only [push_cast, Nat.reduceBEq, Nat.reduceEqDiff, Nat.reduceAdd, Nat.reduceMul, Nat.reduceSub, Nat.reduceLT, Int.reduceToNat, Int.reduceLT, Int.reduceLE, Int.reduceEq, Int.reduceAdd, Int.reduceSub, Int.reduceNeg, Int.reduceMul]
  have hu12 := hu1.trans hu2 (fun _ _ h => h)
  have hs1 := hu1.size
  have hpl := hR.head.lt
  refine Ok.use (rdText_ok hR) ?_
  rintro u w3 ⟨hb, hu3⟩
  have hu13 : Upd (fun _ => False) w w3 := hu12.trans hu3 fun b hb e => by omega
  have key : ∀ {w' : World}, Upd (fun b => b = p) w3 w' → Upd (fun _ => False) w w' := fun hu => hu13.trans hu fun b hb e => by omega
  cases hby : byt_ d 0 with
  | none =>
    rw [hby] at hb
    obtain ⟨rfl, item', hR3⟩ := hb
    simp (config := { maxSteps := 3000000 }) (disch := omega) only [push_cast, Nat.reduceBEq, Nat.reduceEqDiff, Nat.reduceAdd, Nat.reduceMul, Nat.reduceSub, Nat.reduceLT, Int.reduceToNat, Int.reduceLT, Int.reduceLE, Int.reduceEq, Int.reduceAdd, Int.reduceSub, Int.reduceNeg, Int.reduceMul]
    refine Ok.use (rdUintE_ok hR3) ?_
    rintro u w4 ⟨⟨x, rfl⟩, ⟨item4, hR4⟩, hu4⟩
    simp (config := { maxSteps := 3000000 }) (disch := omega) only [push_cast, Nat.reduceBEq, Nat.reduceEqDiff, Nat.reduceAdd, Nat.reduceMul, Nat.reduceSub, Nat.reduceLT, Int.reduceToNat, Int.reduceLT, Int.reduceLE, Int.reduceEq, Int.reduceAdd, Int.reduceSub, Int.reduceNeg, Int.reduceMul]
    refine Ok.use (Err_ok hR4) ?_
    rintro u w5 ⟨rfl, rfl⟩
    simp (config := { maxSteps := 3000000 }) (disch := omega) only [push_cast, Nat.reduceBEq, Nat.reduceEqDiff, Nat.reduceAdd, Nat.reduceMul, Nat.reduceSub, Nat.reduceLT, Int.reduceToNat, Int.reduceLT, Int.reduceLE, Int.reduceEq, Int.reduceAdd, Int.reduceSub, Int.reduceNeg, Int.reduceMul]
    exact ⟨⟨0, false, rfl, rfl, fun h => by cases h⟩, key hu4⟩
  | some y =>
    obtain ⟨s, a⟩ := y
    rw [hby] at hb
    obtain ⟨rfl, item', hR3⟩ := hb
    have hsr := byt_rng hr hby
    have hte := title_eq hsr
    simp (config := { maxSteps := 3000000 }) (disch := omega) only [push_cast, Nat.reduceBEq, Nat.reduceEqDiff, Nat.reduceAdd, Nat.reduceMul, Nat.reduceSub, Nat.reduceLT, Int.reduceToNat, Int.reduceLT, Int.reduceLE, Int.reduceEq, Int.reduceAdd, Int.reduceSub, Int.reduceNeg, Int.reduceMul]
    refine Ok.use (rdUint_ok hR3) ?_
    rintro u w4 ⟨hn, ⟨x, rfl⟩, hu4⟩
    have hu14 := key hu4
    cases hnum : num d a with
    | none =>
      rw [hnum] at hn
      obtain ⟨item4, hR4⟩ := hn
      simp (config := { maxSteps := 3000000 }) (disch := omega) only [push_cast, Nat.reduceBEq, Nat.reduceEqDiff, Nat.reduceAdd, Nat.reduceMul, Nat.reduceSub, Nat.reduceLT, Int.reduceToNat, Int.reduceLT, Int.reduceLE, Int.reduceEq, Int.reduceAdd, Int.reduceSub, Int.reduceNeg, Int.reduceMul]
      refine Ok.use (Err_ok hR4) ?_
      rintro u w5 ⟨rfl, rfl⟩
      simp (config := { maxSteps := 3000000 }) (disch := omega) only [push_cast, Nat.reduceBEq, Nat.reduceEqDiff, Nat.reduceAdd, Nat.reduceMul, Nat.reduceSub, Nat.reduceLT, Int.reduceToNat, Int.reduceLT, Int.reduceLE, Int.reduceEq, Int.reduceAdd, Int.reduceSub, Int.reduceNeg, Int.reduceMul]
      exact ⟨⟨0, false, rfl, rfl, fun h => by cases h⟩, hu14⟩
    | some y =>
      obtain ⟨n, b⟩ := y
      rw [hnum] at hn
      obtain ⟨hx, item4, hR4⟩ := hn
      injection hx with _ hx
      subst hx
      have hnx := num_next hnum
      simp (config := { maxSteps := 3000000 }) (disch := omega) only [push_cast, Nat.reduceBEq, Nat.reduceEqDiff, Nat.reduceAdd, Nat.reduceMul, Nat.reduceSub, Nat.reduceLT, Int.reduceToNat, Int.reduceLT, Int.reduceLE, Int.reduceEq, Int.reduceAdd, Int.reduceSub, Int.reduceNeg, Int.reduceMul]
      refine Ok.use (Err_ok hR4) ?_
      rintro u w5 ⟨rfl, rfl⟩
      by_cases h1 : s = titleL
      rotate_left
      · rw [decide_eq_false h1] at hte
        simp (config := { maxSteps := 3000000 }) (disch := omega) only [push_cast, Nat.reduceBEq, Nat.reduceEqDiff, Nat.reduceAdd, Nat.reduceMul, Nat.reduceSub, Nat.reduceLT, Int.reduceToNat, Int.reduceLT, Int.reduceLE, Int.reduceEq, Int.reduceAdd, Int.reduceSub, Int.reduceNeg, Int.reduceMul, hte]
        exact ⟨⟨0, false, rfl, by rw [if_neg (fun h => h1 h.1)]; rfl, fun h => by cases h⟩, by first | exact hu14 | exact hu14.drew'⟩
      rw [decide_eq_true h1] at hte
      by_cases h2 : n ≤ 1099511627776
      rotate_left
      · have h2' : (1099511627776 : Int) < n := by omega
        simp (config := { maxSteps := 3000000 }) (disch := omega) only [push_cast, Nat.reduceBEq, Nat.reduceEqDiff, Nat.reduceAdd, Nat.reduceMul, Nat.reduceSub, Nat.reduceLT, Int.reduceToNat, Int.reduceLT, Int.reduceLE, Int.reduceEq, Int.reduceAdd, Int.reduceSub, Int.reduceNeg, Int.reduceMul, hte]
        exact ⟨⟨0, false, rfl, by rw [if_neg (fun h => h2 h.2.1)]; rfl, fun h => by cases h⟩, by first | exact hu14 | exact hu14.drew'⟩
      have h2' : ¬ (1099511627776 : Int) < n := by omega
      have hd0 := List.getElem?_eq_getElem (l := d) (i := 0) h0
      obtain ⟨g, o, c, hv, _⟩ := h.at_ hd0
      injection hv with e1 _ e3
      subst e1
      subst e3
      simp (config := { maxSteps := 3000000 }) (disch := omega) only [push_cast, Nat.reduceBEq, Nat.reduceEqDiff, Nat.reduceAdd, Nat.reduceMul, Nat.reduceSub, Nat.reduceLT, Int.reduceToNat, Int.reduceLT, Int.reduceLE, Int.reduceEq, Int.reduceAdd, Int.reduceSub, Int.reduceNeg, Int.reduceMul, hte]
      refine Ok.use (Offset_ok hR4) ?_
      rintro u w5 ⟨rfl, rfl⟩
      simp (config := { maxSteps := 3000000 }) (disch := omega) only [push_cast, Nat.reduceBEq, Nat.reduceEqDiff, Nat.reduceAdd, Nat.reduceMul, Nat.reduceSub, Nat.reduceLT, Int.reduceToNat, Int.reduceLT, Int.reduceLE, Int.reduceEq, Int.reduceAdd, Int.reduceSub, Int.reduceNeg, Int.reduceMul]
      have hsl := slc_lo_sl (h.1.upd hu14 (fun _ h => h.elim)) (l := b) hnx.2 hvc
      have hdl : (d.drop b).length = d.length - b := List.length_drop
      rw [← hdl] at hsl
      rw [← hdl]
      refine Ok.use (zeros_ok hsl (by omega)) ?_
      rintro u w5 ⟨rfl, hu5⟩
      have e5 : IntKind.i64.wrap (n : Int) = (n : Int) := by rw [IntKind.wrap_i64]; omega
      cases hz5 : zer0 (d.drop b)
      · simp (config := { maxSteps := 3000000 }) (disch := omega) only [push_cast, Nat.reduceBEq, Nat.reduceEqDiff, Nat.reduceAdd, Nat.reduceMul, Nat.reduceSub, Nat.reduceLT, Int.reduceToNat, Int.reduceLT, Int.reduceLE, Int.reduceEq, Int.reduceAdd, Int.reduceSub, Int.reduceNeg, Int.reduceMul, hte]
        exact ⟨⟨0, false, rfl, by simp, fun h => by cases h⟩, hu14.trans hu5 (fun _ _ h => h)⟩
      · simp (config := { maxSteps := 3000000 }) (disch := omega) only [push_cast, Nat.reduceBEq, Nat.reduceEqDiff, Nat.reduceAdd, Nat.reduceMul, Nat.reduceSub, Nat.reduceLT, Int.reduceToNat, Int.reduceLT, Int.reduceLE, Int.reduceEq, Int.reduceAdd, Int.reduceSub, Int.reduceNeg, Int.reduceMul, hte, e5]
        exact ⟨⟨n, true, rfl, by simp [h1, h2], fun _ => h2⟩, hu14.trans hu5 (fun _ _ h => h)⟩
theorem digits_ok {w : World} {n : Nat} (hn : n < 2 ^ 62) : Ok (den Try.prog 41 #[.int .i64 (n : Int)] w) fun u w' => u = .int .i64 ((encU n).length : Nat) ∧ Upd (fun _ => False) w w' := by
  refine den_ok (args := [.int .i64 (n : Int)]) rs41 Try.func41 rfl mixed in41 ok41 rfl ?_
  simp (disch := omega) only [push_cast, Nat.reduceBEq, Nat.reduceEqDiff, Nat.reduceAdd, Nat.reduceMul, Nat.reduceSub, Nat.reduceLT, Int.reduceToNat, Int.reduceLT, Int.reduceLE, Int.reduceEq, Int.reduceAdd, Int.reduceSub, Int.reduceNeg, Int.reduceMul]
  refine loop_inv (I := fun k st w' => Bx (∃ (m j : Nat), k ≤ 9 ∧ m < 128 ^ k ∧ st = [.int .i64 (m : Int), .int .i64 (j : Int)] ∧ j + (encU m).length = (encU n).length + 1 ∧ Upd (fun _ => False) w w') ⟨⟩) ?_ 9
    ⟨n, 1, Nat.le_refl _, Nat.lt_trans hn (by decide), rfl, by omega, Upd.refl⟩
  rintro k st w' ⟨m, j, hk, hm, rfl, hj, hu⟩
  have hm9 : m < 128 ^ 9 := Nat.lt_of_lt_of_le hm (Nat.pow_le_pow_right (by omega) hk)
  have hl10 := encU_len10 (n := n) (Nat.lt_trans hn (by decide))
  by_cases h128 : m < 128
  · rw [encU_small h128] at hj
    simp (disch := omega) only [push_cast, Nat.reduceBEq, Nat.reduceEqDiff, Nat.reduceAdd, Nat.reduceMul, Nat.reduceSub, Nat.reduceLT, Int.reduceToNat, Int.reduceLT, Int.reduceLE, Int.reduceEq, Int.reduceAdd, Int.reduceSub, Int.reduceNeg, Int.reduceMul]
    simp at hj
    exact ⟨by rw [← hj], hu⟩
  · obtain ⟨k, rfl⟩ : ∃ k', k = k' + 1 := ⟨k - 1, by
      rcases Nat.eq_zero_or_pos k with e | e
      · subst e; simp at hm; omega
      · omega⟩
    have e2 := tdiv128 (m := m)
    have hm2 := pow128 hm h128
    rw [encU_big h128] at hj
    have hm3 : m / 128 < 128 ^ 9 := by omega
    generalize m / 128 = m2 at *
    have e10 : IntKind.i64.wrap (m2 : Int) = (m2 : Int) := by rw [IntKind.wrap_i64]; omega
    simp (disch := omega) only [push_cast, Nat.reduceBEq, Nat.reduceEqDiff, Nat.reduceAdd, Nat.reduceMul, Nat.reduceSub, Nat.reduceLT, Int.reduceToNat, Int.reduceLT, Int.reduceLE, Int.reduceEq, Int.reduceAdd, Int.reduceSub, Int.reduceNeg, Int.reduceMul, e2, e10]
    simp at hj
    exact ⟨k, by omega, m2, j + 1, by omega, hm2, by simp, by omega, hu⟩
theorem stream_mem_len {ls : List (List Int)} {l : List Int} (h : l ∈ ls) : l.length ≤ (stream ls).length := by
  obtain ⟨a, b, rfl⟩ := List.append_of_mem h
  rw [stream_append, stream_cons]
  simp [encB]
  omega
theorem stream_take {ls : List (List Int)} {i : Nat} {l : List Int} (h : ls[i]? = some l) : stream (ls.take (i + 1)) = stream (ls.take i) ++ encB l := by
  rw [List.take_add_one, h, stream_append]
  simp [stream]
theorem stream_len_le {ls : List (List Int)} : ls.length ≤ (stream ls).length := by
  induction ls with
  | nil => simp
  | cons a l ih =>
    rw [stream_cons]
    have := encU_pos a.length
    simp [encB]
    omega
theorem stream_take_le {ls : List (List Int)} {i : Nat} : (stream (ls.take i)).length ≤ (stream ls).length := by
  have : stream ls = stream (ls.take i) ++ stream (ls.drop i) := by rw [← stream_append, List.take_append_drop]
  rw [this]
  simp
theorem rStream_ok {w : World} {F : Nat → Prop} {v : Value} {ls : List (List Int)} (h : SlR w F v ls) (hl : (stream ls).length ≤ 1000000) :
    Ok (den Try.prog 40 #[v] w) fun u w' => Bow w' u (stream ls) ∧ (∀ g, u.ownBlock = some g → w.heap.size ≤ g) ∧ Upd (fun _ => False) w w' := by
  obtain ⟨a, c, rfl, _⟩ := id h
  have hlen := stream_len_le (ls := ls)
  refine den_ok (args := [.slice a ls.length c]) rs40 Try.func40 rfl mixed in40 ok40 rfl ?_
  simp (disch := omega) only [push_cast, Nat.reduceBEq, Nat.reduceEqDiff, Nat.reduceAdd, Nat.reduceMul, Nat.reduceSub, Nat.reduceLT, Int.reduceToNat, Int.reduceLT, Int.reduceLE, Int.reduceEq, Int.reduceAdd, Int.reduceSub, Int.reduceNeg, Int.reduceMul]
  refine loop_inv (I := fun k st w' => Bx (∃ (i : Nat) (v : Value), k + i = ls.length ∧ st = [v, .int .i64 (i : Int)] ∧ Bow w' v (stream (ls.take i)) ∧ (∀ g, v.ownBlock = some g → w.heap.size ≤ g) ∧ Upd (fun _ => False) w w') ⟨⟩) ?_ ls.length
    ⟨0, _, rfl, rfl, Bow.empty (Blk.new (cs := [])), fun g hg => by have := ownB hg; omega, Upd.alloc⟩
  rintro k st w' ⟨i, v, hki, rfl, hown, hfr, hu⟩
  obtain ⟨va, vc, rfl, _⟩ := hown.form
  by_cases hk0 : k = 0
  · obtain rfl : i = ls.length := by omega
    rw [List.take_length] at hown hfr ⊢
    simp (disch := omega) only [push_cast, Nat.reduceBEq, Nat.reduceEqDiff, Nat.reduceAdd, Nat.reduceMul, Nat.reduceSub, Nat.reduceLT, Int.reduceToNat, Int.reduceLT, Int.reduceLE, Int.reduceEq, Int.reduceAdd, Int.reduceSub, Int.reduceNeg, Int.reduceMul]
    exact ⟨hown, hfr, hu⟩
  have hi : i < ls.length := by omega
  have hx := List.getElem?_eq_getElem hi
  have hxl := stream_mem_len (List.getElem_mem hi)
  generalize ls[i] = x at hx hxl
  obtain ⟨b, o, ea, ec, rfl, q0, s0⟩ := (h.go hu (F' := F) fun b _ h => h.elim False.elim id).at_ hx
  have htl := stream_take_le (ls := ls) (i := i)
  have hst := stream_take hx
  simp (config := { maxSteps := 3000000 }) (disch := omega) only [push_cast, Nat.reduceBEq, Nat.reduceEqDiff, Nat.reduceAdd, Nat.reduceMul, Nat.reduceSub, Nat.reduceLT, Int.reduceToNat, Int.reduceLT, Int.reduceLE, Int.reduceEq, Int.reduceAdd, Int.reduceSub, Int.reduceNeg, Int.reduceMul, q0]
  refine Ok.use (rBytes_ok (F := fun _ => False) (hown.slb fun _ _ h => h) (s0.mono fun _ _ h => h.elim) (by omega) (by omega)) ?_
  rintro u w2 ⟨hown2, hfr2, hu2⟩
  have hs := hu.size
  simp (config := { maxSteps := 3000000 }) (disch := omega) only [push_cast, Nat.reduceBEq, Nat.reduceEqDiff, Nat.reduceAdd, Nat.reduceMul, Nat.reduceSub, Nat.reduceLT, Int.reduceToNat, Int.reduceLT, Int.reduceLE, Int.reduceEq, Int.reduceAdd, Int.reduceSub, Int.reduceNeg, Int.reduceMul]
  exact ⟨k - 1, by omega, i + 1, u, by omega, by simp, by rw [hst]; exact hown2, fun g hg => by have := hfr2 g hg; omega, hu.trans hu2 (fun _ _ h => h)⟩
theorem rHead_ok {w : World} {size n : Nat} (hs : (headL n).length ≤ size) (hs2 : size ≤ 5000) (hn : n < 2 ^ 62) :
    Ok (den Try.prog 34 #[.int .i64 (size : Int), .int .i64 (n : Int)] w) fun u w' => Bow w' u (pad size (headL n)) ∧ (∀ g, u.ownBlock = some g → w.heap.size ≤ g) ∧ Upd (fun _ => False) w w' := by
  refine den_ok (args := [.int .i64 (size : Int), .int .i64 (n : Int)]) rs34 Try.func34 rfl mixed in34 ok34 rfl ?_
  have e1 : IntKind.u64.wrap (n : Int) = (n : Int) := by rw [IntKind.wrap_u64]; omega
  simp (config := { maxSteps := 3000000 }) (disch := omega) only [push_cast, Nat.reduceBEq, Nat.reduceEqDiff, Nat.reduceAdd, Nat.reduceMul, Nat.reduceSub, Nat.reduceLT, Int.reduceToNat, Int.reduceLT, Int.reduceLE, Int.reduceEq, Int.reduceAdd, Int.reduceSub, Int.reduceNeg, Int.reduceMul, e1]
  refine Ok.use (rText_ok (F := fun _ => False) (s := ⟨#[106, 111, 117, 114, 110, 97, 108]⟩) ((Bow.nil (w := w)).slb fun _ _ h => h) (by simp) (by decide)) ?_
  rintro u w1 ⟨hown, hfr, hu⟩
  have hst : strL (⟨#[106, 111, 117, 114, 110, 97, 108]⟩ : ByteArray) = titleL := by rfl
  rw [hst, List.nil_append] at hown
  simp (config := { maxSteps := 3000000 }) (disch := omega) only [push_cast, Nat.reduceBEq, Nat.reduceEqDiff, Nat.reduceAdd, Nat.reduceMul, Nat.reduceSub, Nat.reduceLT, Int.reduceToNat, Int.reduceLT, Int.reduceLE, Int.reduceEq, Int.reduceAdd, Int.reduceSub, Int.reduceNeg, Int.reduceMul, e1]
  refine Ok.use (rUint_ok (F := fun _ => False) (hown.slb fun _ _ h => h) (n := n) (by omega) (by rw [encB_title]; simp)) ?_
  rintro u w2 ⟨hown, hfr2, hu2⟩
  have hw : encB titleL ++ encU n = headL n := rfl
  rw [hw] at hown
  have hu02 := hu.trans hu2 (fun _ _ h => h)
  have hsz := hu.size
  simp (config := { maxSteps := 3000000 }) (disch := omega) only [push_cast, Nat.reduceBEq, Nat.reduceEqDiff, Nat.reduceAdd, Nat.reduceMul, Nat.reduceSub, Nat.reduceLT, Int.reduceToNat, Int.reduceLT, Int.reduceLE, Int.reduceEq, Int.reduceAdd, Int.reduceSub, Int.reduceNeg, Int.reduceMul]
  refine loop_inv (I := fun k st w' => Bx (∃ (v : Value) (l : List Int), l.length + k = size ∧ st = [v] ∧ l ++ List.replicate k 0 = pad size (headL n) ∧ Bow w' v l ∧ (∀ g, v.ownBlock = some g → w.heap.size ≤ g) ∧ Upd (fun _ => False) w w') ⟨⟩) ?_ (size - (headL n).length)
    ⟨_, headL n, by omega, rfl, rfl, hown, fun g hg => by have := hfr2 g hg; omega, hu02⟩
  rintro k st w' ⟨v, l, hk, rfl, hl, hown, hfr, hu⟩
  obtain ⟨va, vc, rfl, _⟩ := hown.form
  by_cases hk0 : k = 0
  · subst hk0
    simp at hl
    subst hl
    simp (config := { maxSteps := 3000000 }) (disch := omega) only [push_cast, Nat.reduceBEq, Nat.reduceEqDiff, Nat.reduceAdd, Nat.reduceMul, Nat.reduceSub, Nat.reduceLT, Int.reduceToNat, Int.reduceLT, Int.reduceLE, Int.reduceEq, Int.reduceAdd, Int.reduceSub, Int.reduceNeg, Int.reduceMul]
    exact ⟨hown, hfr, hu⟩
  obtain ⟨k, rfl⟩ : ∃ k', k = k' + 1 := ⟨k - 1, by omega⟩
  simp (config := { maxSteps := 3000000 }) (disch := omega) only [push_cast, Nat.reduceBEq, Nat.reduceEqDiff, Nat.reduceAdd, Nat.reduceMul, Nat.reduceSub, Nat.reduceLT, Int.reduceToNat, Int.reduceLT, Int.reduceLE, Int.reduceEq, Int.reduceAdd, Int.reduceSub, Int.reduceNeg, Int.reduceMul]
  refine app_by (m := [0]) (hown.upd (Upd.alloc (F := fun _ => False)) (fun _ _ h => h)) (slb_one (F := fun _ => False) (fun h => h)) (by simp; omega) ?_
  intro v3 w3 hown3 hu3 hfr3
  have hs3 := hu.size
  simp (config := { maxSteps := 3000000 }) (disch := omega) only [push_cast, Nat.reduceBEq, Nat.reduceEqDiff, Nat.reduceAdd, Nat.reduceMul, Nat.reduceSub, Nat.reduceLT, Int.reduceToNat, Int.reduceLT, Int.reduceLE, Int.reduceEq, Int.reduceAdd, Int.reduceSub, Int.reduceNeg, Int.reduceMul]
  refine ⟨k, by omega, v3, l ++ [0], by simp; omega, rfl, ?_, hown3, fun g hg => ?_, (hu.alloc').trans hu3 fun b hb e => by have := hfr b e; omega⟩
  · rw [← hl, List.replicate_succ]; simp
  · rcases hfr3 g hg with h | h
    · exact hfr g h
    · rw [size_alloc] at h; omega
/-- The greatest length of a record that fits into a room. -/
def leftN (room : Nat) : Nat → Option Nat
  | 0 => none
  | n + 1 => if n + (encU n).length ≤ room then some n else leftN room n
def leftI (room : Nat) : Int := match leftN room room with | none => -1 | some n => (n : Int)
theorem leftN_spec {room : Nat} : ∀ {k : Nat}, match leftN room k with | none => ∀ m, m < k → room < m + (encU m).length | some n => n < k ∧ n + (encU n).length ≤ room ∧ ∀ m, n < m → m < k → room < m + (encU m).length
  | 0 => by simp [leftN]
  | k + 1 => by
    rw [leftN]
    by_cases h : k + (encU k).length ≤ room
    · rw [if_pos h]
      exact ⟨by omega, h, fun m h1 h2 => by omega⟩
    · rw [if_neg h]
      have := leftN_spec (room := room) (k := k)
      split at this
      · rename_i heq
        intro m hm
        by_cases e : m = k
        · subst e; omega
        · exact this m (by omega)
      · rename_i n heq
        refine ⟨by omega, this.2.1, fun m h1 h2 => ?_⟩
        by_cases e : m = k
        · subst e; omega
        · exact this.2.2 m h1 (by omega)
theorem leftN_mono {room n : Nat} (hn : n + (encU n).length ≤ room) (hmax : ∀ m, n < m → m < room → room < m + (encU m).length) (hlt : n < room) : leftI room = (n : Int) := by
  have h := leftN_spec (room := room) (k := room)
  unfold leftI
  split at h
  · have := h n hlt; omega
  · rename_i k heq
    by_cases e : k = n
    · rw [e]
    · rcases Nat.lt_or_ge k n with h1 | h1
      · have := h.2.2 n h1 hlt; omega
      · have := hmax k (by omega) h.1; omega
theorem rLeftS_ok {w : World} {F : Nat → Prop} {v : Value} {ls : List (List Int)} (h : SlR w F v ls) {area : Nat} (hl : (stream ls).length ≤ area) (ha : area ≤ 100000) :
    Ok (den Try.prog 21 #[v, .int .i64 (area : Int)] w) fun u w' => u = .int .i64 (leftI (area - (stream ls).length)) ∧ Upd (fun _ => False) w w' := by
  refine den_ok (args := [v, .int .i64 (area : Int)]) rs21 Try.func21 rfl mixed in21 ok21 rfl ?_
  simp (config := { maxSteps := 3000000 }) (disch := omega) only [push_cast, Nat.reduceBEq, Nat.reduceEqDiff, Nat.reduceAdd, Nat.reduceMul, Nat.reduceSub, Nat.reduceLT, Int.reduceToNat, Int.reduceLT, Int.reduceLE, Int.reduceEq, Int.reduceAdd, Int.reduceSub, Int.reduceNeg, Int.reduceMul]
  refine Ok.use (rStream_ok h (by omega)) ?_
  rintro u w1 ⟨hown, _, hu⟩
  obtain ⟨va, vc, rfl, _⟩ := hown.form
  simp (config := { maxSteps := 3000000 }) (disch := omega) only [push_cast, Nat.reduceBEq, Nat.reduceEqDiff, Nat.reduceAdd, Nat.reduceMul, Nat.reduceSub, Nat.reduceLT, Int.reduceToNat, Int.reduceLT, Int.reduceLE, Int.reduceEq, Int.reduceAdd, Int.reduceSub, Int.reduceNeg, Int.reduceMul]
  generalize hroom : area - (stream ls).length = room
  have hri : (area : Int) - (stream ls).length = (room : Int) := by omega
  refine loop_inv (I := fun k st w' => Bx (∃ (n : Nat) (best : Int), k + n = room ∧ st = [.int .i64 best, .int .i64 (n : Int)] ∧ best = (match leftN room n with | none => -1 | some n => (n : Int)) ∧ Upd (fun _ => False) w w') ⟨⟩) ?_ room
    ⟨0, -1, rfl, rfl, rfl, by first | exact hu | exact hu.drew'⟩
  rintro k st w' ⟨n, best, hkn, rfl, hb, hu⟩
  by_cases hk0 : k = 0
  · obtain rfl : n = room := by omega
    simp (config := { maxSteps := 3000000 }) (disch := omega) only [push_cast, Nat.reduceBEq, Nat.reduceEqDiff, Nat.reduceAdd, Nat.reduceMul, Nat.reduceSub, Nat.reduceLT, Int.reduceToNat, Int.reduceLT, Int.reduceLE, Int.reduceEq, Int.reduceAdd, Int.reduceSub, Int.reduceNeg, Int.reduceMul, hri]
    exact ⟨by rw [hb]; rfl, hu⟩
  have e1 : IntKind.u64.wrap (n : Int) = (n : Int) := by rw [IntKind.wrap_u64]; omega
  have hl10 := encU_len10 (n := n) (by omega)
  simp (config := { maxSteps := 3000000 }) (disch := omega) only [push_cast, Nat.reduceBEq, Nat.reduceEqDiff, Nat.reduceAdd, Nat.reduceMul, Nat.reduceSub, Nat.reduceLT, Int.reduceToNat, Int.reduceLT, Int.reduceLE, Int.reduceEq, Int.reduceAdd, Int.reduceSub, Int.reduceNeg, Int.reduceMul, hri, e1]
  refine Ok.use (rUint_ok (F := fun _ => False) ((Bow.nil (w := w')).slb fun _ _ h => h) (n := n) (by omega) (by simp)) ?_
  rintro u w2 ⟨hown2, _, hu2⟩
  rw [List.nil_append] at hown2
  obtain ⟨va2, vc2, rfl, _⟩ := hown2.form
  have hn1 : leftN room (n + 1) = if n + (encU n).length ≤ room then some n else leftN room n := rfl
  by_cases hfit : n + (encU n).length ≤ room
  · rw [if_pos hfit] at hn1
    have hfit' : (n : Int) + ((encU n).length : Int) ≤ (room : Int) := by omega
    simp (config := { maxSteps := 3000000 }) (disch := omega) only [push_cast, Nat.reduceBEq, Nat.reduceEqDiff, Nat.reduceAdd, Nat.reduceMul, Nat.reduceSub, Nat.reduceLT, Int.reduceToNat, Int.reduceLT, Int.reduceLE, Int.reduceEq, Int.reduceAdd, Int.reduceSub, Int.reduceNeg, Int.reduceMul, hri, e1]
    exact ⟨k - 1, by omega, n + 1, n, by omega, by simp, by rw [hn1], hu.trans hu2 (fun _ _ h => h)⟩
  · rw [if_neg hfit] at hn1
    have hfit' : ¬ (n : Int) + ((encU n).length : Int) ≤ (room : Int) := by omega
    simp (config := { maxSteps := 3000000 }) (disch := omega) only [push_cast, Nat.reduceBEq, Nat.reduceEqDiff, Nat.reduceAdd, Nat.reduceMul, Nat.reduceSub, Nat.reduceLT, Int.reduceToNat, Int.reduceLT, Int.reduceLE, Int.reduceEq, Int.reduceAdd, Int.reduceSub, Int.reduceNeg, Int.reduceMul, hri, e1]
    exact ⟨k - 1, by omega, n + 1, best, by omega, by simp, by rw [hn1]; exact hb, hu.trans hu2 (fun _ _ h => h)⟩
end Go.Proofs.Ytlnladcfgieggaa.Fd
