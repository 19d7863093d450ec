/-
  Open on a region that holds a list; the laws' small functions.
-/
import Derived.Test.YtlnladcfgieggaaJnR
namespace Go.Proofs.Ytlnladcfgieggaa.Fd
set_option linter.unusedSimpArgs false
set_option linter.unusedVariables false
open Go
set_option maxRecDepth 100000

theorem secs_get {d : DS} {s : Nat} (hs : 0 < s) {f : Nat} : ∀ {k : Nat}, (∀ a, f ≤ a → a < f + k → (d.content a).length = s) → (secs d f k).length = k * s ∧ ∀ p, p < k * s → (secs d f k)[p]? = (d.content (f + p / s))[p % s]?
  | 0, _ => ⟨by simp [secs], fun p hp => by simp at hp⟩
  | k + 1, h => by
    obtain ⟨h1, h2⟩ := secs_get hs (k := k) fun a h1 h2 => h a h1 (by omega)
    have h3 := h (f + k) (by omega) (by omega)
    refine ⟨by rw [secs, List.length_append, h1, h3, Nat.add_mul, Nat.one_mul], fun p hp => ?_⟩
    rw [secs]
    by_cases hpk : p < k * s
    · rw [List.getElem?_append_left (by rw [h1]; exact hpk)]
      exact h2 p hpk
    · rw [List.getElem?_append_right (by rw [h1]; omega), h1]
      rw [Nat.add_mul, Nat.one_mul] at hp
      have hq : p / s = k := by
        refine Nat.div_eq_of_lt_le (by omega) ?_
        rw [Nat.add_mul, Nat.one_mul]; omega
      have hm : p % s = p - k * s := by
        have := div_split (p := p) hs
        rw [hq] at this
        omega
      rw [hq, hm]
theorem lens64 {ls : List (List Int)} {k : Nat} (h : (stream ls).length ≤ k) (hk : k ≤ 50000) : ∀ b, b ∈ ls → b.length < 2 ^ 64 := by
  intro b hb
  have := stream_mem_len hb
  omega
theorem open_spec {n f c s : Nat} {d : DS} {ls : List (List Int)} (h : GoodD n f c s d ls) (hd : Dims n f c s) (hlen : ∀ a, a < d.dur.length → (d.content a).length = d.size) : jopen d f c = (some (jsOf f c s ls), 0) := by
  have hs1 := hd.s1
  have hfc := hd.fc
  have hc1 := hd.c1
  have hct : ∀ a, d.content a = DurL d a := fun a => content_nil h.cache
  have hhd : headD (d.content f) = some (stream ls).length := by rw [hct]; exact h.holds.1
  obtain ⟨g1, g2⟩ := secs_get (d := d) (s := s) (by omega) (f := f + 1) (k := c - 1) fun a h1 h2 => by
    rw [hlen a (by rw [h.sz.dur]; omega), h.sz.size]
  have htk : (secs d (f + 1) (c - 1)).take (stream ls).length = stream ls := by
    apply List.ext_getElem?
    intro p
    by_cases hp : p < (stream ls).length
    · rw [List.getElem?_take_of_lt hp, g2 p (Nat.lt_of_lt_of_le hp h.fit), hct]
      exact h.holds.2 p hp
    · rw [List.getElem?_eq_none (by rw [List.length_take]; omega), List.getElem?_eq_none (by omega)]
  unfold jopen
  rw [if_neg (by rw [h.off]; decide), hhd]
  dsimp only
  rw [h.sz.size, if_neg (by have := h.fit; omega), htk, spl_stream (lens64 h.fit hd.area)]
  rfl
theorem GoodD.spl {n f c s : Nat} {d : DS} {ls : List (List Int)} (h : GoodD n f c s d ls) (hd : Dims n f c s) : spl (stream ls) = some ls := spl_stream (lens64 h.fit hd.area)
/-- The list after an operation, and the error. -/
def afterP (ls : List (List Int)) (x : OpJ) (area : Nat) : List (List Int) × Int :=
  if x.reset then ([], 0) else if area < (stream (ls ++ x.recs)).length then (ls, 7) else (ls ++ x.recs, 0)
def jdo (z : DS × JS) (x : OpJ) : (DS × JS) × Int := if x.reset then jreset z else jappend z x.recs
theorem do_spec {n f c s : Nat} {d : DS} {ls : List (List Int)} (h : GoodD n f c s d ls) (hd : Dims n f c s) {x : OpJ} (hr : RngL x.recs) :
    Sz n s 60000 (jdo (d, jsOf f c s ls) x).1.1 ∧
    (((jdo (d, jsOf f c s ls) x).2 = (afterP ls x ((c - 1) * s)).2 ∧ GoodD n f c s (jdo (d, jsOf f c s ls) x).1.1 (afterP ls x ((c - 1) * s)).1 ∧ (jdo (d, jsOf f c s ls) x).1.2 = jsOf f c s (afterP ls x ((c - 1) * s)).1 ∧ (d.cnt = none → (jdo (d, jsOf f c s ls) x).1.1.cnt = none) ∧
      (∀ a, a < n → (a < f ∨ f + c ≤ a) → DurL (jdo (d, jsOf f c s ls) x).1.1 a = DurL d a) ∧ (((jdo (d, jsOf f c s ls) x).1.1 = d ∧ (afterP ls x ((c - 1) * s)).1 = ls) ∨ DurL (jdo (d, jsOf f c s ls) x).1.1 f = pad s (headL (stream (afterP ls x ((c - 1) * s)).1).length))) ∨
    ((jdo (d, jsOf f c s ls) x).2 = 8 ∧ (jdo (d, jsOf f c s ls) x).1.2 = { jsOf f c s ls with down := true } ∧ BadD n f c s 60000 (jdo (d, jsOf f c s ls) x).1.1 (fun l => l = ls ∨ l = (afterP ls x ((c - 1) * s)).1) ∧ d.cnt ≠ none)) := by
  unfold jdo afterP
  by_cases hx : x.reset = true
  · rw [if_pos hx, if_pos hx]
    have := reset_spec h hd
    exact ⟨this.sz, this.res⟩
  · rw [if_neg hx, if_neg hx]
    by_cases hfull : (c - 1) * s < (stream (ls ++ x.recs)).length
    · rw [if_pos hfull, append_full h hfull]
      exact ⟨h.sz.mono (by omega), .inl ⟨rfl, h, rfl, fun h => h, fun _ _ _ => rfl, .inl ⟨rfl, rfl⟩⟩⟩
    · rw [if_neg hfull]
      have := append_spec h hd hr (by omega)
      exact ⟨this.sz, this.res⟩

/-! the laws' small functions -/
def FewP (l : List OpJ) : Prop := l.length ≤ 30 ∧ ∀ x, x ∈ l → x.recs.length ≤ 20 ∧ ∀ r, r ∈ x.recs → r.length ≤ 300
theorem stream_few {rs : List (List Int)} : ∀ {k : Nat}, rs.length ≤ k → (∀ r, r ∈ rs → r.length ≤ 300) → (stream rs).length ≤ k * 310 := by
  induction rs with
  | nil => intro k _ _; simp [stream_nil]
  | cons a l ih =>
    intro k hk h
    obtain ⟨k, rfl⟩ : ∃ k', k = k' + 1 := ⟨k - 1, by simp at hk; omega⟩
    have h1 := ih (k := k) (by simp at hk; omega) fun r hr => h r (List.mem_cons_of_mem _ hr)
    have h2 := h a List.mem_cons_self
    have h3 := encU_len10 (n := a.length) (by omega)
    rw [stream_cons, encB, List.length_append, List.length_append]
    omega
theorem FewP.len {l : List OpJ} (h : FewP l) {x : OpJ} (hx : x ∈ l) : (stream x.recs).length ≤ 6200 := stream_few (k := 20) (h.2 x hx).1 (h.2 x hx).2
theorem SlO.upd {w w' : World} {v : Value} {l : List OpJ} (h : SlO w v l) (hu : Upd (fun _ => False) w w') {F : Nat → Prop} (hF : ∀ b, F b → w.heap.size ≤ b) : ∃ a c, v = .slice a l.length c ∧ (l ≠ [] → ∃ b o, a = some ⟨b, o, none⟩ ∧ ∀ j x, l[j]? = some x →
    ∃ ua un uc, w'.cell? ⟨b, o + j * 2, none⟩ = some (.bool x.reset) ∧ w'.cell? ⟨b, o + j * 2 + 1, none⟩ = some (.slice ua un uc) ∧ SlR w' F (.slice ua un uc) x.recs ∧ RngL x.recs) := by
  obtain ⟨a, c, hv, hl⟩ := h
  refine ⟨a, c, hv, fun h0 => ?_⟩
  obtain ⟨b, o, h1, h2, h3⟩ := hl h0
  refine ⟨b, o, h1, fun j x hj => ?_⟩
  obtain ⟨u, h4, h5, h6, h7⟩ := h3 j x hj
  obtain ⟨ua, uc, rfl, _⟩ := id h6
  have hb := hu.block b h2 (fun h => h)
  exact ⟨ua, _, uc, by rw [World.cell?_of_block hb]; exact h4, by rw [World.cell?_of_block hb]; exact h5, h6.go hu fun b _ h => h.elim False.elim (hF b), h7⟩
set_option maxHeartbeats 1000000 in
theorem Few_ok {w0 w : World} {v : Value} {l : List OpJ} (h : SlO w0 v l) (hu0 : Upd (fun _ => False) w0 w) : Ok (den Try.prog 11 #[v] w) fun u w' => (∃ q, u = .bool q ∧ (q = true ↔ FewP l)) ∧ Upd (fun _ => False) w w' := by
  obtain ⟨a, c, rfl, _⟩ := id h
  refine den_ok (args := [.slice a l.length c]) rs11 Try.func11 rfl mixed in11 ok11 rfl ?_
  by_cases hlen : 30 < l.length
  · have hlen' : (30 : Int) < l.length := by omega
    simp (config := { maxSteps := 3000000 }) (disch := omega) only [push_cast, Nat.reduceBEq, Nat.reduceEqDiff, Nat.reduceAdd, Nat.reduceMul, Nat.reduceSub, Nat.reduceLT, Int.reduceToNat, Int.reduceLT, Int.reduceLE, Int.reduceEq, Int.reduceAdd, Int.reduceSub, Int.reduceNeg, Int.reduceMul]
    exact ⟨⟨false, rfl, iff_of_false (by simp) fun h => by have := h.1; omega⟩, Upd.refl⟩
  have hlen' : ¬ (30 : Int) < l.length := by omega
  simp (config := { maxSteps := 3000000 }) (disch := omega) only [push_cast, Nat.reduceBEq, Nat.reduceEqDiff, Nat.reduceAdd, Nat.reduceMul, Nat.reduceSub, Nat.reduceLT, Int.reduceToNat, Int.reduceLT, Int.reduceLE, Int.reduceEq, Int.reduceAdd, Int.reduceSub, Int.reduceNeg, Int.reduceMul]
  refine loop_inv (I := fun k st w' => Bx (∃ i, k + i = l.length ∧ st = [.int .i64 (i : Int)] ∧ Upd (fun _ => False) w w' ∧ ∀ (j : Nat) (x : OpJ), j < i → l[j]? = some x → x.recs.length ≤ 20 ∧ ∀ r, r ∈ x.recs → r.length ≤ 300) ⟨⟩) ?_ l.length ⟨0, rfl, rfl, Upd.refl, fun j x hj => by omega⟩
  rintro k st w1 ⟨i, hk, rfl, hu, hin⟩
  by_cases hk0 : k = 0
  · simp (config := { maxSteps := 3000000 }) (disch := omega) only [push_cast, Nat.reduceBEq, Nat.reduceEqDiff, Nat.reduceAdd, Nat.reduceMul, Nat.reduceSub, Nat.reduceLT, Int.reduceToNat, Int.reduceLT, Int.reduceLE, Int.reduceEq, Int.reduceAdd, Int.reduceSub, Int.reduceNeg, Int.reduceMul]
    refine ⟨⟨true, rfl, iff_of_true rfl ⟨by omega, fun x hx => ?_⟩⟩, hu⟩
    obtain ⟨j, hj⟩ := List.mem_iff_getElem?.1 hx
    have := (List.getElem?_eq_some_iff.1 hj).1
    exact hin j x (by omega) hj
  have hi : i < l.length := by omega
  have hx := List.getElem?_eq_getElem hi
  have hxm := List.getElem_mem hi
  generalize l[i] = x at hx hxm
  have bad : ¬ (x.recs.length ≤ 20 ∧ ∀ r, r ∈ x.recs → r.length ≤ 300) → ¬ FewP l := fun h g => h (g.2 x hxm)
  have opn : ∀ {w2 : World}, Upd (fun _ => False) w w2 → ∃ b o ua un uc, a = some ⟨b, o, none⟩ ∧ w2.cell? ⟨b, o + i * 2, none⟩ = some (.bool x.reset) ∧ w2.cell? ⟨b, o + i * 2 + 1, none⟩ = some (.slice ua un uc) ∧ SlR w2 (fun _ => False) (.slice ua un uc) x.recs := by
    intro w2 hu2
    obtain ⟨a', c', hv, hl⟩ := h.upd (hu0.trans hu2 (fun _ _ h => h)) (F := fun _ => False) fun _ h => h.elim
    injection hv with e1 _ _
    subst e1
    obtain ⟨b, o, rfl, h3⟩ := hl (by intro e; rw [e] at hi; simp at hi)
    obtain ⟨ua, un, uc, q0, q1, q2, _⟩ := h3 i x hx
    exact ⟨b, o, ua, un, uc, rfl, q0, q1, q2⟩
  obtain ⟨b, o, ua, un, uc, rfl, q0, q1, q2⟩ := opn hu
  have hun : un = x.recs.length := by
    obtain ⟨a', c', hv, _⟩ := q2
    injection hv
  subst hun
  by_cases h20 : 20 < x.recs.length
  · have h20' : (20 : Int) < x.recs.length := by omega
    simp (config := { maxSteps := 3000000 }) (disch := omega) only [push_cast, Nat.reduceBEq, Nat.reduceEqDiff, Nat.reduceAdd, Nat.reduceMul, Nat.reduceSub, Nat.reduceLT, Int.reduceToNat, Int.reduceLT, Int.reduceLE, Int.reduceEq, Int.reduceAdd, Int.reduceSub, Int.reduceNeg, Int.reduceMul, q0, q1]
    exact ⟨⟨false, rfl, iff_of_false (by simp) (bad fun h => by have := h.1; omega)⟩, hu⟩
  have h20' : ¬ (20 : Int) < x.recs.length := by omega
  simp (config := { maxSteps := 3000000 }) (disch := omega) only [push_cast, Nat.reduceBEq, Nat.reduceEqDiff, Nat.reduceAdd, Nat.reduceMul, Nat.reduceSub, Nat.reduceLT, Int.reduceToNat, Int.reduceLT, Int.reduceLE, Int.reduceEq, Int.reduceAdd, Int.reduceSub, Int.reduceNeg, Int.reduceMul, q0, q1]
  refine loop_inv (I := fun k2 st w' => Bx (∃ j, k2 + j = x.recs.length ∧ st = [.int .i64 (j : Int)] ∧ Upd (fun _ => False) w w' ∧ ∀ (m : Nat) (r : List Int), m < j → x.recs[m]? = some r → r.length ≤ 300) ⟨⟩) ?_ x.recs.length ⟨0, rfl, rfl, hu, fun j x hj => by omega⟩
  clear q0 q1 q2 hu
  rintro k2 st w2 ⟨j, hk2, rfl, hu2, hin2⟩
  obtain ⟨b', o', ua', un', uc', e1, q0, q1, q2⟩ := opn hu2
  injection e1 with e1
  injection e1 with e1 e2
  subst e1
  subst e2
  have hun : un' = x.recs.length := by
    obtain ⟨a', c', hv, _⟩ := q2
    injection hv
  subst hun
  by_cases hk20 : k2 = 0
  · obtain rfl : j = x.recs.length := by omega
    simp (config := { maxSteps := 3000000 }) (disch := omega) only [push_cast, Nat.reduceBEq, Nat.reduceEqDiff, Nat.reduceAdd, Nat.reduceMul, Nat.reduceSub, Nat.reduceLT, Int.reduceToNat, Int.reduceLT, Int.reduceLE, Int.reduceEq, Int.reduceAdd, Int.reduceSub, Int.reduceNeg, Int.reduceMul, q0, q1]
    refine ⟨k - 1, by omega, i + 1, by omega, by simp, hu2, fun m y hm hy => ?_⟩
    by_cases e : m = i
    · subst e
      rw [hx] at hy
      cases hy
      refine ⟨by omega, fun r hr => ?_⟩
      obtain ⟨q, hq⟩ := List.mem_iff_getElem?.1 hr
      exact hin2 q r (List.getElem?_eq_some_iff.1 hq).1 hq
    · exact hin m y (by omega) hy
  have hj : j < x.recs.length := by omega
  have hr := List.getElem?_eq_getElem hj
  have hrm := List.getElem_mem hj
  generalize x.recs[j] = r at hr hrm
  obtain ⟨b3, o3, ea, ec, rfl, q3, q4⟩ := q2.at_ hr
  by_cases h300 : 300 < r.length
  · have h300' : (300 : Int) < r.length := by omega
    simp (config := { maxSteps := 3000000 }) (disch := omega) only [push_cast, Nat.reduceBEq, Nat.reduceEqDiff, Nat.reduceAdd, Nat.reduceMul, Nat.reduceSub, Nat.reduceLT, Int.reduceToNat, Int.reduceLT, Int.reduceLE, Int.reduceEq, Int.reduceAdd, Int.reduceSub, Int.reduceNeg, Int.reduceMul, q0, q1, q3]
    exact ⟨⟨false, rfl, iff_of_false (by simp) (bad fun h => by have := h.2 r hrm; omega)⟩, hu2⟩
  · have h300' : ¬ (300 : Int) < r.length := by omega
    simp (config := { maxSteps := 3000000 }) (disch := omega) only [push_cast, Nat.reduceBEq, Nat.reduceEqDiff, Nat.reduceAdd, Nat.reduceMul, Nat.reduceSub, Nat.reduceLT, Int.reduceToNat, Int.reduceLT, Int.reduceLE, Int.reduceEq, Int.reduceAdd, Int.reduceSub, Int.reduceNeg, Int.reduceMul, q0, q1, q3]
    refine ⟨k2 - 1, by omega, j + 1, by omega, by simp, hu2, fun m y hm hy => ?_⟩
    by_cases e : m = j
    · subst e
      rw [hr] at hy
      cases hy
      omega
    · exact hin2 m y (by omega) hy
theorem shape_ok {w : World} {x y : Nat} (hx : x < 256) (hy : y < 256) : Ok (den Try.prog 13 #[.int .u8 (x : Int), .int .u8 (y : Int)] w) fun u w' => u = .tuple #[.int .i64 ((2 + x % 6 : Nat) : Int), .int .i64 ((16 + y % 40 : Nat) : Int)] ∧ Upd (fun _ => False) w w' := by
  refine den_ok (args := [.int .u8 (x : Int), .int .u8 (y : Int)]) rs13 Try.func13 rfl mixed in13 ok13 rfl ?_
  have e1 : (x : Int).tmod 6 = ((x % 6 : Nat) : Int) := (Int.ofNat_tmod x 6).symm
  have e2 : (y : Int).tmod 40 = ((y % 40 : Nat) : Int) := (Int.ofNat_tmod y 40).symm
  simp (config := { maxSteps := 3000000 }) (disch := omega) only [push_cast, Nat.reduceBEq, Nat.reduceEqDiff, Nat.reduceAdd, Nat.reduceMul, Nat.reduceSub, Nat.reduceLT, Int.reduceToNat, Int.reduceLT, Int.reduceLE, Int.reduceEq, Int.reduceAdd, Int.reduceSub, Int.reduceNeg, Int.reduceMul, e1, e2]
  first | exact Upd.refl | exact ⟨by simp, Upd.refl⟩
end Go.Proofs.Ytlnladcfgieggaa.Fd
