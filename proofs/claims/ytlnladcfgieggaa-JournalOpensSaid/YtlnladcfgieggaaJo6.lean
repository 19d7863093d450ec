/-
  The law JournalOpens, as a reading.
-/
import Derived.Test.YtlnladcfgieggaaJo5
import Derived.Test.YtlnladcfgieggaaFdJ
namespace Go.Proofs.Ytlnladcfgieggaa.Fd
set_option linter.unusedSimpArgs false
set_option linter.unusedVariables false
open Go Go.ChangeMaps Go.ChangeShapes Go.WideShapes
set_option maxRecDepth 100000

theorem open_bytesJ {H : Type} {enc : TypeId × Value → H} {w : World} {v : Value} {r : Reach} {b0 : Nat} {d : DataW H} {ps : List MemPlace}
    (hval : Value.okWide Try.prog w r b0 46 v) (h : DataW.Trod enc Try.prog w 0 (fun _ => true) true 46 v d ps) : ∃ l, SlB w (fun b => w.heap.size ≤ b) v l ∧ Rng l := by
  obtain ⟨l, h1, h2⟩ := open_bytesG Try.underlying46 Try.underlying5 (by kernel_rfl) hval h
  exact ⟨l, h1, rng_of_wf h2⟩
/-- The bytes of one sector. -/
def sect (B : List Int) (s a : Nat) : List Int := (B.drop (a * s)).take s
/-- A disk with its first sectors written. -/
def Dw (B : List Int) (n s i : Nat) : DS := { DS.new n s with cache := (List.range i).map fun a => (a, sect B s a) }
theorem Dw.succ {B : List Int} {n s i : Nat} (hi : i < n) (hl : (sect B s i).length = s) : (Dw B n s i).write (i : Int) (sect B s i) = (Dw B n s (i + 1), 0) := by
  rw [write_on (d := Dw B n s i) rfl rfl (by show i < (List.replicate n _).length; rw [List.length_replicate]; exact hi) hl]
  unfold Dw
  rw [List.range_succ, List.map_append]
  rfl
theorem Dw.last {B : List Int} {s a : Nat} : ∀ {i : Nat}, lastOf ((List.range i).map fun a => (a, sect B s a)) a = if a < i then some (sect B s a) else none
  | 0 => rfl
  | i + 1 => by
    rw [List.range_succ, List.map_append, List.map_singleton, lastOf_snoc, Dw.last (i := i)]
    by_cases h : i = a
    · rw [if_pos h, if_pos (by omega), h]
    · rw [if_neg h]
      by_cases h2 : a < i
      · rw [if_pos h2, if_pos (by omega)]
      · rw [if_neg h2, if_neg (by omega)]
theorem sect_len {B : List Int} {n s a : Nat} (hB : B.length = n * s) (ha : a < n) : (sect B s a).length = s := by
  have h : (a + 1) * s ≤ n * s := Nat.mul_le_mul_right _ ha
  rw [Nat.add_mul, Nat.one_mul] at h
  unfold sect
  rw [List.length_take, List.length_drop]
  omega
def Ds (B : List Int) (n s : Nat) : DS := (Dw B n s n).settle fun _ => true
theorem Ds.sync {B : List Int} {n s : Nat} : (Dw B n s n).sync = (Ds B n s, 0) := rfl
theorem Ds.len {B : List Int} {n s : Nat} : (Ds B n s).dur.length = n := by
  show (settled _ _ _ _).length = n
  rw [settled_length]
  exact List.length_replicate
theorem Ds.content {B : List Int} {n s a : Nat} (ha : a < n) : (Ds B n s).content a = sect B s a := by
  rw [content_nil rfl]
  have h := settled_all (dur := (DS.new n s).dur) (a := a) (by show a < (List.replicate n _).length; rw [List.length_replicate]; exact ha) (c := (Dw B n s n).cache) _ rfl
  refine Eq.trans h ?_
  show (lastOf ((List.range n).map fun a => (a, sect B s a)) a).getD _ = _
  rw [Dw.last, if_pos ha]
  rfl
theorem sect_rng {B : List Int} {s a : Nat} (h : Rng B) : Rng (sect B s a) := fun x hx => h x (List.mem_of_mem_drop (List.mem_of_mem_take hx))
theorem Ds.rng {B : List Int} {n s : Nat} (h : Rng B) : RngD (Ds B n s) := by
  have hw : RngD (Dw B n s n) := ⟨(RngD.new (n := n) (s := s)).dur, fun x hx => by
    obtain ⟨a, _, rfl⟩ := List.mem_map.1 hx
    exact sect_rng h⟩
  exact hw.settle _
theorem Ds.sz {B : List Int} {n s : Nat} : Sz n s 0 (Ds B n s) := ⟨Ds.len, rfl, Nat.zero_le _, fun k hk => by cases hk⟩
theorem Ds.secs {B : List Int} {n s f : Nat} (hB : B.length = n * s) : ∀ {k : Nat}, f + k ≤ n → secs (Ds B n s) f k = (B.drop (f * s)).take (k * s)
  | 0, _ => by rw [Fd.secs, Nat.zero_mul, List.take_zero]
  | k + 1, hk => by
    rw [Fd.secs, Ds.secs hB (k := k) (by omega), Ds.content (by omega), Nat.add_mul, Nat.one_mul, List.take_add]
    congr 1
    unfold sect
    rw [List.drop_drop, Nat.add_mul]
theorem Ds.open {B : List Int} {n s f c : Nat} (hB : B.length = n * s) (hc : 2 ≤ c) (hfc : f + c ≤ n) : jopen (Ds B n s) f c =
    match headD (sect B s f) with
    | none => (none, 12)
    | some k => if (c - 1) * s < k then (none, 12) else
      match spl (((B.drop ((f + 1) * s)).take ((c - 1) * s)).take k) with
      | none => (none, 12)
      | some _ => (some ⟨f, (c - 1) * s, ((B.drop ((f + 1) * s)).take ((c - 1) * s)).take k, false⟩, 0) := by
  unfold jopen
  rw [if_neg (by show ¬ (false = true); decide), Ds.content (by omega), Ds.secs hB (by omega)]
  rfl
theorem Ds.holds {B : List Int} {n s f c : Nat} (hB : B.length = n * s) (hr : Rng B) (hc : 2 ≤ c) (hfc : f + c ≤ n) :
    (holdsP (sect B s f) ((B.drop ((f + 1) * s)).take ((c - 1) * s)) = none ∧ jopen (Ds B n s) f c = (none, 12)) ∨
    ∃ ls st, holdsP (sect B s f) ((B.drop ((f + 1) * s)).take ((c - 1) * s)) = some ls ∧ jopen (Ds B n s) f c = (some ⟨f, (c - 1) * s, st, false⟩, 0) ∧ spl st = some ls ∧ RngL ls ∧ st.length ≤ n * s ∧ ls.length ≤ n * s := by
  have hle : (f + 1) * s + (c - 1) * s ≤ n * s := by
    rw [← Nat.add_mul]
    exact Nat.mul_le_mul_right _ (by omega)
  have hal : ((B.drop ((f + 1) * s)).take ((c - 1) * s)).length = (c - 1) * s := by
    rw [List.length_take, List.length_drop, hB]
    omega
  rw [Ds.open hB hc hfc]
  unfold holdsP
  cases headD (sect B s f) with
  | none => exact .inl ⟨rfl, rfl⟩
  | some k =>
    dsimp only
    rw [hal]
    split
    · exact .inl ⟨rfl, rfl⟩
    · cases hs : spl (((B.drop ((f + 1) * s)).take ((c - 1) * s)).take k) with
      | none => exact .inl ⟨rfl, rfl⟩
      | some ls =>
        have hst : Rng (((B.drop ((f + 1) * s)).take ((c - 1) * s)).take k) := fun x hx => hr x (List.mem_of_mem_drop (List.mem_of_mem_take (List.mem_of_mem_take hx)))
        have hl : (((B.drop ((f + 1) * s)).take ((c - 1) * s)).take k).length ≤ n * s := by
          rw [List.length_take, hal]
          omega
        have hll := splF_len hs (Nat.zero_le _)
        exact .inr ⟨ls, _, rfl, rfl, hs, splF_rng hst hs, hl, by omega⟩
set_option maxHeartbeats 4000000 in
theorem journalOpens_ok {w : World} {y : Nat} (hy : y < 256) {v : Value} {l : List Int} (hv : SlB w (fun b => w.heap.size ≤ b) v l) (hl : Rng l) {f c : Int} (hf : (Lit.int .i64 f).wf = true) (hc : (Lit.int .i64 c).wf = true) :
    Ok (den Try.prog 6 #[.int .u8 (y : Int), v, .int .i64 f, .int .i64 c] w) fun u w' => u = .bool true ∧ Upd (fun _ => False) w w' := by
  have t := fun {a b c : World} (x : Upd (fun _ => False) a b) (y : Upd (fun _ => False) b c) => x.trans y (F := fun _ => False) (fun _ _ h => h)
  obtain ⟨va, vc, rfl, _⟩ := id hv
  refine den_ok (args := [.int .u8 (y : Int), .slice va l.length vc, .int .i64 f, .int .i64 c]) rs6 Try.func6 rfl mixed in6 ok6 rfl ?_
  by_cases h600 : 600 < l.length
  · have h600' : (600 : Int) < l.length := by omega
    simp (config := { maxSteps := 3000000 }) (disch := omega) only [push_cast, Nat.reduceBEq, Nat.reduceEqDiff, Nat.reduceAdd, Nat.reduceMul, Nat.reduceSub, Nat.reduceLT, Int.reduceToNat, Int.reduceLT, Int.reduceLE, Int.reduceEq, Int.reduceAdd, Int.reduceSub, Int.reduceNeg, Int.reduceMul]
    refine Ok.use awake_ok ?_
    rintro v w2 ⟨rfl, hu2⟩
    simp (config := { maxSteps := 3000000 }) (disch := omega) only [push_cast, Nat.reduceBEq, Nat.reduceEqDiff, Nat.reduceAdd, Nat.reduceMul, Nat.reduceSub, Nat.reduceLT, Int.reduceToNat, Int.reduceLT, Int.reduceLE, Int.reduceEq, Int.reduceAdd, Int.reduceSub, Int.reduceNeg, Int.reduceMul]
    exact hu2
  have h600' : ¬ (600 : Int) < l.length := by omega
  simp (config := { maxSteps := 3000000 }) (disch := omega) only [push_cast, Nat.reduceBEq, Nat.reduceEqDiff, Nat.reduceAdd, Nat.reduceMul, Nat.reduceSub, Nat.reduceLT, Int.reduceToNat, Int.reduceLT, Int.reduceLE, Int.reduceEq, Int.reduceAdd, Int.reduceSub, Int.reduceNeg, Int.reduceMul]
  refine Ok.use (shape_ok (x := 0) (by omega) hy) ?_
  rintro v w1 ⟨rfl, hu1⟩
  obtain ⟨s, hs⟩ : ∃ s, s = 16 + y % 40 := ⟨_, rfl⟩
  rw [← hs]
  have s1 : 16 ≤ s := by omega
  have s2 : s ≤ 55 := by omega
  clear hs
  obtain ⟨L, hL⟩ : ∃ L, L = l.length := ⟨_, rfl⟩
  rw [← hL] at h600 h600' ⊢
  obtain ⟨Q, hQ⟩ : ∃ Q, Q = L / s := ⟨_, rfl⟩
  obtain ⟨n, hn⟩ : ∃ n, n = Q + 1 := ⟨_, rfl⟩
  obtain ⟨T, hT⟩ : ∃ T, T = n * s := ⟨_, rfl⟩
  have hLT : L < T := by rw [hT, hn, hQ, Nat.mul_comm]; exact Nat.lt_mul_div_succ _ (by omega)
  have hTL : T ≤ L + s := by
    have := Nat.div_mul_le_self L s
    rw [hT, hn, Nat.add_mul, Nat.one_mul, hQ]; omega
  have hnT : n * 16 ≤ T := by rw [hT]; exact Nat.mul_le_mul_left _ s1
  obtain ⟨R, hR⟩ : ∃ R, T = L + R := ⟨T - L, by omega⟩
  have eQ : (L : Int).tdiv (s : Int) = (Q : Int) := by rw [hQ]; exact (Int.ofNat_tdiv L s).symm
  have eN : (Q : Int) + 1 = (n : Int) := by omega
  have eT : (n : Int) * (s : Int) = (T : Int) := by rw [hT]; simp
  have eR : (T : Int) - (L : Int) = (R : Int) := by omega
  have es : ¬ (s : Int) = 0 := by omega
  simp (config := { maxSteps := 3000000 }) (disch := omega) only [push_cast, Nat.reduceBEq, Nat.reduceEqDiff, Nat.reduceAdd, Nat.reduceMul, Nat.reduceSub, Nat.reduceLT, Int.reduceToNat, Int.reduceLT, Int.reduceLE, Int.reduceEq, Int.reduceAdd, Int.reduceSub, Int.reduceNeg, Int.reduceMul, eQ, eN, eT, eR]
  refine Ok.use (new_run (n := n) (by omega) (by omega) s1 (by omega) hu1) ?_
  rintro v w3 ⟨p, D, rfl, hd3, hu3, hD⟩
  simp (config := { maxSteps := 3000000 }) (disch := omega) only [push_cast, Nat.reduceBEq, Nat.reduceEqDiff, Nat.reduceAdd, Nat.reduceMul, Nat.reduceSub, Nat.reduceLT, Int.reduceToNat, Int.reduceLT, Int.reduceLE, Int.reduceEq, Int.reduceAdd, Int.reduceSub, Int.reduceNeg, Int.reduceMul, eQ, eN, eT, eR]
  have hu03 := t hu1 hu3
  have hrow0 : Bow (w3.alloc (.cells #[] 5 (0, 0))) (.slice (some ⟨w3.heap.size, 0, none⟩) 0 0) [] := Bow.empty (Blk.new (cs := []))
  have hu04 : Upd (fun _ => False) w (w3.alloc (.cells #[] 5 (0, 0))) := hu03.alloc'
  have hu34 : Upd (fun _ => False) w3 (w3.alloc (.cells #[] 5 (0, 0))) := Upd.alloc
  have hsz4 : (w3.alloc (.cells #[] 5 (0, 0))).heap.size = w3.heap.size + 1 := size_alloc
  have hs03 := hu03.size
  rw [hL]
  refine app_by hrow0 (hv.go (F' := fun _ => False) hu04 fun b _ h => h.elim False.elim False.elim) (by simp; omega) ?_
  intro v5 w5 hrow5 hu5 hfr5
  rw [List.nil_append] at hrow5
  have hv5 : ∀ g, v5.ownBlock = some g → w3.heap.size ≤ g ∧ g < w5.heap.size := by
    intro g hg
    refine ⟨?_, hrow5.lt hg⟩
    rcases hfr5 g hg with h | h
    · have := ownB h; omega
    · omega
  have hu35 : Upd (fun _ => False) w3 w5 := hu34.trans hu5 fun b hb e => by have := ownB e; omega
  obtain ⟨a5, c5, rfl, hc5⟩ := hrow5.form
  rw [← hL]
  simp (config := { maxSteps := 3000000 }) (disch := omega) only [push_cast, Nat.reduceBEq, Nat.reduceEqDiff, Nat.reduceAdd, Nat.reduceMul, Nat.reduceSub, Nat.reduceLT, Int.reduceToNat, Int.reduceLT, Int.reduceLE, Int.reduceEq, Int.reduceAdd, Int.reduceSub, Int.reduceNeg, Int.reduceMul, eQ, eN, eT, eR]
  refine app_zeros (by rw [← hL] at hrow5; exact hrow5) (by omega) ?_
  intro v7 w7 hrow7 hu7 hfr7
  have hs35 := hu35.size
  have hu37 : Upd (fun _ => False) w3 w7 := hu35.trans hu7 fun b hb e => by rw [hL] at e; have := hv5 b e; omega
  have hv7 : ∀ g, v7.ownBlock = some g → w3.heap.size ≤ g := by
    intro g hg
    rcases hfr7 g hg with h | h
    · rw [hL] at h; exact (hv5 g h).1
    · omega
  have hBr : Rng (l ++ List.replicate R 0) := hl.append Rng.zeros
  have hBl : (l ++ List.replicate R (0 : Int)).length = T := by rw [List.length_append, List.length_replicate]; omega
  obtain ⟨a7, c7, rfl, hc7⟩ := hrow7.form
  have hsl7 := hrow7.slb (F := D) fun g hg hDg => by have := hv7 g hg; have := hd3.bd g hDg; omega
  have hd7 := hd3.upd hu37 (fun _ _ h => h)
  have hu07 := t hu03 hu37
  generalize l ++ List.replicate R (0 : Int) = B at *
  obtain ⟨g, o, rfl, _⟩ : ∃ g o, a7 = some ⟨g, o, none⟩ ∧ True := by
    obtain ⟨a', c', hv', hli⟩ := id hsl7
    injection hv' with e1 e2 e3
    obtain ⟨g, o, h1, _⟩ := hli (by intro e; rw [e] at hBl; simp at hBl; omega)
    exact ⟨g, o, by rw [e1, h1], trivial⟩
  rw [hBl] at hc7 hsl7 ⊢
  clear hrow7 hrow5 hrow0 hfr7 hfr5 hd3 hv5 hv7 hu7 hu5 hv
  simp (config := { maxSteps := 3000000 }) (disch := omega) only [push_cast, Nat.reduceBEq, Nat.reduceEqDiff, Nat.reduceAdd, Nat.reduceMul, Nat.reduceSub, Nat.reduceLT, Int.reduceToNat, Int.reduceLT, Int.reduceLE, Int.reduceEq, Int.reduceAdd, Int.reduceSub, Int.reduceNeg, Int.reduceMul, eQ, eN, eT, eR]
  refine loop_inv (I := fun k st w' => Bx (∃ (i : Nat) (D : Nat → Prop), k + i = n ∧ st = [.int .i64 (i : Int)] ∧ IsDisk w' D p (Dw B n s i) ∧ SlB w' D (.slice (some ⟨g, o, none⟩) T c7) B ∧ Upd (fun _ => False) w w' ∧ ∀ b, D b → w.heap.size ≤ b) ⟨⟩) ?_ n
    ⟨0, D, by omega, rfl, hd7, hsl7, hu07, hD⟩
  clear hd7 hsl7 hD hu07
  rintro k st w8 ⟨i, D, hk, rfl, hd8, hsl8, hu8, hD8⟩
  have hBT : B.length = n * s := by rw [hBl, hT]
  by_cases hk0 : k = 0
  · have hin : i = n := by omega
    rw [hin] at hd8
    have hin' : ¬ (i : Int) < (n : Int) := by omega
    simp (config := { maxSteps := 3000000 }) (disch := omega) only [push_cast, Nat.reduceBEq, Nat.reduceEqDiff, Nat.reduceAdd, Nat.reduceMul, Nat.reduceSub, Nat.reduceLT, Int.reduceToNat, Int.reduceLT, Int.reduceLE, Int.reduceEq, Int.reduceAdd, Int.reduceSub, Int.reduceNeg, Int.reduceMul, eQ, eN, eT, eR]
    have hsy := sync_ok hd8 (by show ((List.range n).map _).length < 1000000000; rw [List.length_map, List.length_range]; omega) (fun k hk => by cases hk)
    rw [Ds.sync] at hsy
    refine Ok.use hsy ?_
    rintro v w9 ⟨rfl, hd9, hu9⟩
    have hu09 : Upd (fun _ => False) w w9 := hu8.trans hu9 fun b hb h => by have := hD8 b h; omega
    have hsl9 := hsl8.go (F' := fun _ => False) hu9 fun b _ h => h.elim _root_.id False.elim
    have hs08 := hu8.size
    have hD9 : ∀ b, gr D w8 w9 b → w.heap.size ≤ b := fun b hb => hb.elim (hD8 b) fun h => by omega
    generalize gr D w8 w9 = E at *
    clear hd8 hsl8 hu9 hsy
    simp (config := { maxSteps := 3000000 }) (disch := omega) only [push_cast, Nat.reduceBEq, Nat.reduceEqDiff, Nat.reduceAdd, Nat.reduceMul, Nat.reduceSub, Nat.reduceLT, Int.reduceToNat, Int.reduceLT, Int.reduceLE, Int.reduceEq, Int.reduceAdd, Int.reduceSub, Int.reduceNeg, Int.reduceMul, eQ, eN, eT, eR]
    have h62 : IntKind.i64.max = 9223372036854775807 := by decide
    have h63 : IntKind.i64.min = -9223372036854775808 := by decide
    simp only [Lit.wf, Bool.and_eq_true, decide_eq_true_eq] at hf hc
    rw [h62, h63] at hf hc
    have hdl : (Ds B n s).dur.length = n := Ds.len
    by_cases hbad : c < 2 ∨ f < 0 ∨ (n : Int) ≤ f ∨ (n : Int) - f < c
    · refine Ok.use (open_bad hd9 (by rw [hdl]; omega) (by omega) (by rw [hdl]; omega)) ?_
      rintro v w10 ⟨⟨a, rfl⟩, hu10⟩
      have hu010 := t hu09 hu10
      by_cases h1 : c < 2
      · simp (config := { maxSteps := 3000000 }) (disch := omega) only [push_cast, Nat.reduceBEq, Nat.reduceEqDiff, Nat.reduceAdd, Nat.reduceMul, Nat.reduceSub, Nat.reduceLT, Int.reduceToNat, Int.reduceLT, Int.reduceLE, Int.reduceEq, Int.reduceAdd, Int.reduceSub, Int.reduceNeg, Int.reduceMul, eQ, eN, eT, eR]
        refine Ok.use awake_ok ?_
        rintro v w11 ⟨rfl, hu11⟩
        simp (config := { maxSteps := 3000000 }) (disch := omega) only [push_cast, Nat.reduceBEq, Nat.reduceEqDiff, Nat.reduceAdd, Nat.reduceMul, Nat.reduceSub, Nat.reduceLT, Int.reduceToNat, Int.reduceLT, Int.reduceLE, Int.reduceEq, Int.reduceAdd, Int.reduceSub, Int.reduceNeg, Int.reduceMul]
        exact t hu010 hu11
      by_cases h2 : f < 0
      · simp (config := { maxSteps := 3000000 }) (disch := omega) only [push_cast, Nat.reduceBEq, Nat.reduceEqDiff, Nat.reduceAdd, Nat.reduceMul, Nat.reduceSub, Nat.reduceLT, Int.reduceToNat, Int.reduceLT, Int.reduceLE, Int.reduceEq, Int.reduceAdd, Int.reduceSub, Int.reduceNeg, Int.reduceMul, eQ, eN, eT, eR]
        refine Ok.use awake_ok ?_
        rintro v w11 ⟨rfl, hu11⟩
        simp (config := { maxSteps := 3000000 }) (disch := omega) only [push_cast, Nat.reduceBEq, Nat.reduceEqDiff, Nat.reduceAdd, Nat.reduceMul, Nat.reduceSub, Nat.reduceLT, Int.reduceToNat, Int.reduceLT, Int.reduceLE, Int.reduceEq, Int.reduceAdd, Int.reduceSub, Int.reduceNeg, Int.reduceMul]
        exact t hu010 hu11
      by_cases h3 : (n : Int) ≤ f
      · simp (config := { maxSteps := 3000000 }) (disch := omega) only [push_cast, Nat.reduceBEq, Nat.reduceEqDiff, Nat.reduceAdd, Nat.reduceMul, Nat.reduceSub, Nat.reduceLT, Int.reduceToNat, Int.reduceLT, Int.reduceLE, Int.reduceEq, Int.reduceAdd, Int.reduceSub, Int.reduceNeg, Int.reduceMul, eQ, eN, eT, eR]
        refine Ok.use awake_ok ?_
        rintro v w11 ⟨rfl, hu11⟩
        simp (config := { maxSteps := 3000000 }) (disch := omega) only [push_cast, Nat.reduceBEq, Nat.reduceEqDiff, Nat.reduceAdd, Nat.reduceMul, Nat.reduceSub, Nat.reduceLT, Int.reduceToNat, Int.reduceLT, Int.reduceLE, Int.reduceEq, Int.reduceAdd, Int.reduceSub, Int.reduceNeg, Int.reduceMul]
        exact t hu010 hu11
      have h4 : (n : Int) - f < c := by omega
      simp (config := { maxSteps := 3000000 }) (disch := omega) only [push_cast, Nat.reduceBEq, Nat.reduceEqDiff, Nat.reduceAdd, Nat.reduceMul, Nat.reduceSub, Nat.reduceLT, Int.reduceToNat, Int.reduceLT, Int.reduceLE, Int.reduceEq, Int.reduceAdd, Int.reduceSub, Int.reduceNeg, Int.reduceMul, eQ, eN, eT, eR]
      refine Ok.use awake_ok ?_
      rintro v w11 ⟨rfl, hu11⟩
      simp (config := { maxSteps := 3000000 }) (disch := omega) only [push_cast, Nat.reduceBEq, Nat.reduceEqDiff, Nat.reduceAdd, Nat.reduceMul, Nat.reduceSub, Nat.reduceLT, Int.reduceToNat, Int.reduceLT, Int.reduceLE, Int.reduceEq, Int.reduceAdd, Int.reduceSub, Int.reduceNeg, Int.reduceMul]
      exact t hu010 hu11
    obtain ⟨F, rfl⟩ : ∃ F : Nat, f = F := ⟨f.toNat, by omega⟩
    obtain ⟨C, rfl⟩ : ∃ C : Nat, c = C := ⟨c.toNat, by omega⟩
    have hFC : F + C ≤ n := by omega
    have hC2 : 2 ≤ C := by omega
    have hCs : C * s ≤ T := by rw [hT]; exact Nat.mul_le_mul_right _ (by omega)
    have hop := open_ok hd9 Ds.sz (by omega) s1 (by omega) (Ds.rng hBr) (f := F) (c := C) (by omega) hC2 hFC (by omega)
    obtain ⟨X, hX⟩ : ∃ X, X = F * s := ⟨_, rfl⟩
    obtain ⟨Y, hY⟩ : ∃ Y, Y = C * s := ⟨_, rfl⟩
    obtain ⟨Z, hZ⟩ : ∃ Z, Z = (C - 1) * s := ⟨_, rfl⟩
    have hYZ : Y = Z + s := by
      rw [hY, hZ, show C * s = (C - 1 + 1) * s from by rw [Nat.sub_add_cancel (by omega)], Nat.add_mul, Nat.one_mul]
    have hXY : X + Y ≤ T := by
      rw [hX, hY, hT, ← Nat.add_mul]
      exact Nat.mul_le_mul_right _ hFC
    have hXs : (F + 1) * s = X + s := by rw [Nat.add_mul, Nat.one_mul, hX]
    have hs16 : s ≤ Z := by rw [hZ]; exact Nat.le_mul_of_pos_left _ (by omega)
    have eX : (F : Int) * (s : Int) = (X : Int) := by rw [hX]; simp
    have eY : (C : Int) * (s : Int) = (Y : Int) := by rw [hY]; simp
    have e1 : ((X : Int) + (s : Int)).toNat - X = s := by omega
    have e2 : ((X : Int) + (Y : Int)).toNat - ((X : Int) + (s : Int)).toNat = Z := by omega
    have e3 : ((X : Int) + (s : Int)).toNat = X + s := by omega
    have e3' : ((X : Int) + (Y : Int)).toNat - (X + s) = Z := by omega
    have hslB : SlB w9 (fun _ => False) (.slice (some ⟨g, o, none⟩) B.length c7) B := by rw [hBl]; exact hsl9
    have hq1 := slb_lh hslB (l := X) (n := s) (by omega) (by omega)
    have hq2 := slb_lh hslB (l := X + s) (n := Z) (by omega) (by omega)
    have hsc : sect B s F = (B.drop X).take s := by rw [hX]; rfl
    have hsec := sect_len hBT (show F < n by omega)
    have hh := Ds.holds hBT hBr hC2 hFC
    rw [hXs, ← hZ, ← hBT, hBl] at hh
    rw [← hsc] at hq1
    generalize har : (B.drop (X + s)).take Z = ar at *
    have hal : ar.length = Z := by rw [← har, List.length_take, List.length_drop]; omega
    have harr : Rng ar := fun x hx => hBr x (by rw [← har] at hx; exact List.mem_of_mem_drop (List.mem_of_mem_take hx))
    have hcl1 : ¬ c7 < X := by omega
    have nb1 : ¬ (C : Int) < 2 := by omega
    have nb2 : ¬ (F : Int) < 0 := by omega
    have nb3 : ¬ (n : Int) ≤ (F : Int) := by omega
    have nb4 : ¬ (n : Int) - (F : Int) < (C : Int) := by omega
    rcases hh with ⟨hh1, hh2⟩ | ⟨ls, st, hh1, hh2, hspl, hrl, hstl, hlsl⟩
    · rw [hh2] at hop
      refine Ok.use hop ?_
      rintro v w10 ⟨hv10, hu10⟩
      have hv10 : v = .tuple #[.pointer none, .int .i64 12] := hv10
      subst hv10
      simp (config := { maxSteps := 3000000 }) (disch := omega) only [push_cast, Nat.reduceBEq, Nat.reduceEqDiff, Nat.reduceAdd, Nat.reduceMul, Nat.reduceSub, Nat.reduceLT, Int.reduceToNat, Int.reduceLT, Int.reduceLE, Int.reduceEq, Int.reduceAdd, Int.reduceSub, Int.reduceNeg, Int.reduceMul, eQ, eN, eT, eR, eX, eY]
      rw [e1, e2, e3]
      have hu10d : Upd (fun _ => False) w9 w10.drew := hu10.drew'
      have hk1 := hq1.go (F' := fun _ => False) hu10d fun b _ h => h.elim _root_.id _root_.id
      have hk2 := hq2.go (F' := fun _ => False) hu10d fun b _ h => h.elim _root_.id _root_.id
      refine Ok.use (rHolds_ok ⟨hk1, _, _, by rw [hsec], by rw [hsec]; omega⟩ ⟨hk2, _, _, by rw [hal], by rw [hal]; omega⟩ (sect_rng hBr) harr (by omega) (by omega) (by omega) (by omega)) ?_
      rintro v w11 ⟨⟨u0, ok, rfl, hok⟩, hu11⟩
      rw [hh1] at hok
      have hok : ok = false := hok
      subst hok
      have hu911 := t hu10d hu11
      have hd11 := hd9.upd hu911 fun _ _ h => h
      simp (config := { maxSteps := 3000000 }) (disch := omega) only [push_cast, Nat.reduceBEq, Nat.reduceEqDiff, Nat.reduceAdd, Nat.reduceMul, Nat.reduceSub, Nat.reduceLT, Int.reduceToNat, Int.reduceLT, Int.reduceLE, Int.reduceEq, Int.reduceAdd, Int.reduceSub, Int.reduceNeg, Int.reduceMul, eQ, eN, eT, eR, eX, eY]
      have hca := Cached_ok hd11
      rw [show (Ds B n s).cache.length = 0 from rfl] at hca
      refine Ok.use hca ?_
      rintro v w12 ⟨rfl, rfl⟩
      simp (config := { maxSteps := 3000000 }) (disch := omega) only [push_cast, Nat.reduceBEq, Nat.reduceEqDiff, Nat.reduceAdd, Nat.reduceMul, Nat.reduceSub, Nat.reduceLT, Int.reduceToNat, Int.reduceLT, Int.reduceLE, Int.reduceEq, Int.reduceAdd, Int.reduceSub, Int.reduceNeg, Int.reduceMul, eQ, eN, eT, eR, eX, eY]
      refine Ok.use awake_ok ?_
      rintro v w13 ⟨rfl, hu13⟩
      simp (config := { maxSteps := 3000000 }) (disch := omega) only [push_cast, Nat.reduceBEq, Nat.reduceEqDiff, Nat.reduceAdd, Nat.reduceMul, Nat.reduceSub, Nat.reduceLT, Int.reduceToNat, Int.reduceLT, Int.reduceLE, Int.reduceEq, Int.reduceAdd, Int.reduceSub, Int.reduceNeg, Int.reduceMul]
      exact t hu09 (t hu911 hu13)
    · rw [hh2] at hop
      refine Ok.use hop ?_
      rintro v w10 ⟨hv10, hu10⟩
      obtain ⟨jb, rfl, hw10, hjb⟩ := JW.opened hd9 hv10 hu10
      simp (config := { maxSteps := 3000000 }) (disch := omega) only [push_cast, Nat.reduceBEq, Nat.reduceEqDiff, Nat.reduceAdd, Nat.reduceMul, Nat.reduceSub, Nat.reduceLT, Int.reduceToNat, Int.reduceLT, Int.reduceLE, Int.reduceEq, Int.reduceAdd, Int.reduceSub, Int.reduceNeg, Int.reduceMul, eQ, eN, eT, eR, eX, eY]
      rw [e1, e2, e3]
      have hu10d : Upd (fun _ => False) w9 w10.drew := hu10.drew'
      have hk1 := hq1.go (F' := fun _ => False) hu10d fun b _ h => h.elim _root_.id _root_.id
      have hk2 := hq2.go (F' := fun _ => False) hu10d fun b _ h => h.elim _root_.id _root_.id
      refine Ok.use (rHolds_ok ⟨hk1, _, _, by rw [hsec], by rw [hsec]; omega⟩ ⟨hk2, _, _, by rw [hal], by rw [hal]; omega⟩ (sect_rng hBr) harr (by omega) (by omega) (by omega) (by omega)) ?_
      rintro v w11 ⟨⟨u0, ok, rfl, hok⟩, hu11⟩
      rw [hh1] at hok
      obtain ⟨rfl, hls⟩ : ok = true ∧ SlR w11 (fun b => b < w10.drew.heap.size) u0 ls := hok
      have hu1011 : Upd (fun _ => False) w10 w11 := (Upd.refl.drew').trans hu11 fun _ _ h => h
      have hw11 := hw10.quiet hu1011
      have hu911 := t hu10d hu11
      simp (config := { maxSteps := 3000000 }) (disch := omega) only [push_cast, Nat.reduceBEq, Nat.reduceEqDiff, Nat.reduceAdd, Nat.reduceMul, Nat.reduceSub, Nat.reduceLT, Int.reduceToNat, Int.reduceLT, Int.reduceLE, Int.reduceEq, Int.reduceAdd, Int.reduceSub, Int.reduceNeg, Int.reduceMul, eQ, eN, eT, eR, eX, eY]
      have hca := Cached_ok hw11.disk
      rw [show ((Ds B n s, (⟨F, (C - 1) * s, st, false⟩ : JS)) : DS × JS).1.cache.length = 0 from rfl] at hca
      refine Ok.use hca ?_
      rintro v w12 ⟨rfl, rfl⟩
      simp (config := { maxSteps := 3000000 }) (disch := omega) only [push_cast, Nat.reduceBEq, Nat.reduceEqDiff, Nat.reduceAdd, Nat.reduceMul, Nat.reduceSub, Nat.reduceLT, Int.reduceToNat, Int.reduceLT, Int.reduceLE, Int.reduceEq, Int.reduceAdd, Int.reduceSub, Int.reduceNeg, Int.reduceMul, eQ, eN, eT, eR, eX, eY]
      refine Ok.use awake_ok ?_
      rintro v w13 ⟨rfl, hu13⟩
      have hw13 := hw11.quiet hu13
      have hls := hls.go (F' := fun _ => False) hu13 fun b _ h => h.elim False.elim False.elim
      simp (config := { maxSteps := 3000000 }) (disch := omega) only [push_cast, Nat.reduceBEq, Nat.reduceEqDiff, Nat.reduceAdd, Nat.reduceMul, Nat.reduceSub, Nat.reduceLT, Int.reduceToNat, Int.reduceLT, Int.reduceLE, Int.reduceEq, Int.reduceAdd, Int.reduceSub, Int.reduceNeg, Int.reduceMul, eQ, eN, eT, eR, eX, eY]
      have hre := Records_ok hw13 (by show st.length ≤ 100000; omega)
      rw [show ((Ds B n s, (⟨F, (C - 1) * s, st, false⟩ : JS)) : DS × JS).2.stream = st from rfl, hspl] at hre
      refine Ok.use hre ?_
      rintro v w14 ⟨hrec, hu14⟩
      have hls := hls.go (F' := fun _ => False) hu14 fun b _ h => h.elim False.elim False.elim
      simp (config := { maxSteps := 3000000 }) (disch := omega) only [push_cast, Nat.reduceBEq, Nat.reduceEqDiff, Nat.reduceAdd, Nat.reduceMul, Nat.reduceSub, Nat.reduceLT, Int.reduceToNat, Int.reduceLT, Int.reduceLE, Int.reduceEq, Int.reduceAdd, Int.reduceSub, Int.reduceNeg, Int.reduceMul, eQ, eN, eT, eR, eX, eY]
      refine Ok.use (Same_ok hrec hls hrl hrl (by omega)) ?_
      rintro v w15 ⟨rfl, hu15⟩
      rw [decide_eq_true rfl]
      simp (config := { maxSteps := 3000000 }) (disch := omega) only [push_cast, Nat.reduceBEq, Nat.reduceEqDiff, Nat.reduceAdd, Nat.reduceMul, Nat.reduceSub, Nat.reduceLT, Int.reduceToNat, Int.reduceLT, Int.reduceLE, Int.reduceEq, Int.reduceAdd, Int.reduceSub, Int.reduceNeg, Int.reduceMul]
      exact t hu09 (t hu911 (t hu13 (t hu14 hu15)))
  have hin : i < n := by omega
  obtain ⟨I, hI⟩ : ∃ I, I = i * s := ⟨_, rfl⟩
  have hIT : I + s ≤ T := by
    have h : (i + 1) * s ≤ n * s := Nat.mul_le_mul_right _ hin
    rw [Nat.add_mul, Nat.one_mul] at h
    omega
  have eI : (i : Int) * (s : Int) = (I : Int) := by rw [hI]; simp

  have hin' : (i : Int) < (n : Int) := by omega
  simp (config := { maxSteps := 3000000 }) (disch := omega) only [push_cast, Nat.reduceBEq, Nat.reduceEqDiff, Nat.reduceAdd, Nat.reduceMul, Nat.reduceSub, Nat.reduceLT, Int.reduceToNat, Int.reduceLT, Int.reduceLE, Int.reduceEq, Int.reduceAdd, Int.reduceSub, Int.reduceNeg, Int.reduceMul, eQ, eN, eT, eR, eI]
  rw [show ((I : Int) + (s : Int)).toNat - I = s from by omega]
  have hsc : sect B s i = (B.drop I).take s := by rw [hI]; rfl
  have hsec := sect_len hBT hin
  have hsl9 : SlB w8 D (.slice (some ⟨g, o, none⟩) B.length c7) B := by rw [hBl]; exact hsl8
  have hsl9 := slb_lh hsl9 (l := I) (n := s) (by omega) (by omega)
  rw [← hsc] at hsl9
  have hwr := write_ok hd8 (by show 0 < s; omega) (by show ((List.range i).map _).length < 1000000000; rw [List.length_map, List.length_range]; omega) (fun k hk => by cases hk) (i : Int) hsl9
  rw [Dw.succ hin hsec] at hwr
  refine Ok.use hwr ?_
  rintro v w9 ⟨rfl, hd9, hu9⟩
  have hs08 := hu8.size
  simp (config := { maxSteps := 3000000 }) (disch := omega) only [push_cast, Nat.reduceBEq, Nat.reduceEqDiff, Nat.reduceAdd, Nat.reduceMul, Nat.reduceSub, Nat.reduceLT, Int.reduceToNat, Int.reduceLT, Int.reduceLE, Int.reduceEq, Int.reduceAdd, Int.reduceSub, Int.reduceNeg, Int.reduceMul, eQ, eN, eT, eR, eI]
  exact ⟨k - 1, by omega, i + 1, gr D w8 w9, by omega, by simp, hd9, hsl8.go hu9 fun b hb h => h.elim _root_.id fun h => h.elim _root_.id fun h => by omega, hu8.trans hu9 fun b hb h => by have := hD8 b h; omega, fun b hb => hb.elim (hD8 b) fun h => by omega⟩
theorem journalOpens_law {w : World} (y : Int) (hy : (Lit.int .u8 y).wf = true) {v : Value} (h : ∃ l, SlB w (fun b => w.heap.size ≤ b) v l ∧ Rng l) (f : Int) (hf : (Lit.int .i64 f).wf = true) (c : Int) (hc : (Lit.int .i64 c).wf = true) :
    Ok (den Try.prog 6 #[.int .u8 y, v, .int .i64 f, .int .i64 c] w) fun u w' => u = .bool true ∧ Upd (fun _ => False) w w' := by
  obtain ⟨l, h, hr⟩ := h
  obtain ⟨b, rfl, hb⟩ := u8_nat hy
  exact journalOpens_ok hb h hr hf hc
end Go.Proofs.Ytlnladcfgieggaa.Fd
