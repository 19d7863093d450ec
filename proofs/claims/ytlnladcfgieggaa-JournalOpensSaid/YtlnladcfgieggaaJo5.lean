/-
  Two journals on one disk; the law JournalApart, as a reading.
-/
import Derived.Test.YtlnladcfgieggaaJo4
namespace Go.Proofs.Ytlnladcfgieggaa.Fd
set_option linter.unusedSimpArgs false
set_option linter.unusedVariables false
open Go
set_option maxRecDepth 100000

theorem write_on {d : DS} (hoff : d.off = false) (hc : d.cnt = none) {x : Nat} {l : List Int} (hx : x < d.dur.length) (hl : l.length = d.size) : d.write x l = ({ d with cache := d.cache ++ [(x, l)] }, 0) := by
  have e : d.step = (true, d) := by unfold DS.step; rw [hoff, hc]; rfl
  unfold DS.write
  rw [if_pos ⟨by omega, by omega, hl⟩, e, if_pos rfl, Int.toNat_natCast]
/-- A new disk with two marks that are cached. -/
def D2 (N s m1 m2 : Nat) (mk : List Int) : DS := { DS.new N s with cache := [(m1, mk), (m2, mk)] }
def D20 (N s m1 m2 : Nat) (mk : List Int) : DS := (D2 N s m1 m2 mk).settle fun _ => true
theorem D2.sim {N s m1 m2 : Nat} {mk : List Int} : SimD (D2 N s m1 m2 mk) (D20 N s m1 m2 mk) := ⟨rfl, rfl, rfl, _, (List.append_nil _).symm, rfl, Nat.le_refl 2⟩
theorem D20.dur {N s m1 m2 : Nat} {mk : List Int} {a : Nat} (ha : a < N) : DurL (D20 N s m1 m2 mk) a = if m2 = a then mk else if m1 = a then mk else List.replicate s 0 := by
  have h : DurL (D20 N s m1 m2 mk) a = (lastOf ([(m1, mk)] ++ [(m2, mk)]) a).getD ((DS.new N s).dur.getD a []) := settled_all (by show a < (List.replicate N _).length; rw [List.length_replicate]; exact ha) _ rfl
  rw [h, lastOf_snoc, show [(m1, mk)] = [] ++ [(m1, mk)] from rfl, lastOf_snoc]
  by_cases h2 : m2 = a
  · rw [if_pos h2, if_pos h2]; rfl
  · rw [if_neg h2, if_neg h2]
    by_cases h1 : m1 = a
    · rw [if_pos h1, if_pos h1]; rfl
    · rw [if_neg h1, if_neg h1]
      show (List.replicate N _).getD a [] = _
      rw [List.getD_eq_getElem?_getD, List.getElem?_replicate, if_pos ha]
      rfl
theorem D2.rng {N s m1 m2 : Nat} {mk : List Int} (hm : Rng mk) : RngD (D2 N s m1 m2 mk) := ⟨RngD.new.dur, fun x hx => by
  rcases List.mem_cons.1 hx with h | h
  · rw [h]; exact hm
  · rw [List.mem_singleton.1 h]; exact hm⟩
theorem D20.good {N f n s m1 m2 : Nat} {mk : List Int} (hd : Dims N f n s) (hm : Rng mk) (h1 : m1 ≠ f) (h2 : m2 ≠ f) : GoodD N f n s (D20 N s m1 m2 mk) [] := by
  have hf := hd.fc
  have hc := hd.c1
  refine ⟨⟨?_, rfl, Nat.zero_le _, fun k hk => by cases hk⟩, rfl, rfl, (D2.rng hm).settle _, ⟨?_, fun p hp => by rw [stream_nil] at hp; simp at hp⟩, by rw [stream_nil]; simp, fun l hl => by simp at hl⟩
  · show (settled _ _ _ _).length = N
    rw [settled_length]
    exact List.length_replicate
  · rw [D20.dur (by omega), if_neg h2, if_neg h1, headD_zero, stream_nil]
    rfl
theorem D2.sz {N s m1 m2 : Nat} {mk : List Int} : Sz N s 2 (D2 N s m1 m2 mk) := ⟨List.length_replicate, rfl, by simp [D2], fun k hk => by cases hk⟩
theorem open_two {w : World} {D : Nat → Prop} {p : Nat} {N f n s m1 m2 : Nat} {mk : List Int} (h : IsDisk w D p (D2 N s m1 m2 mk)) (hd : Dims N f n s) (hm : Rng mk) (h1 : m1 ≠ f) (h2 : m2 ≠ f) :
    Ok (den Try.prog 15 #[.pointer (some ⟨p, 0, none⟩), .int .i64 (f : Int), .int .i64 (n : Int)] w) fun u w' => ∃ jb, u = .tuple #[.pointer (some ⟨jb, 0, none⟩), .int .i64 0] ∧ IsDisk w' D p (D2 N s m1 m2 mk) ∧ (∀ F : Nat → Prop, JO w' F p jb (jsOf f n s [])) ∧ Upd (fun _ => False) w w' ∧ w.heap.size ≤ jb ∧ jb < w'.heap.size := by
  have hg := D20.good hd hm h1 h2
  have hfc := hd.fc
  have hn := hd.n1
  have hl : (D2 N s m1 m2 mk).dur.length = N := List.length_replicate
  have ho := open_ok h D2.sz (by omega) hd.s1 hd.s2 (D2.rng hm) hd.n1 hd.c1 hd.fc hd.ar
  rw [jopen_sim D2.sim hd.c1 (by omega), open_spec hg hd fun a ha => by
    rw [D2.sim.len] at ha
    rw [← D2.sim.content ha]
    exact h.content_len ha] at ho
  refine Ok.mono ho ?_
  rintro u w' ⟨ho, hu⟩
  obtain ⟨jb, rfl, hw, hb⟩ := JW.opened h ho hu
  obtain ⟨sv, b1, ⟨⟨a, c, rfl, _⟩, s2⟩, r⟩ := hw.obj
  exact ⟨jb, rfl, hw.disk, fun F => ⟨_, b1, ⟨⟨a, c, rfl, fun h => absurd rfl h⟩, s2⟩, r⟩, hu, hb, (hw.sep jb rfl).2⟩
def mkL (s : Nat) : List Int := 77 :: List.replicate (s - 1) 0
theorem mkL_rng {s : Nat} : Rng (mkL s) := by
  intro x hx
  rcases List.mem_cons.1 hx with h | h
  · omega
  · have := List.eq_of_mem_replicate h; omega
theorem mkL_len {s : Nat} (h : 1 ≤ s) : (mkL s).length = s := by simp [mkL]; omega
theorem mkL_set {s : Nat} (h : 1 ≤ s) : by8 (mkL s) = (List.replicate s (Value.int .u8 0)).set 0 (.int .u8 77) := by
  obtain ⟨k, rfl⟩ : ∃ k, s = k + 1 := ⟨s - 1, by omega⟩
  simp [mkL, by8, List.replicate_succ]
set_option maxHeartbeats 4000000 in
theorem journalApart_ok {w : World} {x y : Nat} (hx : x < 256) (hy : y < 256) {v vm : Value} {ops more : List OpJ} (hv : SlO w v ops) (hm : SlO w vm more) :
    Ok (den Try.prog 5 #[.int .u8 (x : Int), .int .u8 (y : Int), v, vm] w) fun u w' => u = .bool true ∧ Upd (fun _ => False) w w' := by
  have t := fun {a b c : World} (x : Upd (fun _ => False) a b) (y : Upd (fun _ => False) b c) => x.trans y (F := fun _ => False) (fun _ _ h => h)
  obtain ⟨va, vc, rfl⟩ := hv.form
  obtain ⟨ma, mc, rfl⟩ := hm.form
  refine den_ok (args := [.int .u8 (x : Int), .int .u8 (y : Int), .slice va ops.length vc, .slice ma more.length mc]) rs5 Try.func5 rfl mixed in5 ok5 rfl ?_
  simp (config := { maxSteps := 3000000 }) (disch := omega) only [push_cast, Nat.reduceBEq, Nat.reduceEqDiff, Nat.reduceAdd, Nat.reduceMul, Nat.reduceSub, Nat.reduceLT, Int.reduceToNat, Int.reduceLT, Int.reduceLE, Int.reduceEq, Int.reduceAdd, Int.reduceSub, Int.reduceNeg, Int.reduceMul]
  refine Ok.use (Few_ok hv Upd.refl) ?_
  rintro v w1 ⟨⟨q, rfl, hq⟩, hu1⟩
  cases q
  · simp (config := { maxSteps := 3000000 }) (disch := omega) only [push_cast, Nat.reduceBEq, Nat.reduceEqDiff, Nat.reduceAdd, Nat.reduceMul, Nat.reduceSub, Nat.reduceLT, Int.reduceToNat, Int.reduceLT, Int.reduceLE, Int.reduceEq, Int.reduceAdd, Int.reduceSub, Int.reduceNeg, Int.reduceMul]
    refine Ok.use awake_ok ?_
    rintro v w2 ⟨rfl, hu2⟩
    simp (config := { maxSteps := 3000000 }) (disch := omega) only [push_cast, Nat.reduceBEq, Nat.reduceEqDiff, Nat.reduceAdd, Nat.reduceMul, Nat.reduceSub, Nat.reduceLT, Int.reduceToNat, Int.reduceLT, Int.reduceLE, Int.reduceEq, Int.reduceAdd, Int.reduceSub, Int.reduceNeg, Int.reduceMul]
    exact t hu1 hu2
  have hfew := hq.1 rfl
  simp (config := { maxSteps := 3000000 }) (disch := omega) only [push_cast, Nat.reduceBEq, Nat.reduceEqDiff, Nat.reduceAdd, Nat.reduceMul, Nat.reduceSub, Nat.reduceLT, Int.reduceToNat, Int.reduceLT, Int.reduceLE, Int.reduceEq, Int.reduceAdd, Int.reduceSub, Int.reduceNeg, Int.reduceMul]
  refine Ok.use (Few_ok hm hu1) ?_
  rintro v w1b ⟨⟨q2, rfl, hq2⟩, hu1b⟩
  have hu1 := t hu1 hu1b
  cases q2
  · simp (config := { maxSteps := 3000000 }) (disch := omega) only [push_cast, Nat.reduceBEq, Nat.reduceEqDiff, Nat.reduceAdd, Nat.reduceMul, Nat.reduceSub, Nat.reduceLT, Int.reduceToNat, Int.reduceLT, Int.reduceLE, Int.reduceEq, Int.reduceAdd, Int.reduceSub, Int.reduceNeg, Int.reduceMul]
    refine Ok.use awake_ok ?_
    rintro v w2 ⟨rfl, hu2⟩
    simp (config := { maxSteps := 3000000 }) (disch := omega) only [push_cast, Nat.reduceBEq, Nat.reduceEqDiff, Nat.reduceAdd, Nat.reduceMul, Nat.reduceSub, Nat.reduceLT, Int.reduceToNat, Int.reduceLT, Int.reduceLE, Int.reduceEq, Int.reduceAdd, Int.reduceSub, Int.reduceNeg, Int.reduceMul]
    exact t hu1 hu2
  have hfewm := hq2.1 rfl
  simp (config := { maxSteps := 3000000 }) (disch := omega) only [push_cast, Nat.reduceBEq, Nat.reduceEqDiff, Nat.reduceAdd, Nat.reduceMul, Nat.reduceSub, Nat.reduceLT, Int.reduceToNat, Int.reduceLT, Int.reduceLE, Int.reduceEq, Int.reduceAdd, Int.reduceSub, Int.reduceNeg, Int.reduceMul]
  refine Ok.use (shape_small hx hy) ?_
  rintro v w2 ⟨n, s, A, rfl, hS, hu2⟩
  have hA := hS.area
  have em := hS.mul
  obtain ⟨n1, n2, s1, s2, _, _, _, a1⟩ := hS
  obtain ⟨N, hN⟩ : ∃ N, N = 2 * n + 2 := ⟨_, rfl⟩
  obtain ⟨M, hM⟩ : ∃ M, M = 2 * n + 1 := ⟨_, rfl⟩
  obtain ⟨B, hB⟩ : ∃ B, B = n + 1 := ⟨_, rfl⟩
  have eB : (n : Int) + 1 = (B : Int) := by omega
  have eN : 2 * (n : Int) + 2 = (N : Int) := by omega
  have eM : 2 * (n : Int) + 1 = (M : Int) := by omega
  simp (config := { maxSteps := 3000000 }) (disch := omega) only [push_cast, Nat.reduceBEq, Nat.reduceEqDiff, Nat.reduceAdd, Nat.reduceMul, Nat.reduceSub, Nat.reduceLT, Int.reduceToNat, Int.reduceLT, Int.reduceLE, Int.reduceEq, Int.reduceAdd, Int.reduceSub, Int.reduceNeg, Int.reduceMul, eN]
  refine Ok.use (new_run (n := N) (by omega) (by omega) s1 (by omega) (t hu1 hu2)) ?_
  rintro v w3 ⟨p, D, rfl, hd3, hu3, hD⟩
  have e0 : (List.replicate s (Value.int .u8 0))[0]? = some (.int .u8 0) := by rw [List.getElem?_replicate, if_pos (by omega)]
  simp (config := { maxSteps := 3000000 }) (disch := omega) only [push_cast, Nat.reduceBEq, Nat.reduceEqDiff, Nat.reduceAdd, Nat.reduceMul, Nat.reduceSub, Nat.reduceLT, Int.reduceToNat, Int.reduceLT, Int.reduceLE, Int.reduceEq, Int.reduceAdd, Int.reduceSub, Int.reduceNeg, Int.reduceMul, eN, e0]
  have hsz4 : ((w3.alloc (.cells (List.replicate s (Value.int .u8 0)).toArray 5 (0, 0))).setCell ⟨w3.heap.size, 0, none⟩ (.int .u8 77)).heap.size = w3.heap.size + 1 := by rw [size_set, size_alloc]
  have hu4 : Upd (fun _ => False) w3 ((w3.alloc (.cells (List.replicate s (Value.int .u8 0)).toArray 5 (0, 0))).setCell ⟨w3.heap.size, 0, none⟩ (.int .u8 77)) := Upd.alloc.setNew (Nat.le_refl _)
  have hbm : Blk ((w3.alloc (.cells (List.replicate s (Value.int .u8 0)).toArray 5 (0, 0))).setCell ⟨w3.heap.size, 0, none⟩ (.int .u8 77)) w3.heap.size (by8 (mkL s)) 5 := by
    rw [mkL_set (by omega)]
    exact Blk.new.set 0 _
  generalize (w3.alloc (.cells (List.replicate s (Value.int .u8 0)).toArray 5 (0, 0))).setCell ⟨w3.heap.size, 0, none⟩ (.int .u8 77) = w4 at *
  have hml : (mkL s).length = s := mkL_len (by omega)
  have hsm : ∀ {w' : World} {F : Nat → Prop}, Blk w' w3.heap.size (by8 (mkL s)) 5 → (∀ b, F b → b ≠ w3.heap.size) → SlB w' F (.slice (some ⟨w3.heap.size, 0, none⟩) s s) (mkL s) := by
    intro w' F hb hF
    have := slb_new (c := s) hb (fun h => hF _ h rfl : ¬ F w3.heap.size)
    rwa [hml] at this
  have hd4 := hd3.upd hu4 (fun _ _ h => h)
  have hDlt : ∀ b, D b → b < w3.heap.size := hd3.bd
  have hw1 := write_ok hd4 (by show 0 < s; omega) (by show 0 < 1000000000; omega) (fun k hk => by cases hk) (n : Int) (hsm hbm fun b hb e => by have := hDlt b hb; omega)
  have hdl : (DS.new N s).dur.length = N := List.length_replicate
  rw [write_on (d := DS.new N s) rfl rfl (by omega) hml] at hw1
  refine Ok.use hw1 ?_
  rintro v w5 ⟨rfl, hd5, hu5⟩
  have hbm5 := hbm.upd hu5 fun h => by have := hDlt _ h; omega
  simp (config := { maxSteps := 3000000 }) (disch := omega) only [push_cast, Nat.reduceBEq, Nat.reduceEqDiff, Nat.reduceAdd, Nat.reduceMul, Nat.reduceSub, Nat.reduceLT, Int.reduceToNat, Int.reduceLT, Int.reduceLE, Int.reduceEq, Int.reduceAdd, Int.reduceSub, Int.reduceNeg, Int.reduceMul, eN, eM, e0]
  have hs13 := (t (t hu1 hu2) hu3).size
  have hD5 : ∀ b, gr D w4 w5 b → w.heap.size ≤ b ∧ b ≠ w3.heap.size := by
    intro b hb
    rcases hb with hb | hb
    · have := hD b hb; have := hDlt b hb; omega
    · omega
  have hu05 : Upd (fun _ => False) w w5 := (t (t (t hu1 hu2) hu3) hu4).trans hu5 fun b hb h => by have := hD b h; omega
  generalize gr D w4 w5 = E at *
  have hw2 := write_ok hd5 (by show 0 < s; omega) (by show 0 + 1 < 1000000000; omega) (fun k hk => by cases hk) (M : Int) (hsm hbm5 fun b hb e => (hD5 b hb).2 e)
  rw [write_on (d := { DS.new N s with cache := (DS.new N s).cache ++ [(n, mkL s)] }) rfl rfl (by show M < (DS.new N s).dur.length; omega) hml] at hw2
  refine Ok.use hw2 ?_
  rintro v w6 ⟨rfl, hd6, hu6⟩
  have hbm6 := hbm5.upd hu6 fun h => (hD5 _ h).2 rfl
  have hs56 := hu05.size
  have hbl5 := hbm5.lt
  have hD6 : ∀ b, gr E w5 w6 b → w.heap.size ≤ b ∧ b ≠ w3.heap.size := by
    intro b hb
    rcases hb with hb | hb
    · exact hD5 b hb
    · omega
  have hu06 : Upd (fun _ => False) w w6 := hu05.trans hu6 fun b hb h => by have := (hD5 b h).1; omega
  generalize gr E w5 w6 = D' at *
  have hd6 : IsDisk w6 D' p (D2 N s n M (mkL s)) := hd6
  clear hw1 hw2 hd3 hd4 hd5
  simp (config := { maxSteps := 3000000 }) (disch := omega) only [push_cast, Nat.reduceBEq, Nat.reduceEqDiff, Nat.reduceAdd, Nat.reduceMul, Nat.reduceSub, Nat.reduceLT, Int.reduceToNat, Int.reduceLT, Int.reduceLE, Int.reduceEq, Int.reduceAdd, Int.reduceSub, Int.reduceNeg, Int.reduceMul, eN, eM, e0]
  have hdA : Dims N 0 n s := ⟨s1, by omega, n1, by omega, by omega, by have := Nat.mul_le_mul n2 s2; omega⟩
  have hdB : Dims N B n s := ⟨s1, by omega, n1, by omega, by omega, by have := Nat.mul_le_mul n2 s2; omega⟩
  refine Ok.use (open_two (f := 0) hd6 hdA mkL_rng (by omega) (by omega)) ?_
  rintro v w7 ⟨ja, rfl, hd7, hja7, hu7, hgea, hlta⟩
  have hbm7 := hbm6.upd hu7 fun h => h
  simp (config := { maxSteps := 3000000 }) (disch := omega) only [push_cast, Nat.reduceBEq, Nat.reduceEqDiff, Nat.reduceAdd, Nat.reduceMul, Nat.reduceSub, Nat.reduceLT, Int.reduceToNat, Int.reduceLT, Int.reduceLE, Int.reduceEq, Int.reduceAdd, Int.reduceSub, Int.reduceNeg, Int.reduceMul, eN, eM, e0, eB]
  refine Ok.use (open_two (f := B) hd7 hdB mkL_rng (by omega) (by omega)) ?_
  rintro v w8 ⟨jb, rfl, hd8, hjb8, hu8, hgeb, hltb⟩
  have hbm8 := hbm7.upd hu8 fun h => h
  simp (config := { maxSteps := 3000000 }) (disch := omega) only [push_cast, Nat.reduceBEq, Nat.reduceEqDiff, Nat.reduceAdd, Nat.reduceMul, Nat.reduceSub, Nat.reduceLT, Int.reduceToNat, Int.reduceLT, Int.reduceLE, Int.reduceEq, Int.reduceAdd, Int.reduceSub, Int.reduceNeg, Int.reduceMul, eN, eM, e0, eB]
  have hs67 := hu7.size
  have hs78 := hu8.size
  have hs06 := hu06.size
  have hbm := hbm8.lt
  have hbl6 := hbm6.lt
  have hJo : ∀ b, (b = ja ∨ b = jb) → ¬ D' b ∧ b < w8.heap.size ∧ b ≠ w3.heap.size ∧ w.heap.size ≤ b := by
    intro b hb
    refine ⟨fun h => ?_, ?_, ?_, ?_⟩
    · have := hd6.bd b h; rcases hb with rfl | rfl <;> omega
    · rcases hb with rfl | rfl <;> omega
    · rcases hb with rfl | rfl <;> omega
    · rcases hb with rfl | rfl <;> omega
  have hT8 : Two w w8 D' (fun b => b = ja ∨ b = jb) p ja jb N 0 B n s (D2 N s n M (mkL s)) (D20 N s n M (mkL s)) [] [] n M (mkL s) :=
    ⟨hd8, (hja7 _).quiet hu8, hjb8 _, .inl rfl, .inr rfl, by omega, fun b hb => ⟨(hJo b hb).1, (hJo b hb).2.1⟩, D2.sim, D20.good hdA mkL_rng (by omega) (by omega), D20.good hdB mkL_rng (by omega) (by omega), rfl, by omega,
      fun a ha => by omega, fun a ha => by
        rw [D20.dur (by omega)]
        by_cases h1 : M = a
        · rw [if_pos h1]
        · rw [if_neg h1, if_pos (by omega)],
      (hu06.trans hu7 fun _ _ h => h).trans hu8 fun _ _ h => h, fun b hb => hb.elim (fun h => (hD6 b h).1) fun h => (hJo b h).2.2.2⟩
  have hM8 : SlB w8 (FF D' fun b => b = ja ∨ b = jb) (.slice (some ⟨w3.heap.size, 0, none⟩) s s) (mkL s) := hsm hbm8 fun b hb => hb.elim (fun h => (hD6 b h).2) fun h => (hJo b h).2.2.1
  generalize hbq : w3.heap.size = bq at *
  have hu9 : Upd (fun _ => False) w8 ((w8.alloc (.cells #[] 46 (0, 0))).alloc (.cells #[] 46 (0, 0))) := Upd.alloc.alloc'
  have hT9 := hT8.quiet hu9
  have hM9 := hM8.go (F' := FF D' fun b => b = ja ∨ b = jb) hu9 fun b _ h => h.elim False.elim _root_.id
  generalize (w8.alloc (.cells #[] 46 (0, 0))).alloc (.cells #[] 46 (0, 0)) = w9 at *
  obtain ⟨K, hK1, hK2, hK3⟩ : ∃ K, ops.length ≤ K ∧ more.length ≤ K ∧ (K = ops.length ∨ K = more.length) := by
    by_cases h : ops.length ≤ more.length
    · exact ⟨_, h, Nat.le_refl _, .inr rfl⟩
    · exact ⟨_, Nat.le_refl _, by omega, .inl rfl⟩
  have h30 := hfew.1
  have h30m := hfewm.1
  refine loop_inv (I := fun k st w' => Bx (∃ (i : Nat) (la lb : List (List Int)) (xv yv : Value) (D : Nat → Prop) (d d0 : DS), k + i = K ∧ st = [xv, yv, .int .i64 (i : Int)] ∧ Two w w' D (fun b => b = ja ∨ b = jb) p ja jb N 0 B n s d d0 la lb n M (mkL s) ∧ SlR w' (FF D fun b => b = ja ∨ b = jb) xv la ∧ SlR w' (FF D fun b => b = ja ∨ b = jb) yv lb ∧ SlB w' (FF D fun b => b = ja ∨ b = jb) (.slice (some ⟨bq, 0, none⟩) s s) (mkL s)) ⟨⟩) ?_ K
    ⟨0, [], [], _, _, D', _, _, by omega, rfl, hT9, .nil, .nil, hM9⟩
  clear hT9 hT8 hM9 hM8 hu9 hbm8 hbm7 hbm6 hd6 hd7 hd8 hja7 hjb8
  rintro k st wx ⟨i, la, lb, xv, yv, D, d, d0, hk, rfl, hT, hX, hY, hM⟩
  obtain ⟨xa, xc, rfl, _⟩ := id hX
  obtain ⟨ya, yc, rfl, _⟩ := id hY
  have hfa : (stream la).length ≤ 50000 := by have := hT.ga.fit; omega
  have hfb : (stream lb).length ≤ 50000 := by have := hT.gb.fit; omega
  by_cases hk0 : k = 0
  · have h1 : ¬ (i : Int) < ops.length := by omega
    have h2 : ¬ (i : Int) < more.length := by omega
    have hoff : d.off = false := by rw [hT.sim.off]; exact hT.ga.off
    have hsz := SimD.sz hT.sim hT.ga
    have hdl := hsz.dur
    have hcon : ∀ a, a = n ∨ a = M → d.read (a : Int) = (some (mkL s), 0) := by
      intro a ha
      have haN : a < N := by omega
      unfold DS.read
      rw [if_pos ⟨by omega, by omega⟩, if_neg (by rw [hoff]; decide), Int.toNat_natCast, hT.sim.content (by omega), content_nil hT.ga.cache]
      rw [show d0.dur.getD a [] = DurL d0 a from rfl, hT.mark a ha]
    simp (config := { maxSteps := 3000000 }) (disch := omega) only [push_cast, Nat.reduceBEq, Nat.reduceEqDiff, Nat.reduceAdd, Nat.reduceMul, Nat.reduceSub, Nat.reduceLT, Int.reduceToNat, Int.reduceLT, Int.reduceLE, Int.reduceEq, Int.reduceAdd, Int.reduceSub, Int.reduceNeg, Int.reduceMul, em, eN, eM, eB]
    have hr1 := read_ok hT.disk (by rw [hsz.size]; omega) (by have := hsz.few; omega) (n : Int)
    rw [hcon n (.inl rfl)] at hr1
    refine Ok.use hr1 ?_
    rintro v wa ⟨u1, rfl, ⟨c1, rfl, hc1, hbc1⟩, hua⟩
    have hT := hT.quiet hua
    have hX := hX.go (F' := FF D fun b => b = ja ∨ b = jb) hua fun b _ h => h.elim False.elim _root_.id
    have hY := hY.go (F' := FF D fun b => b = ja ∨ b = jb) hua fun b _ h => h.elim False.elim _root_.id
    have hM := hM.go (F' := FF D fun b => b = ja ∨ b = jb) hua fun b _ h => h.elim False.elim _root_.id
    unfold CV
    simp (config := { maxSteps := 3000000 }) (disch := omega) only [push_cast, Nat.reduceBEq, Nat.reduceEqDiff, Nat.reduceAdd, Nat.reduceMul, Nat.reduceSub, Nat.reduceLT, Int.reduceToNat, Int.reduceLT, Int.reduceLE, Int.reduceEq, Int.reduceAdd, Int.reduceSub, Int.reduceNeg, Int.reduceMul, em, eN, eM, eB]
    have hr2 := read_ok hT.disk (by rw [hsz.size]; omega) (by have := hsz.few; omega) (M : Int)
    rw [hcon M (.inr rfl)] at hr2
    refine Ok.use hr2 ?_
    rintro v wb ⟨u2, rfl, ⟨c2, rfl, hc2, hbc2⟩, hub⟩
    have hbc1 := hbc1.upd hub fun h => h
    have hT := hT.quiet hub
    have hX := hX.go (F' := FF D fun b => b = ja ∨ b = jb) hub fun b _ h => h.elim False.elim _root_.id
    have hY := hY.go (F' := FF D fun b => b = ja ∨ b = jb) hub fun b _ h => h.elim False.elim _root_.id
    have hM := hM.go (F' := FF D fun b => b = ja ∨ b = jb) hub fun b _ h => h.elim False.elim _root_.id
    unfold CV
    simp (config := { maxSteps := 3000000 }) (disch := omega) only [push_cast, Nat.reduceBEq, Nat.reduceEqDiff, Nat.reduceAdd, Nat.reduceMul, Nat.reduceSub, Nat.reduceLT, Int.reduceToNat, Int.reduceLT, Int.reduceLE, Int.reduceEq, Int.reduceAdd, Int.reduceSub, Int.reduceNeg, Int.reduceMul, em, eN, eM, eB]
    refine Ok.use awake_ok ?_
    rintro v wc ⟨rfl, huc⟩
    have hbc1 := hbc1.upd huc fun h => h
    have hbc2 := hbc2.upd huc fun h => h
    have hT := hT.quiet huc
    have hX := hX.go (F' := FF D fun b => b = ja ∨ b = jb) huc fun b _ h => h.elim False.elim _root_.id
    have hY := hY.go (F' := FF D fun b => b = ja ∨ b = jb) huc fun b _ h => h.elim False.elim _root_.id
    have hM := hM.go (F' := FF D fun b => b = ja ∨ b = jb) huc fun b _ h => h.elim False.elim _root_.id
    simp (config := { maxSteps := 3000000 }) (disch := omega) only [push_cast, Nat.reduceBEq, Nat.reduceEqDiff, Nat.reduceAdd, Nat.reduceMul, Nat.reduceSub, Nat.reduceLT, Int.reduceToNat, Int.reduceLT, Int.reduceLE, Int.reduceEq, Int.reduceAdd, Int.reduceSub, Int.reduceNeg, Int.reduceMul, em, eN, eM, eB]
    have hra := Records_ok hT.jw (by show (stream la).length ≤ 100000; omega)
    rw [show ((d, jsOf 0 n s la) : DS × JS).2.stream = stream la from rfl, hT.ga.spl hdA] at hra
    refine Ok.use hra ?_
    rintro v wd ⟨hrec, hud⟩
    have hbc1 := hbc1.upd hud fun h => h
    have hbc2 := hbc2.upd hud fun h => h
    have hT := hT.quiet hud
    have hX := hX.go (F' := FF D fun b => b = ja ∨ b = jb) hud fun b _ h => h.elim False.elim _root_.id
    have hY := hY.go (F' := FF D fun b => b = ja ∨ b = jb) hud fun b _ h => h.elim False.elim _root_.id
    have hM := hM.go (F' := FF D fun b => b = ja ∨ b = jb) hud fun b _ h => h.elim False.elim _root_.id
    have hlena := stream_len_le (ls := la)
    have hlenb := stream_len_le (ls := lb)
    simp (config := { maxSteps := 3000000 }) (disch := omega) only [push_cast, Nat.reduceBEq, Nat.reduceEqDiff, Nat.reduceAdd, Nat.reduceMul, Nat.reduceSub, Nat.reduceLT, Int.reduceToNat, Int.reduceLT, Int.reduceLE, Int.reduceEq, Int.reduceAdd, Int.reduceSub, Int.reduceNeg, Int.reduceMul, em, eN, eM, eB]
    refine Ok.use (Same_ok hrec hX hT.ga.rl hT.ga.rl (by omega)) ?_
    rintro v we ⟨rfl, hue⟩
    rw [decide_eq_true rfl]
    have hbc1 := hbc1.upd hue fun h => h
    have hbc2 := hbc2.upd hue fun h => h
    have hT := hT.quiet hue
    have hY := hY.go (F' := FF D fun b => b = ja ∨ b = jb) hue fun b _ h => h.elim False.elim _root_.id
    have hM := hM.go (F' := FF D fun b => b = ja ∨ b = jb) hue fun b _ h => h.elim False.elim _root_.id
    simp (config := { maxSteps := 3000000 }) (disch := omega) only [push_cast, Nat.reduceBEq, Nat.reduceEqDiff, Nat.reduceAdd, Nat.reduceMul, Nat.reduceSub, Nat.reduceLT, Int.reduceToNat, Int.reduceLT, Int.reduceLE, Int.reduceEq, Int.reduceAdd, Int.reduceSub, Int.reduceNeg, Int.reduceMul, em, eN, eM, eB]
    have hrb := Records_ok hT.swap.jw (by show (stream lb).length ≤ 100000; omega)
    rw [show ((d, jsOf B n s lb) : DS × JS).2.stream = stream lb from rfl, hT.gb.spl hdB] at hrb
    refine Ok.use hrb ?_
    rintro v wf ⟨hrec, huf⟩
    have hbc1 := hbc1.upd huf fun h => h
    have hbc2 := hbc2.upd huf fun h => h
    have hT := hT.quiet huf
    have hY := hY.go (F' := FF D fun b => b = ja ∨ b = jb) huf fun b _ h => h.elim False.elim _root_.id
    have hM := hM.go (F' := FF D fun b => b = ja ∨ b = jb) huf fun b _ h => h.elim False.elim _root_.id
    simp (config := { maxSteps := 3000000 }) (disch := omega) only [push_cast, Nat.reduceBEq, Nat.reduceEqDiff, Nat.reduceAdd, Nat.reduceMul, Nat.reduceSub, Nat.reduceLT, Int.reduceToNat, Int.reduceLT, Int.reduceLE, Int.reduceEq, Int.reduceAdd, Int.reduceSub, Int.reduceNeg, Int.reduceMul, em, eN, eM, eB]
    refine Ok.use (Same_ok hrec hY hT.gb.rl hT.gb.rl (by omega)) ?_
    rintro v wg ⟨rfl, hug⟩
    rw [decide_eq_true rfl]
    have hbc1 := hbc1.upd hug fun h => h
    have hbc2 := hbc2.upd hug fun h => h
    have hT := hT.quiet hug
    have hM := hM.go (F' := fun _ => False) hug fun b _ h => h.elim False.elim False.elim
    have hs1 := slb_new (F := fun _ => False) (c := (mkL s).length) hbc1 (fun h => h)
    have hs2 := slb_new (F := fun _ => False) (c := (mkL s).length) hbc2 (fun h => h)
    have hs1d := slb_new (F := fun _ => False) (c := (mkL s).length) hbc1.drew (fun h => h)
    have hs2d := slb_new (F := fun _ => False) (c := (mkL s).length) hbc2.drew (fun h => h)
    have hse : ((strOfNums (mkL s)).toList == (strOfNums (mkL s)).toList) = true := beq_self_eq_true _
    simp (config := { maxSteps := 3000000 }) (disch := omega) only [push_cast, Nat.reduceBEq, Nat.reduceEqDiff, Nat.reduceAdd, Nat.reduceMul, Nat.reduceSub, Nat.reduceLT, Int.reduceToNat, Int.reduceLT, Int.reduceLE, Int.reduceEq, Int.reduceAdd, Int.reduceSub, Int.reduceNeg, Int.reduceMul, em, eN, eM, eB, cnv_str hs1, cnv_str hs2, cnv_str hM, hse]
    exact hT.upd
  by_cases h1 : i < ops.length
  · have h1' : (i : Int) < ops.length := by omega
    have hx := List.getElem?_eq_getElem h1
    have hfx := hfew.len (List.getElem_mem h1)
    generalize ops[i] = o at hx hfx
    obtain ⟨b, oo, ua, un, uc, e1, q0, q1, q2, q3⟩ := hv.at_ hT.upd (fun b hb => hT.new b hb) hx
    subst e1
    simp (config := { maxSteps := 3000000 }) (disch := omega) only [push_cast, Nat.reduceBEq, Nat.reduceEqDiff, Nat.reduceAdd, Nat.reduceMul, Nat.reduceSub, Nat.reduceLT, Int.reduceToNat, Int.reduceLT, Int.reduceLE, Int.reduceEq, Int.reduceAdd, Int.reduceSub, Int.reduceNeg, Int.reduceMul, q0, q1, em, eN, eM, eB]
    refine Ok.use ((hT).do hdA hdB q2 q3 (by omega)) ?_
    rintro v wa ⟨⟨e, rfl⟩, Da, da, d0a, hTa, hta⟩
    have hX := hta.slr (J := fun b => b = ja ∨ b = jb) (.inl rfl) hX
    have hY := hta.slr (J := fun b => b = ja ∨ b = jb) (.inl rfl) hY
    have hM := hta.slb (J := fun b => b = ja ∨ b = jb) (.inl rfl) hM
    have hT' := hTa
    clear hT hTa
    obtain ⟨b', oo', ua', un', uc', e1, q0', q1', q2', _⟩ := hv.at_ hT'.upd (fun b hb => hT'.new b hb) hx
    injection e1 with e1
    injection e1 with e1 e2
    subst e1
    subst e2
    simp (config := { maxSteps := 3000000 }) (disch := omega) only [push_cast, Nat.reduceBEq, Nat.reduceEqDiff, Nat.reduceAdd, Nat.reduceMul, Nat.reduceSub, Nat.reduceLT, Int.reduceToNat, Int.reduceLT, Int.reduceLE, Int.reduceEq, Int.reduceAdd, Int.reduceSub, Int.reduceNeg, Int.reduceMul, q0', q1', em, eN, eM, eB]
    refine Ok.use (After_ok hX hT'.lt q2' (area := A) (by omega) (Nat.le_trans (after_len (k := 50000) (m := 6200) hfa hfx) (by omega))) ?_
    rintro v wb ⟨⟨u0, rfl, hXn⟩, hub⟩
    have hT := hT'.quiet hub
    have hY := hY.go (F' := FF Da fun b => b = ja ∨ b = jb) hub fun b _ h => h.elim False.elim _root_.id
    have hM := hM.go (F' := FF Da fun b => b = ja ∨ b = jb) hub fun b _ h => h.elim False.elim _root_.id
    have hX := hXn
    clear hXn hT' hta hub
    rw [hA] at hT
    generalize afterP la o A = r at *
    obtain ⟨la2, code⟩ := r
    dsimp only at hT hX ⊢
    clear q0 q1 q2 q0' q1' q2' hx
    by_cases h2 : i < more.length
    · have h2' : (i : Int) < more.length := by omega
      have hx := List.getElem?_eq_getElem h2
      have hfx := hfewm.len (List.getElem_mem h2)
      generalize more[i] = o at hx hfx
      obtain ⟨b, oo, ua, un, uc, e1, q0, q1, q2, q3⟩ := hm.at_ hT.upd (fun b hb => hT.new b hb) hx
      subst e1
      simp (config := { maxSteps := 3000000 }) (disch := omega) only [push_cast, Nat.reduceBEq, Nat.reduceEqDiff, Nat.reduceAdd, Nat.reduceMul, Nat.reduceSub, Nat.reduceLT, Int.reduceToNat, Int.reduceLT, Int.reduceLE, Int.reduceEq, Int.reduceAdd, Int.reduceSub, Int.reduceNeg, Int.reduceMul, q0, q1, em, eN, eM, eB]
      refine Ok.use ((hT.swap).do hdB hdA q2 q3 (by omega)) ?_
      rintro v wa ⟨⟨e, rfl⟩, Da, da, d0a, hTa, hta⟩
      have hX := hta.slr (J := fun b => b = ja ∨ b = jb) (.inr rfl) hX
      have hY := hta.slr (J := fun b => b = ja ∨ b = jb) (.inr rfl) hY
      have hM := hta.slb (J := fun b => b = ja ∨ b = jb) (.inr rfl) hM
      have hT' := hTa.swap
      clear hT hTa
      obtain ⟨b', oo', ua', un', uc', e1, q0', q1', q2', _⟩ := hm.at_ hT'.upd (fun b hb => hT'.new b hb) hx
      injection e1 with e1
      injection e1 with e1 e2
      subst e1
      subst e2
      simp (config := { maxSteps := 3000000 }) (disch := omega) only [push_cast, Nat.reduceBEq, Nat.reduceEqDiff, Nat.reduceAdd, Nat.reduceMul, Nat.reduceSub, Nat.reduceLT, Int.reduceToNat, Int.reduceLT, Int.reduceLE, Int.reduceEq, Int.reduceAdd, Int.reduceSub, Int.reduceNeg, Int.reduceMul, q0', q1', em, eN, eM, eB]
      refine Ok.use (After_ok hY hT'.lt q2' (area := A) (by omega) (Nat.le_trans (after_len (k := 50000) (m := 6200) hfb hfx) (by omega))) ?_
      rintro v wb ⟨⟨u0, rfl, hYn⟩, hub⟩
      have hT := hT'.quiet hub
      have hX := hX.go (F' := FF Da fun b => b = ja ∨ b = jb) hub fun b _ h => h.elim False.elim _root_.id
      have hM := hM.go (F' := FF Da fun b => b = ja ∨ b = jb) hub fun b _ h => h.elim False.elim _root_.id
      have hY := hYn
      clear hYn hT' hta hub
      rw [hA] at hT
      generalize afterP lb o A = r at *
      obtain ⟨lb2, code⟩ := r
      dsimp only at hT hY ⊢
      clear q0 q1 q2 q0' q1' q2' hx
      simp (config := { maxSteps := 3000000 }) (disch := omega) only [push_cast, Nat.reduceBEq, Nat.reduceEqDiff, Nat.reduceAdd, Nat.reduceMul, Nat.reduceSub, Nat.reduceLT, Int.reduceToNat, Int.reduceLT, Int.reduceLE, Int.reduceEq, Int.reduceAdd, Int.reduceSub, Int.reduceNeg, Int.reduceMul, em, eN, eM, eB]
      exact ⟨k - 1, by omega, i + 1, la2, lb2, _, _, Da, da, d0a, by omega, by simp, hT, hX, hY, hM⟩
    · have h2' : ¬ (i : Int) < more.length := by omega
      simp (config := { maxSteps := 3000000 }) (disch := omega) only [push_cast, Nat.reduceBEq, Nat.reduceEqDiff, Nat.reduceAdd, Nat.reduceMul, Nat.reduceSub, Nat.reduceLT, Int.reduceToNat, Int.reduceLT, Int.reduceLE, Int.reduceEq, Int.reduceAdd, Int.reduceSub, Int.reduceNeg, Int.reduceMul, em, eN, eM, eB]
      exact ⟨k - 1, by omega, i + 1, la2, lb, _, _, Da, da, d0a, by omega, by simp, hT, hX, hY, hM⟩
  · have h1' : ¬ (i : Int) < ops.length := by omega
    have h2 : i < more.length := by omega
    have h2' : (i : Int) < more.length := by omega
    have hx := List.getElem?_eq_getElem h2
    have hfx := hfewm.len (List.getElem_mem h2)
    generalize more[i] = o at hx hfx
    obtain ⟨b, oo, ua, un, uc, e1, q0, q1, q2, q3⟩ := hm.at_ hT.upd (fun b hb => hT.new b hb) hx
    subst e1
    simp (config := { maxSteps := 3000000 }) (disch := omega) only [push_cast, Nat.reduceBEq, Nat.reduceEqDiff, Nat.reduceAdd, Nat.reduceMul, Nat.reduceSub, Nat.reduceLT, Int.reduceToNat, Int.reduceLT, Int.reduceLE, Int.reduceEq, Int.reduceAdd, Int.reduceSub, Int.reduceNeg, Int.reduceMul, q0, q1, em, eN, eM, eB]
    refine Ok.use ((hT.swap).do hdB hdA q2 q3 (by omega)) ?_
    rintro v wa ⟨⟨e, rfl⟩, Da, da, d0a, hTa, hta⟩
    have hX := hta.slr (J := fun b => b = ja ∨ b = jb) (.inr rfl) hX
    have hY := hta.slr (J := fun b => b = ja ∨ b = jb) (.inr rfl) hY
    have hM := hta.slb (J := fun b => b = ja ∨ b = jb) (.inr rfl) hM
    have hT' := hTa.swap
    clear hT hTa
    obtain ⟨b', oo', ua', un', uc', e1, q0', q1', q2', _⟩ := hm.at_ hT'.upd (fun b hb => hT'.new b hb) hx
    injection e1 with e1
    injection e1 with e1 e2
    subst e1
    subst e2
    simp (config := { maxSteps := 3000000 }) (disch := omega) only [push_cast, Nat.reduceBEq, Nat.reduceEqDiff, Nat.reduceAdd, Nat.reduceMul, Nat.reduceSub, Nat.reduceLT, Int.reduceToNat, Int.reduceLT, Int.reduceLE, Int.reduceEq, Int.reduceAdd, Int.reduceSub, Int.reduceNeg, Int.reduceMul, q0', q1', em, eN, eM, eB]
    refine Ok.use (After_ok hY hT'.lt q2' (area := A) (by omega) (Nat.le_trans (after_len (k := 50000) (m := 6200) hfb hfx) (by omega))) ?_
    rintro v wb ⟨⟨u0, rfl, hYn⟩, hub⟩
    have hT := hT'.quiet hub
    have hX := hX.go (F' := FF Da fun b => b = ja ∨ b = jb) hub fun b _ h => h.elim False.elim _root_.id
    have hM := hM.go (F' := FF Da fun b => b = ja ∨ b = jb) hub fun b _ h => h.elim False.elim _root_.id
    have hY := hYn
    clear hYn hT' hta hub
    rw [hA] at hT
    generalize afterP lb o A = r at *
    obtain ⟨lb2, code⟩ := r
    dsimp only at hT hY ⊢
    clear q0 q1 q2 q0' q1' q2' hx
    simp (config := { maxSteps := 3000000 }) (disch := omega) only [push_cast, Nat.reduceBEq, Nat.reduceEqDiff, Nat.reduceAdd, Nat.reduceMul, Nat.reduceSub, Nat.reduceLT, Int.reduceToNat, Int.reduceLT, Int.reduceLE, Int.reduceEq, Int.reduceAdd, Int.reduceSub, Int.reduceNeg, Int.reduceMul, em, eN, eM, eB]
    exact ⟨k - 1, by omega, i + 1, la, lb2, _, _, Da, da, d0a, by omega, by simp, hT, hX, hY, hM⟩
theorem journalApart_law {w : World} (x : Int) (hx : (Lit.int .u8 x).wf = true) (y : Int) (hy : (Lit.int .u8 y).wf = true) {v : Value} (h : ∃ l, SlO w v l) {vm : Value} (hm : ∃ l, SlO w vm l) :
    Ok (den Try.prog 5 #[.int .u8 x, .int .u8 y, v, vm] w) fun u w' => u = .bool true ∧ Upd (fun _ => False) w w' := by
  obtain ⟨l, h⟩ := h
  obtain ⟨m, hm⟩ := hm
  obtain ⟨a, rfl, ha⟩ := u8_nat hx
  obtain ⟨b, rfl, hb⟩ := u8_nat hy
  exact journalApart_ok ha hb h hm
end Go.Proofs.Ytlnladcfgieggaa.Fd
