/-
  Payloads: bytes that nobody writes into; bytes.Clone, bytes.Equal.
-/
import Derived.Test.YtpgfokhpacdhjaaFdI
import Derived.Test.YtpgfokhpacdhjaaFdD
namespace Go.Proofs.Ytpgfokhpacdhjaa.Fd
set_option linter.unusedSimpArgs false
set_option linter.unusedVariables false
open Go
set_option maxRecDepth 100000

def Rng (l : List Int) : Prop := ∀ x, x ∈ l → 0 ≤ x ∧ x < 256
theorem u8_inj {x y : Int} (hx : 0 ≤ x ∧ x < 256) (hy : 0 ≤ y ∧ y < 256) (h : UInt8.ofNat x.toNat = UInt8.ofNat y.toNat) : x = y := by
  have := congrArg UInt8.toNat h
  simp at this
  omega
theorem str_inj : ∀ {l m : List Int}, Rng l → Rng m → (l.map fun n => UInt8.ofNat n.toNat) = m.map (fun n => UInt8.ofNat n.toNat) → l = m
  | [], [], _, _, _ => rfl
  | [], _ :: _, _, _, h => by simp at h
  | _ :: _, [], _, _, h => by simp at h
  | x :: l, y :: m, h1, h2, h => by
    simp only [List.map_cons, List.cons.injEq] at h
    rw [u8_inj (h1 x List.mem_cons_self) (h2 y List.mem_cons_self) h.1, str_inj (fun z hz => h1 z (List.mem_cons_of_mem _ hz)) (fun z hz => h2 z (List.mem_cons_of_mem _ hz)) h.2]
theorem str_eq {l m : List Int} (h1 : Rng l) (h2 : Rng m) : ((strOfNums l).toList == (strOfNums m).toList) = decide (l = m) := by
  rw [ByteArray.toList_eq, ByteArray.toList_eq]
  by_cases h : l = m
  · subst h; simp
  · rw [decide_eq_false h, ← Bool.not_eq_true, beq_iff_eq]
    intro e
    exact h (str_inj h1 h2 (by simpa [strOfNums] using e))

theorem cnv_str {w : World} {F : Nat → Prop} {v : Value} {l : List Int} (h : SlB w F v l) : cnvS Try.prog 28 9 v w = some (.string (strOfNums l), w) :=
  cnv_bytes Try.underlying28 Try.underlying5 Try.underlying9 h
/-- A block that nobody writes into: older than base, or of bytes. -/
def Still (base : Nat) (w : World) (b : Nat) : Prop := b < w.heap.size ∧ (b < base ∨ ∃ cs fz, w.heap[b]? = some (.cells cs 5 fz))
structure Kp (base : Nat) (w w' : World) : Prop where
  size : w.heap.size ≤ w'.heap.size
  same : ∀ b, Still base w b → w'.heap[b]? = w.heap[b]?
theorem Still.keep {base : Nat} {w w' : World} {b : Nat} (h : Still base w b) (k : Kp base w w') : Still base w' b := by
  refine ⟨Nat.lt_of_lt_of_le h.1 k.size, ?_⟩
  rcases h.2 with h1 | ⟨cs, fz, h1⟩
  · exact .inl h1
  · exact .inr ⟨cs, fz, by rw [k.same b h, h1]⟩
theorem Kp.refl {base : Nat} {w : World} : Kp base w w := ⟨Nat.le_refl _, fun _ _ => rfl⟩
theorem Kp.trans {base : Nat} {w w1 w2 : World} (h : Kp base w w1) (k : Kp base w1 w2) : Kp base w w2 :=
  ⟨Nat.le_trans h.size k.size, fun b hb => by rw [k.same b (hb.keep h), h.same b hb]⟩
theorem Kp.of_upd {base : Nat} {F : Nat → Prop} {w w' : World} (hu : Upd F w w') (hF : ∀ b, F b → ¬ Still base w b) : Kp base w w' :=
  ⟨hu.size, fun b hb => hu.block b hb.1 fun h => hF b h hb⟩
theorem Kp.quiet {base : Nat} {w w' : World} (hu : Upd (fun _ => False) w w') : Kp base w w' := Kp.of_upd hu fun _ h => h.elim
theorem Kp.lift {base base' : Nat} {w w' : World} (h : Kp base w w') (hb : base' ≤ base) : Kp base' w w' :=
  ⟨h.size, fun b hs => h.same b ⟨hs.1, hs.2.imp (fun h => by omega) id⟩⟩
/-- A payload. -/
def PB (base : Nat) (w : World) (v : Value) (l : List Int) : Prop := Rng l ∧ ∃ a c, v = .slice a l.length c ∧ (l ≠ [] → ∃ b o, a = some ⟨b, o, none⟩ ∧ Still base w b ∧ Lies w b o l)
theorem PB.keep {base : Nat} {w w' : World} {v : Value} {l : List Int} (h : PB base w v l) (k : Kp base w w') : PB base w' v l := by
  obtain ⟨hr, a, c, hv, hl⟩ := h
  refine ⟨hr, a, c, hv, fun h0 => ?_⟩
  obtain ⟨b, o, h1, h2, h3⟩ := hl h0
  refine ⟨b, o, h1, h2.keep k, fun j hj => ?_⟩
  rw [← h3 j hj]
  exact World.cell?_of_block (k.same b h2)
theorem PB.slb {base : Nat} {w : World} {v : Value} {l : List Int} (h : PB base w v l) : SlB w (fun _ => False) v l := by
  obtain ⟨_, a, c, hv, hl⟩ := h
  refine ⟨a, c, hv, fun h0 => ?_⟩
  obtain ⟨b, o, h1, _, h3⟩ := hl h0
  exact ⟨b, o, h1, h3, fun h => h⟩
theorem PB.form {base : Nat} {w : World} {v : Value} {l : List Int} (h : PB base w v l) : ∃ a c, v = .slice a l.length c := by
  obtain ⟨_, a, c, hv, _⟩ := h
  exact ⟨a, c, hv⟩
theorem PB.one {base : Nat} {w : World} {v : Value} {l : List Int} (h : PB base w v l) : v.oneCell' = true := by
  obtain ⟨a, c, rfl⟩ := h.form; rfl
theorem PB.nil {base : Nat} {w : World} : PB base w (.slice none 0 0) [] := ⟨fun x hx => by simp at hx, none, 0, rfl, fun h => absurd rfl h⟩
theorem PB.bow {base : Nat} {w : World} {v : Value} {l : List Int} (hr : Rng l) (h : Bow w v l) : PB base w v l := by
  rcases Nat.eq_zero_or_pos l.length with h0 | h0
  · obtain ⟨a, c, hv⟩ := own_slice h
    obtain rfl : l = [] := List.eq_nil_of_length_eq_zero h0
    exact ⟨hr, a, c, hv, fun h => absurd rfl h⟩
  · obtain ⟨g, c, hv, hg, ⟨cs, hb, _⟩, hl⟩ := Buf.of_own h h0
    exact ⟨hr, some ⟨g, 0, none⟩, c, hv, fun _ => ⟨g, 0, rfl, ⟨hb.lt, .inr ⟨_, _, hb⟩⟩, hl⟩⟩
theorem equal_ok {base : Nat} {w : World} {u v : Value} {l m : List Int} (hu : PB base w u l) (hv : PB base w v m) :
    Ok (den Try.prog 38 #[u, v] w) fun r w' => r = .bool (decide (l = m)) ∧ Upd (fun _ => False) w w' := by
  obtain ⟨a1, c1, rfl, _⟩ := id hu.slb
  obtain ⟨a2, c2, rfl, _⟩ := id hv.slb
  refine den_ok (args := [.slice a1 l.length c1, .slice a2 m.length c2]) rs38 Try.func38 rfl mixed in38 ok38 rfl ?_
  have e1 := cnv_str hu.slb
  have e2 := cnv_str hv.slb
  have e3 := str_eq hu.1 hv.1
  simp (config := { maxSteps := 3000000 }) (disch := omega) only [push_cast, Nat.reduceBEq, Nat.reduceEqDiff, Nat.reduceAdd, Nat.reduceMul, Nat.reduceSub, Nat.reduceLT, Int.reduceToNat, Int.reduceLT, Int.reduceLE, Int.reduceEq, Int.reduceAdd, Int.reduceSub, Int.reduceNeg, Int.reduceMul, e1, e2, e3]
  exact Upd.refl
theorem bin_nilB {ox oy : Operand} {a : Option Addr} {n c : Nat} {w : World} : binS Try.prog .eql 28 ox oy (.slice a n c) (.slice none 0 0) w = some (.bool a.isNone, w) := bin_eqlN (by kernel_rfl)
theorem clone_ok {base : Nat} {w : World} {v : Value} {l : List Int} (hv : PB base w v l) (hl : l.length ≤ 140737488355328) :
    Ok (den Try.prog 32 #[v] w) fun u w' => PB base w' u l ∧ Upd (fun _ => False) w w' := by
  obtain ⟨a, c, rfl, _⟩ := id hv.slb
  refine den_ok (args := [.slice a l.length c]) rs32 Try.func32 rfl mixed in32 ok32 rfl ?_
  cases a with
  | none =>
    obtain ⟨hr, a', c', e, h2⟩ := hv
    injection e with e1 e2 e3
    subst e1
    have : l = [] := by
      by_cases h : l = []
      · exact h
      · obtain ⟨b, o, h3, _⟩ := h2 h; cases h3
    subst this
    simp (disch := omega) only [push_cast, Nat.reduceBEq, Nat.reduceEqDiff, Nat.reduceAdd, Nat.reduceMul, Nat.reduceSub, Nat.reduceLT, Int.reduceToNat, Int.reduceLT, Int.reduceLE, Int.reduceEq, Int.reduceAdd, Int.reduceSub, Int.reduceNeg, Int.reduceMul, bin_nilB]
    exact ⟨PB.nil, Upd.refl⟩
  | some a =>
    simp (disch := omega) only [push_cast, Nat.reduceBEq, Nat.reduceEqDiff, Nat.reduceAdd, Nat.reduceMul, Nat.reduceSub, Nat.reduceLT, Int.reduceToNat, Int.reduceLT, Int.reduceLE, Int.reduceEq, Int.reduceAdd, Int.reduceSub, Int.reduceNeg, Int.reduceMul, bin_nilB]
    refine app_by (Bow.empty (w := w.alloc (.cells #[] 5 (0, 0))) (Blk.new (cs := []))) (hv.keep (Kp.quiet Upd.alloc)).slb (by rw [List.length_nil]; omega) ?_
    intro v' w' h1 h2 _
    rw [List.nil_append] at h1
    simp (disch := omega) only [push_cast, Nat.reduceBEq, Nat.reduceEqDiff, Nat.reduceAdd, Nat.reduceMul, Nat.reduceSub, Nat.reduceLT, Int.reduceToNat, Int.reduceLT, Int.reduceLE, Int.reduceEq, Int.reduceAdd, Int.reduceSub, Int.reduceNeg, Int.reduceMul]
    exact ⟨PB.bow hv.1 h1, Upd.alloc.trans h2 (fun b h3 h4 => by simp [Value.ownBlock] at h4; omega)⟩
end Go.Proofs.Ytpgfokhpacdhjaa.Fd
