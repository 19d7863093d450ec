/-
  Loops under an invariant; small words for proofs about calls.
-/
import Derived.Test.YtpgfokhpacdhjaaFdA
namespace Go.Proofs.Ytpgfokhpacdhjaa.Fd
set_option linter.unusedSimpArgs false
set_option linter.unusedVariables false
open Go

section
variable {P : Program} {D : Den} {c : Code} {vs : List Nat} {p : Plan} {ρ : Env}
/-- An invariant at its arguments. -/
def App (I : Nat → List Value → World → Prop) (k : Nat) (st : List Value) (w : World) : Prop := I k st w
theorem App_congr {I : Nat → List Value → World → Prop} {k : Nat} {st st' : List Value} {w w' : World} (h1 : st = st') (h2 : w = w') : App I k st w = App I k st' w' := by rw [h1, h2]
/-- What a round must come to: the invariant at a smaller measure, or the loop's end. -/
def KJ (I : Nat → List Value → World → Prop) (k : Nat) (vs : List Nat) (K : (Exit × Env) × World → Prop) : Out → Prop
  | (.normal, ρ, w) => ∃ k', k' < k ∧ I k' (getE vs ρ) w
  | (e, ρ, w) => K ((e, ρ), w)
theorem KJ_nor {I : Nat → List Value → World → Prop} {k : Nat} {K : (Exit × Env) × World → Prop} {w : World} : KJ I k vs K (.normal, ρ, w) = ∃ k', k' < k ∧ App I k' (getE vs ρ) w := _root_.id rfl
theorem KJ_exit {I : Nat → List Value → World → Prop} {k id : Nat} {K : (Exit × Env) × World → Prop} {w : World} : KJ I k vs K (.exit id, ρ, w) = K ((.exit id, ρ), w) := _root_.id rfl
theorem KJ_ret {I : Nat → List Value → World → Prop} {k : Nat} {K : (Exit × Env) × World → Prop} {w : World} : KJ I k vs K (.ret, ρ, w) = K ((.ret, ρ), w) := _root_.id rfl
theorem KJ_congr {I : Nat → List Value → World → Prop} {k : Nat} {K : (Exit × Env) × World → Prop} {x y : Out} (h : x = y) : KJ I k vs K x = KJ I k vs K y := by rw [h]
theorem loop_inv {I : Nat → List Value → World → Prop} {K : (Exit × Env) × World → Prop}
    (step : ∀ k st w, I k st w → W P D c p (setE vs st ρ) w (KJ I k vs K)) : ∀ (k : Nat) {st : List Value} {w : World}, I k st w → Okk (loopR (loopB P D c vs p ρ) st w) K := by
  intro k
  induction k using Nat.strongRecOn with
  | _ k ih =>
    intro st w hI
    obtain ⟨⟨e, ρ', w'⟩, h1, h2⟩ := step k st w hI
    cases e with
    | normal =>
      obtain ⟨k', hk, hI'⟩ := h2
      obtain ⟨x, h3, h4⟩ := ih k' hk hI'
      refine ⟨x, ?_, h4⟩
      rw [loopR_inl (s' := getE vs ρ') (w' := w')]
      · exact h3
      · unfold loopB; rw [h1]; rfl
    | _ =>
      refine ⟨((_, ρ'), w'), ?_, h2⟩
      refine loopR_inr ?_
      unfold loopB; rw [h1]; rfl
end
/-- A statement that simp leaves as it is. -/
structure Tok (p : Prop) : Type where
def Bx (p : Prop) (_t : Tok p) : Prop := p
theorem and_intro' {a b : Prop} (h1 : a) (h2 : b) : a ∧ b := ⟨h1, h2⟩
attribute [congr] KJ_congr App_congr
attribute [push_cast] KJ_nor KJ_exit KJ_ret
def by8 (l : List Int) : List Value := l.map (Value.int .u8)
theorem by8_one {l : List Int} : ∀ u ∈ by8 l, u.oneCell' = true := by
  intro u hu
  obtain ⟨n, _, rfl⟩ := List.mem_map.1 hu
  rfl
theorem by8_length {l : List Int} : (by8 l).length = l.length := by simp [by8]
theorem flat_get {α β : Type} {f : α → List β} {s : Nat} (hf : ∀ x, (f x).length = s) {r : Nat} (hr : r < s) : ∀ {l : List α} {j : Nat}, (l.flatMap f)[j * s + r]? = (l[j]?).bind fun x => (f x)[r]? := by
  intro l
  induction l with
  | nil => intro j; simp
  | cons x t ih =>
    intro j
    rw [List.flatMap_cons]
    cases j with
    | zero =>
      rw [List.getElem?_append_left (by rw [hf]; omega)]
      simp
    | succ j =>
      rw [List.getElem?_append_right (by rw [hf]; rw [Nat.succ_mul]; omega), hf, show (j + 1) * s + r - s = j * s + r from by rw [Nat.succ_mul]; omega, ih]
      simp
/-- The cells of one element of an owned row. -/
theorem own_cell {α : Type} {f : α → List Value} {s : Nat} (hf : ∀ x, (f x).length = s) {w : World} {E : TypeId} {v : Value} {l : List α} (h : w.ownsRow 0 E s v l.length (l.flatMap f)) {j : Nat} {x : α} (hj : l[j]? = some x) :
    ∃ g cap, v = .slice (some ⟨g, 0, none⟩) l.length cap ∧ v.ownBlock = some g ∧ ∀ r, r < s → w.cell? ⟨g, j * s + r, none⟩ = (f x)[r]? := by
  have hlt : j < l.length := (List.getElem?_eq_some_iff.1 hj).1
  rcases h.2 with ⟨_, h0⟩ | ⟨g, cap, cur, hv, _, hg, hn, hm, hsz, htk⟩
  · omega
  · refine ⟨g, cap, hv, by rw [hv]; rfl, fun r hr => ?_⟩
    have hlen : j * s + r < l.length * s := by
      have : (j + 1) * s ≤ l.length * s := Nat.mul_le_mul_right s hlt
      rw [Nat.succ_mul] at this
      omega
    have e : w.cell? ⟨g, j * s + r, none⟩ = cur.toList[j * s + r]? := by
      simp [World.cell?, hg]
    rw [e, ← List.getElem?_take_of_lt hlen, htk, flat_get hf hr, hj]
    rfl
theorem ownsRow_upd {w w' : World} {F : Nat → Prop} {E s n : Nat} {v : Value} {xs : List Value} (h : w.ownsRow 0 E s v n xs) (hu : Upd F w w') (hF : ∀ g, v.ownBlock = some g → ¬ F g) : w'.ownsRow 0 E s v n xs := by
  obtain ⟨h1, h2⟩ := h
  refine ⟨h1, ?_⟩
  rcases h2 with h2 | ⟨g, cap, cur, hv, hg, hh, r⟩
  · exact .inl h2
  · have hlt : g < w.heap.size := by rw [Array.getElem?_eq_some_iff] at hh; exact hh.1
    exact .inr ⟨g, cap, cur, hv, hg, by rw [hu.block g hlt (hF g (by rw [hv]; rfl))]; exact hh, r⟩
theorem own_slice {w : World} {B E s n : Nat} {v : Value} {xs : List Value} (h : w.ownsRow B E s v n xs) : ∃ a c, v = .slice a n c := by
  rcases h.2 with ⟨rfl, rfl⟩ | ⟨g, cap, cur, hv, _⟩
  · exact ⟨none, 0, rfl⟩
  · exact ⟨_, _, hv⟩
/-- The blocks F, and those that have come from w to w'. -/
def gr (F : Nat → Prop) (w w' : World) (b : Nat) : Prop := F b ∨ (w.heap.size ≤ b ∧ b < w'.heap.size)
/-- A slice of bytes that can be read, outside the blocks F. -/
def Lies (w : World) (b o : Nat) (l : List Int) : Prop := ∀ j, j < (by8 l).length → w.cell? ⟨b, o + j, none⟩ = (by8 l)[j]?
theorem Lies.lt {w : World} {b o : Nat} {l : List Int} (h : Lies w b o l) (h0 : 0 < l.length) : b < w.heap.size := by
  have := h 0 (by simpa [by8] using h0)
  have e : w.cell? ⟨b, o + 0, none⟩ ≠ none := by
    rw [this]
    simp [by8]
    intro e
    subst e
    simp at h0
  unfold World.cell? at e
  by_cases hb : b < w.heap.size
  · exact hb
  · exfalso
    refine e ?_
    simp [hb]
theorem Lies.of_blk {w : World} {b E : Nat} {l : List Int} (h : Blk w b (by8 l) E) : Lies w b 0 l := by
  intro j _
  rw [h.cell]
  simp
theorem Lies.upd {w w' : World} {b o : Nat} {l : List Int} {F : Nat → Prop} (h : Lies w b o l) (hu : Upd F w w') (hb : b < w.heap.size) (hF : ¬ F b) : Lies w' b o l := by
  intro j hj
  rw [← h j hj]
  exact World.cell?_of_block (hu.block b hb hF)
def SlB (w : World) (F : Nat → Prop) (v : Value) (l : List Int) : Prop := ∃ a c, v = .slice a l.length c ∧ (l ≠ [] → ∃ b o, a = some ⟨b, o, none⟩ ∧ Lies w b o l ∧ ¬ F b)
theorem SlB.upd {w w' : World} {F G : Nat → Prop} {v : Value} {l : List Int} (h : SlB w F v l) (hu : Upd G w w') (hG : ∀ b, G b → F b) : SlB w' F v l := by
  obtain ⟨a, c, hv, hl⟩ := h
  refine ⟨a, c, hv, fun h0 => ?_⟩
  obtain ⟨b, o, h1, h2, h3⟩ := hl h0
  exact ⟨b, o, h1, h2.upd hu (h2.lt (List.length_pos_iff.2 h0)) fun hg => h3 (hG b hg), h3⟩
theorem SlB.mono {w : World} {F G : Nat → Prop} {v : Value} {l : List Int} (h : SlB w F v l) (hG : ∀ b, b < w.heap.size → G b → F b) : SlB w G v l := by
  obtain ⟨a, c, hv, hl⟩ := h
  refine ⟨a, c, hv, fun h0 => ?_⟩
  obtain ⟨b, o, h1, h2, h3⟩ := hl h0
  exact ⟨b, o, h1, h2, fun hg => h3 (hG b (h2.lt (List.length_pos_iff.2 h0)) hg)⟩
section
variable {P : Program} {D : Den} {w : World} {ty : TypeId} {e : Operand → Value}
def maxS (x y : Value) (w : World) : Option (Value × World) :=
  match x, y with
  | .int k a, .int _ b => some (.int k (max a b), w)
  | _, _ => none
theorem opX_max {x y : Operand} {ats : Array TypeId} {k k' : IntKind} {a b : Int} (hx : e x = .int k a) (hy : e y = .int k' b) : opX P D (.call ⟨.builtin .max, #[x, y], ats⟩) ty e w = maxS (e x) (e y) w := by
  have : (if a < b then b else a) = max a b := by rw [Int.max_def]; split <;> split <;> omega
  simp [opX, opS, execOp, resolve, invoke, builtin, Builtin.max_, Builtin.max2, hx, hy, maxS, this]
def maxK (P : Program) (D : Den) (x y : Operand) (ats : Array TypeId) (ty : TypeId) (e : Operand → Value) (u v : Value) (w : World) : Option (Value × World) :=
  match u, v with
  | .int k a, .int _ b => some (.int k (max a b), w)
  | _, _ => opX P D (.call ⟨.builtin .max, #[x, y], ats⟩) ty e w
theorem opX_maxK {x y : Operand} {ats : Array TypeId} : opX P D (.call ⟨.builtin .max, #[x, y], ats⟩) ty e w = maxK P D x y ats ty e (e x) (e y) w := by
  unfold maxK
  split
  · rename_i hx hy; rw [opX_max hx hy, hx, hy]; rfl
  · rfl
theorem maxK_int {x y : Operand} {ats : Array TypeId} {k k' : IntKind} {a b : Int} : maxK P D x y ats ty e (.int k a) (.int k' b) w = some (.int k (max a b), w) := _root_.id rfl
theorem maxK_congr {x y : Operand} {ats : Array TypeId} {u u' v v' : Value} {w' : World} (h1 : u = u') (h2 : v = v') (h3 : w = w') : maxK P D x y ats ty e u v w = maxK P D x y ats ty e u' v' w' := by rw [h1, h2, h3]
def mkfS (fn : Fn) (first captured : Array Value) (w : World) : Option (Value × World) := some (.func fn first captured, w)
theorem opX_makeFunc {fn : Nat} {first captured : Array Operand} : opX P D (.makeFunc (.func fn) first captured) ty e w = lift ((Instr.makeFunc (.func fn) (first.map e) (captured.map e)).run P w) := by
  simp only [opX, opS, execOp, lift]
  generalize Instr.makeFunc (.func fn) (first.map e) (captured.map e) = s
  simp
  cases s.run P w <;> simp
theorem mkf_eq {fn : Nat} {captured : List Value} : lift ((Instr.makeFunc (.func fn) #[] captured.toArray).run P w) = some (.func (.func fn) #[] captured.toArray, w) := by
  simp [lift, Instr.makeFunc]
end
attribute [congr] maxK_congr
attribute [push_cast] opX_maxK maxK_int opX_makeFunc mkf_eq not_true_eq_false not_false_eq_true
end Go.Proofs.Ytpgfokhpacdhjaa.Fd
