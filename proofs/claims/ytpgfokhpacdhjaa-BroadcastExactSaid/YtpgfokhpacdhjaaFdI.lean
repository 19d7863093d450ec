/-
  append of bytes from any source (a slice, nil, a string); slices with both bounds; make with a capacity; a string's bytes; bits of bytes.
-/
import Derived.Test.YtpgfokhpacdhjaaFdD
import Derived.Test.YtpgfokhpacdhjaaFdG
import Derived.Deep.AppendSrc
import Derived.Deep.Upon
namespace Go.Proofs.Ytpgfokhpacdhjaa.Fd
set_option linter.unusedSimpArgs false
set_option linter.unusedVariables false
open Go
set_option maxRecDepth 100000

section
variable {P : Program} {D : Den} {w : World} {ty : TypeId} {e : Operand → Value} {t : TypeId}
theorem opX_sliceLH {x l h : Operand} : opX P D (.slice t x (some l) (some h) none) ty e w = slcS P t (e x) (some (e l)) (some (e h)) w := by
  simp only [opX, opS, execOp, slcS, lift]
  simp
  generalize Instr.sliceAt t (e x) (some (e l)) (some (e h)) none = s
  cases s.run P w <;> simp
theorem slc_lh {b o n c : Nat} {k k' : IntKind} {l h : Int} (h0 : 0 ≤ l) (h1 : l ≤ h) (h2 : h ≤ c) : slcS P t (.slice (some ⟨b, o, none⟩) n c) (some (.int k l)) (some (.int k' h)) w =
    orK (elt P t) (fun el => orK (siz P el) (fun s => some (.slice (some ⟨b, if c = l.toNat then o else o + l.toNat * s, none⟩) (h.toNat - l.toNat) (c - l.toNat), w)) (slcFar P t (.slice (some ⟨b, o, none⟩) n c) (some (.int k l)) (some (.int k' h)) w)) (slcFar P t (.slice (some ⟨b, o, none⟩) n c) (some (.int k l)) (some (.int k' h)) w) := by
  cases ht : elt P t with
  | none => rfl
  | some el =>
    simp only [orK]
    cases hs : siz P el with
    | none => rfl
    | some s =>
      dsimp only
      have hu := elt_elem ht
      have he : P.elem t = el := by simp [Program.elem, hu]
      have hu' : P.underlying t = some (.slice (P.elem t)) := by rw [he]; exact hu
      unfold slcS lift
      rw [run_sliceAt_slice w t _ _ _ _ hu', run_slice_lh w t _ _ _ hu' _ _ _ _ h0 h1 h2, he, size_of hs]
      have ha : (⟨b, o, none⟩ : Addr).add (l.toNat * s) = ⟨b, o + l.toNat * s, none⟩ := by
        unfold Addr.add
        by_cases h0 : l.toNat * s = 0
        · simp [h0]
        · simp [h0]
      by_cases hc : c = l.toNat
      · simp [sliced, hc]
      · simp [sliced, hc, ha]
end
attribute [push_cast] opX_sliceLH slc_lh
/-- A slice of bytes that may be sliced: it has an address and room. -/
theorem slb_lh {w : World} {F : Nat → Prop} {b o c : Nat} {d : List Int} (h : SlB w F (.slice (some ⟨b, o, none⟩) d.length c) d) {l n : Nat} (hln : l + n ≤ d.length) (hc : d.length ≤ c) :
    SlB w F (.slice (some ⟨b, if c = l then o else o + l, none⟩) n (c - l)) ((d.drop l).take n) := by
  obtain ⟨a', c', hv, hl⟩ := h
  injection hv with e1 e2 e3
  subst e1
  have hlen : ((d.drop l).take n).length = n := by rw [List.length_take, List.length_drop]; omega
  refine ⟨_, c - l, by rw [hlen], fun h0 => ?_⟩
  have hn : 0 < n := by
    rcases Nat.eq_zero_or_pos n with e | e
    · subst e; simp at h0
    · exact e
  obtain ⟨b', o', h1, h2, h3⟩ := hl (by intro e; rw [e] at hln; simp at hln; omega)
  injection h1 with h1
  injection h1 with h1 h1'
  subst h1
  subst h1'
  refine ⟨b, o + l, by rw [if_neg (by omega)], fun j hj => ?_, h3⟩
  rw [by8_length, hlen] at hj
  have := h2 (l + j) (by rw [by8_length]; omega)
  rw [Nat.add_assoc, this]
  unfold by8
  rw [List.getElem?_map, List.getElem?_map, List.getElem?_take_of_lt hj, List.getElem?_drop]

theorem Blk.setCells {b : Nat} {E : TypeId} : ∀ {news : List Value} {w : World} {cs : List Value} {o : Nat}, Blk w b cs E → o + news.length ≤ cs.length → Blk (w.setCells b o news) b (cs.take o ++ news ++ cs.drop (o + news.length)) E ∧ Upd (fun x => x = b) w (w.setCells b o news)
  | [], w, cs, o, h, _ => by
    refine ⟨?_, Upd.refl⟩
    show Blk w b _ E
    simpa using h
  | v :: news, w, cs, o, h, hl => by
    simp only [List.length_cons] at hl
    obtain ⟨h1, h2⟩ := Blk.setCells (news := news) (o := o + 1) (h.set o v) (by rw [List.length_set]; omega)
    refine ⟨?_, (Upd.set (F := fun x => x = b) rfl).trans h2 (fun _ _ h => h)⟩
    have e : (cs.set o v).take (o + 1) ++ news ++ (cs.set o v).drop (o + 1 + news.length) = cs.take o ++ v :: news ++ cs.drop (o + (v :: news).length) := by
      rw [List.take_add_one, List.getElem?_set_self (by omega), List.take_set_of_le (by omega), List.drop_set_of_lt (by omega)]
      simp [Nat.add_assoc, Nat.add_comm, Nat.add_left_comm]
    rw [e] at h1
    exact h1
/-- An append from any source to a slice that is nil or owned. -/
theorem app_src {P : Program} {w : World} {t tx ty el : TypeId} {by_ s : Nat} {z : Value} (ht : elt P t = some el) (hs : siz P el = some s) (hb : byt P el = some by_) (hz : zer P el = some z) (hzs : z.cells.size = s) (hs0 : 0 < s)
    {v : Value} {n : Nat} {xs : List Value} (hown : w.ownsRow 0 el s v n xs) {x : Value} {m : Nat} {news : List Value} (src : Src P s tx x m news w) (hbytes : (n + m) * by_ ≤ 140737488355328) (h63 : n + m ≤ maxLen)
    {K : Value × World → Prop} (hk : ∀ v' w', w'.ownsRow 0 el s v' (n + m) (xs ++ news) → Upd (fun b => v.ownBlock = some b) w w' → (∀ g, v'.ownBlock = some g → v.ownBlock = some g ∨ (w.heap.size ≤ g ∧ g < w'.heap.size)) → K (v', w')) :
    Okk (appS P #[t, tx] ty v x w) K := by
  have hu := elt_elem ht
  unfold siz at hs
  unfold byt at hb
  unfold zer at hz
  cases hi : P.info? el with
  | none => rw [hi] at hs; cases hs
  | some i =>
    rw [hi] at hb hz hs
    simp only [Option.map_some, Option.some.injEq, Option.bind_some] at hb hz hs
    subst hs
    subst hb
    have hsmall : n + m ≤ 9223372036854775807 := by simp only [maxLen] at h63; omega
    have hl := src.newsLen
    have hlen : (xs ++ news).length = (n + m) * i.size := by rw [List.length_append, hown.1, hl, Nat.add_mul]
    have grown : ∀ (old : Nat), old < n + m → ∀ c', c' = grownCap w (n + m) old el →
        (w.drew.alloc (.cells ((xs ++ news).toArray ++ Builtin.zeroCells z.cells (c' - (n + m))) el)).ownsRow 0 el i.size (.slice (some ⟨w.heap.size, 0, none⟩) (n + m) c') (n + m) (xs ++ news) := by
      rintro old ho c' rfl
      have hge := grownCap_ge w (n + m) old el
      have hcm : grownCap w (n + m) old el ≤ maxLen := grownCap_le_maxLen w (n + m) old el h63
      refine ⟨hlen, .inr ⟨w.heap.size, _, _, rfl, Nat.zero_le _, heap_alloc_new w.drew _, hge, hcm, ?_, ?_⟩⟩
      · simp only [Array.size_append, List.size_toArray, size_zeroCells, hzs, hlen]
        rw [← Nat.add_mul]
        congr 1
        omega
      · simp only [Array.toList_append]
        rw [← hlen]
        exact List.take_left
    have hfresh : ∀ (ob : Obj) (c' : Nat) (g : Nat), (Value.slice (some ⟨w.heap.size, 0, none⟩) (n + m) c').ownBlock = some g → v.ownBlock = some g ∨ (w.heap.size ≤ g ∧ g < (w.drew.alloc ob).heap.size) := by
      intro ob c' g hg
      have hg : w.heap.size = g := Option.some.inj hg
      have : (w.drew.alloc ob).heap.size = w.heap.size + 1 := size_alloc
      exact .inr ⟨by omega, by omega⟩
    rcases hown.2 with ⟨rfl, rfl⟩ | ⟨g, cap, cur, rfl, hbg, hg, hnc, hcm, hcs, htake⟩
    · have hx : xs = [] := List.eq_nil_of_length_eq_zero (by simpa using hown.1)
      subst hx
      by_cases hm : m = 0
      · subst hm
        have hn : news = [] := List.eq_nil_of_length_eq_zero (by simpa using hl)
        subst hn
        have hr := run_append_nothing w t tx ty el i hu hi none 0 0 (Nat.le_refl _) x src
        refine ⟨_, by unfold appS lift; rw [hr], hk _ _ hown Upd.refl fun g h => .inl h⟩
      · have hr := run_append_grow_src w t tx ty el i z hu hi hz none 0 0 [] (run_firstCells_none w.drew i.size 0 0 0) x m news src (by omega) (by omega) (growslice_fits (by omega) hbytes)
        exact ⟨_, by unfold appS lift; rw [hr], hk _ _ (grown 0 (by omega) _ rfl) (Upd.drew.trans Upd.alloc (fun _ _ h => h)) (hfresh _ _)⟩
    · have hB : Blk w g cur.toList el := by show _ = _; rw [hg]
      have hcl : cur.toList.length = cap * i.size := hcs
      by_cases hroom : n + m ≤ cap
      · have hfit : n * i.size + news.length ≤ cur.toList.length := by
          have : (n + m) * i.size ≤ cap * i.size := Nat.mul_le_mul_right _ hroom
          rw [Nat.add_mul] at this
          rw [hcl, hl]
          exact this
        have hr := run_append_room_src w t tx ty el i hu hi g 0 n cap x m news src hroom (fun j hj => by rw [hB.cell, List.getElem?_eq_getElem (by omega)]; rfl) (fun j _ => hB.free _)
        rw [Nat.zero_add] at hr
        obtain ⟨h1, h2⟩ := Blk.setCells (news := news) (o := n * i.size) hB hfit
        refine ⟨_, by unfold appS lift; rw [hr], hk _ _ ⟨hlen, .inr ⟨g, cap, _, rfl, hbg, h1, hroom, hcm, ?_, ?_⟩⟩ (h2.mono fun b _ e => by rw [e]; rfl) fun _ h => .inl h⟩
        · simp only [List.size_toArray, List.length_append, List.length_take, List.length_drop]
          rw [hcl] at hfit ⊢
          rw [Nat.min_eq_left (by omega)]
          omega
        · show ((cur.toList.take (n * i.size) ++ news) ++ _).take _ = _
          rw [htake, ← hlen]
          exact List.take_left
      · have hr := run_append_grow_src w t tx ty el i z hu hi hz (some ⟨g, 0, none⟩) n cap xs (run_firstCells_some w.drew i.size n ⟨g, 0, none⟩ n cap xs hown.1 (by simpa using hown.cells (g := g) rfl)) x m news src (by omega) (by omega) (growslice_fits (by omega) hbytes)
        exact ⟨_, by unfold appS lift; rw [hr], hk _ _ (grown cap (by omega) _ rfl) (Upd.drew.trans Upd.alloc (fun _ _ h => h)) (hfresh _ _)⟩
theorem SlB.src {w : World} {F : Nat → Prop} {y : Value} {m : List Int} (hy : SlB w F y m) : Src Try.prog 1 28 y m.length (by8 m) w := by
  obtain ⟨a, c, rfl, hl⟩ := hy
  have hk : Try.prog.underlying 28 = some (.slice 5) := Try.underlying28
  by_cases h0 : m = []
  · subst h0
    cases a with
    | none => exact Src.ofNil w hk c
    | some a => exact Src.ofSlice w hk a 0 c [] rfl (by simp) (by simp)
  · obtain ⟨b, o, rfl, h1, _⟩ := hl h0
    refine Src.ofSlice w hk ⟨b, o, none⟩ m.length c (by8 m) (by rw [by8_length, Nat.mul_one]) (fun j u hj => ?_) by8_one
    have hlt : j < (by8 m).length := (List.getElem?_eq_some_iff.1 hj).1
    rw [← hj, ← h1 j hlt]
    congr 1
    unfold Addr.add
    split
    · rename_i h0; rw [h0]; rfl
    · rfl
def Bow (w : World) (v : Value) (l : List Int) : Prop := w.ownsRow 0 5 1 v l.length (by8 l)
theorem by8_append {l m : List Int} : by8 (l ++ m) = by8 l ++ by8 m := by simp [by8]
theorem app_by {w : World} {v : Value} {l : List Int} (hown : Bow w v l) {F : Nat → Prop} {y : Value} {m : List Int} (hy : SlB w F y m) (hlen : l.length + m.length ≤ 140737488355328) {ty : TypeId}
    {K : Value × World → Prop} (hk : ∀ v' w', Bow w' v' (l ++ m) → Upd (fun b => v.ownBlock = some b) w w' → (∀ g, v'.ownBlock = some g → v.ownBlock = some g ∨ (w.heap.size ≤ g ∧ g < w'.heap.size)) → K (v', w')) :
    Okk (appS Try.prog #[28, 28] ty v y w) K := by
  refine app_src (by_ := 1) t28_e t5_s t5_b t5_z rfl (by omega) hown hy.src (by omega) (by unfold maxLen; omega) ?_
  intro v' w' h1 h2 h3
  refine hk v' w' ?_ h2 h3
  unfold Bow
  rw [List.length_append, by8_append]
  exact h1
def strL (s : ByteArray) : List Int := s.data.toList.map fun b => (b.toNat : Int)
theorem byteCells_eq {s : ByteArray} : byteCells s = by8 (strL s) := by simp [byteCells, by8, strL]
theorem app_str {w : World} {v : Value} {l : List Int} (hown : Bow w v l) {s : ByteArray} (hlen : l.length + s.size ≤ 1000000000) {ty : TypeId}
    {K : Value × World → Prop} (hk : ∀ v' w', Bow w' v' (l ++ strL s) → Upd (fun b => v.ownBlock = some b) w w' → (∀ g, v'.ownBlock = some g → v.ownBlock = some g ∨ (w.heap.size ≤ g ∧ g < w'.heap.size)) → K (v', w')) :
    Okk (appS Try.prog #[28, 9] ty v (.string s) w) K := by
  have hsl : (strL s).length = s.size := by simp [strL]
  refine app_src (by_ := 1) t28_e t5_s t5_b t5_z rfl (by omega) hown (Src.ofString w Try.underlying9 s) (by omega) (by unfold maxLen; omega) ?_
  intro v' w' h1 h2 h3
  refine hk v' w' ?_ h2 h3
  unfold Bow
  rw [List.length_append, by8_append, hsl, ← byteCells_eq]
  exact h1
theorem Bow.slb {w : World} {v : Value} {l : List Int} (h : Bow w v l) {F : Nat → Prop} (hF : ∀ g, v.ownBlock = some g → ¬ F g) : SlB w F v l := by
  rcases Nat.eq_zero_or_pos l.length with h0 | h0
  · obtain ⟨a, c, hv⟩ := own_slice h
    obtain rfl : l = [] := List.eq_nil_of_length_eq_zero h0
    exact ⟨a, c, hv, fun h => absurd rfl h⟩
  · obtain ⟨g, c, hv, hg, _, hl⟩ := Buf.of_own h h0
    exact ⟨some ⟨g, 0, none⟩, c, hv, fun _ => ⟨g, 0, rfl, hl, hF g hg⟩⟩
theorem Bow.nil {w : World} : Bow w (.slice none 0 0) [] := World.ownsRow_nil _ _ _ _
theorem Bow.empty {w : World} {g : Nat} (h : Blk w g [] 5) : Bow w (.slice (some ⟨g, 0, none⟩) 0 0) [] := ⟨rfl, .inr ⟨g, 0, #[], rfl, Nat.zero_le _, h, Nat.le_refl _, Nat.zero_le _, rfl, rfl⟩⟩
theorem Bow.upd {w w' : World} {F : Nat → Prop} {v : Value} {l : List Int} (h : Bow w v l) (hu : Upd F w w') (hF : ∀ g, v.ownBlock = some g → ¬ F g) : Bow w' v l := ownsRow_upd h hu hF
theorem Bow.form {w : World} {v : Value} {l : List Int} (h : Bow w v l) : ∃ a c, v = .slice a l.length c ∧ l.length ≤ c := by
  rcases h.2 with ⟨rfl, h0⟩ | ⟨g, cap, cur, rfl, _, _, h1, _⟩
  · exact ⟨none, 0, by rw [h0], by omega⟩
  · exact ⟨_, cap, rfl, h1⟩
theorem Bow.lt {w : World} {v : Value} {l : List Int} (h : Bow w v l) {g : Nat} (hg : v.ownBlock = some g) : g < w.heap.size := (World.ownsRow.lt h g hg).2
/-- make([]byte, 0, n). -/
theorem mk0_run {w : World} {k k' : IntKind} {n : Int} (h0 : 0 ≤ n) (h1 : n ≤ 1000000000) : ∃ w', mkS Try.prog 28 (.int k 0) (.int k' n) w = some (.slice (some ⟨w.heap.size, 0, none⟩) 0 n.toNat, w') ∧ Bow w' (.slice (some ⟨w.heap.size, 0, none⟩) 0 n.toNat) [] ∧ Upd (fun _ => False) w w' ∧ w'.heap.size = w.heap.size + 1 := by
  have hi : ∃ i, Try.prog.info? 5 = some i ∧ i.size = 1 ∧ i.bytes = 1 ∧ i.zero = some (.int .u8 0) := by
    have hs := t5_s
    have hb := t5_b
    have hz := t5_z
    unfold siz at hs
    unfold byt at hb
    unfold zer at hz
    cases hi : Try.prog.info? 5 with
    | none => rw [hi] at hs; cases hs
    | some i =>
      rw [hi] at hb hz hs
      simp only [Option.map_some, Option.some.injEq, Option.bind_some] at hb hz hs
      exact ⟨i, rfl, hs, hb, hz⟩
  obtain ⟨i, hi, hs, hb, hz⟩ := hi
  have hr := run_make (P := Try.prog) w 28 5 i _ Try.underlying28 hi hz k k' 0 n (Int.le_refl _) h0 (by rw [hb]; omega) (by omega)
  refine ⟨w.alloc (.cells (madeCells (Value.int .u8 0).cells (n.toNat * i.size)) 5), by unfold mkS lift; rw [hr]; rfl, World.ownsRow_made w _ n.toNat (Nat.zero_le _) (by unfold maxLen; omega) (by rw [size_madeCells, hs]), Upd.alloc, size_alloc⟩
section
variable {P : Program} {D : Den} {w : World} {ty : TypeId} {e : Operand → Value}
def minK (P : Program) (D : Den) (x y : Operand) (ats : Array TypeId) (ty : TypeId) (e : Operand → Value) (u v : Value) (w : World) : Option (Value × World) :=
  match u, v with
  | .int k a, .int _ b => some (.int k (min a b), w)
  | _, _ => opX P D (.call ⟨.builtin .min, #[x, y], ats⟩) ty e w
theorem opX_minK {x y : Operand} {ats : Array TypeId} : opX P D (.call ⟨.builtin .min, #[x, y], ats⟩) ty e w = minK P D x y ats ty e (e x) (e y) w := by
  unfold minK
  split
  · rename_i k a k' b hx hy
    have : (if b < a then b else a) = min a b := by rw [Int.min_def]; split <;> split <;> omega
    simp [opX, opS, execOp, resolve, invoke, builtin, Builtin.min_, Builtin.min2, hx, hy, this]
  · rfl
theorem minK_int {x y : Operand} {ats : Array TypeId} {k k' : IntKind} {a b : Int} : minK P D x y ats ty e (.int k a) (.int k' b) w = some (.int k (min a b), w) := _root_.id rfl
theorem minK_congr {x y : Operand} {ats : Array TypeId} {u u' v v' : Value} {w' : World} (h1 : u = u') (h2 : v = v') (h3 : w = w') : minK P D x y ats ty e u v w = minK P D x y ats ty e u' v' w' := by rw [h1, h2, h3]
end
attribute [congr] minK_congr
attribute [push_cast] opX_minK minK_int
theorem ofInt_nat {n : Nat} {k : Nat} : BitVec.ofInt k (n : Int) = BitVec.ofNat k n := by simp
theorem nat_or_high {a : Nat} (h : a < 128) : a ||| 128 = a + 128 := by
  have := Nat.two_pow_add_eq_or_of_lt (i := 7) (b := a) h 1
  rw [Nat.or_comm, show (128 : Nat) = 2 ^ 7 * 1 from rfl, ← this]
  omega
theorem u8_or128 {a : Nat} (h : a < 256) : IntKind.u8.wrap ((BitVec.ofInt IntKind.u8.bits (a : Int) ||| BitVec.ofInt IntKind.u8.bits 128).toNat : Int) = ((a % 128 + 128 : Nat) : Int) := by
  have e : ∀ a : Fin 256, IntKind.u8.wrap ((BitVec.ofInt IntKind.u8.bits ((a.val : Nat) : Int) ||| BitVec.ofInt IntKind.u8.bits 128).toNat : Int) = ((a.val % 128 + 128 : Nat) : Int) := by decide +kernel
  exact e ⟨a, h⟩
theorem u8_and127 {a : Nat} (h : a < 256) : IntKind.u8.wrap ((BitVec.ofInt IntKind.u8.bits (a : Int) &&& BitVec.ofInt IntKind.u8.bits 127).toNat : Int) = ((a % 128 : Nat) : Int) := by
  have e : ∀ a : Fin 256, IntKind.u8.wrap ((BitVec.ofInt IntKind.u8.bits ((a.val : Nat) : Int) &&& BitVec.ofInt IntKind.u8.bits 127).toNat : Int) = ((a.val % 128 : Nat) : Int) := by decide +kernel
  exact e ⟨a, h⟩
/-- A part above the bits that are there. -/
theorem u64_or {a b i : Nat} (hi : i < 64) (ha : a < 2 ^ i) (hb : b * 2 ^ i < 2 ^ 64) : IntKind.u64.wrap ((BitVec.ofInt IntKind.u64.bits (a : Int) ||| BitVec.ofInt IntKind.u64.bits ((b * 2 ^ i : Nat) : Int)).toNat : Int) = ((a + b * 2 ^ i : Nat) : Int) := by
  have h1 := Nat.two_pow_add_eq_or_of_lt ha b
  have h3 : a + b * 2 ^ i < 2 ^ 64 := by
    have h4 : (2 : Nat) ^ 64 = 2 ^ (64 - i) * 2 ^ i := by rw [← Nat.pow_add]; congr 1; omega
    rw [h4] at hb ⊢
    have h5 : b < 2 ^ (64 - i) := Nat.lt_of_mul_lt_mul_right hb
    have h6 : (b + 1) * 2 ^ i ≤ 2 ^ (64 - i) * 2 ^ i := Nat.mul_le_mul_right _ h5
    rw [Nat.add_mul] at h6
    omega
  have h2 : (BitVec.ofInt IntKind.u64.bits (a : Int) ||| BitVec.ofInt IntKind.u64.bits ((b * 2 ^ i : Nat) : Int)).toNat = a + b * 2 ^ i := by
    rw [ofInt_nat, ofInt_nat, BitVec.toNat_or, BitVec.toNat_ofNat, BitVec.toNat_ofNat]
    show (a % 2 ^ 64) ||| (b * 2 ^ i % 2 ^ 64) = _
    rw [Nat.mod_eq_of_lt hb, Nat.mod_eq_of_lt (by omega), Nat.or_comm, Nat.mul_comm b, ← h1]
    omega
  rw [h2, IntKind.wrap_u64]
  omega
end Go.Proofs.Ytpgfokhpacdhjaa.Fd
