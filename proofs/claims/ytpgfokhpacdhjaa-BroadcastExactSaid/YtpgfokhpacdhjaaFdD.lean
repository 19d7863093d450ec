/-
  Bytes as a string; buffers of bytes that are written in place; append of bytes to a new slice.
-/
import Derived.Test.YtpgfokhpacdhjaaFdH
import Derived.Laws.BytesString
import Derived.Laws.BytesArg
namespace Go.Proofs.Ytpgfokhpacdhjaa.Fd
set_option linter.unusedSimpArgs false
set_option linter.unusedVariables false
open Go
set_option maxRecDepth 100000

section
variable {P : Program} {D : Den} {w : World} {ty : TypeId} {e : Operand → Value}
theorem foldl_nums : ∀ (l : List Int) (r : ByteArray), l.foldl (fun r n => r.push (UInt8.ofNat n.toNat)) r = ⟨r.data ++ (l.map fun n => UInt8.ofNat n.toNat).toArray⟩
  | [], r => by simp
  | b :: l, r => by
    simp only [List.foldl_cons]
    rw [foldl_nums l]
    simp [ByteArray.push]
theorem cnv_bytes {src dst el : TypeId} (hs : P.underlying src = some (.slice el)) (he : P.underlying el = some (.int .u8)) (hd : P.underlying dst = some .string) {F : Nat → Prop} {v : Value} {l : List Int} (h : SlB w F v l) :
    cnvS P src dst v w = some (.string (strOfNums l), w) := by
  obtain ⟨a, c, rfl, hl⟩ := h
  unfold cnvS
  rw [run_convert_bytes_string w src dst el a l.length c hs he hd]
  by_cases h0 : l = []
  · subst h0
    cases a <;> simp [Conv.bytesToString, lift, strOfNums, Sem.run_pure] <;> rfl
  · obtain ⟨b, o, rfl, hli, _⟩ := hl h0
    have hlc := run_loadCells_list (P := P) w ⟨b, o, none⟩ (by8 l) (fun j u hj => by
      have hj' : j < (by8 l).length := (List.getElem?_eq_some_iff.1 hj).1
      rw [← hj, ← hli j hj']
      unfold Addr.add
      by_cases h0 : j = 0
      · subst h0; rfl
      · simp [h0])
    rw [by8_length] at hlc
    rw [run_bytesToString w ⟨b, o, none⟩ l.length c l hlc, foldl_nums]
    have he0 : ByteArray.empty.data = #[] := _root_.id rfl
    rw [he0]
    simp [lift, strOfNums]
end
/-- A block of n bytes at least, whatever they are. -/
def Buf (w : World) (g n : Nat) : Prop := ∃ cs, Blk w g cs 5 ∧ ∀ j, j < n → ∃ x, cs[j]? = some (.int .u8 x)
theorem Buf.of_blk {w : World} {g : Nat} {l : List Int} (h : Blk w g (by8 l) 5) : Buf w g l.length :=
  ⟨_, h, fun j hj => ⟨l[j], by simp [by8, hj]⟩⟩
theorem Buf.upd {w w' : World} {g n : Nat} {F : Nat → Prop} (h : Buf w g n) (hu : Upd F w w') (hF : ¬ F g) : Buf w' g n := by
  obtain ⟨cs, h1, h2⟩ := h
  exact ⟨cs, h1.upd hu hF, h2⟩
theorem Buf.get {w : World} {g n : Nat} (h : Buf w g n) {j : Nat} (hj : j < n) : ∃ x, w.cell? ⟨g, j, none⟩ = some (.int .u8 x) := by
  obtain ⟨cs, h1, h2⟩ := h
  obtain ⟨x, hx⟩ := h2 j hj
  exact ⟨x, by rw [h1.cell, hx]⟩
theorem Buf.free {w : World} {g n : Nat} (h : Buf w g n) (o : Nat) : w.frozen? ⟨g, o, none⟩ = false := by
  obtain ⟨cs, h1, h2⟩ := h
  exact h1.free o
theorem Buf.set {w : World} {g n : Nat} (h : Buf w g n) (j : Nat) (x : Int) : Buf (w.setCell ⟨g, j, none⟩ (.int .u8 x)) g n := by
  obtain ⟨cs, h1, h2⟩ := h
  refine ⟨_, h1.set j (.int .u8 x), fun i hi => ?_⟩
  rw [List.getElem?_set]
  obtain ⟨y, hy⟩ := h2 i hi
  split
  · split
    · exact ⟨x, rfl⟩
    · rename_i h3 h4
      have := (List.getElem?_eq_some_iff.1 hy).1
      omega
  · exact ⟨y, hy⟩
theorem Buf.of_own {w : World} {B : Nat} {v : Value} {l : List Int} (h : w.ownsRow B 5 1 v l.length (by8 l)) (h0 : 0 < l.length) :
    ∃ g c, v = .slice (some ⟨g, 0, none⟩) l.length c ∧ v.ownBlock = some g ∧ Buf w g l.length ∧ Lies w g 0 l := by
  rcases h.2 with ⟨rfl, h1⟩ | ⟨g, cap, cur, hv, _, hg, _, _, hsz, htk⟩
  · omega
  · have hB : Blk w g cur.toList 5 := by show _ = _; rw [hg]
    rw [Nat.mul_one] at htk
    have hget : ∀ j, j < l.length → cur.toList[j]? = (by8 l)[j]? := fun j hj => by rw [← htk, List.getElem?_take_of_lt hj]
    refine ⟨g, cap, hv, by rw [hv]; rfl, ⟨_, hB, fun j hj => ⟨l[j], by rw [hget j hj]; simp [by8, hj]⟩⟩, fun j hj => ?_⟩
    rw [Nat.zero_add, hB.cell]
    rw [by8_length] at hj
    exact hget j hj
theorem bsl_bytes0 (w : World) : bslS Try.prog 28 0 #[] w = some (.slice (some ⟨w.heap.size, 0, none⟩) 0 0, w.alloc (.cells #[] 5 (0, 0))) := by kernel_rfl
attribute [push_cast] bsl_bytes0
/-- append([]byte{}, b...): new bytes. -/
theorem app_clone {w : World} {F : Nat → Prop} {v : Value} {l : List Int} (h : SlB w F v l) (h0 : 0 < l.length) (h1 : l.length ≤ 1000000000) {g0 : Nat} (hg0 : g0 < w.heap.size) (hw0 : Blk w g0 [] 5) {K : Value × World → Prop}
    {ty : TypeId} (hk : ∀ g c w', g = g0 ∨ (w.heap.size ≤ g ∧ g < w'.heap.size) → Upd (fun b => b = g0) w w' → Buf w' g l.length → Lies w' g 0 l → K (.slice (some ⟨g, 0, none⟩) l.length c, w')) :
    Okk (appS Try.prog #[28, 28] ty (.slice (some ⟨g0, 0, none⟩) 0 0) v w) K := by
  obtain ⟨a, c, rfl, hl⟩ := h
  obtain ⟨b, o, rfl, hli, _⟩ := hl (by intro e; rw [e] at h0; simp at h0)
  have hown : w.ownsRow 0 5 1 (.slice (some ⟨g0, 0, none⟩) 0 0) 0 [] := ⟨rfl, .inr ⟨g0, 0, #[], rfl, Nat.zero_le _, hw0, Nat.le_refl _, Nat.zero_le _, rfl, rfl⟩⟩
  refine app_own (s := 1) (by_ := 1) (n := 0) (m := l.length) (news := by8 l) t28_e t5_s t5_b t5_z rfl (by omega) hown (by rw [by8_length, Nat.mul_one]) hli by8_one (by omega) (by unfold maxLen; omega) ?_
  intro v' w' hown' hg hfr
  rw [Nat.zero_add, List.nil_append] at hown'
  obtain ⟨g, c', rfl, hob, hbuf, hlies⟩ := Buf.of_own hown' h0
  refine hk g c' w' ?_ (Upd.grown (F := fun b => b = g0) hg (fun k hk => by injection hk with hk; exact hk.symm)) hbuf hlies
  rcases hfr with h | ⟨g', h, hge⟩
  · rw [hob] at h
    injection h with h
    exact .inl h
  · rw [hob] at h
    injection h with h
    subst h
    exact .inr ⟨hge, (hown'.lt _ hob).2⟩
end Go.Proofs.Ytpgfokhpacdhjaa.Fd
