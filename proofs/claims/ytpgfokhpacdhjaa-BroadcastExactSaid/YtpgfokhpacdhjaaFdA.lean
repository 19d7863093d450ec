/-
  Operations that make memory, append, copy; what stays as it was ('Upd').
-/
import Derived.Test.YtpgfokhpacdhjaaFd9
namespace Go.Proofs.Ytpgfokhpacdhjaa.Fd
set_option linter.unusedSimpArgs false
set_option linter.unusedVariables false
open Go

/-- All but the blocks F is as it was; the streams too. -/
structure Upd (F : Nat → Prop) (w w' : World) : Prop where
  os : w'.os = w.os
  tape : w'.tape = w.tape
  output : w'.output = w.output
  size : w.heap.size ≤ w'.heap.size
  block : ∀ b, b < w.heap.size → ¬ F b → w'.heap[b]? = w.heap[b]?
theorem Upd.refl {F : Nat → Prop} {w : World} : Upd F w w := ⟨rfl, rfl, rfl, Nat.le_refl _, fun _ _ _ => rfl⟩
/-- The blocks F, and what is new since w. -/
def grow (F : Nat → Prop) (w : World) (b : Nat) : Prop := F b ∨ w.heap.size ≤ b
theorem Upd.trans {F G : Nat → Prop} {w w1 w2 : World} (h : Upd F w w1) (k : Upd G w1 w2) (hg : ∀ b, b < w.heap.size → G b → F b) : Upd F w w2 :=
  ⟨k.os.trans h.os, k.tape.trans h.tape, k.output.trans h.output, Nat.le_trans h.size k.size, fun b hb hF => by
    have h1 := h.size
    rw [k.block b (by omega) (fun hG => hF (hg b hb hG)), h.block b hb hF]⟩
theorem Upd.mono {F G : Nat → Prop} {w w' : World} (h : Upd F w w') (hg : ∀ b, b < w.heap.size → F b → G b) : Upd G w w' :=
  ⟨h.os, h.tape, h.output, h.size, fun b hb hG => h.block b hb fun hF => hG (hg b hb hF)⟩
theorem Upd.alloc {F : Nat → Prop} {w : World} {o : Obj} : Upd F w (w.alloc o) :=
  ⟨rfl, rfl, rfl, by rw [size_alloc]; omega, fun b hb _ => by
    show (w.heap.push o)[b]? = _
    rw [Array.getElem?_push, if_neg (by omega)]⟩
theorem Upd.drew {F : Nat → Prop} {w : World} : Upd F w w.drew := ⟨rfl, rfl, rfl, Nat.le_refl _, fun _ _ _ => rfl⟩
theorem Upd.set {F : Nat → Prop} {w : World} {a : Addr} {v : Value} (h : F a.block) : Upd F w (w.setCell a v) :=
  ⟨rfl, rfl, rfl, by rw [size_set]; exact Nat.le_refl _, fun b hb hF => by
    simp only [World.setCell, Array.getElem?_modify]
    rw [if_neg (fun e => hF (by rw [← e]; exact h))]⟩
theorem Upd.setRow {F : Nat → Prop} {w : World} {g : Nat} {cs : Array Value} (h : F g) : Upd F w (w.setRow g cs) :=
  ⟨rfl, rfl, rfl, by simp [World.setRow], fun b hb hF => by
    simp only [World.setRow, Array.getElem?_modify]
    rw [if_neg (fun e => hF (by rw [← e]; exact h))]⟩
theorem Upd.grown {F : Nat → Prop} {w w' : World} {r : Option Nat} (h : w.grownBy w' r) (hr : ∀ k, r = some k → F k) : Upd F w w' :=
  ⟨h.os, h.tape, h.output, h.size, fun b hb hF => h.block b hb fun e => hF (hr b e.symm)⟩
theorem Upd.alloc' {F : Nat → Prop} {w w1 : World} {o : Obj} (h : Upd F w w1) : Upd F w (w1.alloc o) := h.trans Upd.alloc fun _ _ h => h
theorem Upd.drew' {F : Nat → Prop} {w w1 : World} (h : Upd F w w1) : Upd F w w1.drew := h.trans Upd.drew fun _ _ h => h
/-- A store into a block that is new since w. -/
theorem Upd.setNew {F : Nat → Prop} {w w1 : World} {a : Addr} {v : Value} (h : Upd F w w1) (ha : w.heap.size ≤ a.block) : Upd F w (w1.setCell a v) :=
  h.trans (Upd.set (F := fun b => b = a.block) rfl) fun b h1 h2 => by omega
theorem Upd.setIn {F : Nat → Prop} {w w1 : World} {a : Addr} {v : Value} (h : Upd F w w1) (ha : F a.block) : Upd F w (w1.setCell a v) :=
  h.trans (Upd.set (F := fun b => b = a.block) rfl) fun b _ h2 => h2 ▸ ha
theorem Blk.upd {w w' : World} {b : Nat} {cs : List Value} {E : TypeId} {F : Nat → Prop} (h : Blk w b cs E) (hu : Upd F w w') (hF : ¬ F b) : Blk w' b cs E := by
  have := hu.block b h.lt hF
  unfold Blk at h ⊢
  rw [this, h]

section
variable {P : Program} {D : Den} {w : World} {ty : TypeId} {e : Operand → Value} {t : TypeId}
def allS (P : Program) (t : TypeId) (w : World) : Option (Value × World) := lift ((Instr.alloc t true (.tuple #[])).run P w)
theorem opX_alloc : opX P D (.alloc t) ty e w = allS P t w := by
  simp only [opX, opS, execOp, allS, lift]
  generalize Instr.alloc t true (.tuple #[]) = s
  simp
  cases s.run P w <;> simp
def allFar (P : Program) (t : TypeId) (w : World) : Option (Value × World) := allS P t w
theorem all_eq : allS P t w = orK (zer P t) (fun z => some (.pointer (some ⟨w.heap.size, 0, none⟩), w.alloc (.cells z.cells t (0, 0)))) (allFar P t w) := by
  unfold zer
  cases hi : P.info? t with
  | none => rfl
  | some i =>
    simp only [Option.bind_some]
    cases hz : i.zero with
    | none => rfl
    | some z => simp [orK, allS, lift, Instr.alloc, zeroValue, typeInfo, hi, hz, newVar, newRow]
def boxS (P : Program) (t : TypeId) (v : Value) (w : World) : Option (Value × World) := lift ((Instr.box t v).run P w)
theorem opX_box {x : Operand} : opX P D (.box t x) ty e w = boxS P t (e x) w := by
  simp only [opX, opS, execOp, boxS, lift]
  generalize Instr.box t (e x) = s
  simp
  cases s.run P w <;> simp
theorem box_eq {v : Value} : boxS P t v w = some (.pointer (some ⟨w.heap.size, 0, none⟩), w.alloc (.cells v.cells t (0, 0))) := by
  simp [boxS, lift, Instr.box, newVar, newRow]
def bldS (P : Program) (t : TypeId) (parts : Array (Nat × Value)) (w : World) : Option (Value × World) := lift ((Instr.build t parts).run P w)
theorem opX_build {parts : Array (Nat × Operand)} : opX P D (.build t parts) ty e w = bldS P t (parts.map fun p => (p.1, e p.2)) w := by
  simp only [opX, opS, execOp, bldS, lift]
  generalize Instr.build t (parts.map fun p => (p.1, e p.2)) = s
  simp
  cases s.run P w <;> simp
def bslS (P : Program) (t : TypeId) (n : Nat) (parts : Array (Nat × Value)) (w : World) : Option (Value × World) := lift ((Instr.buildSlice t n parts).run P w)
theorem opX_buildSlice {n : Nat} {parts : Array (Nat × Operand)} : opX P D (.buildSlice t n parts) ty e w = bslS P t n (parts.map fun p => (p.1, e p.2)) w := by
  simp only [opX, opS, execOp, bslS, lift]
  generalize Instr.buildSlice t n (parts.map fun p => (p.1, e p.2)) = s
  simp
  cases s.run P w <;> simp
def mkS (P : Program) (t : TypeId) (l c : Value) (w : World) : Option (Value × World) := lift ((Instr.makeSlice t l c).run P w)
theorem opX_make {l c : Operand} : opX P D (.makeSlice t l c) ty e w = mkS P t (e l) (e c) w := by
  simp only [opX, opS, execOp, mkS, lift]
  generalize Instr.makeSlice t (e l) (e c) = s
  simp
  cases s.run P w <;> simp
def mkFar (P : Program) (t : TypeId) (l c : Value) (w : World) : Option (Value × World) := mkS P t l c w
theorem madeOne (z : Value) (n : Nat) : madeCells #[z] n = (List.replicate n z).toArray := by
  rw [← Array.toArray_toList (xs := madeCells #[z] n), toList_madeCells_one]
theorem mk_run {el : TypeId} {n : Int} {by_ : Nat} {z : Value} {k k' : IntKind} (ht : elt P t = some el) (hb : byt P el = some by_) (hz : zer P el = some z) (hs : siz P el = some 1) (hc : z.cells = #[z])
    (h0 : 0 ≤ n) (hn : (by_ : Int) * n ≤ 281474976710656) (h1 : n ≤ 281474976710656) :
    mkS P t (.int k n) (.int k' n) w = some (.slice (some ⟨w.heap.size, 0, none⟩) n.toNat n.toNat, w.alloc (.cells (List.replicate n.toNat z).toArray el (0, 0))) := by
  unfold elt at ht
  unfold byt at hb
  unfold zer at hz
  unfold siz at hs
  cases hi : P.info? el with
  | none => rw [hi] at hs; cases hs
  | some i =>
    rw [hi] at hb hz hs
    simp only [Option.map_some, Option.some.injEq, Option.bind_some] at hb hz hs
    split at ht
    · rename_i el' hu
      simp only [Option.some.injEq] at ht
      subst ht
      have := run_make (P := P) w t el' i z hu hi hz k k' n n h0 (Int.le_refl _) (by rw [hb]; exact hn) (by omega)
      unfold mkS lift
      rw [this, hs, Nat.mul_one, hc, madeOne]
    · cases ht
def oneZ (z : Value) : Bool :=
  match z with
  | .int .. | .bool _ | .slice .. | .pointer _ | .string _ | .map _ => true
  | _ => false
theorem oneZ_spec {z : Value} (h : oneZ z = true) : z.cells = #[z] := by cases z <;> simp_all [oneZ, Value.cells]
theorem mk_eq {n : Int} {k k' : IntKind} (h0 : 0 ≤ n) (h1 : n ≤ 281474976710656) : mkS P t (.int k n) (.int k' n) w =
    orK (elt P t) (fun el => orK (zer P el) (fun z => iffK (oneZ z) (iffK (decide (siz P el = some 1)) (orK (byt P el) (fun by_ => iffK (decide ((by_ : Int) * n ≤ 281474976710656))
      (some (.slice (some ⟨w.heap.size, 0, none⟩) n.toNat n.toNat, w.alloc (.cells (List.replicate n.toNat z).toArray el (0, 0)))) (mkFar P t (.int k n) (.int k' n) w)) (mkFar P t (.int k n) (.int k' n) w)) (mkFar P t (.int k n) (.int k' n) w)) (mkFar P t (.int k n) (.int k' n) w)) (mkFar P t (.int k n) (.int k' n) w)) (mkFar P t (.int k n) (.int k' n) w) := by
  cases ht : elt P t with
  | none => rfl
  | some el =>
    simp only [orK]
    cases hz : zer P el with
    | none => rfl
    | some z =>
      dsimp only
      cases ho : oneZ z with
      | false => rfl
      | true =>
        rw [iffK_t]
        by_cases hs : siz P el = some 1
        · rw [show decide (siz P el = some 1) = true from by simp [hs], iffK_t]
          cases hb : byt P el with
          | none => rfl
          | some by_ =>
            dsimp only
            by_cases hn : (by_ : Int) * n ≤ 281474976710656
            · rw [show decide ((by_ : Int) * n ≤ 281474976710656) = true from by simp [hn], iffK_t]
              exact mk_run ht hb hz hs (oneZ_spec ho) h0 hn h1
            · rw [show decide ((by_ : Int) * n ≤ 281474976710656) = false from by simp [hn], iffK_f]; rfl
        · rw [show decide (siz P el = some 1) = false from by simp [hs], iffK_f]; rfl

/-! append, copy -/
def appS (P : Program) (ats : Array TypeId) (ty : TypeId) (x y : Value) (w : World) : Option (Value × World) := lift ((Builtin.append_ ats ty #[x, y]).run P w)
theorem opX_append {x y : Operand} {ats : Array TypeId} : opX P D (.call ⟨.builtin .append, #[x, y], ats⟩) ty e w = appS P ats ty (e x) (e y) w := by
  simp only [opX, opS, execOp, appS, lift, resolve]
  simp [invoke, builtin]
  generalize Builtin.append_ ats ty #[e x, e y] = s
  cases s.run P w <;> simp
/-- Where the row lies behind an append: where it lay, or in a new block. -/
theorem app_block {el : TypeId} {i : TypeInfo} {z : Value} {ty' : TypeId} (ht : P.underlying t = some (.slice el)) (hi : P.info? el = some i) (hz : i.zero = some z)
    {v : Value} {n : Nat} {xs : List Value} (hown : w.ownsRow 0 el i.size v n xs) {a : Addr} {m c : Nat} {news : List Value} (hl : news.length = m * i.size)
    (hnews : ∀ j u, news[j]? = some u → w.cell? (a.add j) = some u) (h1 : ∀ u ∈ news, u.oneCell' = true) (h63 : n + m ≤ maxLen) (hbytes : (n + m) * i.bytes ≤ 140737488355328)
    {v' : Value} {w' : World} (hr : (Builtin.append_ #[t, t] ty' #[v, .slice (some a) m c]).run P w = .ok v' w') :
    v'.ownBlock = v.ownBlock ∨ ∃ g, v'.ownBlock = some g ∧ w.heap.size ≤ g := by
  have hsmall : n + m ≤ 9223372036854775807 := by simp only [maxLen] at h63; omega
  rcases hown.2 with ⟨rfl, rfl⟩ | ⟨g, cap, cur, rfl, hbg, hg, hnc, hcm, hcs, htake⟩
  · by_cases hm : m = 0
    · subst hm
      have hn : news = [] := List.eq_nil_of_length_eq_zero (by simpa using hl)
      subst hn
      simp [Builtin.append_, run_underlying ht, sizeOf, typeInfo, hi, Builtin.lenOf, Builtin.firstCells, loadCells, loadCellsFrom] at hr
      exact .inl (by rw [← hr.1])
    · have hr' := run_append_nil (P := P) w t ty' el i z ht hi hz a m c news hl hnews (by omega) (by omega) (by have hb := hbytes; simp only [Nat.zero_add] at hb; omega)
      rw [hr'] at hr
      simp only [Result.ok.injEq] at hr
      exact .inr ⟨w.heap.size, by rw [← hr.1]; rfl, Nat.le_refl _⟩
  · by_cases hroom : n + m ≤ cap
    · have hfit : n * i.size + news.length ≤ cur.size := by rw [hl, hcs, ← Nat.add_mul]; exact Nat.mul_le_mul_right _ hroom
      have hr' := run_append_room (P := P) w t ty' el i ht hi g n cap cur hg a m c news hl hnews h1 hroom hfit
      rw [hr'] at hr
      simp only [Result.ok.injEq] at hr
      exact .inl (by rw [← hr.1]; rfl)
    · have holds : ∀ j u, xs[j]? = some u → w.cell? ((⟨g, 0, none⟩ : Addr).add j) = some u := hown.cells (g := g) rfl
      have hr' := run_append_grow (P := P) w t ty' el i z ht hi hz ⟨g, 0, none⟩ n cap xs hown.1 holds a m c news hl hnews (by omega) (by omega) (growslice_fits (by omega) hbytes)
      rw [hr'] at hr
      simp only [Result.ok.injEq] at hr
      exact .inr ⟨w.heap.size, by rw [← hr.1]; rfl, Nat.le_refl _⟩
/-- An append to a slice that is nil or owned, of some cells that lie somewhere. -/
theorem app_own {el : TypeId} {by_ s : Nat} {z : Value} (ht : elt P t = some el) (hs : siz P el = some s) (hb : byt P el = some by_) (hz : zer P el = some z) (hzs : z.cells.size = s) (hs0 : 0 < s)
    {v : Value} {n : Nat} {xs : List Value} (hown : w.ownsRow 0 el s v n xs) {b o m c : Nat} {news : List Value} (hl : news.length = m * s)
    (hnews : ∀ j, j < news.length → w.cell? ⟨b, o + j, none⟩ = news[j]?) (h1 : ∀ u ∈ news, u.oneCell' = true) (hbytes : (n + m) * by_ ≤ 140737488355328) (h63 : n + m ≤ maxLen)
    {K : Value × World → Prop} (hk : ∀ v' w', w'.ownsRow 0 el s v' (n + m) (xs ++ news) → w.grownBy w' v.ownBlock → (v'.ownBlock = v.ownBlock ∨ ∃ g, v'.ownBlock = some g ∧ w.heap.size ≤ g) → K (v', w')) :
    Okk (appS P #[t, t] ty v (.slice (some ⟨b, o, none⟩) m c) w) K := by
  unfold elt at ht
  unfold byt at hb
  unfold zer at hz
  unfold siz at hs
  cases hi : P.info? el with
  | none => rw [hi] at hs; cases hs
  | some i =>
    rw [hi] at hb hz hs
    simp only [Option.map_some, Option.some.injEq, Option.bind_some] at hb hz hs
    split at ht
    · rename_i el' hu
      simp only [Option.some.injEq] at ht
      subst ht
      have hn' : ∀ j u, news[j]? = some u → w.cell? ((⟨b, o, none⟩ : Addr).add j) = some u := by
        intro j u hj
        have hlt : j < news.length := (List.getElem?_eq_some_iff.1 hj).1
        rw [← hj, ← hnews j hlt]
        congr 1
        unfold Addr.add
        split
        · rename_i h0; rw [h0]; rfl
        · rfl
      obtain ⟨v', w', hr, h2, h3, h4⟩ := run_append_own (P := P) w 0 t ty el' i z s by_ hu hi hz hs hb hzs hs0 v n xs hown ⟨b, o, none⟩ m c news hl hn' h1 h63 hbytes (Nat.zero_le _)
      refine ⟨(v', w'), ?_, hk v' w' h2 h3 (by subst hs; subst hb; exact app_block hu hi hz hown hl hn' h1 h63 hbytes hr)⟩
      unfold appS lift
      rw [hr]
    · cases ht
def cpyS (P : Program) (ats : Array TypeId) (ty : TypeId) (x y : Value) (w : World) : Option (Value × World) := lift ((Builtin.copy_ ats ty #[x, y]).run P w)
theorem opX_copy {x y : Operand} {ats : Array TypeId} : opX P D (.call ⟨.builtin .copy, #[x, y], ats⟩) ty e w = cpyS P ats ty (e x) (e y) w := by
  simp only [opX, opS, execOp, cpyS, lift, resolve]
  simp [invoke, builtin]
  generalize Builtin.copy_ ats ty #[e x, e y] = s
  cases s.run P w <;> simp
/-- A copy of one-cell elements into a block of the call's own, from its cell o on. -/
theorem cpy_row {t2 el E : TypeId} (ht : elt P t = some el) (hs : siz P el = some 1) {g o dl dc b so sl sc : Nat} {cur cs : List Value} (hg : Blk w g cur E) (hn : cs.length = min sl dl)
    (hsrc : ∀ j, j < cs.length → w.cell? ⟨b, so + j, none⟩ = cs[j]?) (hfit : o + cs.length ≤ cur.length) (h1 : ∀ u ∈ cs, u.oneCell' = true) :
    cpyS P #[t, t2] ty (.slice (some ⟨g, o, none⟩) dl dc) (.slice (some ⟨b, so, none⟩) sl sc) w = some (.int .i64 cs.length, w.setRow g (cur.take o ++ cs ++ cur.drop (o + cs.length)).toArray) := by
  unfold elt at ht
  split at ht
  · rename_i el' hu
    simp only [Option.some.injEq] at ht
    subst ht
    have hn' : ∀ j u, cs[j]? = some u → w.cell? ((⟨b, so, none⟩ : Addr).add j) = some u := by
      intro j u hj
      have hlt : j < cs.length := (List.getElem?_eq_some_iff.1 hj).1
      rw [← hj, ← hsrc j hlt]
      congr 1
      unfold Addr.add
      split
      · rename_i h0; rw [h0]; rfl
      · rfl
    have := run_copy_row (P := P) (ty := ty) w t t2 el' g o dl dc ⟨b, so, none⟩ sl sc cur.toArray E cs hu hs hg hn hn' (by simpa using hfit) h1
    unfold cpyS lift
    rw [this]
    rfl
  · cases ht
theorem Blk.setRow {b : Nat} {cs cs' : List Value} {E : TypeId} (h : Blk w b cs E) : Blk (w.setRow b cs'.toArray) b cs' E := by
  unfold Blk at h ⊢
  simp only [World.setRow, Array.getElem?_modify, h]
  simp
theorem Blk.setRowO {b g : Nat} {cs cs' : List Value} {E : TypeId} (h : Blk w b cs E) (hn : g ≠ b) : Blk (w.setRow g cs'.toArray) b cs E := by
  unfold Blk at h ⊢
  simp only [World.setRow, Array.getElem?_modify, h]
  simp [hn]
end
theorem drew_alloc {w : World} {o : Obj} : w.drew.alloc o = (w.alloc o).drew := _root_.id rfl
theorem drew_set {w : World} {a : Addr} {v : Value} : w.drew.setCell a v = (w.setCell a v).drew := _root_.id rfl
attribute [push_cast] drew_alloc drew_set opX_alloc all_eq opX_box box_eq opX_build opX_buildSlice opX_make mk_eq oneZ opX_append opX_copy Int.toNat_natCast Nat.mul_one List.toList_toArray
end Go.Proofs.Ytpgfokhpacdhjaa.Fd
