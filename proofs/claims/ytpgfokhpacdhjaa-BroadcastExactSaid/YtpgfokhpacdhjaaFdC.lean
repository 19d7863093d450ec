/-
  Maps keyed by int, that the program makes, writes and ranges over.
-/
import Derived.Test.YtpgfokhpacdhjaaFdB
import Derived.Maps.RangeRun
import Derived.MapKept
namespace Go.Proofs.Ytpgfokhpacdhjaa.Fd
set_option linter.unusedSimpArgs false
set_option linter.unusedVariables false
open Go Go.MapKept Go.ChangeMaps

/-- The entries of a map, in the order in which their keys came in. -/
def entF (i : Nat) : List (Int × Value) → List MapEntry
  | [] => []
  | (k, v) :: r => ⟨.int .i64 k, v, i⟩ :: entF (i + 1) r
def MapI (w : World) (r : Nat) (m : List (Int × Value)) : Prop := w.heap[r]? = some (.map (entF 0 m).toArray m.length)
def putM (k : Int) (v : Value) : List (Int × Value) → List (Int × Value)
  | [] => [(k, v)]
  | (k', v') :: r => if k = k' then (k', v) :: r else (k', v') :: putM k v r
def fidx (k : Int) : List (Int × Value) → Option (Nat × Value)
  | [] => none
  | (k', v') :: r => if k = k' then some (0, v') else (fidx k r).map fun x => (x.1 + 1, x.2)
theorem entF_length {m : List (Int × Value)} : ∀ {i : Nat}, (entF i m).length = m.length := by
  induction m with
  | nil => intro i; rfl
  | cons x r ih => intro i; obtain ⟨k, v⟩ := x; simp [entF, ih]
theorem findNow_entF {q : IntKind} {k : Int} : ∀ {m : List (Int × Value)} {i j : Nat}, Instr.findNow (.int q) (.int .i64 k) (entF i m) j = some ((fidx k m).map fun x => (j + x.1, x.2)) := by
  intro m
  induction m with
  | nil => intro i j; rfl
  | cons x r ih =>
    intro i j
    obtain ⟨k', v'⟩ := x
    simp only [entF, Instr.findNow, Instr.sameNow, if_true, fidx]
    by_cases h : k = k'
    · simp [h]
    · have : (k == k') = false := by simp [h]
      rw [this]
      simp only [ih, h, if_false, Option.map_map]
      congr 2
      funext x
      simp
      omega
theorem entF_put_none {k : Int} {v : Value} : ∀ {m : List (Int × Value)} {i : Nat}, fidx k m = none → entF i (putM k v m) = entF i m ++ [⟨.int .i64 k, v, i + m.length⟩] ∧ (putM k v m).length = m.length + 1 := by
  intro m
  induction m with
  | nil => intro i _; simp [putM, entF]
  | cons x r ih =>
    intro i h
    obtain ⟨k', v'⟩ := x
    simp only [fidx] at h
    by_cases hk : k = k'
    · simp [hk] at h
    · rw [if_neg hk, Option.map_eq_none_iff] at h
      obtain ⟨h1, h2⟩ := ih (i := i + 1) h
      simp only [putM, hk, if_false, entF, h1, List.length_cons, h2]
      refine ⟨?_, trivial⟩
      rw [List.cons_append, show i + 1 + r.length = i + (r.length + 1) from by omega]
theorem entF_put_some {k : Int} {v u : Value} : ∀ {m : List (Int × Value)} {i j : Nat}, fidx k m = some (j, u) →
    entF i (putM k v m) = (entF i m).modify j (fun e => { e with key := .int .i64 k, val := v }) ∧ (putM k v m).length = m.length ∧ ((entF i m)[j]?).map (·.key) = some (.int .i64 k) := by
  intro m
  induction m with
  | nil => intro i j h; cases h
  | cons x r ih =>
    intro i j h
    obtain ⟨k', v'⟩ := x
    simp only [fidx] at h
    by_cases hk : k = k'
    · subst hk
      simp at h
      obtain ⟨rfl, rfl⟩ := h
      simp [putM, entF]
    · rw [if_neg hk, Option.map_eq_some_iff] at h
      obtain ⟨⟨j', u'⟩, h1, h2⟩ := h
      simp only [Prod.mk.injEq] at h2
      obtain ⟨rfl, rfl⟩ := h2
      obtain ⟨h3, h4, h5⟩ := ih (i := i + 1) h1
      refine ⟨?_, ?_, ?_⟩
      · simp [putM, hk, entF, h3, List.modify]
      · simp [putM, hk, h4]
      · simpa [entF] using h5
def mapT (P : Program) (t : TypeId) : Option TypeId :=
  match P.underlying t with
  | some (.map k e) => match P.underlying k with
    | some (.int .i64) => some e
    | _ => none
  | _ => none

section
variable {P : Program} {D : Den} {w : World} {ty : TypeId} {e : Operand → Value} {t : TypeId}
def mkmS (P : Program) (t : TypeId) (w : World) : Option (Value × World) := lift ((Instr.makeMap t none).run P w)
theorem opX_makeMap : opX P D (.makeMap t none) ty e w = mkmS P t w := by
  simp only [opX, opS, execOp, mkmS, lift, Option.map_none]
  generalize Instr.makeMap t none = s
  simp
  cases s.run P w <;> simp
theorem mkm_eq : mkmS P t w = some (.map (some w.heap.size), w.alloc (.map #[] 0)) := by
  simp [mkmS, lift, Instr.makeMap]
def mupS (P : Program) (t : TypeId) (m k v : Value) (w : World) : Option (Value × World) :=
  match (Instr.mapUpdate t m k v).run P w with
  | .ok _ w' => some (undef, w')
  | _ => none
theorem opX_mapUpdate {m k v : Operand} : opX P D (.mapUpdate t m k v) ty e w = mupS P t (e m) (e k) (e v) w := by
  simp only [opX, opS, execOp, mupS]
  generalize Instr.mapUpdate t (e m) (e k) (e v) = s
  simp
  cases s.run P w <;> simp
theorem mup_eq {r : Nat} {m : List (Int × Value)} {q : TypeId} (ht : mapT P t = some q) (hm : MapI w r m) {k : Int} {v : Value} :
    mupS P t (.map (some r)) (.int .i64 k) v w = some (undef, setBlock w r (.map (entF 0 (putM k v m)).toArray (putM k v m).length)) := by
  unfold mapT at ht
  split at ht
  · rename_i kt et hu
    split at ht
    · rename_i hk
      unfold MapI at hm
      have hck : (Instr.checkKey false 10000 kt (.int .i64 k)).run P w = .ok () w := run_checkKey (n := 9999) hk (by simp [IsKey]) false
      have hfn := run_findKey (w := w) hk (findNow_entF (q := .i64) (k := k) (m := m) (i := 0) (j := 0))
      cases hf : fidx k m with
      | none =>
        obtain ⟨h1, h2⟩ := entF_put_none (v := v) (i := 0) hf
        rw [hf] at hfn
        simp only [Option.map_none] at hfn
        have hs := run_setObj_map (P := P) (.map ((entF 0 m).toArray.push { key := .int .i64 k, val := v, born := m.length }) (m.length + 1)) hm
        simp only [mupS, Instr.mapUpdate, Sem.run_bind, underlying, run_program, Result.andThen_ok, hu, Sem.run_pure, MapKept.run_getObj_map hm, hck, hfn, hs]
        rw [h1, h2]
        simp [setBlock]
      | some x =>
        obtain ⟨j, u⟩ := x
        obtain ⟨h1, h2, h3⟩ := entF_put_some (v := v) (i := 0) hf
        rw [hf] at hfn
        simp only [Option.map_some, Nat.zero_add] at hfn
        have hs := run_setObj_map (P := P) (.map ((entF 0 m).toArray.modify j fun e => { e with key := .int .i64 k, val := v }) m.length) hm
        have hkey : (((entF 0 m).toArray[j]?).map (·.key)).getD (.int .i64 k) = .int .i64 k := by
          rw [List.getElem?_toArray, h3]; rfl
        have hst : (Instr.keyThatStays (.int .i64 k) (.int .i64 k)).run P w = .ok (.int .i64 k) w := by
          simp [Instr.keyThatStays, Instr.sameBits]
        simp only [mupS, Instr.mapUpdate, Sem.run_bind, underlying, run_program, Result.andThen_ok, hu, Sem.run_pure, MapKept.run_getObj_map hm, hck, hfn, hkey, hst, hs]
        rw [h1, h2]
        simp [setBlock]
    · cases ht
  · cases ht

/-! ranging over such a map -/
theorem entF_get : ∀ {m : List (Int × Value)} {i j : Nat} {k : Int} {v : Value}, m[j]? = some (k, v) → (entF i m)[j]? = some ⟨.int .i64 k, v, i + j⟩ := by
  intro m
  induction m with
  | nil => intro i j k v h; simp at h
  | cons x r ih =>
    intro i j k v h
    obtain ⟨k', v'⟩ := x
    cases j with
    | zero => simp at h; obtain ⟨rfl, rfl⟩ := h; rfl
    | succ j =>
      have := ih (i := i + 1) (j := j) (by simpa using h)
      simp only [entF, List.getElem?_cons_succ, this]
      rw [show i + 1 + j = i + (j + 1) from by omega]
theorem entF_mem {m : List (Int × Value)} {x : MapEntry} {i : Nat} (h : x ∈ entF i m) : ∃ j k v, m[j]? = some (k, v) ∧ x = ⟨.int .i64 k, v, i + j⟩ := by
  obtain ⟨j, hj, rfl⟩ := List.mem_iff_getElem.1 h
  have hlt : j < m.length := by rw [entF_length] at hj; exact hj
  have e : m[j]? = some (m[j].1, m[j].2) := by rw [List.getElem?_eq_getElem hlt]
  have := entF_get (i := i) e
  rw [List.getElem?_eq_getElem hj] at this
  exact ⟨j, _, _, e, Option.some.inj this⟩
theorem entF_born : ∀ {m : List (Int × Value)} {i : Nat}, (entF i m).map (·.born) = List.range' i m.length := by
  intro m
  induction m with
  | nil => intro i; rfl
  | cons x r ih => intro i; obtain ⟨k, v⟩ := x; simp [entF, ih, List.range'_succ]

/-- The iterator 'it' over the map r of the entries m; 'seen': the numbers of the entries that have come. -/
def IterI (w : World) (it r : Nat) (m : List (Int × Value)) (seen : Array Nat) : Prop := w.heap[it]? = some (.mapIter (some r) m.length seen m.length)
def rngS (P : Program) (t : TypeId) (x : Value) (w : World) : Option (Value × World) := lift ((Instr.range t x).run P w)
theorem opX_range {x : Operand} : opX P D (.range t x) ty e w = rngS P t (e x) w := by
  simp only [opX, opS, execOp, rngS, lift]
  generalize Instr.range t (e x) = s
  simp
  cases s.run P w <;> simp
theorem rng_eq {r : Nat} {m : List (Int × Value)} {q : TypeId} (ht : mapT P t = some q) (hm : MapI w r m) :
    rngS P t (.map (some r)) w = some (.pointer (some ⟨w.heap.size, 0, none⟩), w.alloc (.mapIter (some r) m.length #[] m.length)) := by
  unfold mapT at ht
  split at ht
  · rename_i kt et hu
    simp only [rngS, lift, Instr.range, Sem.run_bind, underlying, run_program, Result.andThen_ok, hu, Sem.run_pure, MapKept.run_getObj_map hm, run_newObj]
    rfl
  · cases ht
def nxtS (P : Program) (ty : TypeId) (x : Value) (w : World) : Option (Value × World) := lift ((Instr.next x false ty).run P w)
theorem opX_next {x : Operand} : opX P D (.next x false) ty e w = nxtS P ty (e x) w := by
  simp only [opX, opS, execOp, nxtS, lift]
  generalize Instr.next (e x) false ty = s
  simp
  cases s.run P w <;> simp
theorem nxt_ok {it r : Nat} {m : List (Int × Value)} {seen : Array Nat} (hi : IterI w it r m seen) (hm : MapI w r m) {K : Value × World → Prop}
    (h0 : (∀ j, j < m.length → j ∈ seen) → K (.tuple #[.bool false], w))
    (h1 : ∀ j k v w1, m[j]? = some (k, v) → j ∉ seen → (w1 = w ∨ w1 = w.drew) → K (.tuple #[.bool true, .int .i64 k, v], setBlock w1 it (.mapIter (some r) m.length (seen.push j) m.length))) :
    Okk (nxtS P ty (.pointer (some ⟨it, 0, none⟩)) w) K := by
  have hold : ∀ x ∈ (entF 0 m).toArray.toList, x.born < m.length := by
    intro x hx
    obtain ⟨j, k, v, h1, rfl⟩ := entF_mem (by simpa using hx)
    have := (List.getElem?_eq_some_iff.1 h1).1
    simp
    omega
  rcases run_next_at (P := P) w ty it r m.length m.length seen _ m.length hi hm hold (Nat.le_refl _) with ⟨hz, hr⟩ | ⟨x, hx, w1, hw, hr⟩
  · refine ⟨(.tuple #[.bool false], w), by unfold nxtS lift; rw [hr], h0 fun j hj => ?_⟩
    have e : m[j]? = some (m[j].1, m[j].2) := by simp [hj]
    have hmem := List.mem_of_getElem? (entF_get (i := 0) e)
    have : leftOf (entF 0 m).toArray seen = #[] := Array.eq_empty_of_size_eq_zero hz
    unfold leftOf at this
    rw [Array.filter_eq_empty_iff] at this
    have := this _ (by simpa using hmem)
    simpa using this
  · have hx' : x ∈ (entF 0 m) ∧ x.born ∉ seen := by
      unfold leftOf at hx
      simpa using hx
    obtain ⟨j, k, v, e1, rfl⟩ := entF_mem hx'.1
    refine ⟨_, by unfold nxtS lift; rw [hr], ?_⟩
    have := h1 j k v w1 e1 (by simpa using hx'.2) hw
    simpa using this
def entS (P : Program) (x : Value) (w : World) : Option (Value × World) := lift ((Instr.entry x).run P w)
theorem opX_entry {x : Operand} : opX P D (.entry x) ty e w = entS P (e x) w := by
  simp only [opX, opS, execOp, entS, lift]
  generalize Instr.entry (e x) = s
  simp
  cases s.run P w <;> simp
theorem ent_eq {it r j : Nat} {k : Int} {v : Value} {m : List (Int × Value)} {seen : Array Nat} (hi : IterI w it r m (seen.push j)) (hm : MapI w r m) (hj : m[j]? = some (k, v)) :
    entS P (.pointer (some ⟨it, 0, none⟩)) w = some (.tuple #[.int .i64 k, v], w) := by
  have hmem := List.mem_of_getElem? (entF_get (i := 0) hj)
  have := run_entry_at (P := P) w it r m.length seen _ m.length ⟨.int .i64 k, v, 0 + j⟩ (by simpa [IterI] using hi) hm (by simpa using hmem) (by simp [entF_born, List.nodup_range'])
  unfold entS lift
  rw [this]
theorem MapI.lt {r : Nat} {m : List (Int × Value)} (h : MapI w r m) : r < w.heap.size := by
  unfold MapI at h; rw [Array.getElem?_eq_some_iff] at h; exact h.1
theorem MapI.upd {w' : World} {r : Nat} {m : List (Int × Value)} {F : Nat → Prop} (h : MapI w r m) (hu : Upd F w w') (hF : ¬ F r) : MapI w' r m := by
  have hlt : r < w.heap.size := by unfold MapI at h; rw [Array.getElem?_eq_some_iff] at h; exact h.1
  unfold MapI at h ⊢
  rw [hu.block r hlt hF, h]
theorem IterI.upd {w' : World} {it r : Nat} {m : List (Int × Value)} {seen : Array Nat} {F : Nat → Prop} (h : IterI w it r m seen) (hu : Upd F w w') (hF : ¬ F it) : IterI w' it r m seen := by
  have hlt : it < w.heap.size := by unfold IterI at h; rw [Array.getElem?_eq_some_iff] at h; exact h.1
  unfold IterI at h ⊢
  rw [hu.block it hlt hF, h]
theorem Upd.setBlock {F : Nat → Prop} {b : Nat} {o : Obj} (h : F b) : Upd F w (setBlock w b o) :=
  ⟨rfl, rfl, rfl, by simp [ChangeMaps.setBlock], fun k _ hF => by
    simp only [ChangeMaps.setBlock]
    rw [Array.getElem?_setIfInBounds_ne (fun e => hF (by rw [← e]; exact h))]⟩
theorem setBlock_at {b : Nat} {o : Obj} (h : b < w.heap.size) : (ChangeMaps.setBlock w b o).heap[b]? = some o := by
  simp [ChangeMaps.setBlock, h]
end
attribute [push_cast] opX_makeMap mkm_eq opX_mapUpdate opX_range opX_next opX_entry
end Go.Proofs.Ytpgfokhpacdhjaa.Fd
