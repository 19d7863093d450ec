/-
  Maps keyed by a struct of two ints.
-/
import Derived.Test.YtpgfokhpacdhjaaFdC
import Derived.Test.YtpgfokhpacdhjaaFdE
import Derived.Laws.StructEq
namespace Go.Proofs.Ytpgfokhpacdhjaa.Fd
set_option linter.unusedSimpArgs false
set_option linter.unusedVariables false
open Go Go.MapKept Go.ChangeMaps
set_option maxRecDepth 100000

abbrev NP := Int × Int
def keyV (k : NP) : Value := .agg #[.int .i64 k.1, .int .i64 k.2]
/-- The entries of a map, in the order in which their keys came in. -/
def entP (i : Nat) : List (NP × Value) → List MapEntry
  | [] => []
  | (k, v) :: r => ⟨keyV k, v, i⟩ :: entP (i + 1) r
def MapP (w : World) (r : Nat) (m : List (NP × Value)) : Prop := w.heap[r]? = some (.map (entP 0 m).toArray m.length)
def putP (k : NP) (v : Value) : List (NP × Value) → List (NP × Value)
  | [] => [(k, v)]
  | (k', v') :: r => if k = k' then (k', v) :: r else (k', v') :: putP k v r
def pidx (k : NP) : List (NP × Value) → Option (Nat × Value)
  | [] => none
  | (k', v') :: r => if k = k' then some (0, v') else (pidx k r).map fun x => (x.1 + 1, x.2)
theorem entP_length {m : List (NP × Value)} : ∀ {i : Nat}, (entP i m).length = m.length := by
  induction m with
  | nil => intro i; rfl
  | cons x r ih => intro i; obtain ⟨k, v⟩ := x; simp [entP, ih]
theorem entP_put_none {k : NP} {v : Value} : ∀ {m : List (NP × Value)} {i : Nat}, pidx k m = none → entP i (putP k v m) = entP i m ++ [⟨keyV k, v, i + m.length⟩] ∧ (putP k v m).length = m.length + 1 := by
  intro m
  induction m with
  | nil => intro i _; simp [putP, entP]
  | cons x r ih =>
    intro i h
    obtain ⟨k', v'⟩ := x
    simp only [pidx] at h
    by_cases hk : k = k'
    · simp [hk] at h
    · rw [if_neg hk, Option.map_eq_none_iff] at h
      obtain ⟨h1, h2⟩ := ih (i := i + 1) h
      simp only [putP, hk, if_false, entP, h1, List.length_cons, h2]
      refine ⟨?_, trivial⟩
      rw [List.cons_append, show i + 1 + r.length = i + (r.length + 1) from by omega]
theorem entP_put_some {k : NP} {v u : Value} : ∀ {m : List (NP × Value)} {i j : Nat}, pidx k m = some (j, u) →
    entP i (putP k v m) = (entP i m).modify j (fun e => { e with key := keyV k, val := v }) ∧ (putP k v m).length = m.length ∧ ((entP i m)[j]?).map (·.key) = some (keyV k) := by
  intro m
  induction m with
  | nil => intro i j h; cases h
  | cons x r ih =>
    intro i j h
    obtain ⟨k', v'⟩ := x
    simp only [pidx] at h
    by_cases hk : k = k'
    · subst hk
      simp at h
      obtain ⟨rfl, rfl⟩ := h
      simp [putP, entP]
    · rw [if_neg hk, Option.map_eq_some_iff] at h
      obtain ⟨⟨j', u'⟩, h1, h2⟩ := h
      simp only [Prod.mk.injEq] at h2
      obtain ⟨rfl, rfl⟩ := h2
      obtain ⟨h3, h4, h5⟩ := ih (i := i + 1) h1
      refine ⟨?_, ?_, ?_⟩
      · simp [putP, hk, entP, h3, List.modify]
      · simp [putP, hk, h4]
      · simpa [entP] using h5
theorem chk_key (em : Bool) (k : NP) (w : World) : (Instr.checkKey em 10000 76 (keyV k)).run Try.prog w = .ok () w := by kernel_rfl
theorem eqk_I {d : Nat} {x y : Int} {w : World} : (Op.equalIn (d + 1) 3 (.int .i64 x) (.int .i64 y)).run Try.prog w = .ok (x == y) w := by
  have hu := Try.underlying3
  simp [Op.equalIn, underlying, hu]
theorem eq_key (a b c d : Int) (w : World) : (Op.equal 76 (keyV (a, b)) (keyV (c, d))).run Try.prog w = .ok (a == c && b == d) w := by
  unfold Op.equal keyV
  have hp : Try.prog.plainKey 3 = true := by kernel_rfl
  show (Op.equalIn (9999 + 1) _ _ _).run _ _ = _
  rw [run_equalIn_struct w 9999 _ _ _ (by kernel_rfl) (by kernel_rfl)]
  have hf : (Try.prog.fieldsOf 76).toList = [{ name := "origin", type := 3, offset := 0, embedded := false, tag := "", pkgPath := "plexus/broadcast", byteOffset := 0 }, { name := "number", type := 3, offset := 1, embedded := false, tag := "", pkgPath := "plexus/broadcast", byteOffset := 8 }] := by kernel_rfl
  rw [hf]
  have p0 : ∀ x y : Int, (part 3 #[Value.int .i64 x, .int .i64 y] 0).run Try.prog w = .ok (.int .i64 x) w := fun x y => run_part_plain w hp rfl
  have p1 : ∀ x y : Int, (part 3 #[Value.int .i64 x, .int .i64 y] 1).run Try.prog w = .ok (.int .i64 y) w := fun x y => run_part_plain w hp rfl
  have e : ∀ x y : Int, (Op.equalIn 9999 3 (.int .i64 x) (.int .i64 y)).run Try.prog w = .ok (x == y) w := fun x y => eqk_I (d := 9998)
  have n1 : ("origin" : String) ≠ "_" := by decide
  have n2 : ("number" : String) ≠ "_" := by decide
  simp only [Op.eqFields, n1, n2, if_true, ne_eq, not_false_eq_true, Sem.run_bind, p0, p1, e, Result.andThen_ok]
  cases a == c
  · simp
  · simp only [Bool.not_true, Bool.false_eq_true, if_false, Sem.run_bind, p0, p1, e, Result.andThen_ok, Bool.true_and]
    cases b == d <;> simp
theorem find_asking (k : NP) (w : World) : ∀ (m : List (NP × Value)) (i j : Nat), (Instr.findAsking 76 (keyV k) (entP i m) j).run Try.prog w = .ok ((pidx k m).map fun x => (j + x.1, x.2)) w := by
  intro m
  induction m with
  | nil => intro i j; rfl
  | cons x r ih =>
    intro i j
    obtain ⟨⟨c, d⟩, v'⟩ := x
    obtain ⟨a, b⟩ := k
    simp only [entP, Instr.findAsking, Sem.run_bind, eq_key, Result.andThen_ok, pidx, Prod.mk.injEq]
    by_cases h : a = c ∧ b = d
    · obtain ⟨rfl, rfl⟩ := h
      simp
    · have : (a == c && b == d) = false := by
        rw [Bool.and_eq_false_iff]
        simp only [beq_eq_false_iff_ne]
        omega
      rw [this]
      simp only [Bool.false_eq_true, if_false, h, ih, Option.map_map]
      congr 2
      funext x
      simp
      omega
theorem find_key (k : NP) (w : World) (m : List (NP × Value)) : (Instr.findKey 76 (keyV k) (entP 0 m)).run Try.prog w = .ok (pidx k m) w := by
  have hfa := find_asking k w m 0 0
  have hid : ((pidx k m).map fun x => (0 + x.1, x.2)) = pidx k m := by cases pidx k m <;> simp
  rw [hid] at hfa
  unfold Instr.findKey
  simp only [Sem.run_bind, run_underlying Try.underlying76, Result.andThen_ok]
  cases m with
  | nil => rfl
  | cons x r =>
    obtain ⟨k', v'⟩ := x
    simp only [entP, Instr.findNow, Instr.sameNow] at hfa ⊢
    exact hfa

section
variable {D : Den} {w : World} {ty : TypeId} {e : Operand → Value}
theorem mup_p {r : Nat} {m : List (NP × Value)} (hm : MapP w r m) {k : NP} {v : Value} :
    mupS Try.prog 77 (.map (some r)) (keyV k) v w = some (undef, setBlock w r (.map (entP 0 (putP k v m)).toArray (putP k v m).length)) := by
  unfold MapP at hm
  have hu := Try.underlying77
  have hck := chk_key false k w
  have hfn := find_key k w m
  cases hf : pidx k m with
  | none =>
    obtain ⟨h1, h2⟩ := entP_put_none (v := v) (i := 0) hf
    rw [hf] at hfn
    have hs := run_setObj_map (P := Try.prog) (.map ((entP 0 m).toArray.push { key := keyV k, val := v, born := m.length }) (m.length + 1)) hm
    simp only [mupS, Instr.mapUpdate, Sem.run_bind, underlying, run_program, Result.andThen_ok, hu, Sem.run_pure, MapKept.run_getObj_map hm, hck, hfn, hs]
    rw [h1, h2]
    simp [setBlock]
  | some x =>
    obtain ⟨j, u⟩ := x
    obtain ⟨h1, h2, h3⟩ := entP_put_some (v := v) (i := 0) hf
    rw [hf] at hfn
    have hs := run_setObj_map (P := Try.prog) (.map ((entP 0 m).toArray.modify j fun e => { e with key := keyV k, val := v }) m.length) hm
    have hkey : (((entP 0 m).toArray[j]?).map (·.key)).getD (keyV k) = keyV k := by
      rw [List.getElem?_toArray, h3]; rfl
    have hst : (Instr.keyThatStays (keyV k) (keyV k)).run Try.prog w = .ok (keyV k) w := by
      simp [Instr.keyThatStays, Instr.sameBits, keyV]
    simp only [mupS, Instr.mapUpdate, Sem.run_bind, underlying, run_program, Result.andThen_ok, hu, Sem.run_pure, MapKept.run_getObj_map hm, hck, hfn, hkey, hst, hs]
    rw [h1, h2]
    simp [setBlock]
def lkpS (P : Program) (t : TypeId) (m k : Value) (ok : Bool) (w : World) : Option (Value × World) := lift ((Instr.lookup t m k ok).run P w)
theorem opX_lookup {P : Program} {t : TypeId} {m k : Operand} {ok : Bool} : opX P D (.lookup t m k ok) ty e w = lkpS P t (e m) (e k) ok w := by
  simp only [opX, opS, execOp, lkpS, lift]
  generalize Instr.lookup t (e m) (e k) ok = s
  simp
  cases s.run P w <;> simp
def noteZ : Value := .agg #[.slice none 0 0, .int .u16 0]
theorem lkp_p {r : Nat} {m : List (NP × Value)} (hm : MapP w r m) {k : NP} {ok : Bool} :
    lkpS Try.prog 77 (.map (some r)) (keyV k) ok w = some (match pidx k m with
      | some x => if ok then .tuple #[x.2, .bool true] else x.2
      | none => if ok then .tuple #[noteZ, .bool false] else noteZ, w) := by
  unfold MapP at hm
  have hu := Try.underlying77
  have hck := chk_key (entP 0 m).toArray.isEmpty k w
  have hfn := find_key k w m
  have hz : (zeroValue 82).run Try.prog w = .ok noteZ w := by kernel_rfl
  simp only [lkpS, Instr.lookup, lift, Sem.run_bind, underlying, run_program, Result.andThen_ok, hu, Sem.run_pure, MapKept.run_getObj_map hm, hck, hfn]
  cases hf : pidx k m with
  | none => cases ok <;> simp [hz]
  | some x => obtain ⟨j, u⟩ := x; cases ok <;> simp
/-! a field of a value -/
def fgtS (P : Program) (t : TypeId) (x : Value) (i : Nat) (w : World) : Option (Value × World) := lift ((Instr.field t x i).run P w)
theorem opX_fget {P : Program} {t : TypeId} {x : Operand} {i : Nat} : opX P D (.field t x i) ty e w = fgtS P t (e x) i w := by
  simp only [opX, opS, execOp, fgtS, lift]
  generalize Instr.field t (e x) i = s
  simp
  cases s.run P w <;> simp
theorem fgt_note0 {a : Option Addr} {n c : Nat} {D : Int} : fgtS Try.prog 82 (.agg #[.slice a n c, .int .u16 D]) 0 w = some (.slice a n c, w) := by kernel_rfl
theorem fgt_note1 {a : Option Addr} {n c : Nat} {D : Int} : fgtS Try.prog 82 (.agg #[.slice a n c, .int .u16 D]) 1 w = some (.int .u16 D, w) := by kernel_rfl
theorem fgt_name0 {a b : Int} : fgtS Try.prog 76 (.agg #[.int .i64 a, .int .i64 b]) 0 w = some (.int .i64 a, w) := by kernel_rfl
theorem fgt_name1 {a b : Int} : fgtS Try.prog 76 (.agg #[.int .i64 a, .int .i64 b]) 1 w = some (.int .i64 b, w) := by kernel_rfl
/-! ranging -/
theorem entP_get : ∀ {m : List (NP × Value)} {i j : Nat} {k : NP} {v : Value}, m[j]? = some (k, v) → (entP i m)[j]? = some ⟨keyV k, v, i + j⟩ := by
  intro m
  induction m with
  | nil => intro i j k v h; simp at h
  | cons x r ih =>
    intro i j k v h
    obtain ⟨k', v'⟩ := x
    cases j with
    | zero => simp at h; obtain ⟨rfl, rfl⟩ := h; rfl
    | succ j =>
      have := ih (i := i + 1) (j := j) (by simpa using h)
      simp only [entP, List.getElem?_cons_succ, this]
      rw [show i + 1 + j = i + (j + 1) from by omega]
theorem entP_mem {m : List (NP × Value)} {x : MapEntry} {i : Nat} (h : x ∈ entP i m) : ∃ j k v, m[j]? = some (k, v) ∧ x = ⟨keyV k, v, i + j⟩ := by
  obtain ⟨j, hj, rfl⟩ := List.mem_iff_getElem.1 h
  have hlt : j < m.length := by rw [entP_length] at hj; exact hj
  have e : m[j]? = some (m[j].1, m[j].2) := by rw [List.getElem?_eq_getElem hlt]
  have := entP_get (i := i) e
  rw [List.getElem?_eq_getElem hj] at this
  exact ⟨j, _, _, e, Option.some.inj this⟩
theorem entP_born : ∀ {m : List (NP × Value)} {i : Nat}, (entP i m).map (·.born) = List.range' i m.length := by
  intro m
  induction m with
  | nil => intro i; rfl
  | cons x r ih => intro i; obtain ⟨k, v⟩ := x; simp [entP, ih, List.range'_succ]
/-- The iterator 'it' over the map r of the entries m; 'seen': the numbers of the entries that have come. -/
def IterP (w : World) (it r : Nat) (m : List (NP × Value)) (seen : Array Nat) : Prop := w.heap[it]? = some (.mapIter (some r) m.length seen m.length)
theorem run_range_p {r : Nat} {m : List (NP × Value)} (hm : MapP w r m) :
    (Instr.range 77 (.map (some r))).run Try.prog w = .ok (.pointer (some ⟨w.heap.size, 0, none⟩)) (w.alloc (.mapIter (some r) m.length #[] m.length)) := by
  have hu := Try.underlying77
  simp only [Instr.range, Sem.run_bind, underlying, run_program, Result.andThen_ok, hu, Sem.run_pure, MapKept.run_getObj_map hm, run_newObj]
  rfl
theorem run_next_p {it r : Nat} {m : List (NP × Value)} {seen : Array Nat} (hi : IterP w it r m seen) (hm : MapP w r m) :
    ((∀ j, j < m.length → j ∈ seen) ∧ (Instr.next (.pointer (some ⟨it, 0, none⟩)) false ty).run Try.prog w = .ok (.tuple #[.bool false]) w) ∨
    ∃ j k v w1, m[j]? = some (k, v) ∧ j ∉ seen ∧ (w1 = w ∨ w1 = w.drew) ∧ (Instr.next (.pointer (some ⟨it, 0, none⟩)) false ty).run Try.prog w = .ok (.tuple #[.bool true, keyV k, v]) (setBlock w1 it (.mapIter (some r) m.length (seen.push j) m.length)) := by
  have hold : ∀ x ∈ (entP 0 m).toArray.toList, x.born < m.length := by
    intro x hx
    obtain ⟨j, k, v, h1, rfl⟩ := entP_mem (by simpa using hx)
    have := (List.getElem?_eq_some_iff.1 h1).1
    simp
    omega
  rcases run_next_at (P := Try.prog) w ty it r m.length m.length seen _ m.length hi hm hold (Nat.le_refl _) with ⟨hz, hr⟩ | ⟨x, hx, w1, hw, hr⟩
  · refine .inl ⟨fun j hj => ?_, hr⟩
    have e : m[j]? = some (m[j].1, m[j].2) := by simp [hj]
    have hmem := List.mem_of_getElem? (entP_get (i := 0) e)
    have : leftOf (entP 0 m).toArray seen = #[] := Array.eq_empty_of_size_eq_zero hz
    unfold leftOf at this
    rw [Array.filter_eq_empty_iff] at this
    have := this _ (by simpa using hmem)
    simpa using this
  · have hx' : x ∈ (entP 0 m) ∧ x.born ∉ seen := by
      unfold leftOf at hx
      simpa using hx
    obtain ⟨j, k, v, e1, rfl⟩ := entP_mem hx'.1
    exact .inr ⟨j, k, v, w1, e1, by simpa using hx'.2, hw, by simpa using hr⟩
theorem run_entry_p {it r j : Nat} {k : NP} {v : Value} {m : List (NP × Value)} {seen : Array Nat} (hi : IterP w it r m (seen.push j)) (hm : MapP w r m) (hj : m[j]? = some (k, v)) :
    (Instr.entry (.pointer (some ⟨it, 0, none⟩))).run Try.prog w = .ok (.tuple #[keyV k, v]) w := by
  have hmem := List.mem_of_getElem? (entP_get (i := 0) hj)
  exact run_entry_at (P := Try.prog) w it r m.length seen _ m.length ⟨keyV k, v, 0 + j⟩ (by simpa [IterP] using hi) hm (by simpa using hmem) (by simp [entP_born, List.nodup_range'])
theorem MapP.lt {r : Nat} {m : List (NP × Value)} (h : MapP w r m) : r < w.heap.size := by
  unfold MapP at h; rw [Array.getElem?_eq_some_iff] at h; exact h.1
theorem MapP.upd {w' : World} {r : Nat} {m : List (NP × Value)} {F : Nat → Prop} (h : MapP w r m) (hu : Upd F w w') (hF : ¬ F r) : MapP w' r m := by
  have hlt : r < w.heap.size := h.lt
  unfold MapP at h ⊢
  rw [hu.block r hlt hF, h]
end
attribute [push_cast] opX_lookup opX_fget fgt_note0 fgt_note1 fgt_name0 fgt_name1
end Go.Proofs.Ytpgfokhpacdhjaa.Fd
