/-
  Packets, deliveries, processes; New, packet.
-/
import Derived.Test.YtpgfokhpacdhjaaBm8
import Derived.Test.YtpgfokhpacdhjaaBc1
import Derived.Test.YtpgfokhpacdhjaaBc2
namespace Go.Proofs.Ytpgfokhpacdhjaa.Fd
set_option linter.unusedSimpArgs false
set_option linter.unusedVariables false
open Go
set_option maxRecDepth 100000

structure Pk where
  k : Int
  f : Int
  t : Int
  o : Int
  n : Int
  l : List Int
def pkC (z : Pk × Value) : List Value := [.int .i64 z.1.k, .int .i64 z.1.f, .int .i64 z.1.t, .int .i64 z.1.o, .int .i64 z.1.n, z.2]
/-- An owned row of packets. -/
def OwnK (base B : Nat) (w : World) (v : Value) (ps : List Pk) : Prop := ∃ zs : List (Pk × Value), zs.map (·.1) = ps ∧ w.ownsRow B 46 6 v zs.length (zs.flatMap pkC) ∧ ∀ z, z ∈ zs → PB base w z.2 z.1.l
structure PS where
  n : Nat
  self : Nat
  made : Nat
  notes : List (NP × (List Int × BitVec 16))
  done : Nat → Int
  list : List (NP × List Int)
def dlC (d : NP × Value) : List Value := [.int .i64 d.1.1, .int .i64 d.1.2, d.2]
def atL (n : Nat) (f : Nat → Int) : List Value := (List.range n).map fun x => .int .i64 (f x)
theorem atL_length {n : Nat} {f : Nat → Int} : (atL n f).length = n := by simp [atL]
theorem atL_get {n b : Nat} {f : Nat → Int} (h : b < n) : (atL n f)[b]? = some (.int .i64 (f b)) := by simp [atL, h]
theorem atL_set {n b : Nat} {f : Nat → Int} {x : Int} : (atL n f).set b (.int .i64 x) = atL n (fun i => if i = b then x else f i) := by
  apply List.ext_getElem?
  intro i
  rw [List.getElem?_set]
  by_cases h : b = i
  · subst h
    by_cases ha : b < n
    · simp [atL, ha]
    · simp [atL, ha]
  · rw [if_neg h]
    by_cases hi : i < n
    · rw [atL_get hi, atL_get hi, if_neg (Ne.symm h)]
    · simp [atL, hi]
theorem atL_zero {n : Nat} : List.replicate n (Value.int .i64 0) = atL n fun _ => 0 := by
  rw [eq_comm, atL, List.eq_replicate_iff]
  refine ⟨by simp, ?_⟩
  intro x hx
  obtain ⟨a, _, rfl⟩ := List.mem_map.1 hx
  rfl
def NtR (base : Nat) (w : World) (m : List (NP × Value)) (notes : List (NP × (List Int × BitVec 16))) : Prop :=
  m.length = notes.length ∧ ∀ (j : Nat) k v, m[j]? = some (k, v) → ∃ l D pv, notes[j]? = some (k, (l, D)) ∧ v = .agg #[pv, .int .u16 (D.toNat : Int)] ∧ PB base w pv l
def LsR (base : Nat) (w : World) (ds : List (NP × Value)) (list : List (NP × List Int)) : Prop :=
  ds.length = list.length ∧ ∀ (j : Nat) d, ds[j]? = some d → ∃ l, list[j]? = some (d.1, l) ∧ PB base w d.2 l
theorem NtR.keep {base : Nat} {w w' : World} {m : List (NP × Value)} {notes : List (NP × (List Int × BitVec 16))} (h : NtR base w m notes) (k : Kp base w w') : NtR base w' m notes :=
  ⟨h.1, fun j x v hj => by obtain ⟨l, D, pv, h1, h2, h3⟩ := h.2 j x v hj; exact ⟨l, D, pv, h1, h2, h3.keep k⟩⟩
theorem LsR.keep {base : Nat} {w w' : World} {ds : List (NP × Value)} {list : List (NP × List Int)} (h : LsR base w ds list) (k : Kp base w w') : LsR base w' ds list :=
  ⟨h.1, fun j d hj => by obtain ⟨l, h1, h3⟩ := h.2 j d hj; exact ⟨l, h1, h3.keep k⟩⟩
theorem own_updB {w w' : World} {F : Nat → Prop} {B E s n : Nat} {v : Value} {xs : List Value} (h : w.ownsRow B E s v n xs) (hu : Upd F w w') (hF : ∀ g, v.ownBlock = some g → ¬ F g) : w'.ownsRow B E s v n xs := by
  obtain ⟨h1, h2⟩ := h
  refine ⟨h1, ?_⟩
  rcases h2 with h2 | ⟨g, cap, cur, hv, hg, hh, r⟩
  · exact .inl h2
  · have hlt : g < w.heap.size := by rw [Array.getElem?_eq_some_iff] at hh; exact hh.1
    exact .inr ⟨g, cap, cur, hv, hg, by rw [hu.block g hlt (hF g (by rw [hv]; rfl))]; exact hh, r⟩
/-- A process in the heap. -/
structure PA (base : Nat) (w : World) (p : Nat) (S : PS) (mb db : Nat) (lv : Value) (m ds : List (NP × Value)) : Prop where
  obj : Blk w p [.int .i64 S.n, .int .i64 S.self, .int .i64 S.made, .map (some mb), .slice (some ⟨db, 0, none⟩) S.n S.n, lv] 79
  map : MapP w mb m
  nts : NtR base w m S.notes
  del : Blk w db (atL S.n S.done) 3
  own : w.ownsRow base 69 3 lv ds.length (ds.flatMap dlC)
  lst : LsR base w ds S.list
  b1 : base ≤ p
  b2 : base ≤ mb
  b3 : base ≤ db
  n12 : S.n ≤ 12
  sn : S.self < S.n
def Ft (p mb db : Nat) (lv : Value) (b : Nat) : Prop := b = p ∨ b = mb ∨ b = db ∨ lv.ownBlock = some b
theorem PA.still {base : Nat} {w : World} {p : Nat} {S : PS} {mb db : Nat} {lv : Value} {m ds : List (NP × Value)} (h : PA base w p S mb db lv m ds) {b : Nat} (hb : Ft p mb db lv b) : ¬ Still base w b := by
  rintro ⟨hlt, h2⟩
  rcases hb with rfl | rfl | rfl | hb
  · rcases h2 with h2 | ⟨cs, fz, h2⟩
    · have := h.b1; omega
    · have := h.obj; unfold Blk at this; rw [this] at h2; cases h2
  · rcases h2 with h2 | ⟨cs, fz, h2⟩
    · have := h.b2; omega
    · have := h.map; unfold MapP at this; rw [this] at h2; cases h2
  · rcases h2 with h2 | ⟨cs, fz, h2⟩
    · have := h.b3; omega
    · have := h.del; unfold Blk at this; rw [this] at h2; cases h2
  · rcases h.own.2 with ⟨h3, _⟩ | ⟨g, cap, cur, hv, hg, hh, _⟩
    · rw [h3] at hb; cases hb
    · rw [hv] at hb
      simp [Value.ownBlock] at hb
      subst hb
      rcases h2 with h2 | ⟨cs, fz, h2⟩
      · omega
      · rw [hh] at h2; cases h2
theorem PA.kp {base : Nat} {w w' : World} {p : Nat} {S : PS} {mb db : Nat} {lv : Value} {m ds : List (NP × Value)} (h : PA base w p S mb db lv m ds) (hu : Upd (Ft p mb db lv) w w') : Kp base w w' :=
  Kp.of_upd hu fun _ hb => h.still hb
theorem PA.frame {base : Nat} {w w' : World} {p : Nat} {S : PS} {mb db : Nat} {lv : Value} {m ds : List (NP × Value)} (h : PA base w p S mb db lv m ds) {F : Nat → Prop} (hu : Upd F w w') (hF : ∀ b, F b → ¬ Ft p mb db lv b) (k : Kp base w w') : PA base w' p S mb db lv m ds :=
  ⟨h.obj.upd hu fun hf => hF _ hf (.inl rfl), h.map.upd hu fun hf => hF _ hf (.inr (.inl rfl)), h.nts.keep k, h.del.upd hu fun hf => hF _ hf (.inr (.inr (.inl rfl))),
    own_updB h.own hu fun g hg hf => hF _ hf (.inr (.inr (.inr hg))), h.lst.keep k, h.b1, h.b2, h.b3, h.n12, h.sn⟩
theorem PA.quiet {base : Nat} {w w' : World} {p : Nat} {S : PS} {mb db : Nat} {lv : Value} {m ds : List (NP × Value)} (h : PA base w p S mb db lv m ds) (hu : Upd (fun _ => False) w w') : PA base w' p S mb db lv m ds :=
  h.frame hu (fun _ h => h.elim) (Kp.quiet hu)
/-- The note of a name. -/
def findS (k : NP) : List (NP × (List Int × BitVec 16)) → Option (List Int × BitVec 16)
  | [] => none
  | (k', x) :: r => if k = k' then some x else findS k r
theorem NtR.find {base : Nat} {w : World} : ∀ {m : List (NP × Value)} {notes : List (NP × (List Int × BitVec 16))}, NtR base w m notes → ∀ k,
    (findS k notes = none ∧ pidx k m = none) ∨ ∃ l D pv j, findS k notes = some (l, D) ∧ pidx k m = some (j, .agg #[pv, .int .u16 (D.toNat : Int)]) ∧ PB base w pv l
  | [], [], _, k => .inl ⟨rfl, rfl⟩
  | [], _ :: _, h, k => by have := h.1; simp at this
  | _ :: _, [], h, k => by have := h.1; simp at this
  | (k', v) :: m, (k2, x) :: notes, h, k => by
    obtain ⟨l, D, pv, h1, h2, h3⟩ := h.2 0 k' v rfl
    simp only [List.getElem?_cons_zero, Option.some.injEq, Prod.mk.injEq] at h1
    obtain ⟨rfl, rfl⟩ := h1
    unfold findS pidx
    by_cases hk : k = k2
    · right
      rw [if_pos hk, if_pos hk]
      exact ⟨l, D, pv, 0, rfl, by rw [h2], h3⟩
    · rw [if_neg hk, if_neg hk]
      have ht : NtR base w m notes := ⟨by have := h.1; simpa using this, fun j a b hj => h.2 (j + 1) a b (by simpa using hj)⟩
      rcases ht.find k with ⟨e1, e2⟩ | ⟨l', D', pv', j, e1, e2, e3⟩
      · exact .inl ⟨e1, by rw [e2]; rfl⟩
      · exact .inr ⟨l', D', pv', j + 1, e1, by rw [e2]; rfl, e3⟩
theorem bld_proc (n k : Int) (mb db m : Nat) (w : World) : bldS Try.prog 79 #[(0, .int .i64 n), (1, .int .i64 k), (3, .map (some mb)), (4, .slice (some ⟨db, 0, none⟩) m m)] w =
    some (.agg #[.int .i64 n, .int .i64 k, .int .i64 0, .map (some mb), .slice (some ⟨db, 0, none⟩) m m, .slice none 0 0], w) := by kernel_rfl
set_option maxHeartbeats 1000000 in
theorem New_ok {w : World} {base : Nat} (hb : base ≤ w.heap.size) (n i : Int) : Ok (den Try.prog 14 #[.int .i64 n, .int .i64 i] w) fun v w' => Upd (fun _ => False) w w' ∧
    if 1 ≤ n ∧ n ≤ 12 ∧ 0 ≤ i ∧ i < n then ∃ p mb db, v = .tuple #[.pointer (some ⟨p, 0, none⟩), .int .i64 0] ∧ PA base w' p ⟨n.toNat, i.toNat, 0, [], fun _ => 0, []⟩ mb db (.slice none 0 0) [] [] ∧ w.heap.size ≤ p ∧ w.heap.size ≤ mb ∧ w.heap.size ≤ db
    else v = .tuple #[.pointer none, .int .i64 1] := by
  refine den_ok (args := [.int .i64 n, .int .i64 i]) rs14 Try.func14 rfl mixed in14 ok14 rfl ?_
  by_cases h1 : n < 1
  · simp (disch := omega) only [push_cast, Nat.reduceBEq, Nat.reduceEqDiff, Nat.reduceAdd, Nat.reduceMul, Nat.reduceSub, Nat.reduceLT, Int.reduceToNat, Int.reduceLT, Int.reduceLE, Int.reduceEq, Int.reduceAdd, Int.reduceSub, Int.reduceNeg, Int.reduceMul, h1]
    exact ⟨Upd.refl, by rw [if_neg (by omega)]; trivial⟩
  by_cases h2 : 12 < n
  · simp (disch := omega) only [push_cast, Nat.reduceBEq, Nat.reduceEqDiff, Nat.reduceAdd, Nat.reduceMul, Nat.reduceSub, Nat.reduceLT, Int.reduceToNat, Int.reduceLT, Int.reduceLE, Int.reduceEq, Int.reduceAdd, Int.reduceSub, Int.reduceNeg, Int.reduceMul, h1, h2]
    exact ⟨Upd.refl, by rw [if_neg (by omega)]; trivial⟩
  by_cases h3 : i < 0
  · simp (disch := omega) only [push_cast, Nat.reduceBEq, Nat.reduceEqDiff, Nat.reduceAdd, Nat.reduceMul, Nat.reduceSub, Nat.reduceLT, Int.reduceToNat, Int.reduceLT, Int.reduceLE, Int.reduceEq, Int.reduceAdd, Int.reduceSub, Int.reduceNeg, Int.reduceMul, h1, h2, h3]
    exact ⟨Upd.refl, by rw [if_neg (by omega)]; trivial⟩
  by_cases h4 : n ≤ i
  · simp (disch := omega) only [push_cast, Nat.reduceBEq, Nat.reduceEqDiff, Nat.reduceAdd, Nat.reduceMul, Nat.reduceSub, Nat.reduceLT, Int.reduceToNat, Int.reduceLT, Int.reduceLE, Int.reduceEq, Int.reduceAdd, Int.reduceSub, Int.reduceNeg, Int.reduceMul, h1, h2, h3, h4]
    exact ⟨Upd.refl, by rw [if_neg (by omega)]; trivial⟩
  obtain ⟨m, rfl⟩ : ∃ m : Nat, n = (m : Int) := ⟨n.toNat, by omega⟩
  obtain ⟨k, rfl⟩ : ∃ k : Nat, i = (k : Int) := ⟨i.toNat, by omega⟩
  simp (disch := omega) only [push_cast, Nat.reduceBEq, Nat.reduceEqDiff, Nat.reduceAdd, Nat.reduceMul, Nat.reduceSub, Nat.reduceLT, Int.reduceToNat, Int.reduceLT, Int.reduceLE, Int.reduceEq, Int.reduceAdd, Int.reduceSub, Int.reduceNeg, Int.reduceMul, h1, h2, h3, h4, bld_proc, atL_zero]
  rw [if_pos ⟨by omega, by omega, by omega, by omega⟩]
  have e1 : (w.alloc (.map #[] 0)).heap.size = w.heap.size + 1 := size_alloc
  have m1 : (w.alloc (.map #[] 0)).heap[w.heap.size]? = some (.map #[] 0) := World.alloc_heap_new w _
  have u1 : Upd (fun _ => False) w (w.alloc (.map #[] 0)) := Upd.alloc
  generalize w.alloc (.map #[] 0) = w1 at *
  have e2 : (w1.alloc (.cells (atL m fun _ => 0).toArray 3 (0, 0))).heap.size = w1.heap.size + 1 := size_alloc
  have m2 : Blk (w1.alloc (.cells (atL m fun _ => 0).toArray 3 (0, 0))) w1.heap.size (atL m fun _ => 0) 3 := Blk.new
  have u2 : Upd (fun _ => False) w1 (w1.alloc (.cells (atL m fun _ => 0).toArray 3 (0, 0))) := Upd.alloc
  generalize w1.alloc (.cells (atL m fun _ => 0).toArray 3 (0, 0)) = w2 at *
  have m3 : Blk (w2.alloc (.cells [.int .i64 m, .int .i64 k, .int .i64 0, .map (some w.heap.size), .slice (some ⟨w.heap.size + 1, 0, none⟩) m m, .slice none 0 0].toArray 79 (0, 0))) w2.heap.size [.int .i64 m, .int .i64 k, .int .i64 0, .map (some w.heap.size), .slice (some ⟨w.heap.size + 1, 0, none⟩) m m, .slice none 0 0] 79 := Blk.new
  have u3 : Upd (fun _ => False) w2 (w2.alloc (.cells [.int .i64 m, .int .i64 k, .int .i64 0, .map (some w.heap.size), .slice (some ⟨w.heap.size + 1, 0, none⟩) m m, .slice none 0 0].toArray 79 (0, 0))) := Upd.alloc
  rw [e1] at m2
  rw [e2, e1] at m3
  refine ⟨(u1.trans u2 (fun _ _ h => h)).trans u3 (fun _ _ h => h), w.heap.size + 1 + 1, w.heap.size, w.heap.size + 1, rfl, ?_, by omega, by omega, by omega⟩
  refine ⟨m3, ?_, ⟨rfl, fun j k v hj => by simp at hj⟩, m2.upd u3 (fun h => h), ⟨rfl, .inl ⟨rfl, rfl⟩⟩, ⟨rfl, fun j d hj => by simp at hj⟩, by omega, hb, by omega, by show m ≤ 12; omega, by show k < m; omega⟩
  unfold MapP
  rw [u3.block _ (by omega) (fun h => h), u2.block _ (by omega) (fun h => h)]
  exact m1
theorem MapP.drew' {w : World} {r : Nat} {m : List (NP × Value)} (h : MapP w r m) : MapP w.drew r m := h
def pkV (z : Pk × Value) : Value := .agg (pkC z).toArray
theorem bld_pk5 (a b c d e : Int) (w : World) : bldS Try.prog 46 #[(0, .int .i64 a), (1, .int .i64 b), (2, .int .i64 c), (3, .int .i64 d), (4, .int .i64 e)] w = some (.agg #[.int .i64 a, .int .i64 b, .int .i64 c, .int .i64 d, .int .i64 e, .slice none 0 0], w) := by kernel_rfl
theorem st_pk {w : World} {b : Nat} {cs : List Value} {E : TypeId} (h : Blk w b cs E) (hl : cs.length = 6) (k f t o n : Int) (a : Option Addr) (x c : Nat) :
    stS Try.prog 46 (.pointer (some ⟨b, 0, none⟩)) (.agg #[.int .i64 k, .int .i64 f, .int .i64 t, .int .i64 o, .int .i64 n, .slice a x c]) w = some (undef, w.setRow b #[.int .i64 k, .int .i64 f, .int .i64 t, .int .i64 o, .int .i64 n, .slice a x c]) :=
  st_blk (cs' := [.int .i64 k, .int .i64 f, .int .i64 t, .int .i64 o, .int .i64 n, .slice a x c]) h (by kernel_rfl) (by rw [hl]; rfl) (by intro u hu; simp at hu; rcases hu with rfl | rfl | rfl | rfl | rfl | rfl <;> rfl)
set_option maxHeartbeats 2000000 in
theorem packet_ok {base : Nat} {w : World} {p : Nat} {S : PS} {mb db : Nat} {lv : Value} {m ds : List (NP × Value)} (h : PA base w p S mb db lv m ds) (kind to : Int) (b : NP) {l : List Int} {D : BitVec 16} (hf : findS b S.notes = some (l, D)) (hl : l.length ≤ 140737488355328) :
    Ok (den Try.prog 31 #[.pointer (some ⟨p, 0, none⟩), .int .i64 kind, .int .i64 to, keyV b] w) fun v w' => ∃ pv, v = pkV (⟨kind, S.self, to, b.1, b.2, if kind = 1 then l else []⟩, pv) ∧ PB base w' pv (if kind = 1 then l else []) ∧ Upd (fun _ => False) w w' := by
  refine den_okC1 (args := [.pointer (some ⟨p, 0, none⟩), .int .i64 kind, .int .i64 to, keyV b]) 8 46 Try.func31 rfl mixed in31 ok31 rfl ?_
  unfold keyV
  rw [W_seq]
  generalize hKs : KS _ _ _ _ _ = Ks
  simp (disch := omega) only [push_cast, Nat.reduceBEq, Nat.reduceEqDiff, Nat.reduceAdd, Nat.reduceMul, Nat.reduceSub, Nat.reduceLT, Int.reduceToNat, Int.reduceLT, Int.reduceLE, Int.reduceEq, Int.reduceAdd, Int.reduceSub, Int.reduceNeg, Int.reduceMul]
  have h2 := h.quiet (Upd.refl.alloc'.alloc' : Upd (fun _ => False) w ((w.alloc (.cells #[.int .i64 b.1, .int .i64 b.2] 76 (0, 0))).alloc (.cells #[.int .i64 0, .int .i64 0, .int .i64 0, .int .i64 0, .int .i64 0, .slice none 0 0] 46 (0, 0))))
  have hu : Upd (fun _ => False) w ((w.alloc (.cells #[.int .i64 b.1, .int .i64 b.2] 76 (0, 0))).alloc (.cells #[.int .i64 0, .int .i64 0, .int .i64 0, .int .i64 0, .int .i64 0, .slice none 0 0] 46 (0, 0))) := Upd.refl.alloc'.alloc'
  have b0 : Blk ((w.alloc (.cells #[.int .i64 b.1, .int .i64 b.2] 76 (0, 0))).alloc (.cells #[.int .i64 0, .int .i64 0, .int .i64 0, .int .i64 0, .int .i64 0, .slice none 0 0] 46 (0, 0))) w.heap.size [.int .i64 b.1, .int .i64 b.2] 76 := Blk.new.alloc _
  have b1 : Blk ((w.alloc (.cells #[.int .i64 b.1, .int .i64 b.2] 76 (0, 0))).alloc (.cells #[.int .i64 0, .int .i64 0, .int .i64 0, .int .i64 0, .int .i64 0, .slice none 0 0] 46 (0, 0))) (w.heap.size + 1) [.int .i64 0, .int .i64 0, .int .i64 0, .int .i64 0, .int .i64 0, .slice none 0 0] 46 := by
    have := Blk.new (w := w.alloc (.cells #[.int .i64 b.1, .int .i64 b.2] 76 (0, 0))) (cs := [.int .i64 0, .int .i64 0, .int .i64 0, .int .i64 0, .int .i64 0, .slice none 0 0]) (E := 46)
    rwa [size_alloc] at this
  generalize (w.alloc (.cells #[.int .i64 b.1, .int .i64 b.2] 76 (0, 0))).alloc (.cells #[.int .i64 0, .int .i64 0, .int .i64 0, .int .i64 0, .int .i64 0, .slice none 0 0] 46 (0, 0)) = w2 at *
  have u3 : Upd (fun _ => False) w2 (w2.alloc (.cells #[.int .i64 0, .int .i64 0, .int .i64 0, .int .i64 0, .int .i64 0, .slice none 0 0] 46 (0, 0))) := Upd.alloc
  have h3 := h2.quiet u3
  have c0 := b0.upd u3 (fun h => h)
  have c1 := b1.upd u3 (fun h => h)
  have c9 : Blk (w2.alloc (.cells #[.int .i64 0, .int .i64 0, .int .i64 0, .int .i64 0, .int .i64 0, .slice none 0 0] 46 (0, 0))) w2.heap.size [.int .i64 0, .int .i64 0, .int .i64 0, .int .i64 0, .int .i64 0, .slice none 0 0] 46 := Blk.new
  subst hKs
  rw [KS_nor]
  rw [W_seq]
  generalize hKs : KS _ _ _ _ _ = Ks
  simp (disch := omega) only [push_cast, Nat.reduceBEq, Nat.reduceEqDiff, Nat.reduceAdd, Nat.reduceMul, Nat.reduceSub, Nat.reduceLT, Int.reduceToNat, Int.reduceLT, Int.reduceLE, Int.reduceEq, Int.reduceAdd, Int.reduceSub, Int.reduceNeg, Int.reduceMul, h2.obj.cell, b0.cell, b1.cell, bld_pk5, h3.obj.cell, c0.cell, c1.cell, st_pk c9.drew rfl]
  have d9 := c9.drew.setRow (cs' := [.int .i64 kind, .int .i64 S.self, .int .i64 to, .int .i64 b.1, .int .i64 b.2, .slice none 0 0])
  have u4 : Upd (fun _ => False) w2 ((w2.alloc (.cells #[.int .i64 0, .int .i64 0, .int .i64 0, .int .i64 0, .int .i64 0, .slice none 0 0] 46 (0, 0))).drew.setRow w2.heap.size [.int .i64 kind, .int .i64 S.self, .int .i64 to, .int .i64 b.1, .int .i64 b.2, .slice none 0 0].toArray) :=
    (u3.trans Upd.drew (fun _ _ h => h)).trans (Upd.setRow (F := fun b => b = w2.heap.size) rfl) (fun b h1 h2 => by omega)
  clear h3 c0 c1 c9 u3
  generalize (w2.alloc (.cells #[.int .i64 0, .int .i64 0, .int .i64 0, .int .i64 0, .int .i64 0, .slice none 0 0] 46 (0, 0))).drew.setRow w2.heap.size [.int .i64 kind, .int .i64 S.self, .int .i64 to, .int .i64 b.1, .int .i64 b.2, .slice none 0 0].toArray = w4 at *
  have h4 := h2.quiet u4
  have e0 := b0.upd u4 (fun h => h)
  have e1 := b1.upd u4 (fun h => h)
  have hu4 := hu.trans u4 (fun _ _ h => h)
  subst hKs
  rw [KS_nor]
  by_cases hk : kind = 1
  · rw [if_pos hk]
    subst hk
    rcases h4.nts.find b with ⟨e, _⟩ | ⟨l', D', pv, j, e, hpi, hpv⟩
    · rw [hf] at e; cases e
    rw [hf] at e
    cases e
    obtain ⟨pa, pc, rfl⟩ := hpv.form
    have hlk := lkp_p (k := b) (ok := false) h4.map.drew'
    rw [hpi] at hlk
    unfold keyV at hlk
    simp only [Bool.false_eq_true, if_false] at hlk
    rw [W_seq]
    generalize hKs : KS _ _ _ _ _ = Ks
    simp (disch := omega) only [push_cast, Nat.reduceBEq, Nat.reduceEqDiff, Nat.reduceAdd, Nat.reduceMul, Nat.reduceSub, Nat.reduceLT, Int.reduceToNat, Int.reduceLT, Int.reduceLE, Int.reduceEq, Int.reduceAdd, Int.reduceSub, Int.reduceNeg, Int.reduceMul, h4.obj.cell, e0.cell, hlk]
    refine Ok.use (clone_ok (hpv.keep (Kp.quiet Upd.drew)) hl) ?_
    rintro v5 w5 ⟨hv5, hu5⟩
    obtain ⟨va, vc, rfl⟩ := hv5.form
    have d9' := d9.upd (Upd.drew.trans hu5 (fun _ _ h => h)) (fun h => h)
    have e1' := e1.upd (Upd.drew.trans hu5 (fun _ _ h => h)) (fun h => h)
    simp (disch := omega) only [push_cast, Nat.reduceBEq, Nat.reduceEqDiff, Nat.reduceAdd, Nat.reduceMul, Nat.reduceSub, Nat.reduceLT, Int.reduceToNat, Int.reduceLT, Int.reduceLE, Int.reduceEq, Int.reduceAdd, Int.reduceSub, Int.reduceNeg, Int.reduceMul, d9'.cell, d9'.free]
    have ux : Upd (fun b => b = w2.heap.size) w5 (w5.setCell ⟨w2.heap.size, 5, none⟩ (.slice va l.length vc)) := Upd.set rfl
    have d6 := d9'.set 5 (.slice va l.length vc)
    have e6 := e1'.upd ux (by have := b1.lt; omega)
    have hv6 := hv5.keep (Kp.of_upd ux (fun b hb hst => by
      subst hb
      rcases hst.2 with h | ⟨cs, fz, h⟩
      · have := h2.obj.lt; have := h2.b1; omega
      · have h9 := d9'; unfold Blk at h9; rw [h9] at h; cases h))
    have hu6 : Upd (fun _ => False) w (w5.setCell ⟨w2.heap.size, 5, none⟩ (.slice va l.length vc)) := ((hu4.trans Upd.drew (fun _ _ h => h)).trans hu5 (fun _ _ h => h)).trans ux (fun b h1 h2 => by have := hu.size; omega)
    generalize w5.setCell ⟨w2.heap.size, 5, none⟩ (.slice va l.length vc) = w6 at *
    simp only [List.set_cons_succ, List.set_cons_zero] at d6
    have f1 := e6.setRow (cs' := [.int .i64 1, .int .i64 S.self, .int .i64 to, .int .i64 b.1, .int .i64 b.2, .slice va l.length vc])
    subst hKs
    rw [KS_nor]
    simp (disch := omega) only [push_cast, Nat.reduceBEq, Nat.reduceEqDiff, Nat.reduceAdd, Nat.reduceMul, Nat.reduceSub, Nat.reduceLT, Int.reduceToNat, Int.reduceLT, Int.reduceLE, Int.reduceEq, Int.reduceAdd, Int.reduceSub, Int.reduceNeg, Int.reduceMul, ld_blk (P := Try.prog) (t := 46) d6 (by kernel_rfl) (by kernel_rfl), st_pk e6 rfl, f1.cell]
    have uy : Upd (fun b => b = w.heap.size + 1) w6 (w6.setRow (w.heap.size + 1) [.int .i64 1, .int .i64 S.self, .int .i64 to, .int .i64 b.1, .int .i64 b.2, .slice va l.length vc].toArray) := Upd.setRow rfl
    refine ⟨.slice va l.length vc, rfl, hv6.keep (Kp.of_upd uy (fun b hb hst => ?_)), hu6.trans uy (fun b h1 h2 => by omega)⟩
    subst hb
    rcases hst.2 with hq | ⟨cs, fz, hq⟩
    · have := h.obj.lt; have := h.b1; omega
    · have h9 := e6; unfold Blk at h9; rw [h9] at hq; cases hq
  · rw [if_neg hk]
    have f1 := e1.setRow (cs' := [.int .i64 kind, .int .i64 S.self, .int .i64 to, .int .i64 b.1, .int .i64 b.2, .slice none 0 0])
    rw [W_seq]
    generalize hKs : KS _ _ _ _ _ = Ks
    simp (disch := omega) only [push_cast, Nat.reduceBEq, Nat.reduceEqDiff, Nat.reduceAdd, Nat.reduceMul, Nat.reduceSub, Nat.reduceLT, Int.reduceToNat, Int.reduceLT, Int.reduceLE, Int.reduceEq, Int.reduceAdd, Int.reduceSub, Int.reduceNeg, Int.reduceMul, hk]
    subst hKs
    rw [KS_nor]
    simp (disch := omega) only [push_cast, Nat.reduceBEq, Nat.reduceEqDiff, Nat.reduceAdd, Nat.reduceMul, Nat.reduceSub, Nat.reduceLT, Int.reduceToNat, Int.reduceLT, Int.reduceLE, Int.reduceEq, Int.reduceAdd, Int.reduceSub, Int.reduceNeg, Int.reduceMul, ld_blk (P := Try.prog) (t := 46) d9 (by kernel_rfl) (by kernel_rfl), st_pk e1 rfl, f1.cell]
    refine ⟨.slice none 0 0, rfl, PB.nil, hu4.trans (Upd.setRow (F := fun b => b = w.heap.size + 1) rfl) (fun b h1 h2 => by omega)⟩
end Go.Proofs.Ytpgfokhpacdhjaa.Fd
