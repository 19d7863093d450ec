/-
  The disk of the program: settle, Sync, Crash.
-/
import Derived.Test.YtkceoefmhppddaaDoorDk2
import Derived.Test.YtkceoefmhppddaaDoorFdC
namespace Go.Proofs.YtkceoefmhppddaaDoor.Fd
set_option linter.unusedSimpArgs false
set_option linter.unusedVariables false
open Go Go.ChangeMaps
set_option maxRecDepth 100000

theorem changedT : mapT Tryd.prog 89 = some 31 := by kernel_rfl

/-- The sectors behind the first i writes of the cache, of which the chosen are carried out. -/
def settled (ch : Nat → Bool) (c : List (Nat × List Int)) (dur : List (List Int)) : Nat → List (List Int)
  | 0 => dur
  | i + 1 => match c[i]? with
    | some x => if ch i then (settled ch c dur i).set x.1 x.2 else settled ch c dur i
    | none => settled ch c dur i
theorem settled_length {ch : Nat → Bool} {c : List (Nat × List Int)} {dur : List (List Int)} : ∀ {i : Nat}, (settled ch c dur i).length = dur.length := by
  intro i
  induction i with
  | zero => rfl
  | succ i ih =>
    simp only [settled]
    split
    · split
      · simp [ih]
      · exact ih
    · exact ih
def DS.settle (d : DS) (ch : Nat → Bool) : DS := { d with dur := settled ch d.cache d.dur d.cache.length, cache := [] }

abbrev Wr := Nat × Nat × List Int
def toM (x : Wr) : Int × Value := ((x.1 : Int), CV x.2.1 x.2.2)
def putG (s : Nat) (b : Nat × List Int) : List Wr → List Wr
  | [] => [(s, b)]
  | x :: r => if s = x.1 then (x.1, b) :: r else x :: putG s b r
theorem putG_toM {s : Nat} {b : Nat × List Int} : ∀ {g : List Wr}, putM (s : Int) (CV b.1 b.2) (g.map toM) = (putG s b g).map toM := by
  intro g
  induction g with
  | nil => rfl
  | cons x r ih =>
    simp only [List.map_cons, toM, putM, putG]
    by_cases h : s = x.1
    · simp [h, toM]
    · have : ¬ (s : Int) = (x.1 : Int) := by omega
      simp [h, this, toM, ih]
def getG (s : Nat) : List Wr → Option (Nat × List Int)
  | [] => none
  | x :: r => if s = x.1 then some x.2 else getG s r
theorem getG_put {s s' : Nat} {b : Nat × List Int} : ∀ {g : List Wr}, getG s' (putG s b g) = if s' = s then some b else getG s' g := by
  intro g
  induction g with
  | nil => simp [putG, getG]
  | cons x r ih =>
    simp only [putG]
    by_cases h : s = x.1
    · rw [if_pos h]
      simp only [getG]
      by_cases h2 : s' = x.1 <;> simp [h, h2]
    · rw [if_neg h]
      simp only [getG, ih]
      by_cases h2 : s' = x.1
      · have : ¬ s' = s := by omega
        simp [h2, this]
        omega
      · simp [h2]
theorem putG_mem {s : Nat} {b : Nat × List Int} : ∀ {g : List Wr} {y : Wr}, y ∈ putG s b g → y = (s, b) ∨ y ∈ g := by
  intro g
  induction g with
  | nil => intro y h; simp [putG] at h; exact .inl h
  | cons x r ih =>
    intro y h
    simp only [putG] at h
    by_cases hs : s = x.1
    · rw [if_pos hs] at h
      cases h with
      | head => exact .inl (by rw [hs])
      | tail _ hm => exact .inr (List.mem_cons_of_mem _ hm)
    · rw [if_neg hs] at h
      cases h with
      | head => exact .inr List.mem_cons_self
      | tail _ hm => exact (ih hm).imp id (List.mem_cons_of_mem _)
theorem putG_nodup {s : Nat} {b : Nat × List Int} : ∀ {g : List Wr}, (g.map (·.1)).Nodup → ((putG s b g).map (·.1)).Nodup := by
  intro g
  induction g with
  | nil => intro _; simp [putG]
  | cons x r ih =>
    intro h
    simp only [List.map_cons, List.nodup_cons] at h
    simp only [putG]
    by_cases hs : s = x.1
    · rw [if_pos hs]
      simp only [List.map_cons, List.nodup_cons]
      exact h
    · rw [if_neg hs]
      simp only [List.map_cons, List.nodup_cons]
      refine ⟨?_, ih h.2⟩
      intro hm
      obtain ⟨y, hy, e⟩ := List.mem_map.1 hm
      rcases putG_mem hy with rfl | hy
      · exact hs e
      · exact h.1 (List.mem_map.2 ⟨y, hy, e⟩)
theorem getG_of {s : Nat} : ∀ {g : List Wr} {j : Nat} {b : Nat × List Int}, (g.map (·.1)).Nodup → g[j]? = some (s, b) → getG s g = some b := by
  intro g
  induction g with
  | nil => intro j b _ h; simp at h
  | cons x r ih =>
    intro j b hn h
    simp only [List.map_cons, List.nodup_cons] at hn
    cases j with
    | zero => simp at h; subst h; simp [getG]
    | succ j =>
      have h' : r[j]? = some (s, b) := by simpa using h
      have : s ≠ x.1 := fun e => hn.1 (List.mem_map.2 ⟨(s, b), List.mem_of_getElem? h', e⟩)
      simp [getG, this, ih hn.2 h']
theorem getG_none {s : Nat} : ∀ {g : List Wr}, (∀ (j : Nat) (b : Nat × List Int), g[j]? ≠ some (s, b)) → getG s g = none := by
  intro g
  induction g with
  | nil => intro _; rfl
  | cons x r ih =>
    intro h
    have h0 : s ≠ x.1 := fun e => h 0 x.2 (by simp [e])
    simp only [getG, if_neg h0]
    exact ih fun j b hj => h (j + 1) b (by simpa using hj)

theorem settle_ok {w : World} {F : Nat → Prop} {p : Nat} {d : DS} (h : IsDisk w F p d) (hc : d.cache.length < 1000000000) {g : FuncId} {cap : List Value} (hg : hasB Tryd.prog g = true) {ch : Nat → Bool}
    (hch : ∀ (i : Nat) (w' : World), i < d.cache.length → Upd (fun _ => False) w w' → Ok (den Tryd.prog g (Value.int .i64 i :: cap).toArray w') fun v w'' => v = .bool (ch i) ∧ w' = w'') :
    Ok (den Tryd.prog 41 #[.pointer (some ⟨p, 0, none⟩), .func (.func g) #[] cap.toArray] w) fun _ w' => IsDisk w' (gr F w w') p (d.settle ch) ∧ Upd F w w' := by
  obtain ⟨q, durs, cv, cachs, armed, left, h⟩ := h
  obtain ⟨a, cc, hcv⟩ := own_slice h.own
  refine den_ok (args := [.pointer (some ⟨p, 0, none⟩), .func (.func g) #[] cap.toArray]) rs41 Tryd.func41 rfl mixed in41 ok41 rfl ?_
  have hb := h.head
  rw [hcv] at hb
  have hdl : d.dur.length = durs.length := by rw [h.dur, List.length_map]
  have hcl : d.cache.length = cachs.length := by rw [h.cache, List.length_map]
  have hpl := hb.lt
  have hu0 : Upd (fun _ => False) w (w.alloc (.map #[] 0)) := Upd.alloc
  have hb1 := hb.upd hu0 (fun h => h)
  simp (disch := omega) only [push_cast, Nat.reduceBEq, Nat.reduceEqDiff, Nat.reduceAdd, Nat.reduceMul, Nat.reduceSub, Nat.reduceLT, Int.reduceToNat, Int.reduceLT, Int.reduceLE, Int.reduceEq, Int.reduceAdd, Int.reduceSub, Int.reduceNeg, Int.reduceMul, hb1.cell]
  refine loop_inv (I := fun k st w' => Bx (∃ i mg, k + i = cachs.length ∧ st = [.int .i64 (i : Int)] ∧ Upd (fun _ => False) w w' ∧ MapI w' w.heap.size (mg.map toM) ∧ (mg.map (·.1)).Nodup ∧ (∀ y ∈ mg, y ∈ cachs) ∧
    ∀ s, s < durs.length → (settled ch d.cache d.dur i)[s]? = some (((getG s mg).map (·.2)).getD (d.dur.getD s []))) ⟨⟩) ?_ cachs.length ⟨0, [], rfl, rfl, hu0, ?_, by simp, by simp, ?_⟩
  · rintro k st w' ⟨i, mg, hki, rfl, hu, hm, hnd, hmem, hset⟩
    by_cases hk0 : k = 0
    · obtain rfl : i = cachs.length := by omega
      simp (disch := omega) only [push_cast, Nat.reduceBEq, Nat.reduceEqDiff, Nat.reduceAdd, Nat.reduceMul, Nat.reduceSub, Nat.reduceLT, Int.reduceToNat, Int.reduceLT, Int.reduceLE, Int.reduceEq, Int.reduceAdd, Int.reduceSub, Int.reduceNeg, Int.reduceMul, hb1.cell]
      rw [rng_eq changedT hm]
      simp (disch := omega) only [push_cast, Nat.reduceBEq, Nat.reduceEqDiff, Nat.reduceAdd, Nat.reduceMul, Nat.reduceSub, Nat.reduceLT, Int.reduceToNat, Int.reduceLT, Int.reduceLE, Int.reduceEq, Int.reduceAdd, Int.reduceSub, Int.reduceNeg, Int.reduceMul]
      have hbw := hb.upd hu (fun h => h)
      have hrw := h.row.upd hu (fun h => h)
      have hsz := hu.size
      have hmb := hm.lt
      have hql := h.row.lt
      have hmq : w.heap.size ≠ q := by omega
      refine loop_inv (I := fun k st w2 => Bx (∃ seen rem dursT, rem.length = k ∧ st = [] ∧ IterI w2 w'.heap.size w.heap.size (mg.map toM) seen ∧ MapI w2 w.heap.size (mg.map toM) ∧ Blk w2 q (dursT.map fun x => CV x.1 x.2) 31 ∧ Upd (fun b => b = q) w w2 ∧
        (∀ j, j < mg.length → j ∈ seen ∨ j ∈ rem) ∧ dursT.length = durs.length ∧
        ∀ s x, dursT[s]? = some x → (∃ j, j ∈ seen ∧ mg[j]? = some (s, x)) ∨ ((∀ j b, j ∈ seen → mg[j]? ≠ some (s, b)) ∧ durs[s]? = some x)) ⟨⟩) ?_ mg.length
        ⟨#[], List.range mg.length, durs, by simp, rfl, ?_, hm.upd (Upd.alloc (F := fun _ => False)) (fun h => h), hrw.alloc _, (hu.alloc').mono (fun _ _ h => h.elim), by simp, rfl, ?_⟩
      · rintro k2 st w2 ⟨seen, rem, dursT, hrem, rfl, hit, hm2, hq2, hu2, hcov, hlen, hprop⟩
        have hb2 := hb.upd hu2 h.pq
        simp (disch := omega) only [push_cast, Nat.reduceBEq, Nat.reduceEqDiff, Nat.reduceAdd, Nat.reduceMul, Nat.reduceSub, Nat.reduceLT, Int.reduceToNat, Int.reduceLT, Int.reduceLE, Int.reduceEq, Int.reduceAdd, Int.reduceSub, Int.reduceNeg, Int.reduceMul]
        refine nxt_ok hit hm2 ?_ ?_
        · intro hall
          simp (disch := omega) only [push_cast, Nat.reduceBEq, Nat.reduceEqDiff, Nat.reduceAdd, Nat.reduceMul, Nat.reduceSub, Nat.reduceLT, Int.reduceToNat, Int.reduceLT, Int.reduceLE, Int.reduceEq, Int.reduceAdd, Int.reduceSub, Int.reduceNeg, Int.reduceMul, hb2.cell, hb2.free]
          have hu4 : Upd (fun b => b = p ∨ b = q) w (w2.setCell ⟨p, 2, none⟩ (.slice none 0 0)) := (hu2.mono (fun _ _ h => .inr h)).setIn (.inl rfl)
          have hmgl : (mg.map toM).length = mg.length := List.length_map _
          rw [hmgl] at hall
          have hsrc : ∀ (s : Nat) (x : Nat × List Int), dursT[s]? = some x → (∃ y ∈ cachs, y.2 = x) ∨ x ∈ durs := by
            intro s x hs
            rcases hprop s x hs with ⟨j, h1, h2⟩ | ⟨h1, h2⟩
            · exact .inl ⟨(s, x), hmem _ (List.mem_of_getElem? h2), rfl⟩
            · exact .inr (List.mem_of_getElem? h2)
          have hdc : ∀ x ∈ dursT, Blk (w2.setCell ⟨p, 2, none⟩ (.slice none 0 0)) x.1 (by8 x.2) 5 ∧ x.2.length = d.size ∧ F x.1 ∧ x.1 ≠ p ∧ x.1 ≠ q := by
            intro x hx
            obtain ⟨s, hs, hsx⟩ := List.mem_iff_getElem.1 hx
            rcases hsrc s x (by rw [List.getElem?_eq_getElem hs, hsx]) with ⟨y, hy, rfl⟩ | hxd
            · obtain ⟨h1, h2, _, h4, h5, h6, _⟩ := h.cachc y hy
              exact ⟨h1.upd hu4 (by rintro (h | h); exact h5 h; exact h6 h), h2, h4, h5, h6⟩
            · obtain ⟨h1, h2, h4, h5, h6, _⟩ := h.durc x hxd
              exact ⟨h1.upd hu4 (by rintro (h | h); exact h5 h; exact h6 h), h2, h4, h5, h6⟩
          refine ⟨⟨q, dursT, .slice none 0 0, [], armed, left, ?_, hq2.other _ h.pq, World.ownsRow_nil _ _ _ _, ?_, rfl, ?_, by simp, ?_, .inl h.fp, .inl h.fq, h.pq, h.arm, ⟨h.small.1, by rw [hlen]; exact h.small.2⟩, ?_⟩, ?_⟩
          · have := hb2.set 2 (.slice none 0 0)
            rw [hlen]
            exact this
          · show settled ch d.cache d.dur d.cache.length = dursT.map (·.2)
            apply List.ext_getElem?
            intro s
            by_cases hs : s < durs.length
            · rw [hcl, hset s hs, List.getElem?_map]
              obtain ⟨x, hx⟩ : ∃ x, dursT[s]? = some x := ⟨dursT[s], by simp⟩
              rw [hx]
              rcases hprop s x hx with ⟨j, h1, h2⟩ | ⟨h1, h2⟩
              · rw [getG_of hnd h2]; rfl
              · rw [getG_none (fun j b hj => h1 j b (hall j (List.getElem?_eq_some_iff.1 hj).1) hj), h.dur]
                simp [List.getD_eq_getElem?_getD, h2]
            · rw [List.getElem?_eq_none (by rw [settled_length]; omega), List.getElem?_eq_none (by rw [List.length_map]; omega)]
          · intro x hx
            obtain ⟨h1, h2, h3, h4, h5⟩ := hdc x hx
            exact ⟨h1, h2, .inl h3, h4, h5, by simp [Value.ownBlock]⟩
          · intro g hg
            simp [Value.ownBlock] at hg
          · intro b hb
            rcases hb with h' | h'
            · exact Nat.lt_of_lt_of_le (h.bd b h') hu4.size
            · exact h'.2
          · exact hu4.mono fun b _ h' => h'.elim (fun e => e ▸ h.fp) (fun e => e ▸ h.fq)
        · intro j k v w1 hj hns hw1
          rw [List.getElem?_map, Option.map_eq_some_iff] at hj
          obtain ⟨y, hy, hyk⟩ := hj
          simp only [toM, Prod.mk.injEq] at hyk
          obtain ⟨rfl, rfl⟩ := hyk
          have hym := hmem y (List.mem_of_getElem? hy)
          have hys := (h.cachc y hym).2.2.1
          have hu21 : Upd (fun _ => False) w2 w1 := by rcases hw1 with rfl | rfl <;> first | exact Upd.refl | exact Upd.drew
          have hitl : w'.heap.size < w2.heap.size := by unfold IterI at hit; rw [Array.getElem?_eq_some_iff] at hit; exact hit.1
          have hu23 : Upd (fun b => b = w'.heap.size) w2 (setBlock w1 w'.heap.size (.mapIter (some w.heap.size) (mg.map toM).length (seen.push j) (mg.map toM).length)) := (hu21.mono (fun _ _ h => h.elim)).trans (Upd.setBlock (F := fun b => b = w'.heap.size) rfl) (fun _ _ h => h)
          have hit3 : IterI (setBlock w1 w'.heap.size (.mapIter (some w.heap.size) (mg.map toM).length (seen.push j) (mg.map toM).length)) w'.heap.size w.heap.size (mg.map toM) (seen.push j) := setBlock_at (Nat.lt_of_lt_of_le hitl hu21.size)
          have hm3 := hm2.upd hu23 (by omega)
          have hq3 := hq2.upd hu23 (by omega)
          have hb3 := hb2.upd hu23 (by omega)
          generalize setBlock w1 w'.heap.size (.mapIter (some w.heap.size) (mg.map toM).length (seen.push j) (mg.map toM).length) = w3 at *
          have hj' : (mg.map toM)[j]? = some ((y.1 : Int), .slice (some ⟨y.2.1, 0, none⟩) y.2.2.length y.2.2.length) := by rw [List.getElem?_map, hy]; rfl
          simp (disch := omega) only [push_cast, Nat.reduceBEq, Nat.reduceEqDiff, Nat.reduceAdd, Nat.reduceMul, Nat.reduceSub, Nat.reduceLT, Int.reduceToNat, Int.reduceLT, Int.reduceLE, Int.reduceEq, Int.reduceAdd, Int.reduceSub, Int.reduceNeg, Int.reduceMul]
          rw [ent_eq hit3 hm3 hj']
          have hcq : w3.cell? ⟨q, y.1, none⟩ = some ((dursT.map fun x => CV x.1 x.2)[y.1]'(by simp; omega)) := by rw [hq3.cell, List.getElem?_eq_getElem]
          simp (disch := omega) only [push_cast, Nat.reduceBEq, Nat.reduceEqDiff, Nat.reduceAdd, Nat.reduceMul, Nat.reduceSub, Nat.reduceLT, Int.reduceToNat, Int.reduceLT, Int.reduceLE, Int.reduceEq, Int.reduceAdd, Int.reduceSub, Int.reduceNeg, Int.reduceMul, hb3.cell, hcq, hq3.free]
          have hu34 : Upd (fun b => b = q) w3 (w3.setCell ⟨q, y.1, none⟩ (.slice (some ⟨y.2.1, 0, none⟩) y.2.2.length y.2.2.length)) := Upd.set rfl
          have hjr : j ∈ rem := (hcov j (List.getElem?_eq_some_iff.1 hy).1).resolve_left hns
          refine ⟨k2 - 1, ?_, seen.push j, rem.erase j, dursT.set y.1 y.2, ?_, rfl, hit3.upd hu34 (by omega), hm3.upd hu34 hmq, ?_, ?_, ?_, by simpa using hlen, ?_⟩
          · have := List.length_pos_of_mem hjr; omega
          · rw [List.length_erase_of_mem hjr, hrem]
          · have := hq3.set y.1 (.slice (some ⟨y.2.1, 0, none⟩) y.2.2.length y.2.2.length)
            rw [List.map_set]
            exact this
          · exact (hu2.trans (hu23.mono (G := fun b => b = q ∨ b = w'.heap.size) fun _ _ h => .inr h) (fun b h1 h2 => h2.elim id fun e => by omega)).trans hu34 (fun _ _ h => h)
          · intro i hi
            by_cases e : i = j
            · exact .inl (by simp [e])
            · rcases hcov i hi with h | h
              · exact .inl (by simp [h])
              · exact .inr ((List.mem_erase_of_ne e).2 h)
          · intro s x hs
            rw [List.getElem?_set] at hs
            by_cases e : y.1 = s
            · rw [if_pos e] at hs
              split at hs
              · simp only [Option.some.injEq] at hs
                subst hs
                exact .inl ⟨j, by simp, by rw [hy, ← e]⟩
              · cases hs
            · rw [if_neg e] at hs
              rcases hprop s x hs with ⟨j', h1, h2⟩ | ⟨h1, h2⟩
              · exact .inl ⟨j', by simp [h1], h2⟩
              · refine .inr ⟨?_, h2⟩
                intro j' b hj' hb
                rcases Array.mem_push.1 hj' with h3 | h3
                · exact h1 j' b h3 hb
                · subst h3
                  rw [hy] at hb
                  simp only [Option.some.injEq] at hb
                  exact e (by rw [hb])
      · show (w'.heap.push _)[w'.heap.size]? = _
        rw [Array.getElem?_push, if_pos rfl]
      · intro s x hs
        exact .inr ⟨by simp, hs⟩
    · have hi : i < cachs.length := by omega
      obtain ⟨y, hy⟩ : ∃ y, cachs[i]? = some y := ⟨cachs[i], by simp⟩
      have hym := List.mem_of_getElem? hy
      obtain ⟨gb, cap', hv, hob, hcell⟩ := own_cell (f := cacheRow) (fun _ => rfl) (ownsRow_upd h.own hu (fun _ _ h => h)) hy
      have hc0 := hcell 0 (by omega)
      have hc1 := hcell 1 (by omega)
      simp only [cacheRow, List.getElem?_cons_zero, List.getElem?_cons_succ, CV, Nat.add_zero] at hc0 hc1
      rw [hcv] at hv
      injection hv with e1 e2 e3
      subst e1
      have hgl := (h.cvc gb (by rw [hcv]; rfl)).1
      have hgl' : gb < w'.heap.size := Nat.lt_of_lt_of_le (h.bd gb hgl) hu.size
      have hsz := hu.size
      simp (disch := omega) only [push_cast, Nat.reduceBEq, Nat.reduceEqDiff, Nat.reduceAdd, Nat.reduceMul, Nat.reduceSub, Nat.reduceLT, Int.reduceToNat, Int.reduceLT, Int.reduceLE, Int.reduceEq, Int.reduceAdd, Int.reduceSub, Int.reduceNeg, Int.reduceMul, hc0, hc1, hg]
      refine Ok.use (hch i _ (by omega) ((hu.alloc'.setNew (by exact hsz)).setNew (by exact hsz))) ?_
      rintro v w2 ⟨rfl, rfl⟩
      have hmw : MapI (((w'.alloc (.cells [.int .i64 0, .slice none 0 0].toArray 80 (0, 0))).setCell ⟨w'.heap.size, 0, none⟩ (.int .i64 y.1)).setCell ⟨w'.heap.size, 1, none⟩ (.slice (some ⟨y.2.1, 0, none⟩) y.2.2.length y.2.2.length)) w.heap.size (mg.map toM) :=
        hm.upd (((Upd.refl (F := fun _ => False)).alloc'.setNew (Nat.le_refl _)).setNew (Nat.le_refl _)) (fun h => h)
      have hdc : d.cache[i]? = some (y.1, y.2.2) := by rw [h.cache, List.getElem?_map, hy]; rfl
      have hys := (h.cachc y hym).2.2.1
      cases hci : ch i
      · simp (disch := omega) only [push_cast, Nat.reduceBEq, Nat.reduceEqDiff, Nat.reduceAdd, Nat.reduceMul, Nat.reduceSub, Nat.reduceLT, Int.reduceToNat, Int.reduceLT, Int.reduceLE, Int.reduceEq, Int.reduceAdd, Int.reduceSub, Int.reduceNeg, Int.reduceMul]
        refine ⟨k - 1, by omega, i + 1, mg, by omega, by simp, (hu.alloc'.setNew (by exact hsz)).setNew (by exact hsz), hmw, hnd, hmem, ?_⟩
        intro s hs
        simp only [settled, hdc, hci, Bool.false_eq_true, if_false]
        exact hset s hs
      · simp (disch := omega) only [push_cast, Nat.reduceBEq, Nat.reduceEqDiff, Nat.reduceAdd, Nat.reduceMul, Nat.reduceSub, Nat.reduceLT, Int.reduceToNat, Int.reduceLT, Int.reduceLE, Int.reduceEq, Int.reduceAdd, Int.reduceSub, Int.reduceNeg, Int.reduceMul]
        rw [mup_eq changedT hmw]
        simp (disch := omega) only [push_cast, Nat.reduceBEq, Nat.reduceEqDiff, Nat.reduceAdd, Nat.reduceMul, Nat.reduceSub, Nat.reduceLT, Int.reduceToNat, Int.reduceLT, Int.reduceLE, Int.reduceEq, Int.reduceAdd, Int.reduceSub, Int.reduceNeg, Int.reduceMul]
        refine ⟨k - 1, by omega, i + 1, putG y.1 y.2 mg, by omega, by simp, ((hu.alloc'.setNew (by exact hsz)).setNew (by exact hsz)).trans (Upd.setBlock (F := fun b => b = w.heap.size) rfl) (fun b h1 h2 => by omega), ?_, putG_nodup hnd, ?_, ?_⟩
        · have e := putG_toM (s := y.1) (b := y.2) (g := mg)
          rw [CV] at e
          rw [e]
          exact setBlock_at (by have := hm.lt; simp only [size_set, size_alloc]; omega)
        · intro z hz
          rcases putG_mem hz with rfl | hz
          · exact hym
          · exact hmem z hz
        · intro s hs
          simp only [settled, hdc, hci, if_true, List.getElem?_set, settled_length, getG_put]
          by_cases hsy : s = y.1
          · simp [hsy]; omega
          · have : ¬ y.1 = s := fun e => hsy e.symm
            simp only [this, hsy, if_false]
            exact hset s hs
  · show (w.heap.push _)[w.heap.size]? = _
    rw [Array.getElem?_push, if_pos rfl]
    rfl
  · intro s hs
    have : s < d.dur.length := by omega
    simp [settled, getG, List.getD_eq_getElem?_getD, this]
end Go.Proofs.YtkceoefmhppddaaDoor.Fd
