/-
  The invariant of runs (integrity and order).
-/
import Derived.Test.YtpgfokhpacdhjaaBcI
import Derived.Test.YtpgfokhpacdhjaaBcF
namespace Go.Proofs.Ytpgfokhpacdhjaa.Fd
set_option linter.unusedSimpArgs false
set_option linter.unusedVariables false
open Go Go.ChangeMaps
set_option maxRecDepth 100000

def sumN (f : Nat → Nat) : Nat → Nat
  | 0 => 0
  | n + 1 => sumN f n + f n
theorem sumN_le {f : Nat → Nat} {E : Nat} : ∀ {n : Nat}, (∀ i, i < n → f i ≤ E) → sumN f n ≤ n * E
  | 0, _ => by simp [sumN]
  | n + 1, h => by
    have h1 := sumN_le (n := n) fun i hi => h i (by omega)
    have h2 := h n (by omega)
    rw [sumN, Nat.succ_mul]
    omega
theorem sumN_congr {f g : Nat → Nat} : ∀ {n : Nat}, (∀ i, i < n → f i = g i) → sumN f n = sumN g n
  | 0, _ => rfl
  | n + 1, h => by rw [sumN, sumN, sumN_congr (n := n) fun i hi => h i (by omega), h n (by omega)]
theorem sumN_one {f : Nat → Nat} {a : Nat} : ∀ {n : Nat}, a < n → sumN (fun i => f i + if i = a then 1 else 0) n = sumN f n + 1
  | 0, h => by omega
  | n + 1, h => by
    rw [sumN, sumN]
    by_cases e : n = a
    · subst e
      rw [if_pos rfl, sumN_congr (g := f) fun i hi => by rw [if_neg (by omega)]; rfl]
      omega
    · rw [if_neg e, sumN_one (n := n) (by omega)]
      omega
theorem tot_len {n : Nat} {s : Nat → List (List Int)} {list : List (NP × List Int)} (h : DelOk n s list) : ∀ j, j ≤ list.length → sumN (fun o : Nat => cnt (list.take j) (o : Int)) n = j
  | 0, _ => by
    have : ∀ m, sumN (fun _ => 0) m = 0 := fun m => by induction m with
      | zero => rfl
      | succ m ih => rw [sumN, ih]
    simpa [cnt] using this n
  | j + 1, hj => by
    have ih := tot_len h j (by omega)
    have hg : list[j]? = some list[j] := List.getElem?_eq_getElem (by omega)
    obtain ⟨o, e1, ho, _, _⟩ := h j _ hg
    rw [sumN_congr (g := fun i : Nat => cnt (list.take j) (i : Int) + if i = o then 1 else 0) fun i _ => by
      rw [cnt_succ hg, e1]
      by_cases e : i = o
      · rw [if_pos (by omega), if_pos e]
      · rw [if_neg (by omega), if_neg e]]
    rw [sumN_one ho, ih]
theorem cnt_bound {n : Nat} {s : Nat → List (List Int)} {list : List (NP × List Int)} (h : DelOk n s list) (o : Nat) : ∀ j, j ≤ list.length → cnt (list.take j) (o : Int) ≤ (s o).length
  | 0, _ => by simp [cnt]
  | j + 1, hj => by
    have ih := cnt_bound h o j (by omega)
    have hg : list[j]? = some list[j] := List.getElem?_eq_getElem (by omega)
    obtain ⟨o', e1, ho, _, e4⟩ := h j _ hg
    rw [cnt_succ hg]
    by_cases e : o' = o
    · subst e
      have := (List.getElem?_eq_some_iff.1 e4).1
      split <;> omega
    · rw [if_neg (by omega)]
      omega
theorem list_len {n : Nat} {s : Nat → List (List Int)} {list : List (NP × List Int)} (h : DelOk n s list) {E : Nat} (hs : ∀ i, i < n → (s i).length ≤ E) : list.length ≤ n * E := by
  have h1 := tot_len h list.length (Nat.le_refl _)
  rw [List.take_length] at h1
  rw [← h1]
  refine sumN_le fun i hi => ?_
  have := cnt_bound h i list.length (Nat.le_refl _)
  rw [List.take_length] at this
  have := hs i hi
  omega
theorem Inv1.lens {E : Nat} {W : Wd} (h : Inv1 E W) (hE : E ≤ 60) {i : Nat} (hi : i < W.n) : (W.procs i).notes.length ≤ 305 ∧ (W.procs i).list.length ≤ 300 := by
  have h1 := notes_len (h.nt i hi) h.se
  have h2 := list_len (h.ls i hi).1 h.se
  have hn := h.n1.2
  have h3 : W.n * (E + 1) ≤ 5 * 61 := Nat.mul_le_mul hn (by omega)
  have h4 : W.n * E ≤ 5 * 60 := Nat.mul_le_mul hn hE
  omega
theorem Inv1.pay {E : Nat} {W : Wd} (h : Inv1 E W) {o : Nat} (ho : o < W.n) {j : Nat} {l : List Int} (hl : (W.sent o)[j]? = some l) : l.length ≤ 140737488351232 := h.sl o ho l (List.mem_of_getElem? hl)
theorem Inv1.sane {E : Nat} {W : Wd} (h : Inv1 E W) (hE : E ≤ 60) {i : Nat} (hi : i < W.n) : Sane (W.procs i) := by
  obtain ⟨l1, l2⟩ := h.lens hE hi
  refine ⟨fun o => ?_, by omega, ?_, fun k x hx => ?_, fun x hx => ?_⟩
  · rw [(h.ls i hi).2 o]
    have := @cnt_le (W.procs i).list (o : Int)
    omega
  · rw [(h.pn i hi).2.2]
    have := h.se i hi
    omega
  · obtain ⟨o, q1, _, _, q4⟩ := (h.nt i hi).1 k x hx
    have := h.pay q1 q4
    omega
  · obtain ⟨j, hj⟩ := List.getElem?_of_mem hx
    obtain ⟨o, _, q1, _, q4⟩ := (h.ls i hi).1 j x hj
    have := h.pay q1 q4
    omega
theorem Inv1.plen {E : Nat} {W : Wd} (h : Inv1 E W) {z : Pk} (hz : PkOk W.n W.sent z) : z.l.length ≤ 140737488351232 := by
  obtain ⟨t, o, ht, hzt, ho, hzo, hz1, hk1, hk2⟩ := hz
  by_cases e : z.k = 1
  · exact h.pay ho (hk1 e)
  · rw [hk2 e]; simp
theorem Inv1.rdy {E : Nat} {W : Wd} (h : Inv1 E W) (hE : E ≤ 60) : Rdy W := by
  refine ⟨h.n1.1, fun i hi => h.sane hE hi, fun z hz => ?_, by have := h.ul; omega, fun i hi => by have := h.se i hi; omega⟩
  have hp := h.pk z hz
  have := h.plen hp
  obtain ⟨t, o, ht, hzt, _⟩ := hp
  exact ⟨by omega, by omega, by omega⟩
theorem Inv1.start (n : Nat) (hn : 1 ≤ n ∧ n ≤ 5) : Inv1 0 (W0 n) := by
  refine ⟨hn, fun i hi => ⟨rfl, rfl, rfl⟩, fun i hi => Nat.le_refl _, fun i hi l hl => (by cases hl), fun i hi => ⟨fun k x hx => (by cases hx), by simp [W0, P0]⟩, fun i hi => ⟨fun j d hd => (by simp [W0, P0] at hd), fun o => (by simp [W0, P0, cnt])⟩, fun z hz => (by cases hz), by simp [W0]⟩
theorem gr_upd {s : Nat → List (List Int)} {p : Nat} {l : List Int} : Gr s (upd s p (s p ++ [l])) := fun o j x h => by
  by_cases e : o = p
  · subst e
    rw [upd_same, List.getElem?_append_left (List.getElem?_eq_some_iff.1 h).1]
    exact h
  · rw [upd_other e]; exact h
theorem bc_inv1 {n p : Nat} {s : Nat → List (List Int)} {S S' : PS} {l : List Int} (hp : p < n) (hn : S.n = n) (hs : S.self = p) (hm : S.made = (s p).length) (h1 : NtOk n s S) (h2 : LsOk n s S) (hr : Run (bcS S l) S') :
    NtOk n (upd s p (s p ++ [l])) S' ∧ LsOk n (upd s p (s p ++ [l])) S' ∧ ∀ z, z ∈ bcO S l S.n → PkOk n (upd s p (s p ++ [l])) z := by
  have hl : (upd s p (s p ++ [l]) p)[((S.made : Int) + 1).toNat - 1]? = some l := by
    rw [upd_same, hm, show ((((s p).length : Nat) : Int) + 1).toNat - 1 = (s p).length from by omega, List.getElem?_append_right (Nat.le_refl _)]
    simp
  have hN : NtOk n (upd s p (s p ++ [l])) (bcS S l) := ((h1.gr gr_upd).congr (S' := { S with made := S.made + 1 }) rfl).put (k := ((S.self : Int), (S.made : Int) + 1)) (x := (l, BitVec.twoPow 16 S.self)) ⟨p, hp, by simp only; rw [hs], by simp only; omega, hl⟩
  obtain ⟨q1, q2⟩ := hr.inv1 hN ((h2.gr gr_upd).congr rfl rfl)
  refine ⟨q1, q2, fun z hz => ?_⟩
  unfold bcO at hz
  obtain ⟨to, hto, hz⟩ := List.mem_filterMap.1 hz
  have hto := List.mem_range.1 hto
  split at hz
  · cases hz
  · cases hz
    exact ⟨to, p, by omega, rfl, hp, by simp only; rw [hs], by simp only; omega, fun _ => hl, fun e => absurd rfl e⟩
theorem rs_inv1 {n : Nat} {s : Nat → List (List Int)} {S : PS} (hn : S.n = n) (h1 : NtOk n s S) {ss : List NP} : ∀ z, z ∈ rsO S ss → PkOk n s z := by
  intro y hy
  unfold rsO rsB at hy
  obtain ⟨b, _, hy⟩ := List.mem_flatMap.1 hy
  obtain ⟨to, hto, hy⟩ := List.mem_filterMap.1 hy
  have hto := List.mem_range.1 hto
  split at hy
  · rename_i l D hf
    split at hy
    · cases hy
    · cases hy
      obtain ⟨o, q1, q2, q3, q4⟩ := h1.1 _ _ hf
      exact ⟨to, o, by omega, rfl, q1, q2, q3, fun _ => q4, fun e => absurd rfl e⟩
  · cases hy
theorem Run.inv1n {S S' : PS} (h : Run S S') : S'.n = S.n ∧ S'.self = S.self ∧ S'.made = S.made := ⟨h.keep.1, h.keep.2.1, h.keep.2.2.1⟩
theorem PlayR.inv1 {x : Ev} {W W' : Wd} (h : PlayR x W W') {E : Nat} (hI : Inv1 E W) (hE : E < 60) (hx : x.l.length ≤ 140737488351232) : Inv1 (E + 1) W' := by
  have hul := hI.ul
  have hn5 := hI.n1.2
  have hse : ∀ i, i < W.n → (W.sent i).length ≤ E + 1 := fun i hi => by have := hI.se i hi; omega
  cases h with
  | same => exact ⟨hI.n1, hI.pn, hse, hI.sl, hI.nt, hI.ls, hI.pk, by omega⟩
  | @bc p S' hp hd hr =>
    obtain ⟨e1, e2, e3⟩ := hI.pn p hp
    obtain ⟨k1, k2, k3⟩ := bc_inv1 hp e1 e2 e3 (hI.nt p hp) (hI.ls p hp) hr
    obtain ⟨r1, r2, r3⟩ := hr.inv1n
    have hol := @bcO_length (W.procs p) x.l (W.procs p).n
    refine ⟨hI.n1, fun i hi => ?_, fun i hi => ?_, fun i hi l hl => ?_, fun i hi => ?_, fun i hi => ?_, fun z hz => ?_, by simp only [List.length_append]; omega⟩
    · have hi : i < W.n := hi
      by_cases e : i = p
      · subst e
        simp only [upd_same]
        refine ⟨r1.trans e1, r2.trans e2, r3.trans ?_⟩
        rw [List.length_append, List.length_singleton, ← e3]
        rfl
      · simp only [upd_other e]
        exact hI.pn i hi
    · have hi : i < W.n := hi
      by_cases e : i = p
      · subst e
        simp only [upd_same, List.length_append, List.length_singleton]
        have := hI.se i hi; omega
      · simp only [upd_other e]
        exact hse i hi
    · have hi : i < W.n := hi
      by_cases e : i = p
      · subst e
        simp only [upd_same] at hl
        rcases List.mem_append.1 hl with hl | hl
        · exact hI.sl i hi l hl
        · simp at hl; subst hl; exact hx
      · simp only [upd_other e] at hl
        exact hI.sl i hi l hl
    · have hi : i < W.n := hi
      by_cases e : i = p
      · subst e
        simp only [upd_same]
        exact k1
      · simp only [upd_other e]
        exact (hI.nt i hi).gr gr_upd
    · have hi : i < W.n := hi
      by_cases e : i = p
      · subst e
        simp only [upd_same]
        exact k2
      · simp only [upd_other e]
        exact (hI.ls i hi).gr gr_upd
    · rcases List.mem_append.1 hz with hz | hz
      · exact (hI.pk z hz).gr gr_upd
      · exact k3 z hz
  | @rc i0 t z S' ps hz hzt ht hd hr =>
    obtain ⟨e1, e2, e3⟩ := hI.pn t ht
    obtain ⟨k1, k2, k3⟩ := hr.inv1 e1 (hI.pk z (List.mem_of_getElem? hz)) (hI.nt t ht) (hI.ls t ht)
    obtain ⟨r1, r2, r3⟩ := hr.keep
    have hol := hr.out.2
    have hil := (List.getElem?_eq_some_iff.1 hz).1
    refine ⟨hI.n1, fun i hi => ?_, hse, hI.sl, fun i hi => ?_, fun i hi => ?_, fun y hy => ?_, by simp only [List.length_append]; rw [List.length_eraseIdx_of_lt hil]; omega⟩
    · have hi : i < W.n := hi
      by_cases e : i = t
      · subst e
        simp only [upd_same]
        exact ⟨r1.trans e1, r2.trans e2, r3.trans e3⟩
      · simp only [upd_other e]
        exact hI.pn i hi
    · have hi : i < W.n := hi
      by_cases e : i = t
      · subst e
        simp only [upd_same]
        exact k1
      · simp only [upd_other e]
        exact hI.nt i hi
    · have hi : i < W.n := hi
      by_cases e : i = t
      · subst e
        simp only [upd_same]
        exact k2
      · simp only [upd_other e]
        exact hI.ls i hi
    · rcases List.mem_append.1 hy with hy | hy
      · exact hI.pk y (List.mem_of_mem_eraseIdx hy)
      · exact k3 y hy
  | @drop i0 => exact ⟨hI.n1, hI.pn, hse, hI.sl, hI.nt, hI.ls, fun z hz => hI.pk z (List.mem_of_mem_eraseIdx hz), by have := List.length_eraseIdx_le W.under i0; simp only; omega⟩
  | dup hz hl =>
    refine ⟨hI.n1, hI.pn, hse, hI.sl, hI.nt, hI.ls, fun z hz' => ?_, by simp only [List.length_append, List.length_singleton]; omega⟩
    rcases List.mem_append.1 hz' with h' | h'
    · exact hI.pk z h'
    · simp at h'; subst h'; exact hI.pk _ (List.mem_of_getElem? hz)
  | crash hp => exact ⟨hI.n1, hI.pn, hse, hI.sl, hI.nt, hI.ls, hI.pk, by simp only; omega⟩
  | @rs p ss hp hd hl hss =>
    obtain ⟨e1, e2, e3⟩ := hI.pn p hp
    have hlen := (hI.lens (by omega) hp).1
    have hol := @rsO_length (W.procs p) ss
    have hsl : ss.length ≤ 305 := by rw [hss.length_eq, List.length_map]; exact hlen
    have hmul : ss.length * (W.procs p).n ≤ 305 * 5 := Nat.mul_le_mul hsl (by omega)
    refine ⟨hI.n1, hI.pn, hse, hI.sl, hI.nt, hI.ls, fun z hz' => ?_, by simp only [List.length_append]; omega⟩
    rcases List.mem_append.1 hz' with h' | h'
    · exact hI.pk z h'
    · exact rs_inv1 e1 (hI.nt p hp) z h'
end Go.Proofs.Ytpgfokhpacdhjaa.Fd
