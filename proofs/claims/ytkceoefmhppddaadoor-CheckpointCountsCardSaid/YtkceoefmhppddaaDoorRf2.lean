/-
  The specification's number, Slot, Newest.
-/
import Derived.Test.YtkceoefmhppddaaDoorOpE
namespace Go.Proofs.YtkceoefmhppddaaDoor.Fd
set_option linter.unusedSimpArgs false
set_option linter.unusedVariables false
open Go
set_option maxRecDepth 100000
theorem SlRC.go {w w' : World} {F F' G : Nat → Prop} {v : Value} {ls : List (List Int)} (h : SlRC w F v ls) (hu : Upd G w w') (hG : ∀ b, b < w.heap.size → G b ∨ F' b → F b) : SlRC w' F' v ls := by
  obtain ⟨a, c, hv, hl⟩ := h
  refine ⟨a, c, hv, fun h0 => ?_⟩
  obtain ⟨b, o, h1, h2, h3, h4⟩ := hl h0
  refine ⟨b, o, h1, Nat.lt_of_lt_of_le h2 hu.size, fun h => h3 (hG b h2 (.inr h)), fun j l hj => ?_⟩
  obtain ⟨u, h5, h6⟩ := h4 j l hj
  exact ⟨u, by rw [World.cell?_of_block (hu.block b h2 fun h => h3 (hG b h2 (.inl h)))]; exact h5, h6.go hu hG⟩
theorem SlRC.nil {w : World} {F : Nat → Prop} {a : Option Addr} {c : Nat} : SlRC w F (.slice a 0 c) [] := ⟨a, c, rfl, fun h => absurd rfl h⟩
theorem SlRC.at_ {w : World} {F : Nat → Prop} {a : Option Addr} {n c : Nat} {ls : List (List Int)} (h : SlRC w F (.slice a n c) ls) {j : Nat} {l : List Int} (hj : ls[j]? = some l) : ∃ b o ea ec, a = some ⟨b, o, none⟩ ∧ w.cell? ⟨b, o + j, none⟩ = some (.slice ea l.length ec) ∧ SlC w F (.slice ea l.length ec) l := by
  obtain ⟨a', c', hv, hl⟩ := h
  injection hv with e1 e2 e3
  subst e1
  obtain ⟨b, o, h1, h2, h3, h4⟩ := hl (by intro e; rw [e] at hj; simp at hj)
  obtain ⟨u, h5, h6⟩ := h4 j l hj
  obtain ⟨ea, ec, rfl, _⟩ := id h6.2
  exact ⟨b, o, ea, ec, h1, h5, h6⟩
/-- A row of byte strings of one's own. -/
def RowC (w : World) (F : Nat → Prop) (v : Value) (ls : List (List Int)) : Prop := ∃ us : List Value, w.ownsRow 0 31 1 v us.length us ∧ us.length = ls.length ∧
  (∀ (j : Nat) (u : Value) (l : List Int), us[j]? = some u → ls[j]? = some l → SlC w (fun b => F b ∨ v.ownBlock = some b) u l) ∧ ∀ g, v.ownBlock = some g → ¬ F g
theorem RowC.go {w w' : World} {F F' G : Nat → Prop} {v : Value} {ls : List (List Int)} (h : RowC w F v ls) (hu : Upd G w w') (hG : ∀ b, b < w.heap.size → G b ∨ F' b → F b) : RowC w' F' v ls := by
  obtain ⟨us, h1, h2, h3, h4⟩ := h
  refine ⟨us, ownsRow_upd h1 hu fun g hg h => h4 g hg (hG g (World.ownsRow.lt h1 g hg).2 (.inl h)), h2, fun j u l hu2 hl => (h3 j u l hu2 hl).go hu fun b hb h => ?_, fun g hg h => h4 g hg (hG g (World.ownsRow.lt h1 g hg).2 (.inr h))⟩
  rcases h with h | h | h
  · exact .inl (hG b hb (.inl h))
  · exact .inl (hG b hb (.inr h))
  · exact .inr h
theorem RowC.nil {w : World} {F : Nat → Prop} : RowC w F (.slice none 0 0) [] := ⟨[], World.ownsRow_nil _ _ _ _, rfl, by simp, by simp [Value.ownBlock]⟩
theorem RowC.empty {w : World} {F : Nat → Prop} {g : Nat} (h : Blk w g [] 31) (hF : ¬ F g) : RowC w F (.slice (some ⟨g, 0, none⟩) 0 0) [] :=
  ⟨[], ⟨rfl, .inr ⟨g, 0, #[], rfl, Nat.zero_le _, h, Nat.le_refl _, Nat.zero_le _, rfl, rfl⟩⟩, rfl, by simp, fun g' hg => by rw [← ownB hg]; exact hF⟩
theorem RowC.slrc {w : World} {F : Nat → Prop} {v : Value} {ls : List (List Int)} (h : RowC w F v ls) : SlRC w F v ls := by
  obtain ⟨us, h1, h2, h3, h4⟩ := h
  rcases h1.2 with ⟨rfl, h0⟩ | ⟨g, cap, cur, rfl, _, hg, _, _, _, htake⟩
  · have : ls = [] := List.eq_nil_of_length_eq_zero (by omega)
    subst this
    exact .nil
  · refine ⟨_, cap, by rw [h2], fun _ => ⟨g, 0, rfl, (Array.getElem?_eq_some_iff.1 hg).1, h4 g rfl, fun j l hj => ?_⟩⟩
    have hjl := (List.getElem?_eq_some_iff.1 hj).1
    have hju : j < us.length := by omega
    refine ⟨us[j], ?_, (h3 j _ l (List.getElem?_eq_getElem hju) hj).mono fun b _ h => .inl h⟩
    have hB : Blk w g cur.toList 31 := by show _ = _; rw [hg]
    have hj2 : cur.toList[j]? = us[j]? := by
      conv => rhs; rw [← htake]
      rw [List.getElem?_take_of_lt (by omega)]
    rw [hB.cell, Nat.zero_add, hj2, List.getElem?_eq_getElem hju]
theorem RowC.form {w : World} {F : Nat → Prop} {v : Value} {ls : List (List Int)} (h : RowC w F v ls) : ∃ a c, v = .slice a ls.length c := by
  obtain ⟨us, h1, h2, _⟩ := h
  obtain ⟨a, c, hv⟩ := own_slice h1
  exact ⟨a, c, by rw [← h2]; exact hv⟩
theorem RowC.lt {w : World} {F : Nat → Prop} {v : Value} {ls : List (List Int)} (h : RowC w F v ls) {g : Nat} (hg : v.ownBlock = some g) : g < w.heap.size := by
  obtain ⟨us, h1, _⟩ := h
  exact (World.ownsRow.lt h1 g hg).2
theorem SlRC.src {w : World} {F : Nat → Prop} {y : Value} {ms : List (List Int)} (hy : SlRC w F y ms) : ∃ news, Src Tryd.prog 1 22 y ms.length news w ∧ news.length = ms.length ∧ ∀ (j : Nat) (u : Value) (l : List Int), news[j]? = some u → ms[j]? = some l → SlC w F u l := by
  obtain ⟨a, c, rfl, hl⟩ := hy
  have hk : Tryd.prog.underlying 22 = some (.slice 31) := Tryd.underlying22
  by_cases h0 : ms = []
  · subst h0
    refine ⟨[], ?_, rfl, by simp⟩
    cases a with
    | none => exact Src.ofNil w hk c
    | some a => exact Src.ofSlice w hk a 0 c [] rfl (by simp) (by simp)
  · obtain ⟨b, o, rfl, _, _, h4⟩ := hl h0
    obtain ⟨news, n1, n2⟩ := choose_list (n := ms.length) (p := fun j u => w.cell? ⟨b, o + j, none⟩ = some u ∧ (∃ ea en ec, u = .slice ea en ec) ∧ ∀ l, ms[j]? = some l → SlC w F u l) fun i hi => by
      obtain ⟨u, h5, h6⟩ := h4 i _ (List.getElem?_eq_getElem hi)
      obtain ⟨ea, ec, hu, _⟩ := id h6.2
      exact ⟨u, h5, ⟨ea, _, ec, hu⟩, fun l hl => by rw [List.getElem?_eq_getElem hi] at hl; cases hl; exact h6⟩
    refine ⟨news, Src.ofSlice w hk ⟨b, o, none⟩ ms.length c news (by rw [n1, Nat.mul_one]) (fun j u hj => ?_) (fun u hu => ?_), n1, fun j u l hj hl => (n2 j u hj).2.2 l hl⟩
    · rw [← (n2 j u hj).1]
      congr 1
      unfold Addr.add
      split
      · rename_i h0; rw [h0]; rfl
      · rfl
    · obtain ⟨j, hj⟩ := List.mem_iff_getElem?.1 hu
      obtain ⟨_, ⟨ea, en, ec, rfl⟩, _⟩ := n2 j u hj
      rfl
/-- An append of byte strings that lie somewhere. -/
theorem app_rowC {w : World} {F : Nat → Prop} {v : Value} {ls : List (List Int)} (h : RowC w F v ls) {y : Value} {ms : List (List Int)} (hy : SlRC w (fun b => F b ∨ v.ownBlock = some b) y ms) (hlen : ls.length + ms.length ≤ 1000000) (hF : ∀ b, F b → b < w.heap.size) {ty : TypeId}
    {K : Value × World → Prop} (hk : ∀ v' w', RowC w' F v' (ls ++ ms) → Upd (fun b => v.ownBlock = some b) w w' → (∀ g, v'.ownBlock = some g → v.ownBlock = some g ∨ (w.heap.size ≤ g ∧ g < w'.heap.size)) → K (v', w')) :
    Okk (appS Tryd.prog #[22, 22] ty v y w) K := by
  obtain ⟨us, h1, h2, h3, h4⟩ := h
  obtain ⟨news, s1, s2, s3⟩ := hy.src
  refine app_src (by_ := 24) t22_e t31_s t31_b t31_z rfl (by omega) h1 s1 (by omega) (by unfold maxLen; omega) ?_
  intro v' w' g1 g2 g3
  have hlt : ∀ g, v.ownBlock = some g → g < w.heap.size := fun g hg => (World.ownsRow.lt h1 g hg).2
  have mv : ∀ {u : Value} {l : List Int}, SlC w (fun b => F b ∨ v.ownBlock = some b) u l → SlC w' (fun b => F b ∨ v'.ownBlock = some b) u l := by
    intro u l hs
    refine hs.go g2 fun b hb h => ?_
    rcases h with h | h | h
    · exact .inr h
    · exact .inl h
    · rcases g3 b h with h | h
      · exact .inr h
      · omega
  refine hk v' w' ⟨us ++ news, by rw [List.length_append, s2]; exact g1, by rw [List.length_append, List.length_append, h2, s2], fun j u l hj hl => mv ?_, fun g hg hFg => ?_⟩ g2 g3
  · by_cases hj2 : j < us.length
    · rw [List.getElem?_append_left hj2] at hj
      rw [List.getElem?_append_left (by omega)] at hl
      exact h3 j u l hj hl
    · rw [List.getElem?_append_right (by omega)] at hj
      rw [List.getElem?_append_right (by omega)] at hl
      rw [h2] at hj
      exact s3 _ u l hj hl
  · rcases g3 g hg with h | h
    · exact h4 g h hFg
    · have := hF g hFg; omega
theorem slrc_one {w : World} {F : Nat → Prop} {a : Option Addr} {c : Nat} {l : List Int} (h : SlC w F (.slice a l.length c) l) (hF : ¬ F w.heap.size) : SlRC (w.alloc (.cells [.slice a l.length c].toArray 31 (0, 0))) F (.slice (some ⟨w.heap.size, 0, none⟩) 1 1) [l] := by
  refine ⟨_, 1, rfl, fun _ => ⟨w.heap.size, 0, rfl, by rw [size_alloc]; omega, hF, fun j l' hj => ?_⟩⟩
  have hj0 : j = 0 := by have := (List.getElem?_eq_some_iff.1 hj).1; simpa using this
  subst hj0
  simp at hj
  subst hj
  exact ⟨_, (Blk.new (cs := [Value.slice a l.length c])).cell 0, h.go (Upd.alloc (F := fun _ => False)) fun b _ h => h.elim False.elim id⟩
set_option maxHeartbeats 2000000 in
theorem number_ok {w : World} {F : Nat → Prop} {v : Value} {l : List Int} (hv : SlB w F v l) (hr : Rng l) (hl : l.length ≤ 8) :
    Ok (den Tryd.prog 37 #[v] w) fun u w' => u = .int .u64 ((numL l : Nat) : Int) ∧ w = w' := by
  obtain ⟨va, vc, rfl, hli⟩ := id hv
  refine den_ok (args := [.slice va l.length vc]) rs37 Tryd.func37 rfl mixed in37 ok37 rfl ?_
  simp (config := { maxSteps := 3000000 }) (disch := omega) only [push_cast, Nat.reduceBEq, Nat.reduceEqDiff, Nat.reduceAdd, Nat.reduceMul, Nat.reduceSub, Nat.reduceLT, Int.reduceToNat, Int.reduceLT, Int.reduceLE, Int.reduceEq, Int.reduceAdd, Int.reduceSub, Int.reduceNeg, Int.reduceMul]
  refine loop_inv (I := fun k st w' => Bx (∃ t, k + t = l.length ∧ st = [.int .u64 ((numL (l.take t) : Nat) : Int), .int .i64 ((t : Nat) : Int)] ∧ w = w') ⟨⟩) ?_ l.length
    ⟨0, by omega, rfl, rfl⟩
  rintro k st _ ⟨t, hk, rfl, rfl⟩
  by_cases hk0 : k = 0
  · obtain rfl : t = l.length := by omega
    have hlt : ¬ ((l.length : Nat) : Int) < (l.length : Int) := by omega
    rw [List.take_of_length_le (Nat.le_refl _)]
    simp (config := { maxSteps := 3000000 }) (disch := omega) only [push_cast, Nat.reduceBEq, Nat.reduceEqDiff, Nat.reduceAdd, Nat.reduceMul, Nat.reduceSub, Nat.reduceLT, Int.reduceToNat, Int.reduceLT, Int.reduceLE, Int.reduceEq, Int.reduceAdd, Int.reduceSub, Int.reduceNeg, Int.reduceMul, hlt]
  have ht : t < l.length := by omega
  have e : l[t]? = some (l[t]'ht) := List.getElem?_eq_getElem _
  obtain ⟨y, hy, hy2⟩ := hr.nat e
  rw [hy] at e
  obtain ⟨g, o, rfl, hlies, _⟩ := hli (by intro h; rw [h] at ht; simp at ht)
  have hc := hlies t (by rw [by8_length]; exact ht)
  rw [by8, List.getElem?_map, e] at hc
  simp only [Option.map_some] at hc
  have hnx := numL_take e
  have hlt := numL_lt hr t (by omega)
  have hp : (256 : Nat) ^ t ≤ 256 ^ 7 := Nat.pow_le_pow_right (by omega) (by omega)
  have hle : (t : Int) < (l.length : Int) := by omega
  generalize numL (l.take t) = m at *
  have eu := u64_app (m := m) (by omega) hy2
  simp (config := { maxSteps := 3000000 }) (disch := omega) only [push_cast, Nat.reduceBEq, Nat.reduceEqDiff, Nat.reduceAdd, Nat.reduceMul, Nat.reduceSub, Nat.reduceLT, Int.reduceToNat, Int.reduceLT, Int.reduceLE, Int.reduceEq, Int.reduceAdd, Int.reduceSub, Int.reduceNeg, Int.reduceMul, hle, hc]
  exact ⟨k - 1, by omega, t + 1, by omega, by rw [eu, hnx]; simp, rfl⟩
set_option maxHeartbeats 2000000 in
theorem rSlot_ok {w : World} {F : Nat → Prop} {v : Value} {ss : List (List Int)} (hv : SlRC w F v ss) (hr : RngL ss) {n sz : Nat} (hn : ss.length = n) (hn2 : 2 ≤ n) (hn3 : n ≤ 100) (hz : 44 ≤ sz) (hz2 : sz ≤ 4096) (hl : ∀ l, l ∈ ss → l.length = sz) :
    Ok (den Tryd.prog 17 #[v] w) fun u w' => (∃ x g, u = .tuple #[x, .int .i64 g] ∧ match slotP ss with
      | none => g = 0 ∧ x = .slice none 0 0
      | some (b, g') => g = (g' : Int) ∧ SlC w' (fun b => b < w.heap.size) x b) ∧ Upd (fun _ => False) w w' := by
  obtain ⟨va, vc, rfl, _⟩ := id hv
  refine den_ok (args := [.slice va ss.length vc]) rs17 Tryd.func17 rfl mixed in17 ok17 rfl ?_
  have h0 : ss[0]? = some (ss[0]'(by omega)) := List.getElem?_eq_getElem _
  have hH := hl _ (List.getElem_mem (l := ss) (n := 0) (by omega))
  have hHr := hr _ (List.getElem_mem (l := ss) (n := 0) (by omega))
  generalize ss[0]'(by omega) = H at *
  obtain ⟨b0, o0, ea, ec, rfl, hc0, hs0⟩ := hv.at_ h0
  rw [hH] at hc0 hs0
  rw [Nat.add_zero] at hc0
  rw [hn]
  have hn2i : ¬ (n : Int) < 2 := by omega
  have hz44 : ¬ (sz : Int) < 44 := by omega
  obtain ⟨r, hr0⟩ : ∃ r, r = ss.tail := ⟨_, rfl⟩
  have hss : ss = H :: r := by
    cases hss0 : ss with
    | nil => rw [hss0] at hn; simp at hn; omega
    | cons x y =>
      rw [hss0] at h0 hr0
      simp at h0 hr0
      rw [h0, hr0]
  have hrl : r.length = n - 1 := by rw [hss] at hn; simp at hn; omega
  have hlr : ∀ l, l ∈ r → l.length = sz := fun l hl' => hl l (by rw [hss]; exact List.mem_cons_of_mem _ hl')
  have hrr : RngL r := fun l hl' => hr l (by rw [hss]; exact List.mem_cons_of_mem _ hl')
  have hft : ∀ t, t ≤ n - 1 → ((r.take t).flatten).length = t * sz := by
    intro t
    induction t with
    | zero => intro _; simp
    | succ t ih =>
      intro ht
      have e : r[t]? = some (r[t]'(by omega)) := List.getElem?_eq_getElem _
      rw [List.take_succ_eq_append_getElem (by omega), List.flatten_append, List.length_append, ih (by omega), List.flatten_singleton, hlr _ (List.getElem_mem _), Nat.succ_mul]
  simp (config := { maxSteps := 3000000 }) (disch := omega) only [push_cast, Nat.reduceBEq, Nat.reduceEqDiff, Nat.reduceAdd, Nat.reduceMul, Nat.reduceSub, Nat.reduceLT, Int.reduceToNat, Int.reduceLT, Int.reduceLE, Int.reduceEq, Int.reduceAdd, Int.reduceSub, Int.reduceNeg, Int.reduceMul, hn2i, hz44, hc0]
  refine loop_inv (I := fun k st w' => Bx (∃ t v, k + t = n - 1 ∧ st = [v, .int .i64 ((t : Nat) + 1 : Int)] ∧ Fr w w' v (r.take t).flatten) ⟨⟩) ?_ (n - 1)
    ⟨0, _, by omega, rfl, by simpa using Fr.nil⟩
  rintro k st w1 ⟨t, v, hk, rfl, h1⟩
  obtain ⟨va1, vc1, rfl, _⟩ := h1.own.form
  have hlt1 := hft t (by omega)
  have hts : t * sz ≤ 100 * 4096 := Nat.mul_le_mul (by omega) hz2
  have hv1 := hv.go (F' := F) h1.upd fun b hb h => h.elim (fun h => h.elim) fun h => h
  by_cases hk0 : k = 0
  · obtain rfl : t = n - 1 := by omega
    have hge : ¬ (((n - 1 : Nat) : Int) + 1) < (n : Int) := by omega
    obtain ⟨q, hq⟩ : ∃ q, q = n - 1 := ⟨_, rfl⟩
    rw [← hq] at hge ⊢
    rw [List.take_of_length_le (by omega)] at h1 hlt1 ⊢
    have hB : r.flatten = ss.tail.flatten := by rw [hr0]
    obtain ⟨B, hBe⟩ : ∃ B, B = r.flatten := ⟨_, rfl⟩
    rw [← hBe] at h1 hlt1 ⊢
    have hc0' := cell_upd hc0 h1.upd fun h => h
    have hs0' := hs0.upd h1.upd fun _ h => h.elim
    obtain ⟨_, _, eh, hli⟩ := id hs0'.1
    injection eh with q1 q2 q3
    obtain ⟨hb, ho, q4, hlies, _⟩ := hli (by intro h; rw [h] at hH; simp at hH; omega)
    rw [← q1] at q4
    subst q4
    clear q1 q2 q3 hli
    have hcap : sz ≤ ec := by
      obtain ⟨_, _, e, hc⟩ := hs0'.2
      injection e with _ _ e3
      omega
    have hsx := hs0'.1
    rw [← hH] at hsx
    have h8 := slc_take hsx (n := 8) (by omega) (by omega)
    have h12 := slb_lh hsx (l := 8) (n := 4) (by omega) (by omega)
    have hT8 : (H.take 8).length = 8 := by rw [List.length_take]; omega
    have hT12 : ((H.drop 8).take 4).length = 4 := by rw [List.length_take, List.length_drop]; omega
    have e8 : (if ec = 8 then ho else ho + 8) = ho + 8 := if_neg (by omega)
    rw [e8] at h12
    have x8 : ∀ w' : World, slcS Tryd.prog 31 (.slice (some ⟨hb, ho, none⟩) sz ec) none (some (.int .i64 8)) w' = some (.slice (some ⟨hb, ho, none⟩) 8 ec, w') := fun w' => by
      have := slc_hi (P := Tryd.prog) (t := 31) (w := w') (b := hb) (o := ho) (n := sz) (c := ec) (k := .i64) (h := 8) (by omega) (by omega)
      rw [t31_e] at this
      simp only [orK, t5_s] at this
      exact this
    have x12 : ∀ w' : World, slcS Tryd.prog 31 (.slice (some ⟨hb, ho, none⟩) sz ec) (some (.int .i64 8)) (some (.int .i64 12)) w' = some (.slice (some ⟨hb, ho + 8, none⟩) 4 (ec - 8), w') := fun w' => by
      have := slc_lh (P := Tryd.prog) (t := 31) (w := w') (b := hb) (o := ho) (n := sz) (c := ec) (k := .i64) (k' := .i64) (l := 8) (h := 12) (by omega) (by omega) (by omega)
      rw [t31_e] at this
      simp only [orK, t5_s] at this
      rw [show ec - Int.toNat 8 = ec - 8 from rfl, show (if ec = Int.toNat 8 then ho else ho + Int.toNat 8 * 1) = ho + 8 from if_neg (by show ¬ ec = 8; omega)] at this
      exact this
    have hud : Upd (fun _ => False) w1 w1.drew := Upd.drew
    have h1d := h1.quiet hud
    have h8d := h8.upd hud fun _ h => h.elim
    have h12d := h12.upd hud fun _ h => h.elim
    have hs0d := hs0'.upd hud fun _ h => h.elim
    have n8 := number_ok (w := w1.drew) (F := F) (v := .slice (some ⟨hb, ho, none⟩) (H.take 8).length ec) (l := H.take 8) (by rw [hT8]; exact h8d.1) (hHr.take 8) (by omega)
    rw [hT8] at n8
    have n12 := number_ok (w := w1.drew) (F := F) (v := .slice (some ⟨hb, ho + 8, none⟩) ((H.drop 8).take 4).length (ec - 8)) (l := (H.drop 8).take 4) (by rw [hT12]; exact h12d) ((hHr.drop 8).take 4) (by omega)
    rw [hT12] at n12
    have hsl : slotP ss = if 1 ≤ numL (H.take 8) ∧ numL (H.take 8) ≤ 4611686018427387904 ∧ numL ((H.drop 8).take 4) ≤ B.length ∧ H = hdrP H.length (B.take (numL ((H.drop 8).take 4))) (numL (H.take 8)) then some (B.take (numL ((H.drop 8).take 4)), numL (H.take 8)) else none := by
      rw [hss, hBe]; rfl
    rw [hsl, hH]
    have hG0 := numL_lt hHr 8 (by omega)
    have hL0 := numL_lt (hHr.drop 8) 4 (by rw [List.length_drop]; omega)
    generalize numL (H.take 8) = G at *
    generalize numL ((H.drop 8).take 4) = L at *
    simp (config := { maxSteps := 3000000 }) (disch := omega) only [push_cast, Nat.reduceBEq, Nat.reduceEqDiff, Nat.reduceAdd, Nat.reduceMul, Nat.reduceSub, Nat.reduceLT, Int.reduceToNat, Int.reduceLT, Int.reduceLE, Int.reduceEq, Int.reduceAdd, Int.reduceSub, Int.reduceNeg, Int.reduceMul, hge, hc0', x8]
    generalize w1.drew = w2 at *
    refine Ok.use n8 ?_
    rintro v _ ⟨rfl, rfl⟩
    simp (config := { maxSteps := 3000000 }) (disch := omega) only [push_cast, Nat.reduceBEq, Nat.reduceEqDiff, Nat.reduceAdd, Nat.reduceMul, Nat.reduceSub, Nat.reduceLT, Int.reduceToNat, Int.reduceLT, Int.reduceLE, Int.reduceEq, Int.reduceAdd, Int.reduceSub, Int.reduceNeg, Int.reduceMul, x8, x12]
    refine Ok.use n12 ?_
    rintro v _ ⟨rfl, rfl⟩
    by_cases hg1 : G < 1
    · have hgi : (G : Int) < 1 := by omega
      rw [if_neg (by omega)]
      simp (config := { maxSteps := 3000000 }) (disch := omega) only [push_cast, Nat.reduceBEq, Nat.reduceEqDiff, Nat.reduceAdd, Nat.reduceMul, Nat.reduceSub, Nat.reduceLT, Int.reduceToNat, Int.reduceLT, Int.reduceLE, Int.reduceEq, Int.reduceAdd, Int.reduceSub, Int.reduceNeg, Int.reduceMul, x8, x12, hgi]
      exact ⟨⟨_, _, rfl, rfl, rfl⟩, h1d.upd⟩
    have hgi : ¬ (G : Int) < 1 := by omega
    by_cases hg2 : 4611686018427387904 < G
    · have hgj : (4611686018427387904 : Int) < G := by omega
      rw [if_neg (by omega)]
      simp (config := { maxSteps := 3000000 }) (disch := omega) only [push_cast, Nat.reduceBEq, Nat.reduceEqDiff, Nat.reduceAdd, Nat.reduceMul, Nat.reduceSub, Nat.reduceLT, Int.reduceToNat, Int.reduceLT, Int.reduceLE, Int.reduceEq, Int.reduceAdd, Int.reduceSub, Int.reduceNeg, Int.reduceMul, x8, x12, hgi, hgj]
      exact ⟨⟨_, _, rfl, rfl, rfl⟩, h1d.upd⟩
    have hgj : ¬ (4611686018427387904 : Int) < G := by omega
    have eB : IntKind.u64.wrap (B.length : Int) = (B.length : Int) := by rw [IntKind.wrap_u64]; omega
    by_cases hLB : B.length < L
    · have hLi : (B.length : Int) < (L : Int) := by omega
      rw [if_neg (by omega)]
      simp (config := { maxSteps := 3000000 }) (disch := omega) only [push_cast, Nat.reduceBEq, Nat.reduceEqDiff, Nat.reduceAdd, Nat.reduceMul, Nat.reduceSub, Nat.reduceLT, Int.reduceToNat, Int.reduceLT, Int.reduceLE, Int.reduceEq, Int.reduceAdd, Int.reduceSub, Int.reduceNeg, Int.reduceMul, x8, x12, hgi, hgj, eB, hLi]
      exact ⟨⟨_, _, rfl, rfl, rfl⟩, h1d.upd⟩
    have hLi : ¬ (B.length : Int) < (L : Int) := by omega
    have eL : IntKind.i64.wrap (L : Int) = (L : Int) := by rw [IntKind.wrap_i64]; omega
    have eG : IntKind.i64.wrap (G : Int) = (G : Int) := by rw [IntKind.wrap_i64]; omega
    have htk := slc_takeA h1d.slc (n := L) (by omega)
    have hTl : (B.take L).length = L := by rw [List.length_take]; omega
    have xL : ∀ w' : World, slcS Tryd.prog 31 (.slice va1 B.length vc1) none (some (.int .i64 (L : Int))) w' = some (.slice va1 L vc1, w') := fun w' => by
      have := slc_hiA (P := Tryd.prog) (t := 31) (w := w') (a := va1) (n := B.length) (c := vc1) (k := .i64) (h := (L : Int)) t31_e t5_s (by omega) (by
        obtain ⟨_, _, e, hc⟩ := h1d.own.form
        injection e with _ _ e3
        omega)
      rw [Int.toNat_natCast] at this
      exact this
    obtain ⟨T, hT⟩ : ∃ T, T = B.take L := ⟨_, rfl⟩
    rw [← hT] at htk hTl ⊢
    simp (config := { maxSteps := 3000000 }) (disch := omega) only [push_cast, Nat.reduceBEq, Nat.reduceEqDiff, Nat.reduceAdd, Nat.reduceMul, Nat.reduceSub, Nat.reduceLT, Int.reduceToNat, Int.reduceLT, Int.reduceLE, Int.reduceEq, Int.reduceAdd, Int.reduceSub, Int.reduceNeg, Int.reduceMul, x8, x12, hgi, hgj, eB, hLi, eL, xL]
    have htk1 : SlB w2 (fun _ => False) (.slice va1 T.length vc1) T := by rw [hTl]; exact htk.1.mono fun b _ h => h.elim
    rw [hTl] at htk1
    refine (Fr.empty).app ((Fr.empty).old htk1) (by rw [List.length_nil]; omega) ?_
    intro v3 w3 h3 _
    rw [List.nil_append] at h3
    obtain ⟨va3, vc3, rfl, _⟩ := h3.own.form
    simp (config := { maxSteps := 3000000 }) (disch := omega) only [push_cast, Nat.reduceBEq, Nat.reduceEqDiff, Nat.reduceAdd, Nat.reduceMul, Nat.reduceSub, Nat.reduceLT, Int.reduceToNat, Int.reduceLT, Int.reduceLE, Int.reduceEq, Int.reduceAdd, Int.reduceSub, Int.reduceNeg, Int.reduceMul]
    replace h3 := h3.quiet (Upd.drew (F := fun _ => False))
    generalize w3.drew = w3d at *
    have hs3 := hs0d.upd h3.upd fun _ h => h.elim
    refine Ok.use (rHeader_ok h3.slc.1 (by rw [hTl]; omega) (g := G) (by omega) (size := sz) hz hz2) ?_
    rintro v w4 h4
    obtain ⟨va4, vc4, rfl, _⟩ := h4.own.form
    have hs4 := hs3.upd h4.upd fun _ h => h.elim
    have c4 := cnv_str h4.slc.1
    have c0 := cnv_str (by rw [← hH] at hs4; exact hs4.1 : SlB w4 F (.slice (some ⟨hb, ho, none⟩) H.length ec) H)
    have c3 := cnv_str (by rw [← hH] at hs3; exact hs3.1 : SlB w3d F (.slice (some ⟨hb, ho, none⟩) H.length ec) H)
    rw [hH] at c0 c3
    have hse := str_eq (hdrP_rng (size := sz) (b := T) (g := G)) hHr
    have h3b : SlC w4 (fun b => b < w.heap.size) (.slice va3 T.length vc3) T := (h3.slc.upd h4.upd fun _ h => h.elim).mono fun b _ hb => Nat.lt_of_lt_of_le hb h1d.upd.size
    have huf : Upd (fun _ => False) w w4 := (h1d.upd.trans h3.upd fun _ _ h => h).trans h4.upd fun _ _ h => h
    by_cases hh : H = hdrP sz T G
    · rw [if_pos ⟨by omega, by omega, by omega, hh⟩]
      rw [decide_eq_true hh.symm] at hse
      simp (config := { maxSteps := 3000000 }) (disch := omega) only [push_cast, Nat.reduceBEq, Nat.reduceEqDiff, Nat.reduceAdd, Nat.reduceMul, Nat.reduceSub, Nat.reduceLT, Int.reduceToNat, Int.reduceLT, Int.reduceLE, Int.reduceEq, Int.reduceAdd, Int.reduceSub, Int.reduceNeg, Int.reduceMul, c4, c0, c3, hse, eG]
      exact ⟨⟨_, _, rfl, rfl, h3b⟩, huf⟩
    · rw [if_neg (by rintro ⟨_, _, _, h4⟩; exact hh h4)]
      rw [decide_eq_false (fun h => hh h.symm)] at hse
      simp (config := { maxSteps := 3000000 }) (disch := omega) only [push_cast, Nat.reduceBEq, Nat.reduceEqDiff, Nat.reduceAdd, Nat.reduceMul, Nat.reduceSub, Nat.reduceLT, Int.reduceToNat, Int.reduceLT, Int.reduceLE, Int.reduceEq, Int.reduceAdd, Int.reduceSub, Int.reduceNeg, Int.reduceMul, c4, c0, c3, hse, eG]
      exact ⟨⟨_, _, rfl, rfl, rfl⟩, huf⟩
  have hlt : ((t : Nat) : Int) + 1 < (n : Int) := by omega
  have e : r[t]? = some (r[t]'(by omega)) := List.getElem?_eq_getElem _
  have e2 : ss[t + 1]? = some (r[t]'(by omega)) := by rw [hss, List.getElem?_cons_succ]; exact e
  have hcl := hlr _ (List.getElem_mem (l := r) (n := t) (by omega))
  have hnx : (r.take (t + 1)).flatten = (r.take t).flatten ++ r[t]'(by omega) := by rw [List.take_succ_eq_append_getElem (by omega), List.flatten_append, List.flatten_singleton]
  generalize r[t]'(by omega) = x at *
  obtain ⟨b1, o1, xa, xc, e3, hc1, hs1⟩ := hv1.at_ e2
  simp only [Option.some.injEq, Addr.mk.injEq, and_true] at e3
  obtain ⟨rfl, rfl⟩ := e3
  obtain ⟨T1, hT1⟩ : ∃ T1, T1 = t + 1 := ⟨_, rfl⟩
  rw [← hT1] at hc1 hnx
  have eT : ((t : Nat) : Int) + 1 = (T1 : Int) := by omega
  rw [eT] at hlt
  simp (config := { maxSteps := 3000000 }) (disch := omega) only [push_cast, Nat.reduceBEq, Nat.reduceEqDiff, Nat.reduceAdd, Nat.reduceMul, Nat.reduceSub, Nat.reduceLT, Int.reduceToNat, Int.reduceLT, Int.reduceLE, Int.reduceEq, Int.reduceAdd, Int.reduceSub, Int.reduceNeg, Int.reduceMul, eT, hlt, hc1]
  refine h1.app hs1.1 (by rw [hlt1, hcl]; omega) ?_
  intro v2 w2 h2 _
  simp (config := { maxSteps := 3000000 }) (disch := omega) only [push_cast, Nat.reduceBEq, Nat.reduceEqDiff, Nat.reduceAdd, Nat.reduceMul, Nat.reduceSub, Nat.reduceLT, Int.reduceToNat, Int.reduceLT, Int.reduceLE, Int.reduceEq, Int.reduceAdd, Int.reduceSub, Int.reduceNeg, Int.reduceMul]
  exact ⟨k - 1, by omega, t + 1, v2, by omega, by rw [show ((t + 1 : Nat) : Int) + 1 = (T1 : Int) + 1 by omega], by rw [← hT1, hnx]; exact h2⟩
set_option maxHeartbeats 2000000 in
theorem rNewest_ok {w : World} {F : Nat → Prop} {u0 u1 : Value} {s0 s1 : List (List Int)} (hv0 : SlRC w F u0 s0) (hv1 : SlRC w F u1 s1) (hr0 : RngL s0) (hr1 : RngL s1) {n sz : Nat} (hn0 : s0.length = n) (hn1 : s1.length = n) (hn2 : 2 ≤ n) (hn3 : n ≤ 100) (hz : 44 ≤ sz) (hz2 : sz ≤ 4096) (hl0 : ∀ l, l ∈ s0 → l.length = sz) (hl1 : ∀ l, l ∈ s1 → l.length = sz) :
    Ok (den Tryd.prog 20 #[.agg #[u0, u1]] w) fun u w' => (∃ x, u = .tuple #[x, .int .i64 ((newestP (slotP s0) (slotP s1)).2.2 : Int), .int .i64 ((newestP (slotP s0) (slotP s1)).1 : Int)] ∧ SlB w' (fun b => b < w.heap.size) x (newestP (slotP s0) (slotP s1)).2.1) ∧ Upd (fun _ => False) w w' := by
  obtain ⟨a0, c0, rfl, _⟩ := id hv0
  obtain ⟨a1, c1, rfl, _⟩ := id hv1
  refine den_ok (args := [.agg #[.slice a0 s0.length c0, .slice a1 s1.length c1]]) rs20 Tryd.func20 rfl mixed in20 ok20 rfl ?_
  have hob : Blk (w.alloc (.cells [.slice a0 s0.length c0, .slice a1 s1.length c1].toArray 36 (0, 0))) w.heap.size [.slice a0 s0.length c0, .slice a1 s1.length c1] 36 := Blk.new
  have hal : Upd (fun _ => False) w (w.alloc (.cells [.slice a0 s0.length c0, .slice a1 s1.length c1].toArray 36 (0, 0))) := Upd.alloc
  have g0 := hv0.go (F' := F) hal fun b hb h => h.elim (fun h => h.elim) fun h => h
  have g1 := hv1.go (F' := F) hal fun b hb h => h.elim (fun h => h.elim) fun h => h
  simp (config := { maxSteps := 3000000 }) (disch := omega) only [push_cast, Nat.reduceBEq, Nat.reduceEqDiff, Nat.reduceAdd, Nat.reduceMul, Nat.reduceSub, Nat.reduceLT, Int.reduceToNat, Int.reduceLT, Int.reduceLE, Int.reduceEq, Int.reduceAdd, Int.reduceSub, Int.reduceNeg, Int.reduceMul]
  generalize (w.alloc (.cells [.slice a0 s0.length c0, .slice a1 s1.length c1].toArray 36 (0, 0))) = w1 at *
  refine Ok.use (rSlot_ok g0 hr0 hn0 hn2 hn3 hz hz2 hl0) ?_
  rintro v w2 ⟨⟨x0, h0, rfl, m0⟩, hu2⟩
  have hob2 := hob.upd hu2 fun h => h
  have g1' := g1.go (F' := F) hu2 fun b hb h => h.elim (fun h => h.elim) fun h => h
  simp (config := { maxSteps := 3000000 }) (disch := omega) only [push_cast, Nat.reduceBEq, Nat.reduceEqDiff, Nat.reduceAdd, Nat.reduceMul, Nat.reduceSub, Nat.reduceLT, Int.reduceToNat, Int.reduceLT, Int.reduceLE, Int.reduceEq, Int.reduceAdd, Int.reduceSub, Int.reduceNeg, Int.reduceMul, hob2.cell]
  refine Ok.use (rSlot_ok g1' hr1 hn1 hn2 hn3 hz hz2 hl1) ?_
  rintro v w3 ⟨⟨x1, h1, rfl, m1⟩, hu3⟩
  have hu03 := (hal.trans hu2 fun _ _ h => h).trans hu3 fun _ _ h => h
  have hsz := hal.size
  have hsz2 := hu2.size
  have p0 := pos_of (ss := s0)
  have p1 := pos_of (ss := s1)
  generalize slotP s0 = q0 at *
  generalize slotP s1 = q1 at *
  have nil3 : ∀ x, SlB w3 (fun b => b < w.heap.size) (.slice none 0 0) x ∨ True := fun _ => .inr trivial
  cases q0 with
  | none =>
    obtain ⟨rfl, rfl⟩ := m0
    cases q1 with
    | none =>
      obtain ⟨rfl, rfl⟩ := m1
      simp (config := { maxSteps := 3000000 }) (disch := omega) only [push_cast, Nat.reduceBEq, Nat.reduceEqDiff, Nat.reduceAdd, Nat.reduceMul, Nat.reduceSub, Nat.reduceLT, Int.reduceToNat, Int.reduceLT, Int.reduceLE, Int.reduceEq, Int.reduceAdd, Int.reduceSub, Int.reduceNeg, Int.reduceMul]
      exact ⟨⟨_, rfl, ⟨none, 0, rfl, fun h => absurd rfl h⟩⟩, hu03⟩
    | some y =>
      obtain ⟨b1, y1⟩ := y
      obtain ⟨rfl, hs1⟩ := m1
      have := p1 _ rfl
      dsimp only at this
      have i1 : ¬ (y1 : Int) = 0 := by omega
      have i2 : ¬ (y1 : Int) ≤ 0 := by omega
      simp (config := { maxSteps := 3000000 }) (disch := omega) only [push_cast, Nat.reduceBEq, Nat.reduceEqDiff, Nat.reduceAdd, Nat.reduceMul, Nat.reduceSub, Nat.reduceLT, Int.reduceToNat, Int.reduceLT, Int.reduceLE, Int.reduceEq, Int.reduceAdd, Int.reduceSub, Int.reduceNeg, Int.reduceMul, i1, i2]
      exact ⟨⟨_, rfl, hs1.1.mono fun b _ hb => by omega⟩, hu03⟩
  | some x =>
    obtain ⟨b0, y0⟩ := x
    obtain ⟨rfl, hs0⟩ := m0
    have := p0 _ rfl
    dsimp only at this
    have i0 : ¬ (y0 : Int) = 0 := by omega
    have hs0' := hs0.upd hu3 fun _ h => h.elim
    cases q1 with
    | none =>
      obtain ⟨rfl, rfl⟩ := m1
      have i2 : (0 : Int) ≤ (y0 : Int) := by omega
      simp (config := { maxSteps := 3000000 }) (disch := omega) only [push_cast, Nat.reduceBEq, Nat.reduceEqDiff, Nat.reduceAdd, Nat.reduceMul, Nat.reduceSub, Nat.reduceLT, Int.reduceToNat, Int.reduceLT, Int.reduceLE, Int.reduceEq, Int.reduceAdd, Int.reduceSub, Int.reduceNeg, Int.reduceMul, i0, i2]
      exact ⟨⟨_, rfl, hs0'.1.mono fun b _ hb => by omega⟩, hu03⟩
    | some y =>
      obtain ⟨b1, y1⟩ := y
      obtain ⟨rfl, hs1⟩ := m1
      by_cases hlt : y0 < y1
      · have e : newestP (some (b0, y0)) (some (b1, y1)) = (1, b1, y1) := if_pos hlt
        rw [e]
        have i2 : ¬ (y1 : Int) ≤ (y0 : Int) := by omega
        simp (config := { maxSteps := 3000000 }) (disch := omega) only [push_cast, Nat.reduceBEq, Nat.reduceEqDiff, Nat.reduceAdd, Nat.reduceMul, Nat.reduceSub, Nat.reduceLT, Int.reduceToNat, Int.reduceLT, Int.reduceLE, Int.reduceEq, Int.reduceAdd, Int.reduceSub, Int.reduceNeg, Int.reduceMul, i0, i2]
        exact ⟨⟨_, rfl, hs1.1.mono fun b _ hb => by omega⟩, hu03⟩
      · have e : newestP (some (b0, y0)) (some (b1, y1)) = (0, b0, y0) := if_neg hlt
        rw [e]
        have i2 : (y1 : Int) ≤ (y0 : Int) := by omega
        simp (config := { maxSteps := 3000000 }) (disch := omega) only [push_cast, Nat.reduceBEq, Nat.reduceEqDiff, Nat.reduceAdd, Nat.reduceMul, Nat.reduceSub, Nat.reduceLT, Int.reduceToNat, Int.reduceLT, Int.reduceLE, Int.reduceEq, Int.reduceAdd, Int.reduceSub, Int.reduceNeg, Int.reduceMul, i0, i2]
        exact ⟨⟨_, rfl, hs0'.1.mono fun b _ hb => by omega⟩, hu03⟩
end Go.Proofs.YtkceoefmhppddaaDoor.Fd
