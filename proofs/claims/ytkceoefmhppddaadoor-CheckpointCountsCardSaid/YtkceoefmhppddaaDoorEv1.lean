/-
  Plain facts of failing and crashing; helpers of the laws.
-/
import Derived.Test.YtkceoefmhppddaaDoorMk1
namespace Go.Proofs.YtkceoefmhppddaaDoor.Fd
set_option linter.unusedSimpArgs false
set_option linter.unusedVariables false
open Go
set_option maxRecDepth 100000
theorem JT.fresh {w0 w w' : World} {D D' : Nat → Prop} {cb : Nat} (ht : JT w w' D D' cb) (hu : Upd (fun _ => False) w0 w) (hD : ∀ b, D b → w0.heap.size ≤ b) (hcb : w0.heap.size ≤ cb) : Upd (fun _ => False) w0 w' ∧ ∀ b, D' b → w0.heap.size ≤ b := by
  have hs := hu.size
  refine ⟨hu.trans ht.upd fun b hb h => ?_, fun b hb => ?_⟩
  · rcases h with h | h
    · have := hD b h; omega
    · omega
  · rcases ht.new b hb with h | h
    · exact hD b h
    · omega
theorem cfail_ok {w : World} {D J : Nat → Prop} {p cb : Nat} {s : DS × CS} (h : CW w D J p cb s) (n : Int) :
    Ok (den Tryd.prog 27 #[.pointer (some ⟨p, 0, none⟩), .int .i64 n] w) fun _ w' => ∃ D', CW w' D' J p cb (s.1.fail n, s.2) ∧ JT w w' D D' cb := by
  refine Ok.mono (fail_ok h.disk n) ?_
  rintro v w' ⟨hd, hu⟩
  have ht : JT w w' D (gr D w w') cb := ⟨fun b hb => hb, fun b hb => .inl hb, hu.mono fun b _ hb => .inl hb⟩
  exact ⟨_, h.disked hd ht hu, ht⟩
theorem write_cnt {d : DS} (hoff : d.off = false) {k : Nat} (hc : d.cnt = some (k + 1)) {x : Nat} {l : List Int} (hx : x < d.dur.length) (hl : l.length = d.size) :
    (d.write x l).2 = 0 ∧ (d.write x l).1.off = false ∧ (d.write x l).1.cnt = some k ∧ (d.write x l).1.dur.length = d.dur.length ∧ (d.write x l).1.size = d.size := by
  have hst : d.step = (true, { d with cnt := some k }) := by unfold DS.step; rw [hoff, hc]; rfl
  unfold DS.write
  rw [if_pos ⟨by omega, by omega, hl⟩, hst]
  exact ⟨rfl, hoff, rfl, rfl, rfl⟩
theorem sync_cnt {d : DS} (hoff : d.off = false) {k : Nat} (hc : d.cnt = some (k + 1)) :
    d.sync.2 = 0 ∧ d.sync.1.off = false ∧ d.sync.1.cnt = some k ∧ d.sync.1.dur.length = d.dur.length ∧ d.sync.1.size = d.size := by
  have hst : d.step = (true, { d with cnt := some k }) := by unfold DS.step; rw [hoff, hc]; rfl
  unfold DS.sync
  rw [hst]
  exact ⟨rfl, hoff, rfl, settled_length, rfl⟩
/-- The operations are within the disk. -/
def Fit (N sz : Nat) (l : List DOp) : Prop := ∀ x, some x ∈ l → x.1 < N ∧ x.2.length = sz
theorem runOps_enough {N sz : Nat} : ∀ {l : List DOp} {d : DS} {k : Nat}, Fit N sz l → d.off = false → d.cnt = some k → l.length ≤ k → d.dur.length = N → d.size = sz → (runOps d l).2 = 0
  | [], _, _, _, _, _, _, _, _ => rfl
  | o :: r, d, k, hf, hoff, hc, hk, hN, hsz => by
    obtain ⟨k', rfl⟩ : ∃ k', k = k' + 1 := ⟨k - 1, by simp at hk; omega⟩
    simp at hk
    cases o with
    | none =>
      obtain ⟨h1, h2, h3, h4, h5⟩ := sync_cnt hoff hc
      rw [runOps_ok (show (d.op none).2 = 0 from h1)]
      exact runOps_enough (fun x hx => hf x (List.mem_cons_of_mem _ hx)) h2 h3 (by omega) (h4.trans hN) (h5.trans hsz)
    | some x =>
      have hx := hf x List.mem_cons_self
      obtain ⟨h1, h2, h3, h4, h5⟩ := write_cnt hoff hc (x := x.1) (l := x.2) (by rw [hN]; exact hx.1) (by rw [hsz]; exact hx.2)
      rw [runOps_ok (show (d.op (some x)).2 = 0 from h1)]
      exact runOps_enough (fun y hy => hf y (List.mem_cons_of_mem _ hy)) h2 h3 (by omega) (h4.trans hN) (h5.trans hsz)
theorem putOps_fit {N sz at_ : Nat} {b : List Int} (h : at_ + nch sz b.length ≤ N) : Fit N sz (putOps sz at_ b) := by
  intro x hx
  rcases List.mem_append.1 hx with hx | hx
  · obtain ⟨i, hi, e⟩ := List.mem_map.1 hx
    have := List.mem_range.1 hi
    cases e
    exact ⟨by show at_ + i < N; omega, chunk_length⟩
  · simp at hx
theorem saveOps_fit {N sz at_ n g : Nat} {b : List Int} (hz : 44 ≤ sz) (hn : 1 ≤ n) (hN : at_ + n ≤ N) (hb : b.length ≤ (n - 1) * sz) : Fit N sz (saveOps sz at_ b g) := by
  have hnb := nch_bound (by omega : 0 < sz) hb
  intro x hx
  rcases List.mem_append.1 hx with hx | hx
  · rcases List.mem_append.1 hx with hx | hx
    · exact putOps_fit (by rw [nch_one (by omega) (by simp)]; omega) x hx
    · exact putOps_fit (by omega) x hx
  · exact putOps_fit (by rw [nch_one (by omega) (hdrP_length hz)]; omega) x hx
theorem Live.fail {N sz first n : Nat} {d : DS} {c : CS} (h : Live N sz first n d c) (k : Nat) : Live N sz first n (d.fail (k : Int)) c ∧ (d.fail (k : Int)).cnt = some k ∧ (∀ a, DurL (d.fail (k : Int)) a = DurL d a) := by
  have e : d.fail (k : Int) = { d with cnt := some k } := by
    unfold DS.fail
    rw [h.off]
    have : (max (k : Int) 0).toNat = k := by omega
    rw [if_neg (by decide), this]
  rw [e]
  exact ⟨⟨h.off, h.ca, h.len, h.size, h.opn⟩, rfl, fun _ => rfl⟩
theorem crash_nil {d : DS} (h : d.cache = []) (keep : List Bool) : ∀ a, DurL (d.crash keep) a = DurL d a := fun a => by
  have e : (d.crash keep).dur = d.dur := by
    show settled _ d.cache d.dur d.cache.length = d.dur
    rw [h]; rfl
  unfold DurL; rw [e]
theorem crash_live {N sz first n i : Nat} {d : DS} (hw : WfD N sz i d) (hN : first + 2 * n ≤ N) (keep : List Bool) : Live N sz first n (d.crash keep) (openC (d.crash keep) first n) :=
  live_open (hw.crash keep) rfl rfl hN
theorem crash_open {d : DS} {first n : Nat} (keep : List Bool) : openC (d.crash keep) first n = openL (DurL (d.crash keep)) first n := openL_congr fun _ _ _ => content_nil rfl
end Go.Proofs.YtkceoefmhppddaaDoor.Fd
