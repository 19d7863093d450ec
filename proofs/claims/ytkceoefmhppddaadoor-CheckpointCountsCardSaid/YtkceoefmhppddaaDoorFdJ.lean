/-
  append(x, make([]byte, n)...): the zeros are appended, no slice is made.
-/
import Derived.Test.YtkceoefmhppddaaDoorFdI
namespace Go.Proofs.YtkceoefmhppddaaDoor.Fd
set_option linter.unusedSimpArgs false
set_option linter.unusedVariables false
open Go
set_option maxRecDepth 100000
def zstr (n : Nat) : ByteArray := ⟨Array.replicate n 0⟩
theorem zstr_size {n : Nat} : (zstr n).size = n := Array.size_replicate
theorem zstr_cells {n : Nat} : ((zstr n).extract 0 n).data.map (fun b => Value.int .u8 b.toNat) = Array.replicate n (.int .u8 0) := by
  have h : (zstr n).extract 0 n = zstr n := by
    have := ByteArray.extract_zero_size (b := zstr n)
    rwa [zstr_size] at this
  rw [h]
  show (Array.replicate n (0 : UInt8)).map _ = _
  rw [Array.map_replicate]
  rfl
theorem zlist {n : Nat} : List.take n (List.map (fun b => Value.int .u8 b.toNat) (zstr n).data.toList) = List.replicate n (.int .u8 0) := by
  show List.take n (List.map _ (Array.replicate n (0 : UInt8)).toList) = _
  rw [Array.toList_replicate, List.map_replicate, List.take_of_length_le (by simp)]
  rfl
theorem zarr {n : Nat} : (Array.map (fun b => Value.int .u8 b.toNat) (zstr n).data).extract 0 n = Array.replicate n (.int .u8 0) := by
  apply Array.ext'
  simpa using zlist (n := n)
theorem zeroCells_u8 {n : Nat} : Builtin.zeroCells #[.int .u8 0] n = Array.replicate n (.int .u8 0) := by
  unfold Builtin.zeroCells
  apply Array.ext
  · simp
  · intro i h1 h2
    simp [Nat.mod_one]
theorem app_int {P : Program} {w : World} {t tx ts e ty : TypeId} {i : TypeInfo} {z : Value} (ht : P.underlying t = some (.slice e)) (hx : P.underlying tx = some (.int .i64)) (hs : P.underlying ts = some .string) (hi : P.info? e = some i) (hz : i.zero = some z) (hzc : z.cells = #[.int .u8 0]) (hsz : i.size = 1) (hby : i.bytes = 1)
    {base : Option Addr} {n c R : Nat} (hn : n + R ≤ 1000000000) :
    (Builtin.append_ #[t, tx] ty #[.slice base n c, .int .i64 (R : Int)]).run P w = (Builtin.append_ #[t, ts] ty #[.slice base n c, .string (zstr R)]).run P w := by
  have h1 : IntKind.i64.wrap (R : Int) = (R : Int) := by rw [IntKind.wrap_i64]; omega
  have h2 : ¬ ((R : Int) < 0) := by omega
  have h3 : ¬ (281474976710656 < (R : Int)) := by omega
  have h4 : ¬ (9223372036854775807 < ((n : Int) + (R : Int))) := by omega
  by_cases hroom : n + R ≤ c
  · simp [Builtin.append_, run_underlying ht, run_underlying hx, run_underlying hs, sizeOf, typeInfo, zeroValue, hi, hz, hzc, hsz, hby, Builtin.lenOf, Builtin.firstCells, zstr_size, zstr_cells, zeroCells_u8, h1, h2, h3, h4, hroom, asInt, asIntOf]
    rw [zlist]
    split
    · rename_i h0
      subst h0
      rfl
    · rfl
  · have h5 : ¬ (281474976710656 < Builtin.nextslicecap (n + R) c) := by
      have := growslice_fits (need := n + R) (old := c) (bytes := 1) (by omega) (by omega)
      omega
    simp [Builtin.append_, run_underlying ht, run_underlying hx, run_underlying hs, sizeOf, typeInfo, zeroValue, hi, hz, hzc, hsz, hby, Builtin.lenOf, Builtin.firstCells, zstr_size, zstr_cells, zeroCells_u8, h1, h2, h3, h4, h5, hroom, asInt, asIntOf]
    rw [zarr]
    by_cases h0 : R = 0
    · simp [h0]
    · simp [h0]
theorem strL_zstr {n : Nat} : strL (zstr n) = List.replicate n 0 := by
  show (zstr n).data.toList.map _ = _
  show (Array.replicate n (0 : UInt8)).toList.map _ = _
  rw [Array.toList_replicate, List.map_replicate]
  rfl
theorem app_zeros {w : World} {v : Value} {l : List Int} (hown : Bow w v l) {R : Nat} (hlen : l.length + R ≤ 1000000000) {ty : TypeId}
    {K : Value × World → Prop} (hk : ∀ v' w', Bow w' v' (l ++ List.replicate R 0) → Upd (fun b => v.ownBlock = some b) w w' → (∀ g, v'.ownBlock = some g → v.ownBlock = some g ∨ (w.heap.size ≤ g ∧ g < w'.heap.size)) → K (v', w')) :
    Okk (appS Tryd.prog #[31, 3] ty v (.int .i64 (R : Int)) w) K := by
  have h := app_str (s := zstr R) (ty := ty) hown (by rw [zstr_size]; exact hlen) (K := K) (by rw [strL_zstr]; exact hk)
  obtain ⟨a, c, rfl, _⟩ := hown.form
  have hi : ∃ i : TypeInfo, Tryd.prog.info? 5 = some i ∧ i.zero = some (.int .u8 0) ∧ i.size = 1 ∧ i.bytes = 1 := by
    have hs := t5_s
    have hb := t5_b
    have hz := t5_z
    unfold siz at hs
    unfold byt at hb
    unfold zer at hz
    cases hi : Tryd.prog.info? 5 with
    | none => rw [hi] at hs; cases hs
    | some i =>
      rw [hi] at hb hz hs
      simp only [Option.map_some, Option.some.injEq, Option.bind_some] at hb hz hs
      exact ⟨i, rfl, hz, hs, hb⟩
  obtain ⟨i, hi, hz, h1, h2⟩ := hi
  unfold appS lift at h ⊢
  rw [app_int (ts := 9) Tryd.underlying31 Tryd.underlying3 Tryd.underlying9 hi hz rfl h1 h2 hlen]
  exact h
end Go.Proofs.YtkceoefmhppddaaDoor.Fd
