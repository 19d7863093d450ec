/-
  What the condition on the listed variable gives: the table of constants.
-/
import Derived.Test.YtpgigkceoolgeaaGreatDoorRows
import Derived.Test.YtpgigkceoolgeaaGreatDoorS038
import Derived.ProofKit
import Derived.LaidMore
import Derived.OpenShut
import Derived.Stop.Joined
import Derived.MakeChecks
namespace Go.Proofs.YtpgigkceoolgeaaGreatDoor
set_option linter.unusedSimpArgs false
set_option linter.unusedVariables false
open Go.ChangeShapes Go.WideShapes Go.ChangeAt Go.WideMaps Go.WideElems Go.RowKit
abbrev laidK : List (String × DataW Unit) := [("plexus/sha256.constants", Rows.laid_plexus_sha256_constants)]
theorem gK : Tryz.prog.globalNamed "plexus/sha256.constants" = some 1 := by kernel_rfl
theorem tK : (Tryz.prog.globals[1]?).map (·.type) = some 238 := by kernel_rfl
theorem datK : (Rows.laid_plexus_sha256_constants : DataW Unit) = .agg (Fd.kTab.map fun k : Nat => .lit (.int .u32 (k : Int))) := by kernel_rfl
theorem kVs : (Fd.kTab.all fun k => decide (k < 4294967296)) = true := by decide
theorem kLen : Fd.kTab.length = 64 := by decide
/-- The door's own heap meets the condition. -/
theorem door_met (os : Os) (args : Array Value) : laidMetH Tryz.prog laidK ((World.doorLaid Tryz.prog 4000 os).forCall (fun _ _ => 0) ⟨#[], args, []⟩).memory := by
  rw [MakeChecks.laidMetH_plain _ _ _ (by kernel_rfl)]
  exact laidMet_of_run' 8 (by kernel_rfl) (by kernel_rfl)
theorem kt_of {W : World} (h : laidMetH Tryz.prog laidK W) : Fd.KT W := by
  rw [MakeChecks.laidMetH_plain _ _ _ (by kernel_rfl)] at h
  obtain ⟨ps, ⟨g0, t0, cs0, f0, p0, q0, hg0, ht0, hv0, hd0, _, _⟩, _, _⟩ := h
  obtain rfl := Option.some.inj (gK.symm.trans hg0)
  obtain rfl := Option.some.inj (tK.symm.trans ht0)
  obtain ⟨xs, m1, rfl, hx1, hlen, hn3, hel⟩ := DataW.trod_array Tryz.underlying238 hd0
  have c3 : Tryz.prog.cellsOf 225 = 1 := by kernel_rfl
  have c64 : Tryz.prog.cellsOf 238 = 64 := by kernel_rfl
  rw [datK] at hx1
  simp only [Prod.mk.injEq, DataW.agg.injEq] at hx1
  have hcell : ∀ t, t < 64 → W.cell? ⟨1, t, none⟩ = some (Fd.vW (Fd.kV t)) := fun t ht => by
    have h0 := hel t ht
    rw [c3, Nat.mul_one] at h0
    have hxt : xs[t]? = some (xs[t]'(by omega)) := List.getElem?_eq_getElem _
    rw [hxt] at h0
    obtain ⟨k, e1, e2, _⟩ := DataW.trod_int Tryz.underlying225 h0
    have hk : (Fd.kTab[t]?).map (fun k : Nat => (DataW.lit (.int .u32 (k : Int)) : DataW Unit)) = some (.lit (.int .u32 k)) := by
      rw [← List.getElem?_map, hx1.1, List.getElem?_map, hxt, e2]
      rfl
    have hkt : Fd.kTab[t]? = some (Fd.kTab[t]'(by rw [kLen]; exact ht)) := List.getElem?_eq_getElem _
    rw [hkt] at hk
    simp only [Option.map_some, Option.some.injEq, DataW.lit.injEq, Lit.int.injEq, true_and] at hk
    have hsm : Fd.kTab[t]'(by rw [kLen]; exact ht) < 4294967296 := by
      have := List.all_eq_true.1 kVs _ (List.getElem_mem (by rw [kLen]; exact ht : t < Fd.kTab.length))
      simpa using this
    have hv : Fd.vW (Fd.kV t) = .int .u32 k := by
      unfold Fd.vW Fd.kV
      rw [List.getD_eq_getElem?_getD, hkt, Option.getD_some, BitVec.toNat_ofNat, Nat.mod_eq_of_lt (by omega), hk]
    rw [hv, World.var?_cell hg0 hv0 t]
    have e3 : (cs0.toList.drop t).take 1 = [.int .u32 k] := e1
    have e4 : cs0.toList[t]? = some (.int .u32 k) := by
      have := congrArg (fun l : List Value => l[0]?) e3
      simpa [List.getElem?_take, List.getElem?_drop] using this
    rw [← Array.getElem?_toList]
    exact e4
  refine ⟨?_, hcell⟩
  have := hcell 0 (by decide)
  rcases Nat.lt_or_ge 1 W.heap.size with hh | hh
  · exact hh
  · have hn : W.heap[1]? = none := Array.getElem?_eq_none hh
    simp [World.cell?, hn] at this
end Go.Proofs.YtpgigkceoolgeaaGreatDoor
