/-
  No cell of these rows narrows 'for every input' (looked for: loops, veiled, ifaces, maps, wideKeys, modest, calm, conditions, laid).
  DERIVED. THE GIVEN ROWS OF THIS SEAT. 6 by the template 'for every input the law returns true; each argument reads behind the call as it read before'; 0 by the template 'total and deterministic' (their statements: YtdekhojafpkgfaaTotals.lean).
  GIVEN WITH THE SEED: the statements are not yours to turn. If you find one false, say at which input.
  Laid BY PROGRAM, IN A SANDBOX (cutbox-rows.mjs): the forced cells as the released guide's own fill.sh prints them over the translation 2f207508fd353608… (all of the seat's roots in one cut). By AI agents, Wed Nov 11 2026. No macro, syntax, notation, axiom, sorry.
-/
import Derived.Test.YtdekhojafpkgfaaChecked
import GoSem.Claim
import GoSem.ClaimJoined
import GoSem.ClaimMapViews
import Derived.JoinedTies
import Derived.KernelRfl
namespace Go.Proofs.Ytdekhojafpkgfaa
/- THE CELL 'sum', in the pinned program and in every row, IS THE sha256 OF THE DUMP (.gsa) THAT YtdekhojafpkgfaaProg.lean LOADS. Nothing in Lean hashes anything: it is a label: what it is worth is what the hold of that sum in a sandbox is worth. -/
noncomputable def Try.pinned : Pinned := { name := "ytdekhojafpkgfaa", sum := "2f207508fd3536087a74910ce26e318eddbc879c21cc49b5b32c1c951bdf8994", checked := Try.checked }
namespace Rows
def none {H : Type} : Left H := { results := [], args := [] }

/-- 'plexuslaw25.DiskPlays': WHATEVER THE INPUT: true; the input reads as it did. -/
def diskPlaysSpec : ChangeSpec := { name := "diskPlays", fn := fun _ => fun
  | [d1, d2, d3] => { results := [.lit (.bool true)], args := [d1, d2, d3] }
  | _ => none }
def diskPlaysRow : OpenClaim := { program := "ytdekhojafpkgfaa", sum := "2f207508fd3536087a74910ce26e318eddbc879c21cc49b5b32c1c951bdf8994", func := "plexus/plexuslaw25.DiskPlays", spec := "diskPlays", unfollowed := true, recurses := true, apart := false }
def DiskPlaysSaid : Prop := diskPlaysRow.holds Try.pinned (OpenSpec.ofChange diskPlaysSpec)

/-- ITS FALSE NEIGHBOUR: 'it returns false'. Refute it at one input. -/
def diskPlaysWrong : ChangeSpec := { name := "diskPlays", fn := fun _ => fun
  | [d1, d2, d3] => { results := [.lit (.bool false)], args := [d1, d2, d3] }
  | _ => none }
def DiskPlaysWrongFalsely : Prop := diskPlaysRow.holds Try.pinned (OpenSpec.ofChange diskPlaysWrong)

/-- 'plexuslaw25.DiskNew': WHATEVER THE INPUT: true; the input reads as it did. -/
def diskNewSpec : ChangeSpec := { name := "diskNew", fn := fun _ => fun
  | [d1, d2] => { results := [.lit (.bool true)], args := [d1, d2] }
  | _ => none }
def diskNewRow : OpenClaim := { program := "ytdekhojafpkgfaa", sum := "2f207508fd3536087a74910ce26e318eddbc879c21cc49b5b32c1c951bdf8994", func := "plexus/plexuslaw25.DiskNew", spec := "diskNew", unfollowed := true, recurses := true, apart := false }
def DiskNewSaid : Prop := diskNewRow.holds Try.pinned (OpenSpec.ofChange diskNewSpec)

/-- ITS FALSE NEIGHBOUR: 'it returns false'. Refute it at one input. -/
def diskNewWrong : ChangeSpec := { name := "diskNew", fn := fun _ => fun
  | [d1, d2] => { results := [.lit (.bool false)], args := [d1, d2] }
  | _ => none }
def DiskNewWrongFalsely : Prop := diskNewRow.holds Try.pinned (OpenSpec.ofChange diskNewWrong)

/-- 'plexuslaw25.DiskAtomic': WHATEVER THE INPUT: true; the input reads as it did. -/
def diskAtomicSpec : ChangeSpec := { name := "diskAtomic", fn := fun _ => fun
  | [d1, d2, d3, d4] => { results := [.lit (.bool true)], args := [d1, d2, d3, d4] }
  | _ => none }
def diskAtomicRow : OpenClaim := { program := "ytdekhojafpkgfaa", sum := "2f207508fd3536087a74910ce26e318eddbc879c21cc49b5b32c1c951bdf8994", func := "plexus/plexuslaw25.DiskAtomic", spec := "diskAtomic", unfollowed := true, recurses := true, apart := false }
def DiskAtomicSaid : Prop := diskAtomicRow.holds Try.pinned (OpenSpec.ofChange diskAtomicSpec)

/-- ITS FALSE NEIGHBOUR: 'it returns false'. Refute it at one input. -/
def diskAtomicWrong : ChangeSpec := { name := "diskAtomic", fn := fun _ => fun
  | [d1, d2, d3, d4] => { results := [.lit (.bool false)], args := [d1, d2, d3, d4] }
  | _ => none }
def DiskAtomicWrongFalsely : Prop := diskAtomicRow.holds Try.pinned (OpenSpec.ofChange diskAtomicWrong)

/-- 'plexuslaw25.DiskSynced': WHATEVER THE INPUT: true; the input reads as it did. -/
def diskSyncedSpec : ChangeSpec := { name := "diskSynced", fn := fun _ => fun
  | [d1, d2, d3, d4, d5, d6] => { results := [.lit (.bool true)], args := [d1, d2, d3, d4, d5, d6] }
  | _ => none }
def diskSyncedRow : OpenClaim := { program := "ytdekhojafpkgfaa", sum := "2f207508fd3536087a74910ce26e318eddbc879c21cc49b5b32c1c951bdf8994", func := "plexus/plexuslaw25.DiskSynced", spec := "diskSynced", unfollowed := true, recurses := true, apart := false }
def DiskSyncedSaid : Prop := diskSyncedRow.holds Try.pinned (OpenSpec.ofChange diskSyncedSpec)

/-- ITS FALSE NEIGHBOUR: 'it returns false'. Refute it at one input. -/
def diskSyncedWrong : ChangeSpec := { name := "diskSynced", fn := fun _ => fun
  | [d1, d2, d3, d4, d5, d6] => { results := [.lit (.bool false)], args := [d1, d2, d3, d4, d5, d6] }
  | _ => none }
def DiskSyncedWrongFalsely : Prop := diskSyncedRow.holds Try.pinned (OpenSpec.ofChange diskSyncedWrong)

/-- 'plexuslaw25.DiskFails': WHATEVER THE INPUT: true; the input reads as it did. -/
def diskFailsSpec : ChangeSpec := { name := "diskFails", fn := fun _ => fun
  | [d1, d2] => { results := [.lit (.bool true)], args := [d1, d2] }
  | _ => none }
def diskFailsRow : OpenClaim := { program := "ytdekhojafpkgfaa", sum := "2f207508fd3536087a74910ce26e318eddbc879c21cc49b5b32c1c951bdf8994", func := "plexus/plexuslaw25.DiskFails", spec := "diskFails", unfollowed := true, recurses := true, apart := false }
def DiskFailsSaid : Prop := diskFailsRow.holds Try.pinned (OpenSpec.ofChange diskFailsSpec)

/-- ITS FALSE NEIGHBOUR: 'it returns false'. Refute it at one input. -/
def diskFailsWrong : ChangeSpec := { name := "diskFails", fn := fun _ => fun
  | [d1, d2] => { results := [.lit (.bool false)], args := [d1, d2] }
  | _ => none }
def DiskFailsWrongFalsely : Prop := diskFailsRow.holds Try.pinned (OpenSpec.ofChange diskFailsWrong)

/-- 'plexuslaw25.DiskMemory': WHATEVER THE INPUT: true; the input reads as it did. -/
def diskMemorySpec : ChangeSpec := { name := "diskMemory", fn := fun _ => fun
  | [d] => { results := [.lit (.bool true)], args := [d] }
  | _ => none }
def diskMemoryRow : OpenClaim := { program := "ytdekhojafpkgfaa", sum := "2f207508fd3536087a74910ce26e318eddbc879c21cc49b5b32c1c951bdf8994", func := "plexus/plexuslaw25.DiskMemory", spec := "diskMemory", unfollowed := true, recurses := true, apart := false }
def DiskMemorySaid : Prop := diskMemoryRow.holds Try.pinned (OpenSpec.ofChange diskMemorySpec)

/-- ITS FALSE NEIGHBOUR: 'it returns false'. Refute it at one input. -/
def diskMemoryWrong : ChangeSpec := { name := "diskMemory", fn := fun _ => fun
  | [d] => { results := [.lit (.bool false)], args := [d] }
  | _ => none }
def DiskMemoryWrongFalsely : Prop := diskMemoryRow.holds Try.pinned (OpenSpec.ofChange diskMemoryWrong)

/- THE SECOND FORM. 'bulk': how many values and letters a reading holds, each counted each time it is reached (what is shared counts as often as it is met; a slice's spare places count too). A statement '..UptoSaid' is the law's where the arguments, and the package variables that the reading takes, are together of bulk at most 1048576: NARROWER than '..Said'. Prove '..Said' where nothing that the law and all that it calls make is longer than what came in: it says more and counts as full. Else prove '..UptoSaid'. A law counts once. -/
mutual
def uptoBulk {H : Type} : DataW H → Nat
  | .lit (.string bytes) => bytes.length + 1
  | .lit _ => 1
  | .nil => 1
  | .ptr d => uptoBulk d + 1
  | .slice elems spare => uptoBulkAll elems + uptoBulkAll spare + 1
  | .agg parts => uptoBulkAll parts + 1
  | .iface _ d => uptoBulk d + 1
  | .map entries => uptoBulkEntries entries + 1
  | .held _ => 1
def uptoBulkAll {H : Type} : List (DataW H) → Nat
  | [] => 0
  | d :: r => uptoBulk d + uptoBulkAll r
def uptoBulkEntries {H : Type} : List (Lit × DataW H) → Nat
  | [] => 0
  | x :: r => uptoBulkEntry x + uptoBulkEntries r
def uptoBulkEntry {H : Type} : Lit × DataW H → Nat
  | (.string bytes, d) => bytes.length + uptoBulk d + 1
  | (_, d) => uptoBulk d + 1
 end
def uptoSmall : (H : Type) → List (DataW H) → Bool := fun _ ds => decide (uptoBulkAll ds ≤ 1048576)
def OpenSpec.upto (s : _root_.Go.ChangeSpec) : _root_.Go.OpenSpec := { _root_.Go.OpenSpec.ofChange s with cond := some uptoSmall }

/-- 'plexuslaw25.DiskPlays', WHERE WHAT IT READS IS OF BULK AT MOST 1048576: true; the input reads as it did. -/
def diskPlaysUptoRow : OpenClaim := { program := "ytdekhojafpkgfaa", sum := "2f207508fd3536087a74910ce26e318eddbc879c21cc49b5b32c1c951bdf8994", func := "plexus/plexuslaw25.DiskPlays", spec := "diskPlays", unfollowed := true, recurses := true, apart := false, narrowed := true }
def DiskPlaysUptoSaid : Prop := diskPlaysUptoRow.holds Try.pinned (OpenSpec.upto diskPlaysSpec)

/-- 'plexuslaw25.DiskNew', WHERE WHAT IT READS IS OF BULK AT MOST 1048576: true; the input reads as it did. -/
def diskNewUptoRow : OpenClaim := { program := "ytdekhojafpkgfaa", sum := "2f207508fd3536087a74910ce26e318eddbc879c21cc49b5b32c1c951bdf8994", func := "plexus/plexuslaw25.DiskNew", spec := "diskNew", unfollowed := true, recurses := true, apart := false, narrowed := true }
def DiskNewUptoSaid : Prop := diskNewUptoRow.holds Try.pinned (OpenSpec.upto diskNewSpec)

/-- 'plexuslaw25.DiskAtomic', WHERE WHAT IT READS IS OF BULK AT MOST 1048576: true; the input reads as it did. -/
def diskAtomicUptoRow : OpenClaim := { program := "ytdekhojafpkgfaa", sum := "2f207508fd3536087a74910ce26e318eddbc879c21cc49b5b32c1c951bdf8994", func := "plexus/plexuslaw25.DiskAtomic", spec := "diskAtomic", unfollowed := true, recurses := true, apart := false, narrowed := true }
def DiskAtomicUptoSaid : Prop := diskAtomicUptoRow.holds Try.pinned (OpenSpec.upto diskAtomicSpec)

/-- 'plexuslaw25.DiskSynced', WHERE WHAT IT READS IS OF BULK AT MOST 1048576: true; the input reads as it did. -/
def diskSyncedUptoRow : OpenClaim := { program := "ytdekhojafpkgfaa", sum := "2f207508fd3536087a74910ce26e318eddbc879c21cc49b5b32c1c951bdf8994", func := "plexus/plexuslaw25.DiskSynced", spec := "diskSynced", unfollowed := true, recurses := true, apart := false, narrowed := true }
def DiskSyncedUptoSaid : Prop := diskSyncedUptoRow.holds Try.pinned (OpenSpec.upto diskSyncedSpec)

/-- 'plexuslaw25.DiskFails', WHERE WHAT IT READS IS OF BULK AT MOST 1048576: true; the input reads as it did. -/
def diskFailsUptoRow : OpenClaim := { program := "ytdekhojafpkgfaa", sum := "2f207508fd3536087a74910ce26e318eddbc879c21cc49b5b32c1c951bdf8994", func := "plexus/plexuslaw25.DiskFails", spec := "diskFails", unfollowed := true, recurses := true, apart := false, narrowed := true }
def DiskFailsUptoSaid : Prop := diskFailsUptoRow.holds Try.pinned (OpenSpec.upto diskFailsSpec)

/-- 'plexuslaw25.DiskMemory', WHERE WHAT IT READS IS OF BULK AT MOST 1048576: true; the input reads as it did. -/
def diskMemoryUptoRow : OpenClaim := { program := "ytdekhojafpkgfaa", sum := "2f207508fd3536087a74910ce26e318eddbc879c21cc49b5b32c1c951bdf8994", func := "plexus/plexuslaw25.DiskMemory", spec := "diskMemory", unfollowed := true, recurses := true, apart := false, narrowed := true }
def DiskMemoryUptoSaid : Prop := diskMemoryUptoRow.holds Try.pinned (OpenSpec.upto diskMemorySpec)

end Rows
end Go.Proofs.Ytdekhojafpkgfaa
