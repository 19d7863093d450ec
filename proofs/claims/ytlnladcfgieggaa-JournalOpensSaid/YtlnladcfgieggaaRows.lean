/-
  No cell of these rows narrows 'for every input' (looked for: loops, veiled, ifaces, maps, wideKeys, modest, calm, conditions, laid).
  DERIVED. THE GIVEN ROWS OF THIS SEAT. 8 by the template 'for every input the law returns true; each argument reads behind the call as it read before'; 0 by the template 'total and deterministic' (their statements: YtlnladcfgieggaaTotals.lean).
  GIVEN WITH THE SEED: the statements are not yours to turn. If you find one false, say at which input.
  Laid BY PROGRAM, IN A SANDBOX (cutbox-rows.mjs): the forced cells as the released guide's own fill.sh prints them over the translation 522b553d8d137096… (all of the seat's roots in one cut). By AI agents, Wed Nov 11 2026. No macro, syntax, notation, axiom, sorry.
-/
import Derived.Test.YtlnladcfgieggaaChecked
import GoSem.Claim
import GoSem.ClaimJoined
import GoSem.ClaimMapViews
import Derived.JoinedTies
import Derived.KernelRfl
namespace Go.Proofs.Ytlnladcfgieggaa
/- THE CELL 'sum', in the pinned program and in every row, IS THE sha256 OF THE DUMP (.gsa) THAT YtlnladcfgieggaaProg.lean LOADS. Nothing in Lean hashes anything: it is a label: what it is worth is what the hold of that sum in a sandbox is worth. -/
noncomputable def Try.pinned : Pinned := { name := "ytlnladcfgieggaa", sum := "522b553d8d137096c59337a3ca093af974e1a7390a656116482b219584dbc700", checked := Try.checked }
namespace Rows
def none {H : Type} : Left H := { results := [], args := [] }

/-- 'plexuslaw26.JournalRecords': WHATEVER THE INPUT: true; the input reads as it did. -/
def journalRecordsSpec : ChangeSpec := { name := "journalRecords", fn := fun _ => fun
  | [d1, d2, d3] => { results := [.lit (.bool true)], args := [d1, d2, d3] }
  | _ => none }
def journalRecordsRow : OpenClaim := { program := "ytlnladcfgieggaa", sum := "522b553d8d137096c59337a3ca093af974e1a7390a656116482b219584dbc700", func := "plexus/plexuslaw26.JournalRecords", spec := "journalRecords", unfollowed := true, recurses := true, apart := false }
def JournalRecordsSaid : Prop := journalRecordsRow.holds Try.pinned (OpenSpec.ofChange journalRecordsSpec)

/-- ITS FALSE NEIGHBOUR: 'it returns false'. Refute it at one input. -/
def journalRecordsWrong : ChangeSpec := { name := "journalRecords", fn := fun _ => fun
  | [d1, d2, d3] => { results := [.lit (.bool false)], args := [d1, d2, d3] }
  | _ => none }
def JournalRecordsWrongFalsely : Prop := journalRecordsRow.holds Try.pinned (OpenSpec.ofChange journalRecordsWrong)

/-- 'plexuslaw26.JournalLeft': WHATEVER THE INPUT: true; the input reads as it did. -/
def journalLeftSpec : ChangeSpec := { name := "journalLeft", fn := fun _ => fun
  | [d1, d2, d3] => { results := [.lit (.bool true)], args := [d1, d2, d3] }
  | _ => none }
def journalLeftRow : OpenClaim := { program := "ytlnladcfgieggaa", sum := "522b553d8d137096c59337a3ca093af974e1a7390a656116482b219584dbc700", func := "plexus/plexuslaw26.JournalLeft", spec := "journalLeft", unfollowed := true, recurses := true, apart := false }
def JournalLeftSaid : Prop := journalLeftRow.holds Try.pinned (OpenSpec.ofChange journalLeftSpec)

/-- ITS FALSE NEIGHBOUR: 'it returns false'. Refute it at one input. -/
def journalLeftWrong : ChangeSpec := { name := "journalLeft", fn := fun _ => fun
  | [d1, d2, d3] => { results := [.lit (.bool false)], args := [d1, d2, d3] }
  | _ => none }
def JournalLeftWrongFalsely : Prop := journalLeftRow.holds Try.pinned (OpenSpec.ofChange journalLeftWrong)

/-- 'plexuslaw26.JournalApart': WHATEVER THE INPUT: true; the input reads as it did. -/
def journalApartSpec : ChangeSpec := { name := "journalApart", fn := fun _ => fun
  | [d1, d2, d3, d4] => { results := [.lit (.bool true)], args := [d1, d2, d3, d4] }
  | _ => none }
def journalApartRow : OpenClaim := { program := "ytlnladcfgieggaa", sum := "522b553d8d137096c59337a3ca093af974e1a7390a656116482b219584dbc700", func := "plexus/plexuslaw26.JournalApart", spec := "journalApart", unfollowed := true, recurses := true, apart := false }
def JournalApartSaid : Prop := journalApartRow.holds Try.pinned (OpenSpec.ofChange journalApartSpec)

/-- ITS FALSE NEIGHBOUR: 'it returns false'. Refute it at one input. -/
def journalApartWrong : ChangeSpec := { name := "journalApart", fn := fun _ => fun
  | [d1, d2, d3, d4] => { results := [.lit (.bool false)], args := [d1, d2, d3, d4] }
  | _ => none }
def JournalApartWrongFalsely : Prop := journalApartRow.holds Try.pinned (OpenSpec.ofChange journalApartWrong)

/-- 'plexuslaw26.JournalOpens': WHATEVER THE INPUT: true; the input reads as it did. -/
def journalOpensSpec : ChangeSpec := { name := "journalOpens", fn := fun _ => fun
  | [d1, d2, d3, d4] => { results := [.lit (.bool true)], args := [d1, d2, d3, d4] }
  | _ => none }
def journalOpensRow : OpenClaim := { program := "ytlnladcfgieggaa", sum := "522b553d8d137096c59337a3ca093af974e1a7390a656116482b219584dbc700", func := "plexus/plexuslaw26.JournalOpens", spec := "journalOpens", unfollowed := true, recurses := true, apart := false }
def JournalOpensSaid : Prop := journalOpensRow.holds Try.pinned (OpenSpec.ofChange journalOpensSpec)

/-- ITS FALSE NEIGHBOUR: 'it returns false'. Refute it at one input. -/
def journalOpensWrong : ChangeSpec := { name := "journalOpens", fn := fun _ => fun
  | [d1, d2, d3, d4] => { results := [.lit (.bool false)], args := [d1, d2, d3, d4] }
  | _ => none }
def JournalOpensWrongFalsely : Prop := journalOpensRow.holds Try.pinned (OpenSpec.ofChange journalOpensWrong)

/-- 'plexuslaw26.JournalHolds': WHATEVER THE INPUT: true; the input reads as it did. -/
def journalHoldsSpec : ChangeSpec := { name := "journalHolds", fn := fun _ => fun
  | [d1, d2, d3] => { results := [.lit (.bool true)], args := [d1, d2, d3] }
  | _ => none }
def journalHoldsRow : OpenClaim := { program := "ytlnladcfgieggaa", sum := "522b553d8d137096c59337a3ca093af974e1a7390a656116482b219584dbc700", func := "plexus/plexuslaw26.JournalHolds", spec := "journalHolds", unfollowed := true, recurses := true, apart := false }
def JournalHoldsSaid : Prop := journalHoldsRow.holds Try.pinned (OpenSpec.ofChange journalHoldsSpec)

/-- ITS FALSE NEIGHBOUR: 'it returns false'. Refute it at one input. -/
def journalHoldsWrong : ChangeSpec := { name := "journalHolds", fn := fun _ => fun
  | [d1, d2, d3] => { results := [.lit (.bool false)], args := [d1, d2, d3] }
  | _ => none }
def JournalHoldsWrongFalsely : Prop := journalHoldsRow.holds Try.pinned (OpenSpec.ofChange journalHoldsWrong)

/-- 'plexuslaw26.JournalCrash': WHATEVER THE INPUT: true; the input reads as it did. -/
def journalCrashSpec : ChangeSpec := { name := "journalCrash", fn := fun _ => fun
  | [d1, d2, d3, d4, d5] => { results := [.lit (.bool true)], args := [d1, d2, d3, d4, d5] }
  | _ => none }
def journalCrashRow : OpenClaim := { program := "ytlnladcfgieggaa", sum := "522b553d8d137096c59337a3ca093af974e1a7390a656116482b219584dbc700", func := "plexus/plexuslaw26.JournalCrash", spec := "journalCrash", unfollowed := true, recurses := true, apart := false }
def JournalCrashSaid : Prop := journalCrashRow.holds Try.pinned (OpenSpec.ofChange journalCrashSpec)

/-- ITS FALSE NEIGHBOUR: 'it returns false'. Refute it at one input. -/
def journalCrashWrong : ChangeSpec := { name := "journalCrash", fn := fun _ => fun
  | [d1, d2, d3, d4, d5] => { results := [.lit (.bool false)], args := [d1, d2, d3, d4, d5] }
  | _ => none }
def JournalCrashWrongFalsely : Prop := journalCrashRow.holds Try.pinned (OpenSpec.ofChange journalCrashWrong)

/-- 'plexuslaw26.JournalAgain': WHATEVER THE INPUT: true; the input reads as it did. -/
def journalAgainSpec : ChangeSpec := { name := "journalAgain", fn := fun _ => fun
  | [d1, d2, d3, d4, d5, d6, d7, d8] => { results := [.lit (.bool true)], args := [d1, d2, d3, d4, d5, d6, d7, d8] }
  | _ => none }
def journalAgainRow : OpenClaim := { program := "ytlnladcfgieggaa", sum := "522b553d8d137096c59337a3ca093af974e1a7390a656116482b219584dbc700", func := "plexus/plexuslaw26.JournalAgain", spec := "journalAgain", unfollowed := true, recurses := true, apart := false }
def JournalAgainSaid : Prop := journalAgainRow.holds Try.pinned (OpenSpec.ofChange journalAgainSpec)

/-- ITS FALSE NEIGHBOUR: 'it returns false'. Refute it at one input. -/
def journalAgainWrong : ChangeSpec := { name := "journalAgain", fn := fun _ => fun
  | [d1, d2, d3, d4, d5, d6, d7, d8] => { results := [.lit (.bool false)], args := [d1, d2, d3, d4, d5, d6, d7, d8] }
  | _ => none }
def JournalAgainWrongFalsely : Prop := journalAgainRow.holds Try.pinned (OpenSpec.ofChange journalAgainWrong)

/-- 'plexuslaw26.JournalDown': WHATEVER THE INPUT: true; the input reads as it did. -/
def journalDownSpec : ChangeSpec := { name := "journalDown", fn := fun _ => fun
  | [d1, d2, d3, d4, d5, d6] => { results := [.lit (.bool true)], args := [d1, d2, d3, d4, d5, d6] }
  | _ => none }
def journalDownRow : OpenClaim := { program := "ytlnladcfgieggaa", sum := "522b553d8d137096c59337a3ca093af974e1a7390a656116482b219584dbc700", func := "plexus/plexuslaw26.JournalDown", spec := "journalDown", unfollowed := true, recurses := true, apart := false }
def JournalDownSaid : Prop := journalDownRow.holds Try.pinned (OpenSpec.ofChange journalDownSpec)

/-- ITS FALSE NEIGHBOUR: 'it returns false'. Refute it at one input. -/
def journalDownWrong : ChangeSpec := { name := "journalDown", fn := fun _ => fun
  | [d1, d2, d3, d4, d5, d6] => { results := [.lit (.bool false)], args := [d1, d2, d3, d4, d5, d6] }
  | _ => none }
def JournalDownWrongFalsely : Prop := journalDownRow.holds Try.pinned (OpenSpec.ofChange journalDownWrong)

/- THE SECOND FORM. 'bulk': how many values and letters a reading holds, each counted each time it is reached (what is shared counts as often as it is met; a slice's spare places count too). A statement '..UptoSaid' is the law's where the arguments, and the package variables that the reading takes, are together of bulk at most 1048576: NARROWER than '..Said'. Prove '..Said' where nothing that the law and all that it calls make is longer than what came in: it says more and counts as full. Else prove '..UptoSaid'. A law counts once. -/
mutual
def uptoBulk {H : Type} : DataW H → Nat
  | .lit (.string bytes) => bytes.length + 1
  | .lit _ => 1
  | .nil => 1
  | .ptr d => uptoBulk d + 1
  | .slice elems spare => uptoBulkAll elems + uptoBulkAll spare + 1
  | .agg parts => uptoBulkAll parts + 1
  | .iface _ d => uptoBulk d + 1
  | .map entries => uptoBulkEntries entries + 1
  | .held _ => 1
def uptoBulkAll {H : Type} : List (DataW H) → Nat
  | [] => 0
  | d :: r => uptoBulk d + uptoBulkAll r
def uptoBulkEntries {H : Type} : List (Lit × DataW H) → Nat
  | [] => 0
  | x :: r => uptoBulkEntry x + uptoBulkEntries r
def uptoBulkEntry {H : Type} : Lit × DataW H → Nat
  | (.string bytes, d) => bytes.length + uptoBulk d + 1
  | (_, d) => uptoBulk d + 1
 end
def uptoSmall : (H : Type) → List (DataW H) → Bool := fun _ ds => decide (uptoBulkAll ds ≤ 1048576)
def OpenSpec.upto (s : _root_.Go.ChangeSpec) : _root_.Go.OpenSpec := { _root_.Go.OpenSpec.ofChange s with cond := some uptoSmall }

/-- 'plexuslaw26.JournalRecords', WHERE WHAT IT READS IS OF BULK AT MOST 1048576: true; the input reads as it did. -/
def journalRecordsUptoRow : OpenClaim := { program := "ytlnladcfgieggaa", sum := "522b553d8d137096c59337a3ca093af974e1a7390a656116482b219584dbc700", func := "plexus/plexuslaw26.JournalRecords", spec := "journalRecords", unfollowed := true, recurses := true, apart := false, narrowed := true }
def JournalRecordsUptoSaid : Prop := journalRecordsUptoRow.holds Try.pinned (OpenSpec.upto journalRecordsSpec)

/-- 'plexuslaw26.JournalLeft', WHERE WHAT IT READS IS OF BULK AT MOST 1048576: true; the input reads as it did. -/
def journalLeftUptoRow : OpenClaim := { program := "ytlnladcfgieggaa", sum := "522b553d8d137096c59337a3ca093af974e1a7390a656116482b219584dbc700", func := "plexus/plexuslaw26.JournalLeft", spec := "journalLeft", unfollowed := true, recurses := true, apart := false, narrowed := true }
def JournalLeftUptoSaid : Prop := journalLeftUptoRow.holds Try.pinned (OpenSpec.upto journalLeftSpec)

/-- 'plexuslaw26.JournalApart', WHERE WHAT IT READS IS OF BULK AT MOST 1048576: true; the input reads as it did. -/
def journalApartUptoRow : OpenClaim := { program := "ytlnladcfgieggaa", sum := "522b553d8d137096c59337a3ca093af974e1a7390a656116482b219584dbc700", func := "plexus/plexuslaw26.JournalApart", spec := "journalApart", unfollowed := true, recurses := true, apart := false, narrowed := true }
def JournalApartUptoSaid : Prop := journalApartUptoRow.holds Try.pinned (OpenSpec.upto journalApartSpec)

/-- 'plexuslaw26.JournalOpens', WHERE WHAT IT READS IS OF BULK AT MOST 1048576: true; the input reads as it did. -/
def journalOpensUptoRow : OpenClaim := { program := "ytlnladcfgieggaa", sum := "522b553d8d137096c59337a3ca093af974e1a7390a656116482b219584dbc700", func := "plexus/plexuslaw26.JournalOpens", spec := "journalOpens", unfollowed := true, recurses := true, apart := false, narrowed := true }
def JournalOpensUptoSaid : Prop := journalOpensUptoRow.holds Try.pinned (OpenSpec.upto journalOpensSpec)

/-- 'plexuslaw26.JournalHolds', WHERE WHAT IT READS IS OF BULK AT MOST 1048576: true; the input reads as it did. -/
def journalHoldsUptoRow : OpenClaim := { program := "ytlnladcfgieggaa", sum := "522b553d8d137096c59337a3ca093af974e1a7390a656116482b219584dbc700", func := "plexus/plexuslaw26.JournalHolds", spec := "journalHolds", unfollowed := true, recurses := true, apart := false, narrowed := true }
def JournalHoldsUptoSaid : Prop := journalHoldsUptoRow.holds Try.pinned (OpenSpec.upto journalHoldsSpec)

/-- 'plexuslaw26.JournalCrash', WHERE WHAT IT READS IS OF BULK AT MOST 1048576: true; the input reads as it did. -/
def journalCrashUptoRow : OpenClaim := { program := "ytlnladcfgieggaa", sum := "522b553d8d137096c59337a3ca093af974e1a7390a656116482b219584dbc700", func := "plexus/plexuslaw26.JournalCrash", spec := "journalCrash", unfollowed := true, recurses := true, apart := false, narrowed := true }
def JournalCrashUptoSaid : Prop := journalCrashUptoRow.holds Try.pinned (OpenSpec.upto journalCrashSpec)

/-- 'plexuslaw26.JournalAgain', WHERE WHAT IT READS IS OF BULK AT MOST 1048576: true; the input reads as it did. -/
def journalAgainUptoRow : OpenClaim := { program := "ytlnladcfgieggaa", sum := "522b553d8d137096c59337a3ca093af974e1a7390a656116482b219584dbc700", func := "plexus/plexuslaw26.JournalAgain", spec := "journalAgain", unfollowed := true, recurses := true, apart := false, narrowed := true }
def JournalAgainUptoSaid : Prop := journalAgainUptoRow.holds Try.pinned (OpenSpec.upto journalAgainSpec)

/-- 'plexuslaw26.JournalDown', WHERE WHAT IT READS IS OF BULK AT MOST 1048576: true; the input reads as it did. -/
def journalDownUptoRow : OpenClaim := { program := "ytlnladcfgieggaa", sum := "522b553d8d137096c59337a3ca093af974e1a7390a656116482b219584dbc700", func := "plexus/plexuslaw26.JournalDown", spec := "journalDown", unfollowed := true, recurses := true, apart := false, narrowed := true }
def JournalDownUptoSaid : Prop := journalDownUptoRow.holds Try.pinned (OpenSpec.upto journalDownSpec)

end Rows
end Go.Proofs.Ytlnladcfgieggaa
