/-
  No cell of these rows narrows 'for every input' (looked for: loops, veiled, ifaces, maps, wideKeys, modest, calm, conditions, laid).
  DERIVED. THE GIVEN ROWS OF THIS SEAT. 10 by the template 'for every input the law returns true; each argument reads behind the call as it read before'; 0 by the template 'total and deterministic' (their statements: YtfjccccfkpgmgaaTotals.lean).
  GIVEN WITH THE SEED: the statements are not yours to turn. If you find one false, say at which input.
  Laid BY PROGRAM, IN A SANDBOX (cutbox-rows.mjs): the forced cells as the released guide's own fill.sh prints them over the translation fd5552022d18f40b… (all of the seat's roots in one cut). By AI agents, Wed Nov 11 2026. No macro, syntax, notation, axiom, sorry.
-/
import Derived.Test.YtfjccccfkpgmgaaChecked
import GoSem.Claim
import GoSem.ClaimJoined
import GoSem.ClaimMapViews
import Derived.JoinedTies
import Derived.KernelRfl
namespace Go.Proofs.Ytfjccccfkpgmgaa
/- THE CELL 'sum', in the pinned program and in every row, IS THE sha256 OF THE DUMP (.gsa) THAT YtfjccccfkpgmgaaProg.lean LOADS. Nothing in Lean hashes anything: it is a label: what it is worth is what the hold of that sum in a sandbox is worth. -/
noncomputable def Try.pinned : Pinned := { name := "ytfjccccfkpgmgaa", sum := "fd5552022d18f40b7dbf5721a0c68768f2c018133fdecd6c6011f0ec4c7dec50", checked := Try.checked }
namespace Rows
def none {H : Type} : Left H := { results := [], args := [] }

/-- 'plexuslaw04.OrderSorts': WHATEVER THE INPUT: true; the input reads as it did. -/
def orderSortsSpec : ChangeSpec := { name := "orderSorts", fn := fun _ => fun
  | [d1, d2] => { results := [.lit (.bool true)], args := [d1, d2] }
  | _ => none }
def orderSortsRow : OpenClaim := { program := "ytfjccccfkpgmgaa", sum := "fd5552022d18f40b7dbf5721a0c68768f2c018133fdecd6c6011f0ec4c7dec50", func := "plexus/plexuslaw04.OrderSorts", spec := "orderSorts", unfollowed := true, recurses := true, apart := false }
def OrderSortsSaid : Prop := orderSortsRow.holds Try.pinned (OpenSpec.ofChange orderSortsSpec)

/-- ITS FALSE NEIGHBOUR: 'it returns false'. Refute it at one input. -/
def orderSortsWrong : ChangeSpec := { name := "orderSorts", fn := fun _ => fun
  | [d1, d2] => { results := [.lit (.bool false)], args := [d1, d2] }
  | _ => none }
def OrderSortsWrongFalsely : Prop := orderSortsRow.holds Try.pinned (OpenSpec.ofChange orderSortsWrong)

/-- 'plexuslaw04.OrderChecks': WHATEVER THE INPUT: true; the input reads as it did. -/
def orderChecksSpec : ChangeSpec := { name := "orderChecks", fn := fun _ => fun
  | [d1, d2] => { results := [.lit (.bool true)], args := [d1, d2] }
  | _ => none }
def orderChecksRow : OpenClaim := { program := "ytfjccccfkpgmgaa", sum := "fd5552022d18f40b7dbf5721a0c68768f2c018133fdecd6c6011f0ec4c7dec50", func := "plexus/plexuslaw04.OrderChecks", spec := "orderChecks", unfollowed := true, recurses := true, apart := false }
def OrderChecksSaid : Prop := orderChecksRow.holds Try.pinned (OpenSpec.ofChange orderChecksSpec)

/-- ITS FALSE NEIGHBOUR: 'it returns false'. Refute it at one input. -/
def orderChecksWrong : ChangeSpec := { name := "orderChecks", fn := fun _ => fun
  | [d1, d2] => { results := [.lit (.bool false)], args := [d1, d2] }
  | _ => none }
def OrderChecksWrongFalsely : Prop := orderChecksRow.holds Try.pinned (OpenSpec.ofChange orderChecksWrong)

/-- 'plexuslaw04.OrderReduces': WHATEVER THE INPUT: true; the input reads as it did. -/
def orderReducesSpec : ChangeSpec := { name := "orderReduces", fn := fun _ => fun
  | [d1, d2] => { results := [.lit (.bool true)], args := [d1, d2] }
  | _ => none }
def orderReducesRow : OpenClaim := { program := "ytfjccccfkpgmgaa", sum := "fd5552022d18f40b7dbf5721a0c68768f2c018133fdecd6c6011f0ec4c7dec50", func := "plexus/plexuslaw04.OrderReduces", spec := "orderReduces", unfollowed := true, recurses := true, apart := false }
def OrderReducesSaid : Prop := orderReducesRow.holds Try.pinned (OpenSpec.ofChange orderReducesSpec)

/-- ITS FALSE NEIGHBOUR: 'it returns false'. Refute it at one input. -/
def orderReducesWrong : ChangeSpec := { name := "orderReduces", fn := fun _ => fun
  | [d1, d2] => { results := [.lit (.bool false)], args := [d1, d2] }
  | _ => none }
def OrderReducesWrongFalsely : Prop := orderReducesRow.holds Try.pinned (OpenSpec.ofChange orderReducesWrong)

/-- 'plexuslaw04.OrderMinimal': WHATEVER THE INPUT: true; the input reads as it did. -/
def orderMinimalSpec : ChangeSpec := { name := "orderMinimal", fn := fun _ => fun
  | [d1, d2] => { results := [.lit (.bool true)], args := [d1, d2] }
  | _ => none }
def orderMinimalRow : OpenClaim := { program := "ytfjccccfkpgmgaa", sum := "fd5552022d18f40b7dbf5721a0c68768f2c018133fdecd6c6011f0ec4c7dec50", func := "plexus/plexuslaw04.OrderMinimal", spec := "orderMinimal", unfollowed := true, recurses := true, apart := false }
def OrderMinimalSaid : Prop := orderMinimalRow.holds Try.pinned (OpenSpec.ofChange orderMinimalSpec)

/-- ITS FALSE NEIGHBOUR: 'it returns false'. Refute it at one input. -/
def orderMinimalWrong : ChangeSpec := { name := "orderMinimal", fn := fun _ => fun
  | [d1, d2] => { results := [.lit (.bool false)], args := [d1, d2] }
  | _ => none }
def OrderMinimalWrongFalsely : Prop := orderMinimalRow.holds Try.pinned (OpenSpec.ofChange orderMinimalWrong)

/-- 'plexuslaw04.OrderLevels': WHATEVER THE INPUT: true; the input reads as it did. -/
def orderLevelsSpec : ChangeSpec := { name := "orderLevels", fn := fun _ => fun
  | [d1, d2] => { results := [.lit (.bool true)], args := [d1, d2] }
  | _ => none }
def orderLevelsRow : OpenClaim := { program := "ytfjccccfkpgmgaa", sum := "fd5552022d18f40b7dbf5721a0c68768f2c018133fdecd6c6011f0ec4c7dec50", func := "plexus/plexuslaw04.OrderLevels", spec := "orderLevels", unfollowed := true, recurses := true, apart := false }
def OrderLevelsSaid : Prop := orderLevelsRow.holds Try.pinned (OpenSpec.ofChange orderLevelsSpec)

/-- ITS FALSE NEIGHBOUR: 'it returns false'. Refute it at one input. -/
def orderLevelsWrong : ChangeSpec := { name := "orderLevels", fn := fun _ => fun
  | [d1, d2] => { results := [.lit (.bool false)], args := [d1, d2] }
  | _ => none }
def OrderLevelsWrongFalsely : Prop := orderLevelsRow.holds Try.pinned (OpenSpec.ofChange orderLevelsWrong)

/-- 'plexuslaw04.OrderMirsky': WHATEVER THE INPUT: true; the input reads as it did. -/
def orderMirskySpec : ChangeSpec := { name := "orderMirsky", fn := fun _ => fun
  | [d1, d2] => { results := [.lit (.bool true)], args := [d1, d2] }
  | _ => none }
def orderMirskyRow : OpenClaim := { program := "ytfjccccfkpgmgaa", sum := "fd5552022d18f40b7dbf5721a0c68768f2c018133fdecd6c6011f0ec4c7dec50", func := "plexus/plexuslaw04.OrderMirsky", spec := "orderMirsky", unfollowed := true, recurses := true, apart := false }
def OrderMirskySaid : Prop := orderMirskyRow.holds Try.pinned (OpenSpec.ofChange orderMirskySpec)

/-- ITS FALSE NEIGHBOUR: 'it returns false'. Refute it at one input. -/
def orderMirskyWrong : ChangeSpec := { name := "orderMirsky", fn := fun _ => fun
  | [d1, d2] => { results := [.lit (.bool false)], args := [d1, d2] }
  | _ => none }
def OrderMirskyWrongFalsely : Prop := orderMirskyRow.holds Try.pinned (OpenSpec.ofChange orderMirskyWrong)

/-- 'plexuslaw04.OrderDilworth': WHATEVER THE INPUT: true; the input reads as it did. -/
def orderDilworthSpec : ChangeSpec := { name := "orderDilworth", fn := fun _ => fun
  | [d1, d2] => { results := [.lit (.bool true)], args := [d1, d2] }
  | _ => none }
def orderDilworthRow : OpenClaim := { program := "ytfjccccfkpgmgaa", sum := "fd5552022d18f40b7dbf5721a0c68768f2c018133fdecd6c6011f0ec4c7dec50", func := "plexus/plexuslaw04.OrderDilworth", spec := "orderDilworth", unfollowed := true, recurses := true, apart := false }
def OrderDilworthSaid : Prop := orderDilworthRow.holds Try.pinned (OpenSpec.ofChange orderDilworthSpec)

/-- ITS FALSE NEIGHBOUR: 'it returns false'. Refute it at one input. -/
def orderDilworthWrong : ChangeSpec := { name := "orderDilworth", fn := fun _ => fun
  | [d1, d2] => { results := [.lit (.bool false)], args := [d1, d2] }
  | _ => none }
def OrderDilworthWrongFalsely : Prop := orderDilworthRow.holds Try.pinned (OpenSpec.ofChange orderDilworthWrong)

/-- 'plexuslaw04.OrderExtremes': WHATEVER THE INPUT: true; the input reads as it did. -/
def orderExtremesSpec : ChangeSpec := { name := "orderExtremes", fn := fun _ => fun
  | [d1, d2] => { results := [.lit (.bool true)], args := [d1, d2] }
  | _ => none }
def orderExtremesRow : OpenClaim := { program := "ytfjccccfkpgmgaa", sum := "fd5552022d18f40b7dbf5721a0c68768f2c018133fdecd6c6011f0ec4c7dec50", func := "plexus/plexuslaw04.OrderExtremes", spec := "orderExtremes", unfollowed := true, recurses := true, apart := false }
def OrderExtremesSaid : Prop := orderExtremesRow.holds Try.pinned (OpenSpec.ofChange orderExtremesSpec)

/-- ITS FALSE NEIGHBOUR: 'it returns false'. Refute it at one input. -/
def orderExtremesWrong : ChangeSpec := { name := "orderExtremes", fn := fun _ => fun
  | [d1, d2] => { results := [.lit (.bool false)], args := [d1, d2] }
  | _ => none }
def OrderExtremesWrongFalsely : Prop := orderExtremesRow.holds Try.pinned (OpenSpec.ofChange orderExtremesWrong)

/-- 'plexuslaw04.OrderDownsets': WHATEVER THE INPUT: true; the input reads as it did. -/
def orderDownsetsSpec : ChangeSpec := { name := "orderDownsets", fn := fun _ => fun
  | [d1, d2, d3] => { results := [.lit (.bool true)], args := [d1, d2, d3] }
  | _ => none }
def orderDownsetsRow : OpenClaim := { program := "ytfjccccfkpgmgaa", sum := "fd5552022d18f40b7dbf5721a0c68768f2c018133fdecd6c6011f0ec4c7dec50", func := "plexus/plexuslaw04.OrderDownsets", spec := "orderDownsets", unfollowed := true, recurses := true, apart := false }
def OrderDownsetsSaid : Prop := orderDownsetsRow.holds Try.pinned (OpenSpec.ofChange orderDownsetsSpec)

/-- ITS FALSE NEIGHBOUR: 'it returns false'. Refute it at one input. -/
def orderDownsetsWrong : ChangeSpec := { name := "orderDownsets", fn := fun _ => fun
  | [d1, d2, d3] => { results := [.lit (.bool false)], args := [d1, d2, d3] }
  | _ => none }
def OrderDownsetsWrongFalsely : Prop := orderDownsetsRow.holds Try.pinned (OpenSpec.ofChange orderDownsetsWrong)

/-- 'plexuslaw04.OrderFaults': WHATEVER THE INPUT: true; the input reads as it did. -/
def orderFaultsSpec : ChangeSpec := { name := "orderFaults", fn := fun _ => fun
  | [d1, d2, d3] => { results := [.lit (.bool true)], args := [d1, d2, d3] }
  | _ => none }
def orderFaultsRow : OpenClaim := { program := "ytfjccccfkpgmgaa", sum := "fd5552022d18f40b7dbf5721a0c68768f2c018133fdecd6c6011f0ec4c7dec50", func := "plexus/plexuslaw04.OrderFaults", spec := "orderFaults", unfollowed := true, recurses := true, apart := false }
def OrderFaultsSaid : Prop := orderFaultsRow.holds Try.pinned (OpenSpec.ofChange orderFaultsSpec)

/-- ITS FALSE NEIGHBOUR: 'it returns false'. Refute it at one input. -/
def orderFaultsWrong : ChangeSpec := { name := "orderFaults", fn := fun _ => fun
  | [d1, d2, d3] => { results := [.lit (.bool false)], args := [d1, d2, d3] }
  | _ => none }
def OrderFaultsWrongFalsely : Prop := orderFaultsRow.holds Try.pinned (OpenSpec.ofChange orderFaultsWrong)

/- THE SECOND FORM. 'bulk': how many values and letters a reading holds, each counted each time it is reached (what is shared counts as often as it is met; a slice's spare places count too). A statement '..UptoSaid' is the law's where the arguments, and the package variables that the reading takes, are together of bulk at most 1048576: NARROWER than '..Said'. Prove '..Said' where nothing that the law and all that it calls make is longer than what came in: it says more and counts as full. Else prove '..UptoSaid'. A law counts once. -/
mutual
def uptoBulk {H : Type} : DataW H → Nat
  | .lit (.string bytes) => bytes.length + 1
  | .lit _ => 1
  | .nil => 1
  | .ptr d => uptoBulk d + 1
  | .slice elems spare => uptoBulkAll elems + uptoBulkAll spare + 1
  | .agg parts => uptoBulkAll parts + 1
  | .iface _ d => uptoBulk d + 1
  | .map entries => uptoBulkEntries entries + 1
  | .held _ => 1
def uptoBulkAll {H : Type} : List (DataW H) → Nat
  | [] => 0
  | d :: r => uptoBulk d + uptoBulkAll r
def uptoBulkEntries {H : Type} : List (Lit × DataW H) → Nat
  | [] => 0
  | x :: r => uptoBulkEntry x + uptoBulkEntries r
def uptoBulkEntry {H : Type} : Lit × DataW H → Nat
  | (.string bytes, d) => bytes.length + uptoBulk d + 1
  | (_, d) => uptoBulk d + 1
 end
def uptoSmall : (H : Type) → List (DataW H) → Bool := fun _ ds => decide (uptoBulkAll ds ≤ 1048576)
def OpenSpec.upto (s : _root_.Go.ChangeSpec) : _root_.Go.OpenSpec := { _root_.Go.OpenSpec.ofChange s with cond := some uptoSmall }

/-- 'plexuslaw04.OrderSorts', WHERE WHAT IT READS IS OF BULK AT MOST 1048576: true; the input reads as it did. -/
def orderSortsUptoRow : OpenClaim := { program := "ytfjccccfkpgmgaa", sum := "fd5552022d18f40b7dbf5721a0c68768f2c018133fdecd6c6011f0ec4c7dec50", func := "plexus/plexuslaw04.OrderSorts", spec := "orderSorts", unfollowed := true, recurses := true, apart := false, narrowed := true }
def OrderSortsUptoSaid : Prop := orderSortsUptoRow.holds Try.pinned (OpenSpec.upto orderSortsSpec)

/-- 'plexuslaw04.OrderChecks', WHERE WHAT IT READS IS OF BULK AT MOST 1048576: true; the input reads as it did. -/
def orderChecksUptoRow : OpenClaim := { program := "ytfjccccfkpgmgaa", sum := "fd5552022d18f40b7dbf5721a0c68768f2c018133fdecd6c6011f0ec4c7dec50", func := "plexus/plexuslaw04.OrderChecks", spec := "orderChecks", unfollowed := true, recurses := true, apart := false, narrowed := true }
def OrderChecksUptoSaid : Prop := orderChecksUptoRow.holds Try.pinned (OpenSpec.upto orderChecksSpec)

/-- 'plexuslaw04.OrderReduces', WHERE WHAT IT READS IS OF BULK AT MOST 1048576: true; the input reads as it did. -/
def orderReducesUptoRow : OpenClaim := { program := "ytfjccccfkpgmgaa", sum := "fd5552022d18f40b7dbf5721a0c68768f2c018133fdecd6c6011f0ec4c7dec50", func := "plexus/plexuslaw04.OrderReduces", spec := "orderReduces", unfollowed := true, recurses := true, apart := false, narrowed := true }
def OrderReducesUptoSaid : Prop := orderReducesUptoRow.holds Try.pinned (OpenSpec.upto orderReducesSpec)

/-- 'plexuslaw04.OrderMinimal', WHERE WHAT IT READS IS OF BULK AT MOST 1048576: true; the input reads as it did. -/
def orderMinimalUptoRow : OpenClaim := { program := "ytfjccccfkpgmgaa", sum := "fd5552022d18f40b7dbf5721a0c68768f2c018133fdecd6c6011f0ec4c7dec50", func := "plexus/plexuslaw04.OrderMinimal", spec := "orderMinimal", unfollowed := true, recurses := true, apart := false, narrowed := true }
def OrderMinimalUptoSaid : Prop := orderMinimalUptoRow.holds Try.pinned (OpenSpec.upto orderMinimalSpec)

/-- 'plexuslaw04.OrderLevels', WHERE WHAT IT READS IS OF BULK AT MOST 1048576: true; the input reads as it did. -/
def orderLevelsUptoRow : OpenClaim := { program := "ytfjccccfkpgmgaa", sum := "fd5552022d18f40b7dbf5721a0c68768f2c018133fdecd6c6011f0ec4c7dec50", func := "plexus/plexuslaw04.OrderLevels", spec := "orderLevels", unfollowed := true, recurses := true, apart := false, narrowed := true }
def OrderLevelsUptoSaid : Prop := orderLevelsUptoRow.holds Try.pinned (OpenSpec.upto orderLevelsSpec)

/-- 'plexuslaw04.OrderMirsky', WHERE WHAT IT READS IS OF BULK AT MOST 1048576: true; the input reads as it did. -/
def orderMirskyUptoRow : OpenClaim := { program := "ytfjccccfkpgmgaa", sum := "fd5552022d18f40b7dbf5721a0c68768f2c018133fdecd6c6011f0ec4c7dec50", func := "plexus/plexuslaw04.OrderMirsky", spec := "orderMirsky", unfollowed := true, recurses := true, apart := false, narrowed := true }
def OrderMirskyUptoSaid : Prop := orderMirskyUptoRow.holds Try.pinned (OpenSpec.upto orderMirskySpec)

/-- 'plexuslaw04.OrderDilworth', WHERE WHAT IT READS IS OF BULK AT MOST 1048576: true; the input reads as it did. -/
def orderDilworthUptoRow : OpenClaim := { program := "ytfjccccfkpgmgaa", sum := "fd5552022d18f40b7dbf5721a0c68768f2c018133fdecd6c6011f0ec4c7dec50", func := "plexus/plexuslaw04.OrderDilworth", spec := "orderDilworth", unfollowed := true, recurses := true, apart := false, narrowed := true }
def OrderDilworthUptoSaid : Prop := orderDilworthUptoRow.holds Try.pinned (OpenSpec.upto orderDilworthSpec)

/-- 'plexuslaw04.OrderExtremes', WHERE WHAT IT READS IS OF BULK AT MOST 1048576: true; the input reads as it did. -/
def orderExtremesUptoRow : OpenClaim := { program := "ytfjccccfkpgmgaa", sum := "fd5552022d18f40b7dbf5721a0c68768f2c018133fdecd6c6011f0ec4c7dec50", func := "plexus/plexuslaw04.OrderExtremes", spec := "orderExtremes", unfollowed := true, recurses := true, apart := false, narrowed := true }
def OrderExtremesUptoSaid : Prop := orderExtremesUptoRow.holds Try.pinned (OpenSpec.upto orderExtremesSpec)

/-- 'plexuslaw04.OrderDownsets', WHERE WHAT IT READS IS OF BULK AT MOST 1048576: true; the input reads as it did. -/
def orderDownsetsUptoRow : OpenClaim := { program := "ytfjccccfkpgmgaa", sum := "fd5552022d18f40b7dbf5721a0c68768f2c018133fdecd6c6011f0ec4c7dec50", func := "plexus/plexuslaw04.OrderDownsets", spec := "orderDownsets", unfollowed := true, recurses := true, apart := false, narrowed := true }
def OrderDownsetsUptoSaid : Prop := orderDownsetsUptoRow.holds Try.pinned (OpenSpec.upto orderDownsetsSpec)

/-- 'plexuslaw04.OrderFaults', WHERE WHAT IT READS IS OF BULK AT MOST 1048576: true; the input reads as it did. -/
def orderFaultsUptoRow : OpenClaim := { program := "ytfjccccfkpgmgaa", sum := "fd5552022d18f40b7dbf5721a0c68768f2c018133fdecd6c6011f0ec4c7dec50", func := "plexus/plexuslaw04.OrderFaults", spec := "orderFaults", unfollowed := true, recurses := true, apart := false, narrowed := true }
def OrderFaultsUptoSaid : Prop := orderFaultsUptoRow.holds Try.pinned (OpenSpec.upto orderFaultsSpec)

end Rows
end Go.Proofs.Ytfjccccfkpgmgaa
