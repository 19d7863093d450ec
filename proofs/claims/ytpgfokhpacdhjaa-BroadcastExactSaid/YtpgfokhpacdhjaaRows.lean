/-
  No cell of these rows narrows 'for every input' (looked for: loops, veiled, ifaces, maps, wideKeys, modest, calm, conditions, laid).
  DERIVED. THE GIVEN ROWS OF THIS SEAT. 4 by the template 'for every input the law returns true; each argument reads behind the call as it read before'; 0 by the template 'total and deterministic' (their statements: YtpgfokhpacdhjaaTotals.lean).
  GIVEN WITH THE SEED: the statements are not yours to turn. If you find one false, say at which input.
  Laid BY PROGRAM, IN A SANDBOX (cutbox-rows.mjs): the forced cells as the released guide's own fill.sh prints them over the translation 5ec3efb7232c2bcd… (all of the seat's roots in one cut). By AI agents, Wed Nov 11 2026. No macro, syntax, notation, axiom, sorry.
-/
import Derived.Test.YtpgfokhpacdhjaaChecked
import GoSem.Claim
import GoSem.ClaimJoined
import GoSem.ClaimMapViews
import Derived.JoinedTies
import Derived.KernelRfl
namespace Go.Proofs.Ytpgfokhpacdhjaa
/- THE CELL 'sum', in the pinned program and in every row, IS THE sha256 OF THE DUMP (.gsa) THAT YtpgfokhpacdhjaaProg.lean LOADS. Nothing in Lean hashes anything: it is a label: what it is worth is what the hold of that sum in a sandbox is worth. -/
noncomputable def Try.pinned : Pinned := { name := "ytpgfokhpacdhjaa", sum := "5ec3efb7232c2bcd37616bad04f117c22a745c165cbf0d512cda76f77b7213cd", checked := Try.checked }
namespace Rows
def none {H : Type} : Left H := { results := [], args := [] }

/-- 'plexuslaw32.BroadcastPrefixes': WHATEVER THE INPUT: true; the input reads as it did. -/
def broadcastPrefixesSpec : ChangeSpec := { name := "broadcastPrefixes", fn := fun _ => fun
  | [d1, d2] => { results := [.lit (.bool true)], args := [d1, d2] }
  | _ => none }
def broadcastPrefixesRow : OpenClaim := { program := "ytpgfokhpacdhjaa", sum := "5ec3efb7232c2bcd37616bad04f117c22a745c165cbf0d512cda76f77b7213cd", func := "plexus/plexuslaw32.BroadcastPrefixes", spec := "broadcastPrefixes", unfollowed := true, recurses := true, plainKeys := false, apart := false }
def BroadcastPrefixesSaid : Prop := broadcastPrefixesRow.holds Try.pinned (OpenSpec.ofChange broadcastPrefixesSpec)

/-- ITS FALSE NEIGHBOUR: 'it returns false'. Refute it at one input. -/
def broadcastPrefixesWrong : ChangeSpec := { name := "broadcastPrefixes", fn := fun _ => fun
  | [d1, d2] => { results := [.lit (.bool false)], args := [d1, d2] }
  | _ => none }
def BroadcastPrefixesWrongFalsely : Prop := broadcastPrefixesRow.holds Try.pinned (OpenSpec.ofChange broadcastPrefixesWrong)

/-- 'plexuslaw32.BroadcastAgrees': WHATEVER THE INPUT: true; the input reads as it did. -/
def broadcastAgreesSpec : ChangeSpec := { name := "broadcastAgrees", fn := fun _ => fun
  | [d1, d2, d3] => { results := [.lit (.bool true)], args := [d1, d2, d3] }
  | _ => none }
def broadcastAgreesRow : OpenClaim := { program := "ytpgfokhpacdhjaa", sum := "5ec3efb7232c2bcd37616bad04f117c22a745c165cbf0d512cda76f77b7213cd", func := "plexus/plexuslaw32.BroadcastAgrees", spec := "broadcastAgrees", unfollowed := true, recurses := true, plainKeys := false, apart := false }
def BroadcastAgreesSaid : Prop := broadcastAgreesRow.holds Try.pinned (OpenSpec.ofChange broadcastAgreesSpec)

/-- ITS FALSE NEIGHBOUR: 'it returns false'. Refute it at one input. -/
def broadcastAgreesWrong : ChangeSpec := { name := "broadcastAgrees", fn := fun _ => fun
  | [d1, d2, d3] => { results := [.lit (.bool false)], args := [d1, d2, d3] }
  | _ => none }
def BroadcastAgreesWrongFalsely : Prop := broadcastAgreesRow.holds Try.pinned (OpenSpec.ofChange broadcastAgreesWrong)

/-- 'plexuslaw32.BroadcastQuiet': WHATEVER THE INPUT: true; the input reads as it did. -/
def broadcastQuietSpec : ChangeSpec := { name := "broadcastQuiet", fn := fun _ => fun
  | [d1, d2, d3] => { results := [.lit (.bool true)], args := [d1, d2, d3] }
  | _ => none }
def broadcastQuietRow : OpenClaim := { program := "ytpgfokhpacdhjaa", sum := "5ec3efb7232c2bcd37616bad04f117c22a745c165cbf0d512cda76f77b7213cd", func := "plexus/plexuslaw32.BroadcastQuiet", spec := "broadcastQuiet", unfollowed := true, recurses := true, plainKeys := false, apart := false }
def BroadcastQuietSaid : Prop := broadcastQuietRow.holds Try.pinned (OpenSpec.ofChange broadcastQuietSpec)

/-- ITS FALSE NEIGHBOUR: 'it returns false'. Refute it at one input. -/
def broadcastQuietWrong : ChangeSpec := { name := "broadcastQuiet", fn := fun _ => fun
  | [d1, d2, d3] => { results := [.lit (.bool false)], args := [d1, d2, d3] }
  | _ => none }
def BroadcastQuietWrongFalsely : Prop := broadcastQuietRow.holds Try.pinned (OpenSpec.ofChange broadcastQuietWrong)

/-- 'plexuslaw32.BroadcastExact': WHATEVER THE INPUT: true; the input reads as it did. -/
def broadcastExactSpec : ChangeSpec := { name := "broadcastExact", fn := fun _ => fun
  | [d1, d2, d3] => { results := [.lit (.bool true)], args := [d1, d2, d3] }
  | _ => none }
def broadcastExactRow : OpenClaim := { program := "ytpgfokhpacdhjaa", sum := "5ec3efb7232c2bcd37616bad04f117c22a745c165cbf0d512cda76f77b7213cd", func := "plexus/plexuslaw32.BroadcastExact", spec := "broadcastExact", unfollowed := true, recurses := true, plainKeys := false, apart := false }
def BroadcastExactSaid : Prop := broadcastExactRow.holds Try.pinned (OpenSpec.ofChange broadcastExactSpec)

/-- ITS FALSE NEIGHBOUR: 'it returns false'. Refute it at one input. -/
def broadcastExactWrong : ChangeSpec := { name := "broadcastExact", fn := fun _ => fun
  | [d1, d2, d3] => { results := [.lit (.bool false)], args := [d1, d2, d3] }
  | _ => none }
def BroadcastExactWrongFalsely : Prop := broadcastExactRow.holds Try.pinned (OpenSpec.ofChange broadcastExactWrong)

/- THE SECOND FORM. 'bulk': how many values and letters a reading holds, each counted each time it is reached (what is shared counts as often as it is met; a slice's spare places count too). A statement '..UptoSaid' is the law's where the arguments, and the package variables that the reading takes, are together of bulk at most 1048576: NARROWER than '..Said'. Prove '..Said' where nothing that the law and all that it calls make is longer than what came in: it says more and counts as full. Else prove '..UptoSaid'. A law counts once. -/
mutual
def uptoBulk {H : Type} : DataW H → Nat
  | .lit (.string bytes) => bytes.length + 1
  | .lit _ => 1
  | .nil => 1
  | .ptr d => uptoBulk d + 1
  | .slice elems spare => uptoBulkAll elems + uptoBulkAll spare + 1
  | .agg parts => uptoBulkAll parts + 1
  | .iface _ d => uptoBulk d + 1
  | .map entries => uptoBulkEntries entries + 1
  | .held _ => 1
def uptoBulkAll {H : Type} : List (DataW H) → Nat
  | [] => 0
  | d :: r => uptoBulk d + uptoBulkAll r
def uptoBulkEntries {H : Type} : List (Lit × DataW H) → Nat
  | [] => 0
  | x :: r => uptoBulkEntry x + uptoBulkEntries r
def uptoBulkEntry {H : Type} : Lit × DataW H → Nat
  | (.string bytes, d) => bytes.length + uptoBulk d + 1
  | (_, d) => uptoBulk d + 1
 end
def uptoSmall : (H : Type) → List (DataW H) → Bool := fun _ ds => decide (uptoBulkAll ds ≤ 1048576)
def OpenSpec.upto (s : _root_.Go.ChangeSpec) : _root_.Go.OpenSpec := { _root_.Go.OpenSpec.ofChange s with cond := some uptoSmall }

/-- 'plexuslaw32.BroadcastPrefixes', WHERE WHAT IT READS IS OF BULK AT MOST 1048576: true; the input reads as it did. -/
def broadcastPrefixesUptoRow : OpenClaim := { program := "ytpgfokhpacdhjaa", sum := "5ec3efb7232c2bcd37616bad04f117c22a745c165cbf0d512cda76f77b7213cd", func := "plexus/plexuslaw32.BroadcastPrefixes", spec := "broadcastPrefixes", unfollowed := true, recurses := true, plainKeys := false, apart := false, narrowed := true }
def BroadcastPrefixesUptoSaid : Prop := broadcastPrefixesUptoRow.holds Try.pinned (OpenSpec.upto broadcastPrefixesSpec)

/-- 'plexuslaw32.BroadcastAgrees', WHERE WHAT IT READS IS OF BULK AT MOST 1048576: true; the input reads as it did. -/
def broadcastAgreesUptoRow : OpenClaim := { program := "ytpgfokhpacdhjaa", sum := "5ec3efb7232c2bcd37616bad04f117c22a745c165cbf0d512cda76f77b7213cd", func := "plexus/plexuslaw32.BroadcastAgrees", spec := "broadcastAgrees", unfollowed := true, recurses := true, plainKeys := false, apart := false, narrowed := true }
def BroadcastAgreesUptoSaid : Prop := broadcastAgreesUptoRow.holds Try.pinned (OpenSpec.upto broadcastAgreesSpec)

/-- 'plexuslaw32.BroadcastQuiet', WHERE WHAT IT READS IS OF BULK AT MOST 1048576: true; the input reads as it did. -/
def broadcastQuietUptoRow : OpenClaim := { program := "ytpgfokhpacdhjaa", sum := "5ec3efb7232c2bcd37616bad04f117c22a745c165cbf0d512cda76f77b7213cd", func := "plexus/plexuslaw32.BroadcastQuiet", spec := "broadcastQuiet", unfollowed := true, recurses := true, plainKeys := false, apart := false, narrowed := true }
def BroadcastQuietUptoSaid : Prop := broadcastQuietUptoRow.holds Try.pinned (OpenSpec.upto broadcastQuietSpec)

/-- 'plexuslaw32.BroadcastExact', WHERE WHAT IT READS IS OF BULK AT MOST 1048576: true; the input reads as it did. -/
def broadcastExactUptoRow : OpenClaim := { program := "ytpgfokhpacdhjaa", sum := "5ec3efb7232c2bcd37616bad04f117c22a745c165cbf0d512cda76f77b7213cd", func := "plexus/plexuslaw32.BroadcastExact", spec := "broadcastExact", unfollowed := true, recurses := true, plainKeys := false, apart := false, narrowed := true }
def BroadcastExactUptoSaid : Prop := broadcastExactUptoRow.holds Try.pinned (OpenSpec.upto broadcastExactSpec)

end Rows
end Go.Proofs.Ytpgfokhpacdhjaa
