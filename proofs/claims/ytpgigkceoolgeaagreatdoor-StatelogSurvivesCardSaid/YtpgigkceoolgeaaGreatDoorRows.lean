/-
  NARROWER THAN 'FOR EVERY INPUT', by the rows' own cells (each row's printed sentence says how): StatelogPlays: laid · StatelogRecords: laid · StatelogSurvives: laid · StatelogGrows: laid · StatelogOpens: laid.
  DERIVED. THE GIVEN ROWS OF THIS SEAT. 5 by the template 'for every input the law returns true; each argument reads behind the call as it read before'; 0 by the template 'total and deterministic' (their statements: YtpgigkceoolgeaaGreatDoorTotals.lean).
  GIVEN WITH THE SEED: the statements are not yours to turn. If you find one false, say at which input.
  Laid BY PROGRAM, IN A SANDBOX (cutbox-rows.mjs): the forced cells as the released guide's own fill.sh prints them over the translation 2a8981b7bed7a7cf… (all of the seat's roots in one cut). By AI agents, Wed Nov 11 2026. No macro, syntax, notation, axiom, sorry.
-/
import Derived.Test.YtpgigkceoolgeaaGreatDoorChecked
import GoSem.Claim
import GoSem.ClaimJoined
import GoSem.ClaimMapViews
import Derived.JoinedTies
import Derived.KernelRfl
namespace Go.Proofs.YtpgigkceoolgeaaGreatDoor
/- THE CELL 'sum', in the pinned program and in every row, IS THE sha256 OF THE DUMP (.gsa) THAT YtpgigkceoolgeaaGreatDoorProg.lean LOADS. Nothing in Lean hashes anything: it is a label: what it is worth is what the hold of that sum in a sandbox is worth. -/
noncomputable def Tryz.pinned : Pinned := { name := "ytpgigkceoolgeaagreatdoor", sum := "2a8981b7bed7a7cf1afff9ebaae294e71ef086b1bac095470f7a6f4f3b8dc717", checked := Tryz.checked }
namespace Rows
def none {H : Type} : Left H := { results := [], args := [] }

/- WHAT THE LISTED PACKAGE-LEVEL VARIABLES READ AS WHEN THE CALL BEGINS. Each datum BY PROGRAM (the guide's laid-datum.mjs) off the statement by which the dump's own 'gosem.cut.vars' lays the variable. In a bare row this is a premise. The card (YtpgigkceoolgeaaGreatDoorCards.lean) ties it to the program's text. -/
def laid_plexus_sha256_constants {H : Type} : DataW H := .agg [.lit (.int .u32 1116352408), .lit (.int .u32 1899447441), .lit (.int .u32 3049323471), .lit (.int .u32 3921009573), .lit (.int .u32 961987163), .lit (.int .u32 1508970993), .lit (.int .u32 2453635748), .lit (.int .u32 2870763221), .lit (.int .u32 3624381080), .lit (.int .u32 310598401), .lit (.int .u32 607225278), .lit (.int .u32 1426881987), .lit (.int .u32 1925078388), .lit (.int .u32 2162078206), .lit (.int .u32 2614888103), .lit (.int .u32 3248222580), .lit (.int .u32 3835390401), .lit (.int .u32 4022224774), .lit (.int .u32 264347078), .lit (.int .u32 604807628), .lit (.int .u32 770255983), .lit (.int .u32 1249150122), .lit (.int .u32 1555081692), .lit (.int .u32 1996064986), .lit (.int .u32 2554220882), .lit (.int .u32 2821834349), .lit (.int .u32 2952996808), .lit (.int .u32 3210313671), .lit (.int .u32 3336571891), .lit (.int .u32 3584528711), .lit (.int .u32 113926993), .lit (.int .u32 338241895), .lit (.int .u32 666307205), .lit (.int .u32 773529912), .lit (.int .u32 1294757372), .lit (.int .u32 1396182291), .lit (.int .u32 1695183700), .lit (.int .u32 1986661051), .lit (.int .u32 2177026350), .lit (.int .u32 2456956037), .lit (.int .u32 2730485921), .lit (.int .u32 2820302411), .lit (.int .u32 3259730800), .lit (.int .u32 3345764771), .lit (.int .u32 3516065817), .lit (.int .u32 3600352804), .lit (.int .u32 4094571909), .lit (.int .u32 275423344), .lit (.int .u32 430227734), .lit (.int .u32 506948616), .lit (.int .u32 659060556), .lit (.int .u32 883997877), .lit (.int .u32 958139571), .lit (.int .u32 1322822218), .lit (.int .u32 1537002063), .lit (.int .u32 1747873779), .lit (.int .u32 1955562222), .lit (.int .u32 2024104815), .lit (.int .u32 2227730452), .lit (.int .u32 2361852424), .lit (.int .u32 2428436474), .lit (.int .u32 2756734187), .lit (.int .u32 3204031479), .lit (.int .u32 3329325298)]

/-- 'plexuslaw47.StatelogPlays': WHATEVER THE INPUT: true; the input reads as it did. -/
def statelogPlaysSpec : ChangeSpec := { name := "statelogPlays", fn := fun _ => fun
  | [d1, d2] => { results := [.lit (.bool true)], args := [d1, d2] }
  | _ => none }
def statelogPlaysRow : OpenClaim := { program := "ytpgigkceoolgeaagreatdoor", sum := "2a8981b7bed7a7cf1afff9ebaae294e71ef086b1bac095470f7a6f4f3b8dc717", func := "plexus/plexuslaw47.StatelogPlays", spec := "statelogPlays", inPlace := ["internal/bytealg.abigen_runtime_cmpstring"], unfollowed := true, recurses := true, named := ["plexus/sha256.constants"], apart := false, laid := [("plexus/sha256.constants", laid_plexus_sha256_constants)] }
def StatelogPlaysSaid : Prop := statelogPlaysRow.holds Tryz.pinned (OpenSpec.ofChange statelogPlaysSpec)

/-- ITS FALSE NEIGHBOUR: 'it returns false'. Refute it at one input. -/
def statelogPlaysWrong : ChangeSpec := { name := "statelogPlays", fn := fun _ => fun
  | [d1, d2] => { results := [.lit (.bool false)], args := [d1, d2] }
  | _ => none }
def StatelogPlaysWrongFalsely : Prop := statelogPlaysRow.holds Tryz.pinned (OpenSpec.ofChange statelogPlaysWrong)

/-- 'plexuslaw47.StatelogRecords': WHATEVER THE INPUT: true; the input reads as it did. -/
def statelogRecordsSpec : ChangeSpec := { name := "statelogRecords", fn := fun _ => fun
  | [d1, d2] => { results := [.lit (.bool true)], args := [d1, d2] }
  | _ => none }
def statelogRecordsRow : OpenClaim := { program := "ytpgigkceoolgeaagreatdoor", sum := "2a8981b7bed7a7cf1afff9ebaae294e71ef086b1bac095470f7a6f4f3b8dc717", func := "plexus/plexuslaw47.StatelogRecords", spec := "statelogRecords", inPlace := ["internal/bytealg.abigen_runtime_cmpstring"], unfollowed := true, recurses := true, named := ["plexus/sha256.constants"], apart := false, laid := [("plexus/sha256.constants", laid_plexus_sha256_constants)] }
def StatelogRecordsSaid : Prop := statelogRecordsRow.holds Tryz.pinned (OpenSpec.ofChange statelogRecordsSpec)

/-- ITS FALSE NEIGHBOUR: 'it returns false'. Refute it at one input. -/
def statelogRecordsWrong : ChangeSpec := { name := "statelogRecords", fn := fun _ => fun
  | [d1, d2] => { results := [.lit (.bool false)], args := [d1, d2] }
  | _ => none }
def StatelogRecordsWrongFalsely : Prop := statelogRecordsRow.holds Tryz.pinned (OpenSpec.ofChange statelogRecordsWrong)

/-- 'plexuslaw47.StatelogSurvives': WHATEVER THE INPUT: true; the input reads as it did. -/
def statelogSurvivesSpec : ChangeSpec := { name := "statelogSurvives", fn := fun _ => fun
  | [d1, d2] => { results := [.lit (.bool true)], args := [d1, d2] }
  | _ => none }
def statelogSurvivesRow : OpenClaim := { program := "ytpgigkceoolgeaagreatdoor", sum := "2a8981b7bed7a7cf1afff9ebaae294e71ef086b1bac095470f7a6f4f3b8dc717", func := "plexus/plexuslaw47.StatelogSurvives", spec := "statelogSurvives", inPlace := ["internal/bytealg.abigen_runtime_cmpstring"], unfollowed := true, recurses := true, named := ["plexus/sha256.constants"], apart := false, laid := [("plexus/sha256.constants", laid_plexus_sha256_constants)] }
def StatelogSurvivesSaid : Prop := statelogSurvivesRow.holds Tryz.pinned (OpenSpec.ofChange statelogSurvivesSpec)

/-- ITS FALSE NEIGHBOUR: 'it returns false'. Refute it at one input. -/
def statelogSurvivesWrong : ChangeSpec := { name := "statelogSurvives", fn := fun _ => fun
  | [d1, d2] => { results := [.lit (.bool false)], args := [d1, d2] }
  | _ => none }
def StatelogSurvivesWrongFalsely : Prop := statelogSurvivesRow.holds Tryz.pinned (OpenSpec.ofChange statelogSurvivesWrong)

/-- 'plexuslaw47.StatelogGrows': WHATEVER THE INPUT: true; the input reads as it did. -/
def statelogGrowsSpec : ChangeSpec := { name := "statelogGrows", fn := fun _ => fun
  | [d1, d2] => { results := [.lit (.bool true)], args := [d1, d2] }
  | _ => none }
def statelogGrowsRow : OpenClaim := { program := "ytpgigkceoolgeaagreatdoor", sum := "2a8981b7bed7a7cf1afff9ebaae294e71ef086b1bac095470f7a6f4f3b8dc717", func := "plexus/plexuslaw47.StatelogGrows", spec := "statelogGrows", inPlace := ["internal/bytealg.abigen_runtime_cmpstring"], unfollowed := true, recurses := true, named := ["plexus/sha256.constants"], apart := false, laid := [("plexus/sha256.constants", laid_plexus_sha256_constants)] }
def StatelogGrowsSaid : Prop := statelogGrowsRow.holds Tryz.pinned (OpenSpec.ofChange statelogGrowsSpec)

/-- ITS FALSE NEIGHBOUR: 'it returns false'. Refute it at one input. -/
def statelogGrowsWrong : ChangeSpec := { name := "statelogGrows", fn := fun _ => fun
  | [d1, d2] => { results := [.lit (.bool false)], args := [d1, d2] }
  | _ => none }
def StatelogGrowsWrongFalsely : Prop := statelogGrowsRow.holds Tryz.pinned (OpenSpec.ofChange statelogGrowsWrong)

/-- 'plexuslaw47.StatelogOpens': WHATEVER THE INPUT: true; the input reads as it did. -/
def statelogOpensSpec : ChangeSpec := { name := "statelogOpens", fn := fun _ => fun
  | [d1, d2, d3, d4, d5] => { results := [.lit (.bool true)], args := [d1, d2, d3, d4, d5] }
  | _ => none }
def statelogOpensRow : OpenClaim := { program := "ytpgigkceoolgeaagreatdoor", sum := "2a8981b7bed7a7cf1afff9ebaae294e71ef086b1bac095470f7a6f4f3b8dc717", func := "plexus/plexuslaw47.StatelogOpens", spec := "statelogOpens", inPlace := ["internal/bytealg.abigen_runtime_cmpstring"], unfollowed := true, recurses := true, named := ["plexus/sha256.constants"], apart := false, laid := [("plexus/sha256.constants", laid_plexus_sha256_constants)] }
def StatelogOpensSaid : Prop := statelogOpensRow.holds Tryz.pinned (OpenSpec.ofChange statelogOpensSpec)

/-- ITS FALSE NEIGHBOUR: 'it returns false'. Refute it at one input. -/
def statelogOpensWrong : ChangeSpec := { name := "statelogOpens", fn := fun _ => fun
  | [d1, d2, d3, d4, d5] => { results := [.lit (.bool false)], args := [d1, d2, d3, d4, d5] }
  | _ => none }
def StatelogOpensWrongFalsely : Prop := statelogOpensRow.holds Tryz.pinned (OpenSpec.ofChange statelogOpensWrong)

/- THE SECOND FORM. 'bulk': how many values and letters a reading holds, each counted each time it is reached (what is shared counts as often as it is met; a slice's spare places count too). A statement '..UptoSaid' is the law's where the arguments, and the package variables that the reading takes, are together of bulk at most 1048576: NARROWER than '..Said'. Prove '..Said' where nothing that the law and all that it calls make is longer than what came in: it says more and counts as full. Else prove '..UptoSaid'. A law counts once. -/
mutual
def uptoBulk {H : Type} : DataW H → Nat
  | .lit (.string bytes) => bytes.length + 1
  | .lit _ => 1
  | .nil => 1
  | .ptr d => uptoBulk d + 1
  | .slice elems spare => uptoBulkAll elems + uptoBulkAll spare + 1
  | .agg parts => uptoBulkAll parts + 1
  | .iface _ d => uptoBulk d + 1
  | .map entries => uptoBulkEntries entries + 1
  | .held _ => 1
def uptoBulkAll {H : Type} : List (DataW H) → Nat
  | [] => 0
  | d :: r => uptoBulk d + uptoBulkAll r
def uptoBulkEntries {H : Type} : List (Lit × DataW H) → Nat
  | [] => 0
  | x :: r => uptoBulkEntry x + uptoBulkEntries r
def uptoBulkEntry {H : Type} : Lit × DataW H → Nat
  | (.string bytes, d) => bytes.length + uptoBulk d + 1
  | (_, d) => uptoBulk d + 1
 end
def uptoSmall : (H : Type) → List (DataW H) → Bool := fun _ ds => decide (uptoBulkAll ds ≤ 1048576)
def OpenSpec.upto (s : _root_.Go.ChangeSpec) : _root_.Go.OpenSpec := { _root_.Go.OpenSpec.ofChange s with cond := some uptoSmall }

/-- 'plexuslaw47.StatelogPlays', WHERE WHAT IT READS IS OF BULK AT MOST 1048576: true; the input reads as it did. -/
def statelogPlaysUptoRow : OpenClaim := { program := "ytpgigkceoolgeaagreatdoor", sum := "2a8981b7bed7a7cf1afff9ebaae294e71ef086b1bac095470f7a6f4f3b8dc717", func := "plexus/plexuslaw47.StatelogPlays", spec := "statelogPlays", inPlace := ["internal/bytealg.abigen_runtime_cmpstring"], unfollowed := true, recurses := true, named := ["plexus/sha256.constants"], apart := false, laid := [("plexus/sha256.constants", laid_plexus_sha256_constants)], narrowed := true }
def StatelogPlaysUptoSaid : Prop := statelogPlaysUptoRow.holds Tryz.pinned (OpenSpec.upto statelogPlaysSpec)

/-- 'plexuslaw47.StatelogRecords', WHERE WHAT IT READS IS OF BULK AT MOST 1048576: true; the input reads as it did. -/
def statelogRecordsUptoRow : OpenClaim := { program := "ytpgigkceoolgeaagreatdoor", sum := "2a8981b7bed7a7cf1afff9ebaae294e71ef086b1bac095470f7a6f4f3b8dc717", func := "plexus/plexuslaw47.StatelogRecords", spec := "statelogRecords", inPlace := ["internal/bytealg.abigen_runtime_cmpstring"], unfollowed := true, recurses := true, named := ["plexus/sha256.constants"], apart := false, laid := [("plexus/sha256.constants", laid_plexus_sha256_constants)], narrowed := true }
def StatelogRecordsUptoSaid : Prop := statelogRecordsUptoRow.holds Tryz.pinned (OpenSpec.upto statelogRecordsSpec)

/-- 'plexuslaw47.StatelogSurvives', WHERE WHAT IT READS IS OF BULK AT MOST 1048576: true; the input reads as it did. -/
def statelogSurvivesUptoRow : OpenClaim := { program := "ytpgigkceoolgeaagreatdoor", sum := "2a8981b7bed7a7cf1afff9ebaae294e71ef086b1bac095470f7a6f4f3b8dc717", func := "plexus/plexuslaw47.StatelogSurvives", spec := "statelogSurvives", inPlace := ["internal/bytealg.abigen_runtime_cmpstring"], unfollowed := true, recurses := true, named := ["plexus/sha256.constants"], apart := false, laid := [("plexus/sha256.constants", laid_plexus_sha256_constants)], narrowed := true }
def StatelogSurvivesUptoSaid : Prop := statelogSurvivesUptoRow.holds Tryz.pinned (OpenSpec.upto statelogSurvivesSpec)

/-- 'plexuslaw47.StatelogGrows', WHERE WHAT IT READS IS OF BULK AT MOST 1048576: true; the input reads as it did. -/
def statelogGrowsUptoRow : OpenClaim := { program := "ytpgigkceoolgeaagreatdoor", sum := "2a8981b7bed7a7cf1afff9ebaae294e71ef086b1bac095470f7a6f4f3b8dc717", func := "plexus/plexuslaw47.StatelogGrows", spec := "statelogGrows", inPlace := ["internal/bytealg.abigen_runtime_cmpstring"], unfollowed := true, recurses := true, named := ["plexus/sha256.constants"], apart := false, laid := [("plexus/sha256.constants", laid_plexus_sha256_constants)], narrowed := true }
def StatelogGrowsUptoSaid : Prop := statelogGrowsUptoRow.holds Tryz.pinned (OpenSpec.upto statelogGrowsSpec)

/-- 'plexuslaw47.StatelogOpens', WHERE WHAT IT READS IS OF BULK AT MOST 1048576: true; the input reads as it did. -/
def statelogOpensUptoRow : OpenClaim := { program := "ytpgigkceoolgeaagreatdoor", sum := "2a8981b7bed7a7cf1afff9ebaae294e71ef086b1bac095470f7a6f4f3b8dc717", func := "plexus/plexuslaw47.StatelogOpens", spec := "statelogOpens", inPlace := ["internal/bytealg.abigen_runtime_cmpstring"], unfollowed := true, recurses := true, named := ["plexus/sha256.constants"], apart := false, laid := [("plexus/sha256.constants", laid_plexus_sha256_constants)], narrowed := true }
def StatelogOpensUptoSaid : Prop := statelogOpensUptoRow.holds Tryz.pinned (OpenSpec.upto statelogOpensSpec)

end Rows
end Go.Proofs.YtpgigkceoolgeaaGreatDoor
