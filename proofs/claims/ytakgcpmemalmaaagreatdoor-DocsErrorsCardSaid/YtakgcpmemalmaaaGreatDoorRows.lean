/-
  NARROWER THAN 'FOR EVERY INPUT', by the rows' own cells (each row's printed sentence says how): DocsRuns: laid · DocsQueries: laid · DocsFull: laid · DocsRanges: laid · DocsLoads: laid · DocsPlays: laid · DocsErrors: laid · DocsUpdates: laid · DocsWays: laid.
  DERIVED. THE GIVEN ROWS OF THIS SEAT. 9 by the template 'for every input the law returns true; each argument reads behind the call as it read before'; 0 by the template 'total and deterministic' (their statements: YtakgcpmemalmaaaGreatDoorTotals.lean).
  GIVEN WITH THE SEED: the statements are not yours to turn. If you find one false, say at which input.
  Laid BY PROGRAM, IN A SANDBOX (cutbox-rows.mjs): the forced cells as the released guide's own fill.sh prints them over the translation f6d23b075858f2e4… (all of the seat's roots in one cut). By AI agents, Wed Nov 11 2026. No macro, syntax, notation, axiom, sorry.
-/
import Derived.Test.YtakgcpmemalmaaaGreatDoorChecked
import GoSem.PinnedTables
import GoSem.Claim
import GoSem.ClaimJoined
import GoSem.ClaimMapViews
import Derived.JoinedTies
import Derived.KernelRfl
namespace Go.Proofs.YtakgcpmemalmaaaGreatDoor
/- THE CELL 'sum', in the pinned program and in every row, IS THE sha256 OF THE DUMP (.gsa) THAT YtakgcpmemalmaaaGreatDoorProg.lean LOADS. Nothing in Lean hashes anything: it is a label: what it is worth is what the hold of that sum in a sandbox is worth. -/
noncomputable def Tryz.pinned : Pinned := { name := "ytakgcpmemalmaaagreatdoor", sum := "f6d23b075858f2e4b68d8f06ca38d0b8008ec9324ecd69342e2ca4044791a83c", checked := Tryz.checked }
namespace Rows
def none {H : Type} : Left H := { results := [], args := [] }

/- WHAT THE LISTED PACKAGE-LEVEL VARIABLES READ AS WHEN THE CALL BEGINS. Each datum BY PROGRAM (the guide's laid-datum.mjs) off the statement by which the dump's own 'gosem.cut.vars' lays the variable. In a bare row this is a premise. The card (YtakgcpmemalmaaaGreatDoorCards.lean) ties it to the program's text. -/
def laid_unicode_utf8_acceptRanges {H : Type} : DataW H := .agg [.agg [.lit (.int .u8 128), .lit (.int .u8 191)], .agg [.lit (.int .u8 160), .lit (.int .u8 191)], .agg [.lit (.int .u8 128), .lit (.int .u8 159)], .agg [.lit (.int .u8 144), .lit (.int .u8 191)], .agg [.lit (.int .u8 128), .lit (.int .u8 143)], .agg [.lit (.int .u8 0), .lit (.int .u8 0)], .agg [.lit (.int .u8 0), .lit (.int .u8 0)], .agg [.lit (.int .u8 0), .lit (.int .u8 0)], .agg [.lit (.int .u8 0), .lit (.int .u8 0)], .agg [.lit (.int .u8 0), .lit (.int .u8 0)], .agg [.lit (.int .u8 0), .lit (.int .u8 0)], .agg [.lit (.int .u8 0), .lit (.int .u8 0)], .agg [.lit (.int .u8 0), .lit (.int .u8 0)], .agg [.lit (.int .u8 0), .lit (.int .u8 0)], .agg [.lit (.int .u8 0), .lit (.int .u8 0)], .agg [.lit (.int .u8 0), .lit (.int .u8 0)]]
/-- One of Go's own tables, pinned by name: the form's constant. -/
def laid_unicode_utf8_first : DataW Unit := Go.Pinned.utf8First

/-- 'tendrillaw24.DocsRuns': WHATEVER THE INPUT: true; the input reads as it did. -/
def docsRunsSpec : ChangeSpec := { name := "docsRuns", fn := fun _ => fun
  | [] => { results := [.lit (.bool true)], args := [] }
  | _ => none }
def docsRunsRow : OpenClaim := { program := "ytakgcpmemalmaaagreatdoor", sum := "f6d23b075858f2e4b68d8f06ca38d0b8008ec9324ecd69342e2ca4044791a83c", func := "tendril/tendrillaw24.DocsRuns", spec := "docsRuns", inPlace := ["internal/bytealg.IndexByteString", "internal/bytealg.IndexString", "slices.overlaps[byte]", "slices.overlaps[int]", "slices.overlaps[tendril/api.Doc]"], unfollowed := true, recurses := true, named := ["unicode/utf8.first", "unicode/utf8.acceptRanges", "internal/bytealg.MaxLen"], apart := false, laid := [("unicode/utf8.acceptRanges", laid_unicode_utf8_acceptRanges), ("unicode/utf8.first", laid_unicode_utf8_first)] }
def DocsRunsSaid : Prop := docsRunsRow.holds Tryz.pinned (OpenSpec.ofChange docsRunsSpec)

/-- ITS FALSE NEIGHBOUR: 'it returns false'. Refute it at one input. -/
def docsRunsWrong : ChangeSpec := { name := "docsRuns", fn := fun _ => fun
  | [] => { results := [.lit (.bool false)], args := [] }
  | _ => none }
def DocsRunsWrongFalsely : Prop := docsRunsRow.holds Tryz.pinned (OpenSpec.ofChange docsRunsWrong)

/-- 'tendrillaw24.DocsQueries': WHATEVER THE INPUT: true; the input reads as it did. -/
def docsQueriesSpec : ChangeSpec := { name := "docsQueries", fn := fun _ => fun
  | [d1, d2, d3] => { results := [.lit (.bool true)], args := [d1, d2, d3] }
  | _ => none }
def docsQueriesRow : OpenClaim := { program := "ytakgcpmemalmaaagreatdoor", sum := "f6d23b075858f2e4b68d8f06ca38d0b8008ec9324ecd69342e2ca4044791a83c", func := "tendril/tendrillaw24.DocsQueries", spec := "docsQueries", inPlace := ["internal/bytealg.IndexByteString", "internal/bytealg.IndexString", "slices.overlaps[byte]", "slices.overlaps[int]", "slices.overlaps[tendril/api.Doc]"], unfollowed := true, recurses := true, named := ["unicode/utf8.first", "unicode/utf8.acceptRanges", "internal/bytealg.MaxLen"], apart := false, laid := [("unicode/utf8.acceptRanges", laid_unicode_utf8_acceptRanges), ("unicode/utf8.first", laid_unicode_utf8_first)] }
def DocsQueriesSaid : Prop := docsQueriesRow.holds Tryz.pinned (OpenSpec.ofChange docsQueriesSpec)

/-- ITS FALSE NEIGHBOUR: 'it returns false'. Refute it at one input. -/
def docsQueriesWrong : ChangeSpec := { name := "docsQueries", fn := fun _ => fun
  | [d1, d2, d3] => { results := [.lit (.bool false)], args := [d1, d2, d3] }
  | _ => none }
def DocsQueriesWrongFalsely : Prop := docsQueriesRow.holds Tryz.pinned (OpenSpec.ofChange docsQueriesWrong)

/-- 'tendrillaw24.DocsFull': WHATEVER THE INPUT: true; the input reads as it did. -/
def docsFullSpec : ChangeSpec := { name := "docsFull", fn := fun _ => fun
  | [d1, d2] => { results := [.lit (.bool true)], args := [d1, d2] }
  | _ => none }
def docsFullRow : OpenClaim := { program := "ytakgcpmemalmaaagreatdoor", sum := "f6d23b075858f2e4b68d8f06ca38d0b8008ec9324ecd69342e2ca4044791a83c", func := "tendril/tendrillaw24.DocsFull", spec := "docsFull", inPlace := ["internal/bytealg.IndexByteString", "internal/bytealg.IndexString", "slices.overlaps[byte]", "slices.overlaps[int]", "slices.overlaps[tendril/api.Doc]"], unfollowed := true, recurses := true, named := ["unicode/utf8.first", "unicode/utf8.acceptRanges", "internal/bytealg.MaxLen"], apart := false, laid := [("unicode/utf8.acceptRanges", laid_unicode_utf8_acceptRanges), ("unicode/utf8.first", laid_unicode_utf8_first)] }
def DocsFullSaid : Prop := docsFullRow.holds Tryz.pinned (OpenSpec.ofChange docsFullSpec)

/-- ITS FALSE NEIGHBOUR: 'it returns false'. Refute it at one input. -/
def docsFullWrong : ChangeSpec := { name := "docsFull", fn := fun _ => fun
  | [d1, d2] => { results := [.lit (.bool false)], args := [d1, d2] }
  | _ => none }
def DocsFullWrongFalsely : Prop := docsFullRow.holds Tryz.pinned (OpenSpec.ofChange docsFullWrong)

/-- 'tendrillaw24.DocsRanges': WHATEVER THE INPUT: true; the input reads as it did. -/
def docsRangesSpec : ChangeSpec := { name := "docsRanges", fn := fun _ => fun
  | [d1, d2] => { results := [.lit (.bool true)], args := [d1, d2] }
  | _ => none }
def docsRangesRow : OpenClaim := { program := "ytakgcpmemalmaaagreatdoor", sum := "f6d23b075858f2e4b68d8f06ca38d0b8008ec9324ecd69342e2ca4044791a83c", func := "tendril/tendrillaw24.DocsRanges", spec := "docsRanges", inPlace := ["internal/bytealg.IndexByteString", "internal/bytealg.IndexString", "slices.overlaps[byte]", "slices.overlaps[int]", "slices.overlaps[tendril/api.Doc]"], unfollowed := true, recurses := true, named := ["unicode/utf8.first", "unicode/utf8.acceptRanges", "internal/bytealg.MaxLen"], apart := false, laid := [("unicode/utf8.acceptRanges", laid_unicode_utf8_acceptRanges), ("unicode/utf8.first", laid_unicode_utf8_first)] }
def DocsRangesSaid : Prop := docsRangesRow.holds Tryz.pinned (OpenSpec.ofChange docsRangesSpec)

/-- ITS FALSE NEIGHBOUR: 'it returns false'. Refute it at one input. -/
def docsRangesWrong : ChangeSpec := { name := "docsRanges", fn := fun _ => fun
  | [d1, d2] => { results := [.lit (.bool false)], args := [d1, d2] }
  | _ => none }
def DocsRangesWrongFalsely : Prop := docsRangesRow.holds Tryz.pinned (OpenSpec.ofChange docsRangesWrong)

/-- 'tendrillaw24.DocsLoads': WHATEVER THE INPUT: true; the input reads as it did. -/
def docsLoadsSpec : ChangeSpec := { name := "docsLoads", fn := fun _ => fun
  | [d1, d2] => { results := [.lit (.bool true)], args := [d1, d2] }
  | _ => none }
def docsLoadsRow : OpenClaim := { program := "ytakgcpmemalmaaagreatdoor", sum := "f6d23b075858f2e4b68d8f06ca38d0b8008ec9324ecd69342e2ca4044791a83c", func := "tendril/tendrillaw24.DocsLoads", spec := "docsLoads", inPlace := ["internal/bytealg.IndexByteString", "internal/bytealg.IndexString", "slices.overlaps[byte]", "slices.overlaps[int]", "slices.overlaps[tendril/api.Doc]"], unfollowed := true, recurses := true, named := ["unicode/utf8.first", "unicode/utf8.acceptRanges", "internal/bytealg.MaxLen"], apart := false, laid := [("unicode/utf8.acceptRanges", laid_unicode_utf8_acceptRanges), ("unicode/utf8.first", laid_unicode_utf8_first)] }
def DocsLoadsSaid : Prop := docsLoadsRow.holds Tryz.pinned (OpenSpec.ofChange docsLoadsSpec)

/-- ITS FALSE NEIGHBOUR: 'it returns false'. Refute it at one input. -/
def docsLoadsWrong : ChangeSpec := { name := "docsLoads", fn := fun _ => fun
  | [d1, d2] => { results := [.lit (.bool false)], args := [d1, d2] }
  | _ => none }
def DocsLoadsWrongFalsely : Prop := docsLoadsRow.holds Tryz.pinned (OpenSpec.ofChange docsLoadsWrong)

/-- 'tendrillaw24.DocsPlays': WHATEVER THE INPUT: true; the input reads as it did. -/
def docsPlaysSpec : ChangeSpec := { name := "docsPlays", fn := fun _ => fun
  | [d] => { results := [.lit (.bool true)], args := [d] }
  | _ => none }
def docsPlaysRow : OpenClaim := { program := "ytakgcpmemalmaaagreatdoor", sum := "f6d23b075858f2e4b68d8f06ca38d0b8008ec9324ecd69342e2ca4044791a83c", func := "tendril/tendrillaw24.DocsPlays", spec := "docsPlays", inPlace := ["internal/bytealg.IndexByteString", "internal/bytealg.IndexString", "slices.overlaps[byte]", "slices.overlaps[int]", "slices.overlaps[tendril/api.Doc]"], unfollowed := true, recurses := true, named := ["unicode/utf8.first", "unicode/utf8.acceptRanges", "internal/bytealg.MaxLen"], apart := false, laid := [("unicode/utf8.acceptRanges", laid_unicode_utf8_acceptRanges), ("unicode/utf8.first", laid_unicode_utf8_first)] }
def DocsPlaysSaid : Prop := docsPlaysRow.holds Tryz.pinned (OpenSpec.ofChange docsPlaysSpec)

/-- ITS FALSE NEIGHBOUR: 'it returns false'. Refute it at one input. -/
def docsPlaysWrong : ChangeSpec := { name := "docsPlays", fn := fun _ => fun
  | [d] => { results := [.lit (.bool false)], args := [d] }
  | _ => none }
def DocsPlaysWrongFalsely : Prop := docsPlaysRow.holds Tryz.pinned (OpenSpec.ofChange docsPlaysWrong)

/-- 'tendrillaw24.DocsErrors': WHATEVER THE INPUT: true; the input reads as it did. -/
def docsErrorsSpec : ChangeSpec := { name := "docsErrors", fn := fun _ => fun
  | [d1, d2, d3] => { results := [.lit (.bool true)], args := [d1, d2, d3] }
  | _ => none }
def docsErrorsRow : OpenClaim := { program := "ytakgcpmemalmaaagreatdoor", sum := "f6d23b075858f2e4b68d8f06ca38d0b8008ec9324ecd69342e2ca4044791a83c", func := "tendril/tendrillaw24.DocsErrors", spec := "docsErrors", inPlace := ["internal/bytealg.IndexByteString", "internal/bytealg.IndexString", "slices.overlaps[byte]", "slices.overlaps[int]", "slices.overlaps[tendril/api.Doc]"], unfollowed := true, recurses := true, named := ["unicode/utf8.first", "unicode/utf8.acceptRanges", "internal/bytealg.MaxLen"], apart := false, laid := [("unicode/utf8.acceptRanges", laid_unicode_utf8_acceptRanges), ("unicode/utf8.first", laid_unicode_utf8_first)] }
def DocsErrorsSaid : Prop := docsErrorsRow.holds Tryz.pinned (OpenSpec.ofChange docsErrorsSpec)

/-- ITS FALSE NEIGHBOUR: 'it returns false'. Refute it at one input. -/
def docsErrorsWrong : ChangeSpec := { name := "docsErrors", fn := fun _ => fun
  | [d1, d2, d3] => { results := [.lit (.bool false)], args := [d1, d2, d3] }
  | _ => none }
def DocsErrorsWrongFalsely : Prop := docsErrorsRow.holds Tryz.pinned (OpenSpec.ofChange docsErrorsWrong)

/-- 'tendrillaw24.DocsUpdates': WHATEVER THE INPUT: true; the input reads as it did. -/
def docsUpdatesSpec : ChangeSpec := { name := "docsUpdates", fn := fun _ => fun
  | [d] => { results := [.lit (.bool true)], args := [d] }
  | _ => none }
def docsUpdatesRow : OpenClaim := { program := "ytakgcpmemalmaaagreatdoor", sum := "f6d23b075858f2e4b68d8f06ca38d0b8008ec9324ecd69342e2ca4044791a83c", func := "tendril/tendrillaw24.DocsUpdates", spec := "docsUpdates", inPlace := ["internal/bytealg.IndexByteString", "internal/bytealg.IndexString", "slices.overlaps[byte]", "slices.overlaps[int]", "slices.overlaps[tendril/api.Doc]"], unfollowed := true, recurses := true, named := ["unicode/utf8.first", "unicode/utf8.acceptRanges", "internal/bytealg.MaxLen"], apart := false, laid := [("unicode/utf8.acceptRanges", laid_unicode_utf8_acceptRanges), ("unicode/utf8.first", laid_unicode_utf8_first)] }
def DocsUpdatesSaid : Prop := docsUpdatesRow.holds Tryz.pinned (OpenSpec.ofChange docsUpdatesSpec)

/-- ITS FALSE NEIGHBOUR: 'it returns false'. Refute it at one input. -/
def docsUpdatesWrong : ChangeSpec := { name := "docsUpdates", fn := fun _ => fun
  | [d] => { results := [.lit (.bool false)], args := [d] }
  | _ => none }
def DocsUpdatesWrongFalsely : Prop := docsUpdatesRow.holds Tryz.pinned (OpenSpec.ofChange docsUpdatesWrong)

/-- 'tendrillaw24.DocsWays': WHATEVER THE INPUT: true; the input reads as it did. -/
def docsWaysSpec : ChangeSpec := { name := "docsWays", fn := fun _ => fun
  | [d1, d2, d3] => { results := [.lit (.bool true)], args := [d1, d2, d3] }
  | _ => none }
def docsWaysRow : OpenClaim := { program := "ytakgcpmemalmaaagreatdoor", sum := "f6d23b075858f2e4b68d8f06ca38d0b8008ec9324ecd69342e2ca4044791a83c", func := "tendril/tendrillaw24.DocsWays", spec := "docsWays", inPlace := ["internal/bytealg.IndexByteString", "internal/bytealg.IndexString", "slices.overlaps[byte]", "slices.overlaps[int]", "slices.overlaps[tendril/api.Doc]"], unfollowed := true, recurses := true, named := ["unicode/utf8.first", "unicode/utf8.acceptRanges", "internal/bytealg.MaxLen"], apart := false, laid := [("unicode/utf8.acceptRanges", laid_unicode_utf8_acceptRanges), ("unicode/utf8.first", laid_unicode_utf8_first)] }
def DocsWaysSaid : Prop := docsWaysRow.holds Tryz.pinned (OpenSpec.ofChange docsWaysSpec)

/-- ITS FALSE NEIGHBOUR: 'it returns false'. Refute it at one input. -/
def docsWaysWrong : ChangeSpec := { name := "docsWays", fn := fun _ => fun
  | [d1, d2, d3] => { results := [.lit (.bool false)], args := [d1, d2, d3] }
  | _ => none }
def DocsWaysWrongFalsely : Prop := docsWaysRow.holds Tryz.pinned (OpenSpec.ofChange docsWaysWrong)

/- THE SECOND FORM. 'bulk': how many values and letters a reading holds, each counted each time it is reached (what is shared counts as often as it is met; a slice's spare places count too). A statement '..UptoSaid' is the law's where the arguments, and the package variables that the reading takes, are together of bulk at most 1048576: NARROWER than '..Said'. Prove '..Said' where nothing that the law and all that it calls make is longer than what came in: it says more and counts as full. Else prove '..UptoSaid'. A law counts once. -/
mutual
def uptoBulk {H : Type} : DataW H → Nat
  | .lit (.string bytes) => bytes.length + 1
  | .lit _ => 1
  | .nil => 1
  | .ptr d => uptoBulk d + 1
  | .slice elems spare => uptoBulkAll elems + uptoBulkAll spare + 1
  | .agg parts => uptoBulkAll parts + 1
  | .iface _ d => uptoBulk d + 1
  | .map entries => uptoBulkEntries entries + 1
  | .held _ => 1
def uptoBulkAll {H : Type} : List (DataW H) → Nat
  | [] => 0
  | d :: r => uptoBulk d + uptoBulkAll r
def uptoBulkEntries {H : Type} : List (Lit × DataW H) → Nat
  | [] => 0
  | x :: r => uptoBulkEntry x + uptoBulkEntries r
def uptoBulkEntry {H : Type} : Lit × DataW H → Nat
  | (.string bytes, d) => bytes.length + uptoBulk d + 1
  | (_, d) => uptoBulk d + 1
 end
def uptoSmall : (H : Type) → List (DataW H) → Bool := fun _ ds => decide (uptoBulkAll ds ≤ 1048576)
def OpenSpec.upto (s : _root_.Go.ChangeSpec) : _root_.Go.OpenSpec := { _root_.Go.OpenSpec.ofChange s with cond := some uptoSmall }

/-- 'tendrillaw24.DocsRuns', WHERE WHAT IT READS IS OF BULK AT MOST 1048576: true; the input reads as it did. -/
def docsRunsUptoRow : OpenClaim := { program := "ytakgcpmemalmaaagreatdoor", sum := "f6d23b075858f2e4b68d8f06ca38d0b8008ec9324ecd69342e2ca4044791a83c", func := "tendril/tendrillaw24.DocsRuns", spec := "docsRuns", inPlace := ["internal/bytealg.IndexByteString", "internal/bytealg.IndexString", "slices.overlaps[byte]", "slices.overlaps[int]", "slices.overlaps[tendril/api.Doc]"], unfollowed := true, recurses := true, named := ["unicode/utf8.first", "unicode/utf8.acceptRanges", "internal/bytealg.MaxLen"], apart := false, laid := [("unicode/utf8.acceptRanges", laid_unicode_utf8_acceptRanges), ("unicode/utf8.first", laid_unicode_utf8_first)], narrowed := true }
def DocsRunsUptoSaid : Prop := docsRunsUptoRow.holds Tryz.pinned (OpenSpec.upto docsRunsSpec)

/-- 'tendrillaw24.DocsQueries', WHERE WHAT IT READS IS OF BULK AT MOST 1048576: true; the input reads as it did. -/
def docsQueriesUptoRow : OpenClaim := { program := "ytakgcpmemalmaaagreatdoor", sum := "f6d23b075858f2e4b68d8f06ca38d0b8008ec9324ecd69342e2ca4044791a83c", func := "tendril/tendrillaw24.DocsQueries", spec := "docsQueries", inPlace := ["internal/bytealg.IndexByteString", "internal/bytealg.IndexString", "slices.overlaps[byte]", "slices.overlaps[int]", "slices.overlaps[tendril/api.Doc]"], unfollowed := true, recurses := true, named := ["unicode/utf8.first", "unicode/utf8.acceptRanges", "internal/bytealg.MaxLen"], apart := false, laid := [("unicode/utf8.acceptRanges", laid_unicode_utf8_acceptRanges), ("unicode/utf8.first", laid_unicode_utf8_first)], narrowed := true }
def DocsQueriesUptoSaid : Prop := docsQueriesUptoRow.holds Tryz.pinned (OpenSpec.upto docsQueriesSpec)

/-- 'tendrillaw24.DocsFull', WHERE WHAT IT READS IS OF BULK AT MOST 1048576: true; the input reads as it did. -/
def docsFullUptoRow : OpenClaim := { program := "ytakgcpmemalmaaagreatdoor", sum := "f6d23b075858f2e4b68d8f06ca38d0b8008ec9324ecd69342e2ca4044791a83c", func := "tendril/tendrillaw24.DocsFull", spec := "docsFull", inPlace := ["internal/bytealg.IndexByteString", "internal/bytealg.IndexString", "slices.overlaps[byte]", "slices.overlaps[int]", "slices.overlaps[tendril/api.Doc]"], unfollowed := true, recurses := true, named := ["unicode/utf8.first", "unicode/utf8.acceptRanges", "internal/bytealg.MaxLen"], apart := false, laid := [("unicode/utf8.acceptRanges", laid_unicode_utf8_acceptRanges), ("unicode/utf8.first", laid_unicode_utf8_first)], narrowed := true }
def DocsFullUptoSaid : Prop := docsFullUptoRow.holds Tryz.pinned (OpenSpec.upto docsFullSpec)

/-- 'tendrillaw24.DocsRanges', WHERE WHAT IT READS IS OF BULK AT MOST 1048576: true; the input reads as it did. -/
def docsRangesUptoRow : OpenClaim := { program := "ytakgcpmemalmaaagreatdoor", sum := "f6d23b075858f2e4b68d8f06ca38d0b8008ec9324ecd69342e2ca4044791a83c", func := "tendril/tendrillaw24.DocsRanges", spec := "docsRanges", inPlace := ["internal/bytealg.IndexByteString", "internal/bytealg.IndexString", "slices.overlaps[byte]", "slices.overlaps[int]", "slices.overlaps[tendril/api.Doc]"], unfollowed := true, recurses := true, named := ["unicode/utf8.first", "unicode/utf8.acceptRanges", "internal/bytealg.MaxLen"], apart := false, laid := [("unicode/utf8.acceptRanges", laid_unicode_utf8_acceptRanges), ("unicode/utf8.first", laid_unicode_utf8_first)], narrowed := true }
def DocsRangesUptoSaid : Prop := docsRangesUptoRow.holds Tryz.pinned (OpenSpec.upto docsRangesSpec)

/-- 'tendrillaw24.DocsLoads', WHERE WHAT IT READS IS OF BULK AT MOST 1048576: true; the input reads as it did. -/
def docsLoadsUptoRow : OpenClaim := { program := "ytakgcpmemalmaaagreatdoor", sum := "f6d23b075858f2e4b68d8f06ca38d0b8008ec9324ecd69342e2ca4044791a83c", func := "tendril/tendrillaw24.DocsLoads", spec := "docsLoads", inPlace := ["internal/bytealg.IndexByteString", "internal/bytealg.IndexString", "slices.overlaps[byte]", "slices.overlaps[int]", "slices.overlaps[tendril/api.Doc]"], unfollowed := true, recurses := true, named := ["unicode/utf8.first", "unicode/utf8.acceptRanges", "internal/bytealg.MaxLen"], apart := false, laid := [("unicode/utf8.acceptRanges", laid_unicode_utf8_acceptRanges), ("unicode/utf8.first", laid_unicode_utf8_first)], narrowed := true }
def DocsLoadsUptoSaid : Prop := docsLoadsUptoRow.holds Tryz.pinned (OpenSpec.upto docsLoadsSpec)

/-- 'tendrillaw24.DocsPlays', WHERE WHAT IT READS IS OF BULK AT MOST 1048576: true; the input reads as it did. -/
def docsPlaysUptoRow : OpenClaim := { program := "ytakgcpmemalmaaagreatdoor", sum := "f6d23b075858f2e4b68d8f06ca38d0b8008ec9324ecd69342e2ca4044791a83c", func := "tendril/tendrillaw24.DocsPlays", spec := "docsPlays", inPlace := ["internal/bytealg.IndexByteString", "internal/bytealg.IndexString", "slices.overlaps[byte]", "slices.overlaps[int]", "slices.overlaps[tendril/api.Doc]"], unfollowed := true, recurses := true, named := ["unicode/utf8.first", "unicode/utf8.acceptRanges", "internal/bytealg.MaxLen"], apart := false, laid := [("unicode/utf8.acceptRanges", laid_unicode_utf8_acceptRanges), ("unicode/utf8.first", laid_unicode_utf8_first)], narrowed := true }
def DocsPlaysUptoSaid : Prop := docsPlaysUptoRow.holds Tryz.pinned (OpenSpec.upto docsPlaysSpec)

/-- 'tendrillaw24.DocsErrors', WHERE WHAT IT READS IS OF BULK AT MOST 1048576: true; the input reads as it did. -/
def docsErrorsUptoRow : OpenClaim := { program := "ytakgcpmemalmaaagreatdoor", sum := "f6d23b075858f2e4b68d8f06ca38d0b8008ec9324ecd69342e2ca4044791a83c", func := "tendril/tendrillaw24.DocsErrors", spec := "docsErrors", inPlace := ["internal/bytealg.IndexByteString", "internal/bytealg.IndexString", "slices.overlaps[byte]", "slices.overlaps[int]", "slices.overlaps[tendril/api.Doc]"], unfollowed := true, recurses := true, named := ["unicode/utf8.first", "unicode/utf8.acceptRanges", "internal/bytealg.MaxLen"], apart := false, laid := [("unicode/utf8.acceptRanges", laid_unicode_utf8_acceptRanges), ("unicode/utf8.first", laid_unicode_utf8_first)], narrowed := true }
def DocsErrorsUptoSaid : Prop := docsErrorsUptoRow.holds Tryz.pinned (OpenSpec.upto docsErrorsSpec)

/-- 'tendrillaw24.DocsUpdates', WHERE WHAT IT READS IS OF BULK AT MOST 1048576: true; the input reads as it did. -/
def docsUpdatesUptoRow : OpenClaim := { program := "ytakgcpmemalmaaagreatdoor", sum := "f6d23b075858f2e4b68d8f06ca38d0b8008ec9324ecd69342e2ca4044791a83c", func := "tendril/tendrillaw24.DocsUpdates", spec := "docsUpdates", inPlace := ["internal/bytealg.IndexByteString", "internal/bytealg.IndexString", "slices.overlaps[byte]", "slices.overlaps[int]", "slices.overlaps[tendril/api.Doc]"], unfollowed := true, recurses := true, named := ["unicode/utf8.first", "unicode/utf8.acceptRanges", "internal/bytealg.MaxLen"], apart := false, laid := [("unicode/utf8.acceptRanges", laid_unicode_utf8_acceptRanges), ("unicode/utf8.first", laid_unicode_utf8_first)], narrowed := true }
def DocsUpdatesUptoSaid : Prop := docsUpdatesUptoRow.holds Tryz.pinned (OpenSpec.upto docsUpdatesSpec)

/-- 'tendrillaw24.DocsWays', WHERE WHAT IT READS IS OF BULK AT MOST 1048576: true; the input reads as it did. -/
def docsWaysUptoRow : OpenClaim := { program := "ytakgcpmemalmaaagreatdoor", sum := "f6d23b075858f2e4b68d8f06ca38d0b8008ec9324ecd69342e2ca4044791a83c", func := "tendril/tendrillaw24.DocsWays", spec := "docsWays", inPlace := ["internal/bytealg.IndexByteString", "internal/bytealg.IndexString", "slices.overlaps[byte]", "slices.overlaps[int]", "slices.overlaps[tendril/api.Doc]"], unfollowed := true, recurses := true, named := ["unicode/utf8.first", "unicode/utf8.acceptRanges", "internal/bytealg.MaxLen"], apart := false, laid := [("unicode/utf8.acceptRanges", laid_unicode_utf8_acceptRanges), ("unicode/utf8.first", laid_unicode_utf8_first)], narrowed := true }
def DocsWaysUptoSaid : Prop := docsWaysUptoRow.holds Tryz.pinned (OpenSpec.upto docsWaysSpec)

end Rows
end Go.Proofs.YtakgcpmemalmaaaGreatDoor
