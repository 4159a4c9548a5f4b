/-
  No cell of these rows narrows 'for every input' (looked for: loops, veiled, ifaces, maps, wideKeys, modest, calm, conditions, laid).
  DERIVED. THE GIVEN ROWS OF THIS SEAT. 12 by the template 'for every input the law returns true; each argument reads behind the call as it read before'; 0 by the template 'total and deterministic' (their statements: YtpabmkicdcilpaaTotals.lean).
  GIVEN WITH THE SEED: the statements are not yours to turn. If you find one false, say at which input.
  Laid BY PROGRAM, IN A SANDBOX (cutbox-rows.mjs): the forced cells as the released guide's own fill.sh prints them over the translation ac3c6fdd8760e3e2… (all of the seat's roots in one cut). By AI agents, Wed Nov 11 2026. No macro, syntax, notation, axiom, sorry.
-/
import Derived.Test.YtpabmkicdcilpaaChecked
import GoSem.Claim
import GoSem.ClaimJoined
import GoSem.ClaimMapViews
import Derived.JoinedTies
import Derived.KernelRfl
namespace Go.Proofs.Ytpabmkicdcilpaa
/- THE CELL 'sum', in the pinned program and in every row, IS THE sha256 OF THE DUMP (.gsa) THAT YtpabmkicdcilpaaProg.lean LOADS. Nothing in Lean hashes anything: it is a label: what it is worth is what the hold of that sum in a sandbox is worth. -/
noncomputable def Try.pinned : Pinned := { name := "ytpabmkicdcilpaa", sum := "ac3c6fdd8760e3e2d1562e63624c0924fd783425574369fd294348555300d7ea", checked := Try.checked }
namespace Rows
def none {H : Type} : Left H := { results := [], args := [] }

/-- 'tendrillaw7.NodeRuns': WHATEVER THE INPUT: true; the input reads as it did. -/
def nodeRunsSpec : ChangeSpec := { name := "nodeRuns", fn := fun _ => fun
  | [] => { results := [.lit (.bool true)], args := [] }
  | _ => none }
def nodeRunsRow : OpenClaim := { program := "ytpabmkicdcilpaa", sum := "ac3c6fdd8760e3e2d1562e63624c0924fd783425574369fd294348555300d7ea", func := "tendril/tendrillaw7.NodeRuns", spec := "nodeRuns", inPlace := ["slices.overlaps[byte]", "slices.overlaps[int]"], apart := false }
def NodeRunsSaid : Prop := nodeRunsRow.holds Try.pinned (OpenSpec.ofChange nodeRunsSpec)

/-- ITS FALSE NEIGHBOUR: 'it returns false'. Refute it at one input. -/
def nodeRunsWrong : ChangeSpec := { name := "nodeRuns", fn := fun _ => fun
  | [] => { results := [.lit (.bool false)], args := [] }
  | _ => none }
def NodeRunsWrongFalsely : Prop := nodeRunsRow.holds Try.pinned (OpenSpec.ofChange nodeRunsWrong)

/-- 'tendrillaw7.NodeOrder': WHATEVER THE INPUT: true; the input reads as it did. -/
def nodeOrderSpec : ChangeSpec := { name := "nodeOrder", fn := fun _ => fun
  | [d1, d2] => { results := [.lit (.bool true)], args := [d1, d2] }
  | _ => none }
def nodeOrderRow : OpenClaim := { program := "ytpabmkicdcilpaa", sum := "ac3c6fdd8760e3e2d1562e63624c0924fd783425574369fd294348555300d7ea", func := "tendril/tendrillaw7.NodeOrder", spec := "nodeOrder", inPlace := ["slices.overlaps[byte]", "slices.overlaps[int]"], unfollowed := true, recurses := true, apart := false }
def NodeOrderSaid : Prop := nodeOrderRow.holds Try.pinned (OpenSpec.ofChange nodeOrderSpec)

/-- ITS FALSE NEIGHBOUR: 'it returns false'. Refute it at one input. -/
def nodeOrderWrong : ChangeSpec := { name := "nodeOrder", fn := fun _ => fun
  | [d1, d2] => { results := [.lit (.bool false)], args := [d1, d2] }
  | _ => none }
def NodeOrderWrongFalsely : Prop := nodeOrderRow.holds Try.pinned (OpenSpec.ofChange nodeOrderWrong)

/-- 'tendrillaw7.NodeTurns': WHATEVER THE INPUT: true; the input reads as it did. -/
def nodeTurnsSpec : ChangeSpec := { name := "nodeTurns", fn := fun _ => fun
  | [d1, d2] => { results := [.lit (.bool true)], args := [d1, d2] }
  | _ => none }
def nodeTurnsRow : OpenClaim := { program := "ytpabmkicdcilpaa", sum := "ac3c6fdd8760e3e2d1562e63624c0924fd783425574369fd294348555300d7ea", func := "tendril/tendrillaw7.NodeTurns", spec := "nodeTurns", inPlace := ["slices.overlaps[byte]", "slices.overlaps[int]"], apart := false }
def NodeTurnsSaid : Prop := nodeTurnsRow.holds Try.pinned (OpenSpec.ofChange nodeTurnsSpec)

/-- ITS FALSE NEIGHBOUR: 'it returns false'. Refute it at one input. -/
def nodeTurnsWrong : ChangeSpec := { name := "nodeTurns", fn := fun _ => fun
  | [d1, d2] => { results := [.lit (.bool false)], args := [d1, d2] }
  | _ => none }
def NodeTurnsWrongFalsely : Prop := nodeTurnsRow.holds Try.pinned (OpenSpec.ofChange nodeTurnsWrong)

/-- 'tendrillaw7.NodeStays': WHATEVER THE INPUT: true; the input reads as it did. -/
def nodeStaysSpec : ChangeSpec := { name := "nodeStays", fn := fun _ => fun
  | [d1, d2, d3] => { results := [.lit (.bool true)], args := [d1, d2, d3] }
  | _ => none }
def nodeStaysRow : OpenClaim := { program := "ytpabmkicdcilpaa", sum := "ac3c6fdd8760e3e2d1562e63624c0924fd783425574369fd294348555300d7ea", func := "tendril/tendrillaw7.NodeStays", spec := "nodeStays", inPlace := ["slices.overlaps[byte]", "slices.overlaps[int]"], apart := false }
def NodeStaysSaid : Prop := nodeStaysRow.holds Try.pinned (OpenSpec.ofChange nodeStaysSpec)

/-- ITS FALSE NEIGHBOUR: 'it returns false'. Refute it at one input. -/
def nodeStaysWrong : ChangeSpec := { name := "nodeStays", fn := fun _ => fun
  | [d1, d2, d3] => { results := [.lit (.bool false)], args := [d1, d2, d3] }
  | _ => none }
def NodeStaysWrongFalsely : Prop := nodeStaysRow.holds Try.pinned (OpenSpec.ofChange nodeStaysWrong)

/-- 'tendrillaw7.NodeKids': WHATEVER THE INPUT: true; the input reads as it did. -/
def nodeKidsSpec : ChangeSpec := { name := "nodeKids", fn := fun _ => fun
  | [d1, d2, d3] => { results := [.lit (.bool true)], args := [d1, d2, d3] }
  | _ => none }
def nodeKidsRow : OpenClaim := { program := "ytpabmkicdcilpaa", sum := "ac3c6fdd8760e3e2d1562e63624c0924fd783425574369fd294348555300d7ea", func := "tendril/tendrillaw7.NodeKids", spec := "nodeKids", inPlace := ["slices.overlaps[byte]", "slices.overlaps[int]"], apart := false }
def NodeKidsSaid : Prop := nodeKidsRow.holds Try.pinned (OpenSpec.ofChange nodeKidsSpec)

/-- ITS FALSE NEIGHBOUR: 'it returns false'. Refute it at one input. -/
def nodeKidsWrong : ChangeSpec := { name := "nodeKids", fn := fun _ => fun
  | [d1, d2, d3] => { results := [.lit (.bool false)], args := [d1, d2, d3] }
  | _ => none }
def NodeKidsWrongFalsely : Prop := nodeKidsRow.holds Try.pinned (OpenSpec.ofChange nodeKidsWrong)

/-- 'tendrillaw7.NodeBands': WHATEVER THE INPUT: true; the input reads as it did. -/
def nodeBandsSpec : ChangeSpec := { name := "nodeBands", fn := fun _ => fun
  | [d] => { results := [.lit (.bool true)], args := [d] }
  | _ => none }
def nodeBandsRow : OpenClaim := { program := "ytpabmkicdcilpaa", sum := "ac3c6fdd8760e3e2d1562e63624c0924fd783425574369fd294348555300d7ea", func := "tendril/tendrillaw7.NodeBands", spec := "nodeBands", inPlace := ["slices.overlaps[byte]", "slices.overlaps[int]"], apart := false }
def NodeBandsSaid : Prop := nodeBandsRow.holds Try.pinned (OpenSpec.ofChange nodeBandsSpec)

/-- ITS FALSE NEIGHBOUR: 'it returns false'. Refute it at one input. -/
def nodeBandsWrong : ChangeSpec := { name := "nodeBands", fn := fun _ => fun
  | [d] => { results := [.lit (.bool false)], args := [d] }
  | _ => none }
def NodeBandsWrongFalsely : Prop := nodeBandsRow.holds Try.pinned (OpenSpec.ofChange nodeBandsWrong)

/-- 'tendrillaw7.NodeFull': WHATEVER THE INPUT: true; the input reads as it did. -/
def nodeFullSpec : ChangeSpec := { name := "nodeFull", fn := fun _ => fun
  | [d1, d2] => { results := [.lit (.bool true)], args := [d1, d2] }
  | _ => none }
def nodeFullRow : OpenClaim := { program := "ytpabmkicdcilpaa", sum := "ac3c6fdd8760e3e2d1562e63624c0924fd783425574369fd294348555300d7ea", func := "tendril/tendrillaw7.NodeFull", spec := "nodeFull", inPlace := ["slices.overlaps[byte]", "slices.overlaps[int]"], apart := false }
def NodeFullSaid : Prop := nodeFullRow.holds Try.pinned (OpenSpec.ofChange nodeFullSpec)

/-- ITS FALSE NEIGHBOUR: 'it returns false'. Refute it at one input. -/
def nodeFullWrong : ChangeSpec := { name := "nodeFull", fn := fun _ => fun
  | [d1, d2] => { results := [.lit (.bool false)], args := [d1, d2] }
  | _ => none }
def NodeFullWrongFalsely : Prop := nodeFullRow.holds Try.pinned (OpenSpec.ofChange nodeFullWrong)

/-- 'tendrillaw7.NodeTells': WHATEVER THE INPUT: true; the input reads as it did. -/
def nodeTellsSpec : ChangeSpec := { name := "nodeTells", fn := fun _ => fun
  | [d1, d2, d3, d4] => { results := [.lit (.bool true)], args := [d1, d2, d3, d4] }
  | _ => none }
def nodeTellsRow : OpenClaim := { program := "ytpabmkicdcilpaa", sum := "ac3c6fdd8760e3e2d1562e63624c0924fd783425574369fd294348555300d7ea", func := "tendril/tendrillaw7.NodeTells", spec := "nodeTells", inPlace := ["slices.overlaps[byte]", "slices.overlaps[int]"], apart := false }
def NodeTellsSaid : Prop := nodeTellsRow.holds Try.pinned (OpenSpec.ofChange nodeTellsSpec)

/-- ITS FALSE NEIGHBOUR: 'it returns false'. Refute it at one input. -/
def nodeTellsWrong : ChangeSpec := { name := "nodeTells", fn := fun _ => fun
  | [d1, d2, d3, d4] => { results := [.lit (.bool false)], args := [d1, d2, d3, d4] }
  | _ => none }
def NodeTellsWrongFalsely : Prop := nodeTellsRow.holds Try.pinned (OpenSpec.ofChange nodeTellsWrong)

/-- 'tendrillaw7.NodeLeaves': WHATEVER THE INPUT: true; the input reads as it did. -/
def nodeLeavesSpec : ChangeSpec := { name := "nodeLeaves", fn := fun _ => fun
  | [d1, d2, d3] => { results := [.lit (.bool true)], args := [d1, d2, d3] }
  | _ => none }
def nodeLeavesRow : OpenClaim := { program := "ytpabmkicdcilpaa", sum := "ac3c6fdd8760e3e2d1562e63624c0924fd783425574369fd294348555300d7ea", func := "tendril/tendrillaw7.NodeLeaves", spec := "nodeLeaves", inPlace := ["internal/bytealg.IndexByteString", "slices.overlaps[byte]", "slices.overlaps[int]"], apart := false }
def NodeLeavesSaid : Prop := nodeLeavesRow.holds Try.pinned (OpenSpec.ofChange nodeLeavesSpec)

/-- ITS FALSE NEIGHBOUR: 'it returns false'. Refute it at one input. -/
def nodeLeavesWrong : ChangeSpec := { name := "nodeLeaves", fn := fun _ => fun
  | [d1, d2, d3] => { results := [.lit (.bool false)], args := [d1, d2, d3] }
  | _ => none }
def NodeLeavesWrongFalsely : Prop := nodeLeavesRow.holds Try.pinned (OpenSpec.ofChange nodeLeavesWrong)

/-- 'tendrillaw7.NodeBack': WHATEVER THE INPUT: true; the input reads as it did. -/
def nodeBackSpec : ChangeSpec := { name := "nodeBack", fn := fun _ => fun
  | [d1, d2] => { results := [.lit (.bool true)], args := [d1, d2] }
  | _ => none }
def nodeBackRow : OpenClaim := { program := "ytpabmkicdcilpaa", sum := "ac3c6fdd8760e3e2d1562e63624c0924fd783425574369fd294348555300d7ea", func := "tendril/tendrillaw7.NodeBack", spec := "nodeBack", inPlace := ["slices.overlaps[byte]", "slices.overlaps[int]"], apart := false }
def NodeBackSaid : Prop := nodeBackRow.holds Try.pinned (OpenSpec.ofChange nodeBackSpec)

/-- ITS FALSE NEIGHBOUR: 'it returns false'. Refute it at one input. -/
def nodeBackWrong : ChangeSpec := { name := "nodeBack", fn := fun _ => fun
  | [d1, d2] => { results := [.lit (.bool false)], args := [d1, d2] }
  | _ => none }
def NodeBackWrongFalsely : Prop := nodeBackRow.holds Try.pinned (OpenSpec.ofChange nodeBackWrong)

/-- 'tendrillaw7.NodeLeafApart': WHATEVER THE INPUT: true; the input reads as it did. -/
def nodeLeafApartSpec : ChangeSpec := { name := "nodeLeafApart", fn := fun _ => fun
  | [d1, d2] => { results := [.lit (.bool true)], args := [d1, d2] }
  | _ => none }
def nodeLeafApartRow : OpenClaim := { program := "ytpabmkicdcilpaa", sum := "ac3c6fdd8760e3e2d1562e63624c0924fd783425574369fd294348555300d7ea", func := "tendril/tendrillaw7.NodeLeafApart", spec := "nodeLeafApart", inPlace := ["internal/bytealg.IndexByteString", "slices.overlaps[byte]", "slices.overlaps[int]"], apart := false }
def NodeLeafApartSaid : Prop := nodeLeafApartRow.holds Try.pinned (OpenSpec.ofChange nodeLeafApartSpec)

/-- ITS FALSE NEIGHBOUR: 'it returns false'. Refute it at one input. -/
def nodeLeafApartWrong : ChangeSpec := { name := "nodeLeafApart", fn := fun _ => fun
  | [d1, d2] => { results := [.lit (.bool false)], args := [d1, d2] }
  | _ => none }
def NodeLeafApartWrongFalsely : Prop := nodeLeafApartRow.holds Try.pinned (OpenSpec.ofChange nodeLeafApartWrong)

/-- 'tendrillaw7.NodeReads': WHATEVER THE INPUT: true; the input reads as it did. -/
def nodeReadsSpec : ChangeSpec := { name := "nodeReads", fn := fun _ => fun
  | [d1, d2, d3, d4, d5] => { results := [.lit (.bool true)], args := [d1, d2, d3, d4, d5] }
  | _ => none }
def nodeReadsRow : OpenClaim := { program := "ytpabmkicdcilpaa", sum := "ac3c6fdd8760e3e2d1562e63624c0924fd783425574369fd294348555300d7ea", func := "tendril/tendrillaw7.NodeReads", spec := "nodeReads", inPlace := ["internal/bytealg.IndexByteString", "slices.overlaps[byte]", "slices.overlaps[int]"], apart := false }
def NodeReadsSaid : Prop := nodeReadsRow.holds Try.pinned (OpenSpec.ofChange nodeReadsSpec)

/-- ITS FALSE NEIGHBOUR: 'it returns false'. Refute it at one input. -/
def nodeReadsWrong : ChangeSpec := { name := "nodeReads", fn := fun _ => fun
  | [d1, d2, d3, d4, d5] => { results := [.lit (.bool false)], args := [d1, d2, d3, d4, d5] }
  | _ => none }
def NodeReadsWrongFalsely : Prop := nodeReadsRow.holds Try.pinned (OpenSpec.ofChange nodeReadsWrong)

/- THE SECOND FORM. 'bulk': how many values and letters a reading holds, each counted each time it is reached (what is shared counts as often as it is met; a slice's spare places count too). A statement '..UptoSaid' is the law's where the arguments, and the package variables that the reading takes, are together of bulk at most 1048576: NARROWER than '..Said'. Prove '..Said' where nothing that the law and all that it calls make is longer than what came in: it says more and counts as full. Else prove '..UptoSaid'. A law counts once. -/
mutual
def uptoBulk {H : Type} : DataW H → Nat
  | .lit (.string bytes) => bytes.length + 1
  | .lit _ => 1
  | .nil => 1
  | .ptr d => uptoBulk d + 1
  | .slice elems spare => uptoBulkAll elems + uptoBulkAll spare + 1
  | .agg parts => uptoBulkAll parts + 1
  | .iface _ d => uptoBulk d + 1
  | .map entries => uptoBulkEntries entries + 1
  | .held _ => 1
def uptoBulkAll {H : Type} : List (DataW H) → Nat
  | [] => 0
  | d :: r => uptoBulk d + uptoBulkAll r
def uptoBulkEntries {H : Type} : List (Lit × DataW H) → Nat
  | [] => 0
  | x :: r => uptoBulkEntry x + uptoBulkEntries r
def uptoBulkEntry {H : Type} : Lit × DataW H → Nat
  | (.string bytes, d) => bytes.length + uptoBulk d + 1
  | (_, d) => uptoBulk d + 1
 end
def uptoSmall : (H : Type) → List (DataW H) → Bool := fun _ ds => decide (uptoBulkAll ds ≤ 1048576)
def OpenSpec.upto (s : _root_.Go.ChangeSpec) : _root_.Go.OpenSpec := { _root_.Go.OpenSpec.ofChange s with cond := some uptoSmall }

/-- 'tendrillaw7.NodeRuns', WHERE WHAT IT READS IS OF BULK AT MOST 1048576: true; the input reads as it did. -/
def nodeRunsUptoRow : OpenClaim := { program := "ytpabmkicdcilpaa", sum := "ac3c6fdd8760e3e2d1562e63624c0924fd783425574369fd294348555300d7ea", func := "tendril/tendrillaw7.NodeRuns", spec := "nodeRuns", inPlace := ["slices.overlaps[byte]", "slices.overlaps[int]"], apart := false, narrowed := true }
def NodeRunsUptoSaid : Prop := nodeRunsUptoRow.holds Try.pinned (OpenSpec.upto nodeRunsSpec)

/-- 'tendrillaw7.NodeOrder', WHERE WHAT IT READS IS OF BULK AT MOST 1048576: true; the input reads as it did. -/
def nodeOrderUptoRow : OpenClaim := { program := "ytpabmkicdcilpaa", sum := "ac3c6fdd8760e3e2d1562e63624c0924fd783425574369fd294348555300d7ea", func := "tendril/tendrillaw7.NodeOrder", spec := "nodeOrder", inPlace := ["slices.overlaps[byte]", "slices.overlaps[int]"], unfollowed := true, recurses := true, apart := false, narrowed := true }
def NodeOrderUptoSaid : Prop := nodeOrderUptoRow.holds Try.pinned (OpenSpec.upto nodeOrderSpec)

/-- 'tendrillaw7.NodeTurns', WHERE WHAT IT READS IS OF BULK AT MOST 1048576: true; the input reads as it did. -/
def nodeTurnsUptoRow : OpenClaim := { program := "ytpabmkicdcilpaa", sum := "ac3c6fdd8760e3e2d1562e63624c0924fd783425574369fd294348555300d7ea", func := "tendril/tendrillaw7.NodeTurns", spec := "nodeTurns", inPlace := ["slices.overlaps[byte]", "slices.overlaps[int]"], apart := false, narrowed := true }
def NodeTurnsUptoSaid : Prop := nodeTurnsUptoRow.holds Try.pinned (OpenSpec.upto nodeTurnsSpec)

/-- 'tendrillaw7.NodeStays', WHERE WHAT IT READS IS OF BULK AT MOST 1048576: true; the input reads as it did. -/
def nodeStaysUptoRow : OpenClaim := { program := "ytpabmkicdcilpaa", sum := "ac3c6fdd8760e3e2d1562e63624c0924fd783425574369fd294348555300d7ea", func := "tendril/tendrillaw7.NodeStays", spec := "nodeStays", inPlace := ["slices.overlaps[byte]", "slices.overlaps[int]"], apart := false, narrowed := true }
def NodeStaysUptoSaid : Prop := nodeStaysUptoRow.holds Try.pinned (OpenSpec.upto nodeStaysSpec)

/-- 'tendrillaw7.NodeKids', WHERE WHAT IT READS IS OF BULK AT MOST 1048576: true; the input reads as it did. -/
def nodeKidsUptoRow : OpenClaim := { program := "ytpabmkicdcilpaa", sum := "ac3c6fdd8760e3e2d1562e63624c0924fd783425574369fd294348555300d7ea", func := "tendril/tendrillaw7.NodeKids", spec := "nodeKids", inPlace := ["slices.overlaps[byte]", "slices.overlaps[int]"], apart := false, narrowed := true }
def NodeKidsUptoSaid : Prop := nodeKidsUptoRow.holds Try.pinned (OpenSpec.upto nodeKidsSpec)

/-- 'tendrillaw7.NodeBands', WHERE WHAT IT READS IS OF BULK AT MOST 1048576: true; the input reads as it did. -/
def nodeBandsUptoRow : OpenClaim := { program := "ytpabmkicdcilpaa", sum := "ac3c6fdd8760e3e2d1562e63624c0924fd783425574369fd294348555300d7ea", func := "tendril/tendrillaw7.NodeBands", spec := "nodeBands", inPlace := ["slices.overlaps[byte]", "slices.overlaps[int]"], apart := false, narrowed := true }
def NodeBandsUptoSaid : Prop := nodeBandsUptoRow.holds Try.pinned (OpenSpec.upto nodeBandsSpec)

/-- 'tendrillaw7.NodeFull', WHERE WHAT IT READS IS OF BULK AT MOST 1048576: true; the input reads as it did. -/
def nodeFullUptoRow : OpenClaim := { program := "ytpabmkicdcilpaa", sum := "ac3c6fdd8760e3e2d1562e63624c0924fd783425574369fd294348555300d7ea", func := "tendril/tendrillaw7.NodeFull", spec := "nodeFull", inPlace := ["slices.overlaps[byte]", "slices.overlaps[int]"], apart := false, narrowed := true }
def NodeFullUptoSaid : Prop := nodeFullUptoRow.holds Try.pinned (OpenSpec.upto nodeFullSpec)

/-- 'tendrillaw7.NodeTells', WHERE WHAT IT READS IS OF BULK AT MOST 1048576: true; the input reads as it did. -/
def nodeTellsUptoRow : OpenClaim := { program := "ytpabmkicdcilpaa", sum := "ac3c6fdd8760e3e2d1562e63624c0924fd783425574369fd294348555300d7ea", func := "tendril/tendrillaw7.NodeTells", spec := "nodeTells", inPlace := ["slices.overlaps[byte]", "slices.overlaps[int]"], apart := false, narrowed := true }
def NodeTellsUptoSaid : Prop := nodeTellsUptoRow.holds Try.pinned (OpenSpec.upto nodeTellsSpec)

/-- 'tendrillaw7.NodeLeaves', WHERE WHAT IT READS IS OF BULK AT MOST 1048576: true; the input reads as it did. -/
def nodeLeavesUptoRow : OpenClaim := { program := "ytpabmkicdcilpaa", sum := "ac3c6fdd8760e3e2d1562e63624c0924fd783425574369fd294348555300d7ea", func := "tendril/tendrillaw7.NodeLeaves", spec := "nodeLeaves", inPlace := ["internal/bytealg.IndexByteString", "slices.overlaps[byte]", "slices.overlaps[int]"], apart := false, narrowed := true }
def NodeLeavesUptoSaid : Prop := nodeLeavesUptoRow.holds Try.pinned (OpenSpec.upto nodeLeavesSpec)

/-- 'tendrillaw7.NodeBack', WHERE WHAT IT READS IS OF BULK AT MOST 1048576: true; the input reads as it did. -/
def nodeBackUptoRow : OpenClaim := { program := "ytpabmkicdcilpaa", sum := "ac3c6fdd8760e3e2d1562e63624c0924fd783425574369fd294348555300d7ea", func := "tendril/tendrillaw7.NodeBack", spec := "nodeBack", inPlace := ["slices.overlaps[byte]", "slices.overlaps[int]"], apart := false, narrowed := true }
def NodeBackUptoSaid : Prop := nodeBackUptoRow.holds Try.pinned (OpenSpec.upto nodeBackSpec)

/-- 'tendrillaw7.NodeLeafApart', WHERE WHAT IT READS IS OF BULK AT MOST 1048576: true; the input reads as it did. -/
def nodeLeafApartUptoRow : OpenClaim := { program := "ytpabmkicdcilpaa", sum := "ac3c6fdd8760e3e2d1562e63624c0924fd783425574369fd294348555300d7ea", func := "tendril/tendrillaw7.NodeLeafApart", spec := "nodeLeafApart", inPlace := ["internal/bytealg.IndexByteString", "slices.overlaps[byte]", "slices.overlaps[int]"], apart := false, narrowed := true }
def NodeLeafApartUptoSaid : Prop := nodeLeafApartUptoRow.holds Try.pinned (OpenSpec.upto nodeLeafApartSpec)

/-- 'tendrillaw7.NodeReads', WHERE WHAT IT READS IS OF BULK AT MOST 1048576: true; the input reads as it did. -/
def nodeReadsUptoRow : OpenClaim := { program := "ytpabmkicdcilpaa", sum := "ac3c6fdd8760e3e2d1562e63624c0924fd783425574369fd294348555300d7ea", func := "tendril/tendrillaw7.NodeReads", spec := "nodeReads", inPlace := ["internal/bytealg.IndexByteString", "slices.overlaps[byte]", "slices.overlaps[int]"], apart := false, narrowed := true }
def NodeReadsUptoSaid : Prop := nodeReadsUptoRow.holds Try.pinned (OpenSpec.upto nodeReadsSpec)

end Rows
end Go.Proofs.Ytpabmkicdcilpaa
