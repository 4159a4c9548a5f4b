/-
  No cell of these rows narrows 'for every input' (looked for: loops, veiled, ifaces, maps, wideKeys, modest, calm, conditions, laid).
  DERIVED. THE GIVEN ROWS OF THIS SEAT. 7 by the template 'for every input the law returns true; each argument reads behind the call as it read before'; 0 by the template 'total and deterministic' (their statements: YteokopjiaiflnaaTotals.lean).
  GIVEN WITH THE SEED: the statements are not yours to turn. If you find one false, say at which input.
  Laid BY PROGRAM, IN A SANDBOX (cutbox-rows.mjs): the forced cells as the released guide's own fill.sh prints them over the translation 5f1f25a56c8e29ef… (all of the seat's roots in one cut). By AI agents, Wed Nov 11 2026. No macro, syntax, notation, axiom, sorry.
-/
import Derived.Test.YteokopjiaiflnaaChecked
import GoSem.Claim
import GoSem.ClaimJoined
import GoSem.ClaimMapViews
import Derived.JoinedTies
import Derived.KernelRfl
namespace Go.Proofs.Yteokopjiaiflnaa
/- THE CELL 'sum', in the pinned program and in every row, IS THE sha256 OF THE DUMP (.gsa) THAT YteokopjiaiflnaaProg.lean LOADS. Nothing in Lean hashes anything: it is a label: what it is worth is what the hold of that sum in a sandbox is worth. -/
noncomputable def Try.pinned : Pinned := { name := "yteokopjiaiflnaa", sum := "5f1f25a56c8e29ef792602e4bdffa15c0617749ae1bd4d0ef703f395a1a9de81", checked := Try.checked }
namespace Rows
def none {H : Type} : Left H := { results := [], args := [] }

/-- 'tendrillaw20.PostingRuns': WHATEVER THE INPUT: true; the input reads as it did. -/
def postingRunsSpec : ChangeSpec := { name := "postingRuns", fn := fun _ => fun
  | [] => { results := [.lit (.bool true)], args := [] }
  | _ => none }
def postingRunsRow : OpenClaim := { program := "yteokopjiaiflnaa", sum := "5f1f25a56c8e29ef792602e4bdffa15c0617749ae1bd4d0ef703f395a1a9de81", func := "tendril/tendrillaw20.PostingRuns", spec := "postingRuns", inPlace := ["slices.overlaps[int]"], unfollowed := true, recurses := true, apart := false }
def PostingRunsSaid : Prop := postingRunsRow.holds Try.pinned (OpenSpec.ofChange postingRunsSpec)

/-- ITS FALSE NEIGHBOUR: 'it returns false'. Refute it at one input. -/
def postingRunsWrong : ChangeSpec := { name := "postingRuns", fn := fun _ => fun
  | [] => { results := [.lit (.bool false)], args := [] }
  | _ => none }
def PostingRunsWrongFalsely : Prop := postingRunsRow.holds Try.pinned (OpenSpec.ofChange postingRunsWrong)

/-- 'tendrillaw20.PostingRises': WHATEVER THE INPUT: true; the input reads as it did. -/
def postingRisesSpec : ChangeSpec := { name := "postingRises", fn := fun _ => fun
  | [d1, d2] => { results := [.lit (.bool true)], args := [d1, d2] }
  | _ => none }
def postingRisesRow : OpenClaim := { program := "yteokopjiaiflnaa", sum := "5f1f25a56c8e29ef792602e4bdffa15c0617749ae1bd4d0ef703f395a1a9de81", func := "tendril/tendrillaw20.PostingRises", spec := "postingRises", inPlace := ["slices.overlaps[int]"], unfollowed := true, recurses := true, apart := false }
def PostingRisesSaid : Prop := postingRisesRow.holds Try.pinned (OpenSpec.ofChange postingRisesSpec)

/-- ITS FALSE NEIGHBOUR: 'it returns false'. Refute it at one input. -/
def postingRisesWrong : ChangeSpec := { name := "postingRises", fn := fun _ => fun
  | [d1, d2] => { results := [.lit (.bool false)], args := [d1, d2] }
  | _ => none }
def PostingRisesWrongFalsely : Prop := postingRisesRow.holds Try.pinned (OpenSpec.ofChange postingRisesWrong)

/-- 'tendrillaw20.PostingStays': WHATEVER THE INPUT: true; the input reads as it did. -/
def postingStaysSpec : ChangeSpec := { name := "postingStays", fn := fun _ => fun
  | [d1, d2] => { results := [.lit (.bool true)], args := [d1, d2] }
  | _ => none }
def postingStaysRow : OpenClaim := { program := "yteokopjiaiflnaa", sum := "5f1f25a56c8e29ef792602e4bdffa15c0617749ae1bd4d0ef703f395a1a9de81", func := "tendril/tendrillaw20.PostingStays", spec := "postingStays", inPlace := ["slices.overlaps[int]"], unfollowed := true, recurses := true, apart := false }
def PostingStaysSaid : Prop := postingStaysRow.holds Try.pinned (OpenSpec.ofChange postingStaysSpec)

/-- ITS FALSE NEIGHBOUR: 'it returns false'. Refute it at one input. -/
def postingStaysWrong : ChangeSpec := { name := "postingStays", fn := fun _ => fun
  | [d1, d2] => { results := [.lit (.bool false)], args := [d1, d2] }
  | _ => none }
def PostingStaysWrongFalsely : Prop := postingStaysRow.holds Try.pinned (OpenSpec.ofChange postingStaysWrong)

/-- 'tendrillaw20.PostingOf': WHATEVER THE INPUT: true; the input reads as it did. -/
def postingOfSpec : ChangeSpec := { name := "postingOf", fn := fun _ => fun
  | [d] => { results := [.lit (.bool true)], args := [d] }
  | _ => none }
def postingOfRow : OpenClaim := { program := "yteokopjiaiflnaa", sum := "5f1f25a56c8e29ef792602e4bdffa15c0617749ae1bd4d0ef703f395a1a9de81", func := "tendril/tendrillaw20.PostingOf", spec := "postingOf", inPlace := ["slices.overlaps[int]"], unfollowed := true, recurses := true, apart := false }
def PostingOfSaid : Prop := postingOfRow.holds Try.pinned (OpenSpec.ofChange postingOfSpec)

/-- ITS FALSE NEIGHBOUR: 'it returns false'. Refute it at one input. -/
def postingOfWrong : ChangeSpec := { name := "postingOf", fn := fun _ => fun
  | [d] => { results := [.lit (.bool false)], args := [d] }
  | _ => none }
def PostingOfWrongFalsely : Prop := postingOfRow.holds Try.pinned (OpenSpec.ofChange postingOfWrong)

/-- 'tendrillaw20.PostingSet': WHATEVER THE INPUT: true; the input reads as it did. -/
def postingSetSpec : ChangeSpec := { name := "postingSet", fn := fun _ => fun
  | [d] => { results := [.lit (.bool true)], args := [d] }
  | _ => none }
def postingSetRow : OpenClaim := { program := "yteokopjiaiflnaa", sum := "5f1f25a56c8e29ef792602e4bdffa15c0617749ae1bd4d0ef703f395a1a9de81", func := "tendril/tendrillaw20.PostingSet", spec := "postingSet", inPlace := ["slices.overlaps[int]"], unfollowed := true, recurses := true, apart := false }
def PostingSetSaid : Prop := postingSetRow.holds Try.pinned (OpenSpec.ofChange postingSetSpec)

/-- ITS FALSE NEIGHBOUR: 'it returns false'. Refute it at one input. -/
def postingSetWrong : ChangeSpec := { name := "postingSet", fn := fun _ => fun
  | [d] => { results := [.lit (.bool false)], args := [d] }
  | _ => none }
def PostingSetWrongFalsely : Prop := postingSetRow.holds Try.pinned (OpenSpec.ofChange postingSetWrong)

/-- 'tendrillaw20.PostingSeeks': WHATEVER THE INPUT: true; the input reads as it did. -/
def postingSeeksSpec : ChangeSpec := { name := "postingSeeks", fn := fun _ => fun
  | [d1, d2] => { results := [.lit (.bool true)], args := [d1, d2] }
  | _ => none }
def postingSeeksRow : OpenClaim := { program := "yteokopjiaiflnaa", sum := "5f1f25a56c8e29ef792602e4bdffa15c0617749ae1bd4d0ef703f395a1a9de81", func := "tendril/tendrillaw20.PostingSeeks", spec := "postingSeeks", inPlace := ["slices.overlaps[int]"], unfollowed := true, recurses := true, apart := false }
def PostingSeeksSaid : Prop := postingSeeksRow.holds Try.pinned (OpenSpec.ofChange postingSeeksSpec)

/-- ITS FALSE NEIGHBOUR: 'it returns false'. Refute it at one input. -/
def postingSeeksWrong : ChangeSpec := { name := "postingSeeks", fn := fun _ => fun
  | [d1, d2] => { results := [.lit (.bool false)], args := [d1, d2] }
  | _ => none }
def PostingSeeksWrongFalsely : Prop := postingSeeksRow.holds Try.pinned (OpenSpec.ofChange postingSeeksWrong)

/-- 'tendrillaw20.PostingPlays': WHATEVER THE INPUT: true; the input reads as it did. -/
def postingPlaysSpec : ChangeSpec := { name := "postingPlays", fn := fun _ => fun
  | [d1, d2] => { results := [.lit (.bool true)], args := [d1, d2] }
  | _ => none }
def postingPlaysRow : OpenClaim := { program := "yteokopjiaiflnaa", sum := "5f1f25a56c8e29ef792602e4bdffa15c0617749ae1bd4d0ef703f395a1a9de81", func := "tendril/tendrillaw20.PostingPlays", spec := "postingPlays", inPlace := ["slices.overlaps[int]"], unfollowed := true, recurses := true, apart := false }
def PostingPlaysSaid : Prop := postingPlaysRow.holds Try.pinned (OpenSpec.ofChange postingPlaysSpec)

/-- ITS FALSE NEIGHBOUR: 'it returns false'. Refute it at one input. -/
def postingPlaysWrong : ChangeSpec := { name := "postingPlays", fn := fun _ => fun
  | [d1, d2] => { results := [.lit (.bool false)], args := [d1, d2] }
  | _ => none }
def PostingPlaysWrongFalsely : Prop := postingPlaysRow.holds Try.pinned (OpenSpec.ofChange postingPlaysWrong)

/- THE SECOND FORM. 'bulk': how many values and letters a reading holds, each counted each time it is reached (what is shared counts as often as it is met; a slice's spare places count too). A statement '..UptoSaid' is the law's where the arguments, and the package variables that the reading takes, are together of bulk at most 1048576: NARROWER than '..Said'. Prove '..Said' where nothing that the law and all that it calls make is longer than what came in: it says more and counts as full. Else prove '..UptoSaid'. A law counts once. -/
mutual
def uptoBulk {H : Type} : DataW H → Nat
  | .lit (.string bytes) => bytes.length + 1
  | .lit _ => 1
  | .nil => 1
  | .ptr d => uptoBulk d + 1
  | .slice elems spare => uptoBulkAll elems + uptoBulkAll spare + 1
  | .agg parts => uptoBulkAll parts + 1
  | .iface _ d => uptoBulk d + 1
  | .map entries => uptoBulkEntries entries + 1
  | .held _ => 1
def uptoBulkAll {H : Type} : List (DataW H) → Nat
  | [] => 0
  | d :: r => uptoBulk d + uptoBulkAll r
def uptoBulkEntries {H : Type} : List (Lit × DataW H) → Nat
  | [] => 0
  | x :: r => uptoBulkEntry x + uptoBulkEntries r
def uptoBulkEntry {H : Type} : Lit × DataW H → Nat
  | (.string bytes, d) => bytes.length + uptoBulk d + 1
  | (_, d) => uptoBulk d + 1
 end
def uptoSmall : (H : Type) → List (DataW H) → Bool := fun _ ds => decide (uptoBulkAll ds ≤ 1048576)
def OpenSpec.upto (s : _root_.Go.ChangeSpec) : _root_.Go.OpenSpec := { _root_.Go.OpenSpec.ofChange s with cond := some uptoSmall }

/-- 'tendrillaw20.PostingRuns', WHERE WHAT IT READS IS OF BULK AT MOST 1048576: true; the input reads as it did. -/
def postingRunsUptoRow : OpenClaim := { program := "yteokopjiaiflnaa", sum := "5f1f25a56c8e29ef792602e4bdffa15c0617749ae1bd4d0ef703f395a1a9de81", func := "tendril/tendrillaw20.PostingRuns", spec := "postingRuns", inPlace := ["slices.overlaps[int]"], unfollowed := true, recurses := true, apart := false, narrowed := true }
def PostingRunsUptoSaid : Prop := postingRunsUptoRow.holds Try.pinned (OpenSpec.upto postingRunsSpec)

/-- 'tendrillaw20.PostingRises', WHERE WHAT IT READS IS OF BULK AT MOST 1048576: true; the input reads as it did. -/
def postingRisesUptoRow : OpenClaim := { program := "yteokopjiaiflnaa", sum := "5f1f25a56c8e29ef792602e4bdffa15c0617749ae1bd4d0ef703f395a1a9de81", func := "tendril/tendrillaw20.PostingRises", spec := "postingRises", inPlace := ["slices.overlaps[int]"], unfollowed := true, recurses := true, apart := false, narrowed := true }
def PostingRisesUptoSaid : Prop := postingRisesUptoRow.holds Try.pinned (OpenSpec.upto postingRisesSpec)

/-- 'tendrillaw20.PostingStays', WHERE WHAT IT READS IS OF BULK AT MOST 1048576: true; the input reads as it did. -/
def postingStaysUptoRow : OpenClaim := { program := "yteokopjiaiflnaa", sum := "5f1f25a56c8e29ef792602e4bdffa15c0617749ae1bd4d0ef703f395a1a9de81", func := "tendril/tendrillaw20.PostingStays", spec := "postingStays", inPlace := ["slices.overlaps[int]"], unfollowed := true, recurses := true, apart := false, narrowed := true }
def PostingStaysUptoSaid : Prop := postingStaysUptoRow.holds Try.pinned (OpenSpec.upto postingStaysSpec)

/-- 'tendrillaw20.PostingOf', WHERE WHAT IT READS IS OF BULK AT MOST 1048576: true; the input reads as it did. -/
def postingOfUptoRow : OpenClaim := { program := "yteokopjiaiflnaa", sum := "5f1f25a56c8e29ef792602e4bdffa15c0617749ae1bd4d0ef703f395a1a9de81", func := "tendril/tendrillaw20.PostingOf", spec := "postingOf", inPlace := ["slices.overlaps[int]"], unfollowed := true, recurses := true, apart := false, narrowed := true }
def PostingOfUptoSaid : Prop := postingOfUptoRow.holds Try.pinned (OpenSpec.upto postingOfSpec)

/-- 'tendrillaw20.PostingSet', WHERE WHAT IT READS IS OF BULK AT MOST 1048576: true; the input reads as it did. -/
def postingSetUptoRow : OpenClaim := { program := "yteokopjiaiflnaa", sum := "5f1f25a56c8e29ef792602e4bdffa15c0617749ae1bd4d0ef703f395a1a9de81", func := "tendril/tendrillaw20.PostingSet", spec := "postingSet", inPlace := ["slices.overlaps[int]"], unfollowed := true, recurses := true, apart := false, narrowed := true }
def PostingSetUptoSaid : Prop := postingSetUptoRow.holds Try.pinned (OpenSpec.upto postingSetSpec)

/-- 'tendrillaw20.PostingSeeks', WHERE WHAT IT READS IS OF BULK AT MOST 1048576: true; the input reads as it did. -/
def postingSeeksUptoRow : OpenClaim := { program := "yteokopjiaiflnaa", sum := "5f1f25a56c8e29ef792602e4bdffa15c0617749ae1bd4d0ef703f395a1a9de81", func := "tendril/tendrillaw20.PostingSeeks", spec := "postingSeeks", inPlace := ["slices.overlaps[int]"], unfollowed := true, recurses := true, apart := false, narrowed := true }
def PostingSeeksUptoSaid : Prop := postingSeeksUptoRow.holds Try.pinned (OpenSpec.upto postingSeeksSpec)

/-- 'tendrillaw20.PostingPlays', WHERE WHAT IT READS IS OF BULK AT MOST 1048576: true; the input reads as it did. -/
def postingPlaysUptoRow : OpenClaim := { program := "yteokopjiaiflnaa", sum := "5f1f25a56c8e29ef792602e4bdffa15c0617749ae1bd4d0ef703f395a1a9de81", func := "tendril/tendrillaw20.PostingPlays", spec := "postingPlays", inPlace := ["slices.overlaps[int]"], unfollowed := true, recurses := true, apart := false, narrowed := true }
def PostingPlaysUptoSaid : Prop := postingPlaysUptoRow.holds Try.pinned (OpenSpec.upto postingPlaysSpec)

end Rows
end Go.Proofs.Yteokopjiaiflnaa
