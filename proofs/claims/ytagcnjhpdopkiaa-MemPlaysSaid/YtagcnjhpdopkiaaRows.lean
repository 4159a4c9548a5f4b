/-
  No cell of these rows narrows 'for every input' (looked for: loops, veiled, ifaces, maps, wideKeys, modest, calm, conditions, laid).
  DERIVED. THE GIVEN ROWS OF THIS SEAT. 8 by the template 'for every input the law returns true; each argument reads behind the call as it read before'; 0 by the template 'total and deterministic' (their statements: YtagcnjhpdopkiaaTotals.lean).
  GIVEN WITH THE SEED: the statements are not yours to turn. If you find one false, say at which input.
  Laid BY PROGRAM, IN A SANDBOX (cutbox-rows.mjs): the forced cells as the released guide's own fill.sh prints them over the translation 51abc458461326e9… (all of the seat's roots in one cut). By AI agents, Wed Nov 11 2026. No macro, syntax, notation, axiom, sorry.
-/
import Derived.Test.YtagcnjhpdopkiaaChecked
import GoSem.Claim
import GoSem.ClaimJoined
import GoSem.ClaimMapViews
import Derived.JoinedTies
import Derived.KernelRfl
namespace Go.Proofs.Ytagcnjhpdopkiaa
/- THE CELL 'sum', in the pinned program and in every row, IS THE sha256 OF THE DUMP (.gsa) THAT YtagcnjhpdopkiaaProg.lean LOADS. Nothing in Lean hashes anything: it is a label: what it is worth is what the hold of that sum in a sandbox is worth. -/
noncomputable def Try.pinned : Pinned := { name := "ytagcnjhpdopkiaa", sum := "51abc458461326e99db831885887a49b573d18df6d58ecb01b7f735d18a6e8d0", checked := Try.checked }
namespace Rows
def none {H : Type} : Left H := { results := [], args := [] }

/-- 'tendrillaw9.MemRuns': WHATEVER THE INPUT: true; the input reads as it did. -/
def memRunsSpec : ChangeSpec := { name := "memRuns", fn := fun _ => fun
  | [] => { results := [.lit (.bool true)], args := [] }
  | _ => none }
def memRunsRow : OpenClaim := { program := "ytagcnjhpdopkiaa", sum := "51abc458461326e99db831885887a49b573d18df6d58ecb01b7f735d18a6e8d0", func := "tendril/tendrillaw9.MemRuns", spec := "memRuns", unfollowed := true, recurses := true, apart := false }
def MemRunsSaid : Prop := memRunsRow.holds Try.pinned (OpenSpec.ofChange memRunsSpec)

/-- ITS FALSE NEIGHBOUR: 'it returns false'. Refute it at one input. -/
def memRunsWrong : ChangeSpec := { name := "memRuns", fn := fun _ => fun
  | [] => { results := [.lit (.bool false)], args := [] }
  | _ => none }
def MemRunsWrongFalsely : Prop := memRunsRow.holds Try.pinned (OpenSpec.ofChange memRunsWrong)

/-- 'tendrillaw9.MemTurns': WHATEVER THE INPUT: true; the input reads as it did. -/
def memTurnsSpec : ChangeSpec := { name := "memTurns", fn := fun _ => fun
  | [d1, d2, d3] => { results := [.lit (.bool true)], args := [d1, d2, d3] }
  | _ => none }
def memTurnsRow : OpenClaim := { program := "ytagcnjhpdopkiaa", sum := "51abc458461326e99db831885887a49b573d18df6d58ecb01b7f735d18a6e8d0", func := "tendril/tendrillaw9.MemTurns", spec := "memTurns", unfollowed := true, recurses := true, apart := false }
def MemTurnsSaid : Prop := memTurnsRow.holds Try.pinned (OpenSpec.ofChange memTurnsSpec)

/-- ITS FALSE NEIGHBOUR: 'it returns false'. Refute it at one input. -/
def memTurnsWrong : ChangeSpec := { name := "memTurns", fn := fun _ => fun
  | [d1, d2, d3] => { results := [.lit (.bool false)], args := [d1, d2, d3] }
  | _ => none }
def MemTurnsWrongFalsely : Prop := memTurnsRow.holds Try.pinned (OpenSpec.ofChange memTurnsWrong)

/-- 'tendrillaw9.MemSwaps': WHATEVER THE INPUT: true; the input reads as it did. -/
def memSwapsSpec : ChangeSpec := { name := "memSwaps", fn := fun _ => fun
  | [d1, d2, d3, d4] => { results := [.lit (.bool true)], args := [d1, d2, d3, d4] }
  | _ => none }
def memSwapsRow : OpenClaim := { program := "ytagcnjhpdopkiaa", sum := "51abc458461326e99db831885887a49b573d18df6d58ecb01b7f735d18a6e8d0", func := "tendril/tendrillaw9.MemSwaps", spec := "memSwaps", unfollowed := true, recurses := true, apart := false }
def MemSwapsSaid : Prop := memSwapsRow.holds Try.pinned (OpenSpec.ofChange memSwapsSpec)

/-- ITS FALSE NEIGHBOUR: 'it returns false'. Refute it at one input. -/
def memSwapsWrong : ChangeSpec := { name := "memSwaps", fn := fun _ => fun
  | [d1, d2, d3, d4] => { results := [.lit (.bool false)], args := [d1, d2, d3, d4] }
  | _ => none }
def MemSwapsWrongFalsely : Prop := memSwapsRow.holds Try.pinned (OpenSpec.ofChange memSwapsWrong)

/-- 'tendrillaw9.MemStrangers': WHATEVER THE INPUT: true; the input reads as it did. -/
def memStrangersSpec : ChangeSpec := { name := "memStrangers", fn := fun _ => fun
  | [d1, d2, d3] => { results := [.lit (.bool true)], args := [d1, d2, d3] }
  | _ => none }
def memStrangersRow : OpenClaim := { program := "ytagcnjhpdopkiaa", sum := "51abc458461326e99db831885887a49b573d18df6d58ecb01b7f735d18a6e8d0", func := "tendril/tendrillaw9.MemStrangers", spec := "memStrangers", unfollowed := true, recurses := true, apart := false }
def MemStrangersSaid : Prop := memStrangersRow.holds Try.pinned (OpenSpec.ofChange memStrangersSpec)

/-- ITS FALSE NEIGHBOUR: 'it returns false'. Refute it at one input. -/
def memStrangersWrong : ChangeSpec := { name := "memStrangers", fn := fun _ => fun
  | [d1, d2, d3] => { results := [.lit (.bool false)], args := [d1, d2, d3] }
  | _ => none }
def MemStrangersWrongFalsely : Prop := memStrangersRow.holds Try.pinned (OpenSpec.ofChange memStrangersWrong)

/-- 'tendrillaw9.MemEpochs': WHATEVER THE INPUT: true; the input reads as it did. -/
def memEpochsSpec : ChangeSpec := { name := "memEpochs", fn := fun _ => fun
  | [d1, d2, d3] => { results := [.lit (.bool true)], args := [d1, d2, d3] }
  | _ => none }
def memEpochsRow : OpenClaim := { program := "ytagcnjhpdopkiaa", sum := "51abc458461326e99db831885887a49b573d18df6d58ecb01b7f735d18a6e8d0", func := "tendril/tendrillaw9.MemEpochs", spec := "memEpochs", unfollowed := true, recurses := true, apart := false }
def MemEpochsSaid : Prop := memEpochsRow.holds Try.pinned (OpenSpec.ofChange memEpochsSpec)

/-- ITS FALSE NEIGHBOUR: 'it returns false'. Refute it at one input. -/
def memEpochsWrong : ChangeSpec := { name := "memEpochs", fn := fun _ => fun
  | [d1, d2, d3] => { results := [.lit (.bool false)], args := [d1, d2, d3] }
  | _ => none }
def MemEpochsWrongFalsely : Prop := memEpochsRow.holds Try.pinned (OpenSpec.ofChange memEpochsWrong)

/-- 'tendrillaw9.MemRoot': WHATEVER THE INPUT: true; the input reads as it did. -/
def memRootSpec : ChangeSpec := { name := "memRoot", fn := fun _ => fun
  | [d1, d2] => { results := [.lit (.bool true)], args := [d1, d2] }
  | _ => none }
def memRootRow : OpenClaim := { program := "ytagcnjhpdopkiaa", sum := "51abc458461326e99db831885887a49b573d18df6d58ecb01b7f735d18a6e8d0", func := "tendril/tendrillaw9.MemRoot", spec := "memRoot", unfollowed := true, recurses := true, apart := false }
def MemRootSaid : Prop := memRootRow.holds Try.pinned (OpenSpec.ofChange memRootSpec)

/-- ITS FALSE NEIGHBOUR: 'it returns false'. Refute it at one input. -/
def memRootWrong : ChangeSpec := { name := "memRoot", fn := fun _ => fun
  | [d1, d2] => { results := [.lit (.bool false)], args := [d1, d2] }
  | _ => none }
def MemRootWrongFalsely : Prop := memRootRow.holds Try.pinned (OpenSpec.ofChange memRootWrong)

/-- 'tendrillaw9.MemPlays': WHATEVER THE INPUT: true; the input reads as it did. -/
def memPlaysSpec : ChangeSpec := { name := "memPlays", fn := fun _ => fun
  | [d1, d2, d3] => { results := [.lit (.bool true)], args := [d1, d2, d3] }
  | _ => none }
def memPlaysRow : OpenClaim := { program := "ytagcnjhpdopkiaa", sum := "51abc458461326e99db831885887a49b573d18df6d58ecb01b7f735d18a6e8d0", func := "tendril/tendrillaw9.MemPlays", spec := "memPlays", unfollowed := true, recurses := true, apart := false }
def MemPlaysSaid : Prop := memPlaysRow.holds Try.pinned (OpenSpec.ofChange memPlaysSpec)

/-- ITS FALSE NEIGHBOUR: 'it returns false'. Refute it at one input. -/
def memPlaysWrong : ChangeSpec := { name := "memPlays", fn := fun _ => fun
  | [d1, d2, d3] => { results := [.lit (.bool false)], args := [d1, d2, d3] }
  | _ => none }
def MemPlaysWrongFalsely : Prop := memPlaysRow.holds Try.pinned (OpenSpec.ofChange memPlaysWrong)

/-- 'tendrillaw9.MemFrees': WHATEVER THE INPUT: true; the input reads as it did. -/
def memFreesSpec : ChangeSpec := { name := "memFrees", fn := fun _ => fun
  | [d1, d2, d3] => { results := [.lit (.bool true)], args := [d1, d2, d3] }
  | _ => none }
def memFreesRow : OpenClaim := { program := "ytagcnjhpdopkiaa", sum := "51abc458461326e99db831885887a49b573d18df6d58ecb01b7f735d18a6e8d0", func := "tendril/tendrillaw9.MemFrees", spec := "memFrees", unfollowed := true, recurses := true, apart := false }
def MemFreesSaid : Prop := memFreesRow.holds Try.pinned (OpenSpec.ofChange memFreesSpec)

/-- ITS FALSE NEIGHBOUR: 'it returns false'. Refute it at one input. -/
def memFreesWrong : ChangeSpec := { name := "memFrees", fn := fun _ => fun
  | [d1, d2, d3] => { results := [.lit (.bool false)], args := [d1, d2, d3] }
  | _ => none }
def MemFreesWrongFalsely : Prop := memFreesRow.holds Try.pinned (OpenSpec.ofChange memFreesWrong)

/- THE SECOND FORM. 'bulk': how many values and letters a reading holds, each counted each time it is reached (what is shared counts as often as it is met; a slice's spare places count too). A statement '..UptoSaid' is the law's where the arguments, and the package variables that the reading takes, are together of bulk at most 1048576: NARROWER than '..Said'. Prove '..Said' where nothing that the law and all that it calls make is longer than what came in: it says more and counts as full. Else prove '..UptoSaid'. A law counts once. -/
mutual
def uptoBulk {H : Type} : DataW H → Nat
  | .lit (.string bytes) => bytes.length + 1
  | .lit _ => 1
  | .nil => 1
  | .ptr d => uptoBulk d + 1
  | .slice elems spare => uptoBulkAll elems + uptoBulkAll spare + 1
  | .agg parts => uptoBulkAll parts + 1
  | .iface _ d => uptoBulk d + 1
  | .map entries => uptoBulkEntries entries + 1
  | .held _ => 1
def uptoBulkAll {H : Type} : List (DataW H) → Nat
  | [] => 0
  | d :: r => uptoBulk d + uptoBulkAll r
def uptoBulkEntries {H : Type} : List (Lit × DataW H) → Nat
  | [] => 0
  | x :: r => uptoBulkEntry x + uptoBulkEntries r
def uptoBulkEntry {H : Type} : Lit × DataW H → Nat
  | (.string bytes, d) => bytes.length + uptoBulk d + 1
  | (_, d) => uptoBulk d + 1
 end
def uptoSmall : (H : Type) → List (DataW H) → Bool := fun _ ds => decide (uptoBulkAll ds ≤ 1048576)
def OpenSpec.upto (s : _root_.Go.ChangeSpec) : _root_.Go.OpenSpec := { _root_.Go.OpenSpec.ofChange s with cond := some uptoSmall }

/-- 'tendrillaw9.MemRuns', WHERE WHAT IT READS IS OF BULK AT MOST 1048576: true; the input reads as it did. -/
def memRunsUptoRow : OpenClaim := { program := "ytagcnjhpdopkiaa", sum := "51abc458461326e99db831885887a49b573d18df6d58ecb01b7f735d18a6e8d0", func := "tendril/tendrillaw9.MemRuns", spec := "memRuns", unfollowed := true, recurses := true, apart := false, narrowed := true }
def MemRunsUptoSaid : Prop := memRunsUptoRow.holds Try.pinned (OpenSpec.upto memRunsSpec)

/-- 'tendrillaw9.MemTurns', WHERE WHAT IT READS IS OF BULK AT MOST 1048576: true; the input reads as it did. -/
def memTurnsUptoRow : OpenClaim := { program := "ytagcnjhpdopkiaa", sum := "51abc458461326e99db831885887a49b573d18df6d58ecb01b7f735d18a6e8d0", func := "tendril/tendrillaw9.MemTurns", spec := "memTurns", unfollowed := true, recurses := true, apart := false, narrowed := true }
def MemTurnsUptoSaid : Prop := memTurnsUptoRow.holds Try.pinned (OpenSpec.upto memTurnsSpec)

/-- 'tendrillaw9.MemSwaps', WHERE WHAT IT READS IS OF BULK AT MOST 1048576: true; the input reads as it did. -/
def memSwapsUptoRow : OpenClaim := { program := "ytagcnjhpdopkiaa", sum := "51abc458461326e99db831885887a49b573d18df6d58ecb01b7f735d18a6e8d0", func := "tendril/tendrillaw9.MemSwaps", spec := "memSwaps", unfollowed := true, recurses := true, apart := false, narrowed := true }
def MemSwapsUptoSaid : Prop := memSwapsUptoRow.holds Try.pinned (OpenSpec.upto memSwapsSpec)

/-- 'tendrillaw9.MemStrangers', WHERE WHAT IT READS IS OF BULK AT MOST 1048576: true; the input reads as it did. -/
def memStrangersUptoRow : OpenClaim := { program := "ytagcnjhpdopkiaa", sum := "51abc458461326e99db831885887a49b573d18df6d58ecb01b7f735d18a6e8d0", func := "tendril/tendrillaw9.MemStrangers", spec := "memStrangers", unfollowed := true, recurses := true, apart := false, narrowed := true }
def MemStrangersUptoSaid : Prop := memStrangersUptoRow.holds Try.pinned (OpenSpec.upto memStrangersSpec)

/-- 'tendrillaw9.MemEpochs', WHERE WHAT IT READS IS OF BULK AT MOST 1048576: true; the input reads as it did. -/
def memEpochsUptoRow : OpenClaim := { program := "ytagcnjhpdopkiaa", sum := "51abc458461326e99db831885887a49b573d18df6d58ecb01b7f735d18a6e8d0", func := "tendril/tendrillaw9.MemEpochs", spec := "memEpochs", unfollowed := true, recurses := true, apart := false, narrowed := true }
def MemEpochsUptoSaid : Prop := memEpochsUptoRow.holds Try.pinned (OpenSpec.upto memEpochsSpec)

/-- 'tendrillaw9.MemRoot', WHERE WHAT IT READS IS OF BULK AT MOST 1048576: true; the input reads as it did. -/
def memRootUptoRow : OpenClaim := { program := "ytagcnjhpdopkiaa", sum := "51abc458461326e99db831885887a49b573d18df6d58ecb01b7f735d18a6e8d0", func := "tendril/tendrillaw9.MemRoot", spec := "memRoot", unfollowed := true, recurses := true, apart := false, narrowed := true }
def MemRootUptoSaid : Prop := memRootUptoRow.holds Try.pinned (OpenSpec.upto memRootSpec)

/-- 'tendrillaw9.MemPlays', WHERE WHAT IT READS IS OF BULK AT MOST 1048576: true; the input reads as it did. -/
def memPlaysUptoRow : OpenClaim := { program := "ytagcnjhpdopkiaa", sum := "51abc458461326e99db831885887a49b573d18df6d58ecb01b7f735d18a6e8d0", func := "tendril/tendrillaw9.MemPlays", spec := "memPlays", unfollowed := true, recurses := true, apart := false, narrowed := true }
def MemPlaysUptoSaid : Prop := memPlaysUptoRow.holds Try.pinned (OpenSpec.upto memPlaysSpec)

/-- 'tendrillaw9.MemFrees', WHERE WHAT IT READS IS OF BULK AT MOST 1048576: true; the input reads as it did. -/
def memFreesUptoRow : OpenClaim := { program := "ytagcnjhpdopkiaa", sum := "51abc458461326e99db831885887a49b573d18df6d58ecb01b7f735d18a6e8d0", func := "tendril/tendrillaw9.MemFrees", spec := "memFrees", unfollowed := true, recurses := true, apart := false, narrowed := true }
def MemFreesUptoSaid : Prop := memFreesUptoRow.holds Try.pinned (OpenSpec.upto memFreesSpec)

end Rows
end Go.Proofs.Ytagcnjhpdopkiaa
