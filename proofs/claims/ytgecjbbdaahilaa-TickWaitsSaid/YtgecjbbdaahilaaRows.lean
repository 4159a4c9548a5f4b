/-
  No cell of these rows narrows 'for every input' (looked for: loops, veiled, ifaces, maps, wideKeys, modest, calm, conditions, laid).
  DERIVED. THE GIVEN ROWS OF THIS SEAT. 3 by the template 'for every input the law returns true; each argument reads behind the call as it read before'; 0 by the template 'total and deterministic' (their statements: YtgecjbbdaahilaaTotals.lean).
  GIVEN WITH THE SEED: the statements are not yours to turn. If you find one false, say at which input.
  Laid BY PROGRAM, IN A SANDBOX (cutbox-rows.mjs): the forced cells as the released guide's own fill.sh prints them over the translation 83efe750ebdc18d9… (all of the seat's roots in one cut). By AI agents, Wed Nov 11 2026. No macro, syntax, notation, axiom, sorry.
-/
import Derived.Test.YtgecjbbdaahilaaChecked
import GoSem.Claim
import GoSem.ClaimJoined
import GoSem.ClaimMapViews
import Derived.JoinedTies
import Derived.KernelRfl
namespace Go.Proofs.Ytgecjbbdaahilaa
/- THE CELL 'sum', in the pinned program and in every row, IS THE sha256 OF THE DUMP (.gsa) THAT YtgecjbbdaahilaaProg.lean LOADS. Nothing in Lean hashes anything: it is a label: what it is worth is what the hold of that sum in a sandbox is worth. -/
noncomputable def Try.pinned : Pinned := { name := "ytgecjbbdaahilaa", sum := "83efe750ebdc18d923707b4865dce581bbf73265fc5a5d014c7279a6f07d9321", checked := Try.checked }
namespace Rows
def none {H : Type} : Left H := { results := [], args := [] }

/-- 'tendrillaw14.TickRuns': WHATEVER THE INPUT: true; the input reads as it did. -/
def tickRunsSpec : ChangeSpec := { name := "tickRuns", fn := fun _ => fun
  | [] => { results := [.lit (.bool true)], args := [] }
  | _ => none }
def tickRunsRow : OpenClaim := { program := "ytgecjbbdaahilaa", sum := "83efe750ebdc18d923707b4865dce581bbf73265fc5a5d014c7279a6f07d9321", func := "tendril/tendrillaw14.TickRuns", spec := "tickRuns", unfollowed := true, recurses := true, apart := false }
def TickRunsSaid : Prop := tickRunsRow.holds Try.pinned (OpenSpec.ofChange tickRunsSpec)

/-- ITS FALSE NEIGHBOUR: 'it returns false'. Refute it at one input. -/
def tickRunsWrong : ChangeSpec := { name := "tickRuns", fn := fun _ => fun
  | [] => { results := [.lit (.bool false)], args := [] }
  | _ => none }
def TickRunsWrongFalsely : Prop := tickRunsRow.holds Try.pinned (OpenSpec.ofChange tickRunsWrong)

/-- 'tendrillaw14.TickRefuses': WHATEVER THE INPUT: true; the input reads as it did. -/
def tickRefusesSpec : ChangeSpec := { name := "tickRefuses", fn := fun _ => fun
  | [d1, d2, d3, d4] => { results := [.lit (.bool true)], args := [d1, d2, d3, d4] }
  | _ => none }
def tickRefusesRow : OpenClaim := { program := "ytgecjbbdaahilaa", sum := "83efe750ebdc18d923707b4865dce581bbf73265fc5a5d014c7279a6f07d9321", func := "tendril/tendrillaw14.TickRefuses", spec := "tickRefuses", unfollowed := true, recurses := true, apart := false }
def TickRefusesSaid : Prop := tickRefusesRow.holds Try.pinned (OpenSpec.ofChange tickRefusesSpec)

/-- ITS FALSE NEIGHBOUR: 'it returns false'. Refute it at one input. -/
def tickRefusesWrong : ChangeSpec := { name := "tickRefuses", fn := fun _ => fun
  | [d1, d2, d3, d4] => { results := [.lit (.bool false)], args := [d1, d2, d3, d4] }
  | _ => none }
def TickRefusesWrongFalsely : Prop := tickRefusesRow.holds Try.pinned (OpenSpec.ofChange tickRefusesWrong)

/-- 'tendrillaw14.TickWaits': WHATEVER THE INPUT: true; the input reads as it did. -/
def tickWaitsSpec : ChangeSpec := { name := "tickWaits", fn := fun _ => fun
  | [d1, d2, d3] => { results := [.lit (.bool true)], args := [d1, d2, d3] }
  | _ => none }
def tickWaitsRow : OpenClaim := { program := "ytgecjbbdaahilaa", sum := "83efe750ebdc18d923707b4865dce581bbf73265fc5a5d014c7279a6f07d9321", func := "tendril/tendrillaw14.TickWaits", spec := "tickWaits", unfollowed := true, recurses := true, apart := false }
def TickWaitsSaid : Prop := tickWaitsRow.holds Try.pinned (OpenSpec.ofChange tickWaitsSpec)

/-- ITS FALSE NEIGHBOUR: 'it returns false'. Refute it at one input. -/
def tickWaitsWrong : ChangeSpec := { name := "tickWaits", fn := fun _ => fun
  | [d1, d2, d3] => { results := [.lit (.bool false)], args := [d1, d2, d3] }
  | _ => none }
def TickWaitsWrongFalsely : Prop := tickWaitsRow.holds Try.pinned (OpenSpec.ofChange tickWaitsWrong)

/- THE SECOND FORM. 'bulk': how many values and letters a reading holds, each counted each time it is reached (what is shared counts as often as it is met; a slice's spare places count too). A statement '..UptoSaid' is the law's where the arguments, and the package variables that the reading takes, are together of bulk at most 1048576: NARROWER than '..Said'. Prove '..Said' where nothing that the law and all that it calls make is longer than what came in: it says more and counts as full. Else prove '..UptoSaid'. A law counts once. -/
mutual
def uptoBulk {H : Type} : DataW H → Nat
  | .lit (.string bytes) => bytes.length + 1
  | .lit _ => 1
  | .nil => 1
  | .ptr d => uptoBulk d + 1
  | .slice elems spare => uptoBulkAll elems + uptoBulkAll spare + 1
  | .agg parts => uptoBulkAll parts + 1
  | .iface _ d => uptoBulk d + 1
  | .map entries => uptoBulkEntries entries + 1
  | .held _ => 1
def uptoBulkAll {H : Type} : List (DataW H) → Nat
  | [] => 0
  | d :: r => uptoBulk d + uptoBulkAll r
def uptoBulkEntries {H : Type} : List (Lit × DataW H) → Nat
  | [] => 0
  | x :: r => uptoBulkEntry x + uptoBulkEntries r
def uptoBulkEntry {H : Type} : Lit × DataW H → Nat
  | (.string bytes, d) => bytes.length + uptoBulk d + 1
  | (_, d) => uptoBulk d + 1
 end
def uptoSmall : (H : Type) → List (DataW H) → Bool := fun _ ds => decide (uptoBulkAll ds ≤ 1048576)
def OpenSpec.upto (s : _root_.Go.ChangeSpec) : _root_.Go.OpenSpec := { _root_.Go.OpenSpec.ofChange s with cond := some uptoSmall }

/-- 'tendrillaw14.TickRuns', WHERE WHAT IT READS IS OF BULK AT MOST 1048576: true; the input reads as it did. -/
def tickRunsUptoRow : OpenClaim := { program := "ytgecjbbdaahilaa", sum := "83efe750ebdc18d923707b4865dce581bbf73265fc5a5d014c7279a6f07d9321", func := "tendril/tendrillaw14.TickRuns", spec := "tickRuns", unfollowed := true, recurses := true, apart := false, narrowed := true }
def TickRunsUptoSaid : Prop := tickRunsUptoRow.holds Try.pinned (OpenSpec.upto tickRunsSpec)

/-- 'tendrillaw14.TickRefuses', WHERE WHAT IT READS IS OF BULK AT MOST 1048576: true; the input reads as it did. -/
def tickRefusesUptoRow : OpenClaim := { program := "ytgecjbbdaahilaa", sum := "83efe750ebdc18d923707b4865dce581bbf73265fc5a5d014c7279a6f07d9321", func := "tendril/tendrillaw14.TickRefuses", spec := "tickRefuses", unfollowed := true, recurses := true, apart := false, narrowed := true }
def TickRefusesUptoSaid : Prop := tickRefusesUptoRow.holds Try.pinned (OpenSpec.upto tickRefusesSpec)

/-- 'tendrillaw14.TickWaits', WHERE WHAT IT READS IS OF BULK AT MOST 1048576: true; the input reads as it did. -/
def tickWaitsUptoRow : OpenClaim := { program := "ytgecjbbdaahilaa", sum := "83efe750ebdc18d923707b4865dce581bbf73265fc5a5d014c7279a6f07d9321", func := "tendril/tendrillaw14.TickWaits", spec := "tickWaits", unfollowed := true, recurses := true, apart := false, narrowed := true }
def TickWaitsUptoSaid : Prop := tickWaitsUptoRow.holds Try.pinned (OpenSpec.upto tickWaitsSpec)

end Rows
end Go.Proofs.Ytgecjbbdaahilaa
