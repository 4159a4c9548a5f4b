/-
  No cell of these rows narrows 'for every input' (looked for: loops, veiled, ifaces, maps, wideKeys, modest, calm, conditions, laid).
  DERIVED. THE GIVEN ROWS OF THIS SEAT. 5 by the template 'for every input the law returns true; each argument reads behind the call as it read before'; 0 by the template 'total and deterministic' (their statements: YtjbkjffolnodjaaTotals.lean).
  GIVEN WITH THE SEED: the statements are not yours to turn. If you find one false, say at which input.
  Laid BY PROGRAM, IN A SANDBOX (cutbox-rows.mjs): the forced cells as the released guide's own fill.sh prints them over the translation a77ff0fc8473d3e0… (all of the seat's roots in one cut). By AI agents, Wed Nov 11 2026. No macro, syntax, notation, axiom, sorry.
-/
import Derived.Test.YtjbkjffolnodjaaChecked
import GoSem.Claim
import GoSem.ClaimJoined
import GoSem.ClaimMapViews
import Derived.JoinedTies
import Derived.KernelRfl
namespace Go.Proofs.Ytjbkjffolnodjaa
/- THE CELL 'sum', in the pinned program and in every row, IS THE sha256 OF THE DUMP (.gsa) THAT YtjbkjffolnodjaaProg.lean LOADS. Nothing in Lean hashes anything: it is a label: what it is worth is what the hold of that sum in a sandbox is worth. -/
noncomputable def Try.pinned : Pinned := { name := "ytjbkjffolnodjaa", sum := "a77ff0fc8473d3e0dfef63e34ff9b29adefa81b7c3c35f6bd84f72b05857e010", checked := Try.checked }
namespace Rows
def none {H : Type} : Left H := { results := [], args := [] }

/-- 'tendrillaw23.QueryRuns': WHATEVER THE INPUT: true; the input reads as it did. -/
def queryRunsSpec : ChangeSpec := { name := "queryRuns", fn := fun _ => fun
  | [] => { results := [.lit (.bool true)], args := [] }
  | _ => none }
def queryRunsRow : OpenClaim := { program := "ytjbkjffolnodjaa", sum := "a77ff0fc8473d3e0dfef63e34ff9b29adefa81b7c3c35f6bd84f72b05857e010", func := "tendril/tendrillaw23.QueryRuns", spec := "queryRuns", unfollowed := true, recurses := true, apart := false }
def QueryRunsSaid : Prop := queryRunsRow.holds Try.pinned (OpenSpec.ofChange queryRunsSpec)

/-- ITS FALSE NEIGHBOUR: 'it returns false'. Refute it at one input. -/
def queryRunsWrong : ChangeSpec := { name := "queryRuns", fn := fun _ => fun
  | [] => { results := [.lit (.bool false)], args := [] }
  | _ => none }
def QueryRunsWrongFalsely : Prop := queryRunsRow.holds Try.pinned (OpenSpec.ofChange queryRunsWrong)

/-- 'tendrillaw23.QueryBack': WHATEVER THE INPUT: true; the input reads as it did. -/
def queryBackSpec : ChangeSpec := { name := "queryBack", fn := fun _ => fun
  | [d] => { results := [.lit (.bool true)], args := [d] }
  | _ => none }
def queryBackRow : OpenClaim := { program := "ytjbkjffolnodjaa", sum := "a77ff0fc8473d3e0dfef63e34ff9b29adefa81b7c3c35f6bd84f72b05857e010", func := "tendril/tendrillaw23.QueryBack", spec := "queryBack", unfollowed := true, recurses := true, apart := false }
def QueryBackSaid : Prop := queryBackRow.holds Try.pinned (OpenSpec.ofChange queryBackSpec)

/-- ITS FALSE NEIGHBOUR: 'it returns false'. Refute it at one input. -/
def queryBackWrong : ChangeSpec := { name := "queryBack", fn := fun _ => fun
  | [d] => { results := [.lit (.bool false)], args := [d] }
  | _ => none }
def QueryBackWrongFalsely : Prop := queryBackRow.holds Try.pinned (OpenSpec.ofChange queryBackWrong)

/-- 'tendrillaw23.QueryWrong': WHATEVER THE INPUT: true; the input reads as it did. -/
def queryWrongSpec : ChangeSpec := { name := "queryWrong", fn := fun _ => fun
  | [d1, d2] => { results := [.lit (.bool true)], args := [d1, d2] }
  | _ => none }
def queryWrongRow : OpenClaim := { program := "ytjbkjffolnodjaa", sum := "a77ff0fc8473d3e0dfef63e34ff9b29adefa81b7c3c35f6bd84f72b05857e010", func := "tendril/tendrillaw23.QueryWrong", spec := "queryWrong", unfollowed := true, recurses := true, apart := false }
def QueryWrongSaid : Prop := queryWrongRow.holds Try.pinned (OpenSpec.ofChange queryWrongSpec)

/-- ITS FALSE NEIGHBOUR: 'it returns false'. Refute it at one input. -/
def queryWrongWrong : ChangeSpec := { name := "queryWrong", fn := fun _ => fun
  | [d1, d2] => { results := [.lit (.bool false)], args := [d1, d2] }
  | _ => none }
def QueryWrongWrongFalsely : Prop := queryWrongRow.holds Try.pinned (OpenSpec.ofChange queryWrongWrong)

/-- 'tendrillaw23.QueryOrder': WHATEVER THE INPUT: true; the input reads as it did. -/
def queryOrderSpec : ChangeSpec := { name := "queryOrder", fn := fun _ => fun
  | [d1, d2, d3] => { results := [.lit (.bool true)], args := [d1, d2, d3] }
  | _ => none }
def queryOrderRow : OpenClaim := { program := "ytjbkjffolnodjaa", sum := "a77ff0fc8473d3e0dfef63e34ff9b29adefa81b7c3c35f6bd84f72b05857e010", func := "tendril/tendrillaw23.QueryOrder", spec := "queryOrder", unfollowed := true, recurses := true, apart := false }
def QueryOrderSaid : Prop := queryOrderRow.holds Try.pinned (OpenSpec.ofChange queryOrderSpec)

/-- ITS FALSE NEIGHBOUR: 'it returns false'. Refute it at one input. -/
def queryOrderWrong : ChangeSpec := { name := "queryOrder", fn := fun _ => fun
  | [d1, d2, d3] => { results := [.lit (.bool false)], args := [d1, d2, d3] }
  | _ => none }
def QueryOrderWrongFalsely : Prop := queryOrderRow.holds Try.pinned (OpenSpec.ofChange queryOrderWrong)

/-- 'tendrillaw23.QueryLaws': WHATEVER THE INPUT: true; the input reads as it did. -/
def queryLawsSpec : ChangeSpec := { name := "queryLaws", fn := fun _ => fun
  | [d1, d2, d3, d4] => { results := [.lit (.bool true)], args := [d1, d2, d3, d4] }
  | _ => none }
def queryLawsRow : OpenClaim := { program := "ytjbkjffolnodjaa", sum := "a77ff0fc8473d3e0dfef63e34ff9b29adefa81b7c3c35f6bd84f72b05857e010", func := "tendril/tendrillaw23.QueryLaws", spec := "queryLaws", unfollowed := true, recurses := true, apart := false }
def QueryLawsSaid : Prop := queryLawsRow.holds Try.pinned (OpenSpec.ofChange queryLawsSpec)

/-- ITS FALSE NEIGHBOUR: 'it returns false'. Refute it at one input. -/
def queryLawsWrong : ChangeSpec := { name := "queryLaws", fn := fun _ => fun
  | [d1, d2, d3, d4] => { results := [.lit (.bool false)], args := [d1, d2, d3, d4] }
  | _ => none }
def QueryLawsWrongFalsely : Prop := queryLawsRow.holds Try.pinned (OpenSpec.ofChange queryLawsWrong)

/- THE SECOND FORM. 'bulk': how many values and letters a reading holds, each counted each time it is reached (what is shared counts as often as it is met; a slice's spare places count too). A statement '..UptoSaid' is the law's where the arguments, and the package variables that the reading takes, are together of bulk at most 1048576: NARROWER than '..Said'. Prove '..Said' where nothing that the law and all that it calls make is longer than what came in: it says more and counts as full. Else prove '..UptoSaid'. A law counts once. -/
mutual
def uptoBulk {H : Type} : DataW H → Nat
  | .lit (.string bytes) => bytes.length + 1
  | .lit _ => 1
  | .nil => 1
  | .ptr d => uptoBulk d + 1
  | .slice elems spare => uptoBulkAll elems + uptoBulkAll spare + 1
  | .agg parts => uptoBulkAll parts + 1
  | .iface _ d => uptoBulk d + 1
  | .map entries => uptoBulkEntries entries + 1
  | .held _ => 1
def uptoBulkAll {H : Type} : List (DataW H) → Nat
  | [] => 0
  | d :: r => uptoBulk d + uptoBulkAll r
def uptoBulkEntries {H : Type} : List (Lit × DataW H) → Nat
  | [] => 0
  | x :: r => uptoBulkEntry x + uptoBulkEntries r
def uptoBulkEntry {H : Type} : Lit × DataW H → Nat
  | (.string bytes, d) => bytes.length + uptoBulk d + 1
  | (_, d) => uptoBulk d + 1
 end
def uptoSmall : (H : Type) → List (DataW H) → Bool := fun _ ds => decide (uptoBulkAll ds ≤ 1048576)
def OpenSpec.upto (s : _root_.Go.ChangeSpec) : _root_.Go.OpenSpec := { _root_.Go.OpenSpec.ofChange s with cond := some uptoSmall }

/-- 'tendrillaw23.QueryRuns', WHERE WHAT IT READS IS OF BULK AT MOST 1048576: true; the input reads as it did. -/
def queryRunsUptoRow : OpenClaim := { program := "ytjbkjffolnodjaa", sum := "a77ff0fc8473d3e0dfef63e34ff9b29adefa81b7c3c35f6bd84f72b05857e010", func := "tendril/tendrillaw23.QueryRuns", spec := "queryRuns", unfollowed := true, recurses := true, apart := false, narrowed := true }
def QueryRunsUptoSaid : Prop := queryRunsUptoRow.holds Try.pinned (OpenSpec.upto queryRunsSpec)

/-- 'tendrillaw23.QueryBack', WHERE WHAT IT READS IS OF BULK AT MOST 1048576: true; the input reads as it did. -/
def queryBackUptoRow : OpenClaim := { program := "ytjbkjffolnodjaa", sum := "a77ff0fc8473d3e0dfef63e34ff9b29adefa81b7c3c35f6bd84f72b05857e010", func := "tendril/tendrillaw23.QueryBack", spec := "queryBack", unfollowed := true, recurses := true, apart := false, narrowed := true }
def QueryBackUptoSaid : Prop := queryBackUptoRow.holds Try.pinned (OpenSpec.upto queryBackSpec)

/-- 'tendrillaw23.QueryWrong', WHERE WHAT IT READS IS OF BULK AT MOST 1048576: true; the input reads as it did. -/
def queryWrongUptoRow : OpenClaim := { program := "ytjbkjffolnodjaa", sum := "a77ff0fc8473d3e0dfef63e34ff9b29adefa81b7c3c35f6bd84f72b05857e010", func := "tendril/tendrillaw23.QueryWrong", spec := "queryWrong", unfollowed := true, recurses := true, apart := false, narrowed := true }
def QueryWrongUptoSaid : Prop := queryWrongUptoRow.holds Try.pinned (OpenSpec.upto queryWrongSpec)

/-- 'tendrillaw23.QueryOrder', WHERE WHAT IT READS IS OF BULK AT MOST 1048576: true; the input reads as it did. -/
def queryOrderUptoRow : OpenClaim := { program := "ytjbkjffolnodjaa", sum := "a77ff0fc8473d3e0dfef63e34ff9b29adefa81b7c3c35f6bd84f72b05857e010", func := "tendril/tendrillaw23.QueryOrder", spec := "queryOrder", unfollowed := true, recurses := true, apart := false, narrowed := true }
def QueryOrderUptoSaid : Prop := queryOrderUptoRow.holds Try.pinned (OpenSpec.upto queryOrderSpec)

/-- 'tendrillaw23.QueryLaws', WHERE WHAT IT READS IS OF BULK AT MOST 1048576: true; the input reads as it did. -/
def queryLawsUptoRow : OpenClaim := { program := "ytjbkjffolnodjaa", sum := "a77ff0fc8473d3e0dfef63e34ff9b29adefa81b7c3c35f6bd84f72b05857e010", func := "tendril/tendrillaw23.QueryLaws", spec := "queryLaws", unfollowed := true, recurses := true, apart := false, narrowed := true }
def QueryLawsUptoSaid : Prop := queryLawsUptoRow.holds Try.pinned (OpenSpec.upto queryLawsSpec)

end Rows
end Go.Proofs.Ytjbkjffolnodjaa
