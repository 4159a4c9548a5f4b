/-
  No cell of these rows narrows 'for every input' (looked for: loops, veiled, ifaces, maps, wideKeys, modest, calm, conditions, laid).
  DERIVED. THE GIVEN ROWS OF THIS SEAT. 6 by the template 'for every input the law returns true; each argument reads behind the call as it read before'; 0 by the template 'total and deterministic' (their statements: YtejjkienklaghaaTotals.lean).
  GIVEN WITH THE SEED: the statements are not yours to turn. If you find one false, say at which input.
  Laid BY PROGRAM, IN A SANDBOX (cutbox-rows.mjs): the forced cells as the released guide's own fill.sh prints them over the translation 5156b2b7dc50b4ff… (all of the seat's roots in one cut). By AI agents, Wed Nov 11 2026. No macro, syntax, notation, axiom, sorry.
-/
import Derived.Test.YtejjkienklaghaaChecked
import GoSem.Claim
import GoSem.ClaimJoined
import GoSem.ClaimMapViews
import Derived.JoinedTies
import Derived.KernelRfl
namespace Go.Proofs.Ytejjkienklaghaa
/- THE CELL 'sum', in the pinned program and in every row, IS THE sha256 OF THE DUMP (.gsa) THAT YtejjkienklaghaaProg.lean LOADS. Nothing in Lean hashes anything: it is a label: what it is worth is what the hold of that sum in a sandbox is worth. -/
noncomputable def Try.pinned : Pinned := { name := "ytejjkienklaghaa", sum := "5156b2b7dc50b4ff1272545490ae7e779d639b8245630189f13a96858bd208de", checked := Try.checked }
namespace Rows
def none {H : Type} : Left H := { results := [], args := [] }

/-- 'tendrillaw4.ArenaRuns': WHATEVER THE INPUT: true; the input reads as it did. -/
def arenaRunsSpec : ChangeSpec := { name := "arenaRuns", fn := fun _ => fun
  | [] => { results := [.lit (.bool true)], args := [] }
  | _ => none }
def arenaRunsRow : OpenClaim := { program := "ytejjkienklaghaa", sum := "5156b2b7dc50b4ff1272545490ae7e779d639b8245630189f13a96858bd208de", func := "tendril/tendrillaw4.ArenaRuns", spec := "arenaRuns", unfollowed := true, recurses := true, apart := false }
def ArenaRunsSaid : Prop := arenaRunsRow.holds Try.pinned (OpenSpec.ofChange arenaRunsSpec)

/-- ITS FALSE NEIGHBOUR: 'it returns false'. Refute it at one input. -/
def arenaRunsWrong : ChangeSpec := { name := "arenaRuns", fn := fun _ => fun
  | [] => { results := [.lit (.bool false)], args := [] }
  | _ => none }
def ArenaRunsWrongFalsely : Prop := arenaRunsRow.holds Try.pinned (OpenSpec.ofChange arenaRunsWrong)

/-- 'tendrillaw4.ArenaOnce': WHATEVER THE INPUT: true; the input reads as it did. -/
def arenaOnceSpec : ChangeSpec := { name := "arenaOnce", fn := fun _ => fun
  | [d1, d2] => { results := [.lit (.bool true)], args := [d1, d2] }
  | _ => none }
def arenaOnceRow : OpenClaim := { program := "ytejjkienklaghaa", sum := "5156b2b7dc50b4ff1272545490ae7e779d639b8245630189f13a96858bd208de", func := "tendril/tendrillaw4.ArenaOnce", spec := "arenaOnce", unfollowed := true, recurses := true, apart := false }
def ArenaOnceSaid : Prop := arenaOnceRow.holds Try.pinned (OpenSpec.ofChange arenaOnceSpec)

/-- ITS FALSE NEIGHBOUR: 'it returns false'. Refute it at one input. -/
def arenaOnceWrong : ChangeSpec := { name := "arenaOnce", fn := fun _ => fun
  | [d1, d2] => { results := [.lit (.bool false)], args := [d1, d2] }
  | _ => none }
def ArenaOnceWrongFalsely : Prop := arenaOnceRow.holds Try.pinned (OpenSpec.ofChange arenaOnceWrong)

/-- 'tendrillaw4.ArenaLeast': WHATEVER THE INPUT: true; the input reads as it did. -/
def arenaLeastSpec : ChangeSpec := { name := "arenaLeast", fn := fun _ => fun
  | [d1, d2] => { results := [.lit (.bool true)], args := [d1, d2] }
  | _ => none }
def arenaLeastRow : OpenClaim := { program := "ytejjkienklaghaa", sum := "5156b2b7dc50b4ff1272545490ae7e779d639b8245630189f13a96858bd208de", func := "tendril/tendrillaw4.ArenaLeast", spec := "arenaLeast", unfollowed := true, recurses := true, apart := false }
def ArenaLeastSaid : Prop := arenaLeastRow.holds Try.pinned (OpenSpec.ofChange arenaLeastSpec)

/-- ITS FALSE NEIGHBOUR: 'it returns false'. Refute it at one input. -/
def arenaLeastWrong : ChangeSpec := { name := "arenaLeast", fn := fun _ => fun
  | [d1, d2] => { results := [.lit (.bool false)], args := [d1, d2] }
  | _ => none }
def ArenaLeastWrongFalsely : Prop := arenaLeastRow.holds Try.pinned (OpenSpec.ofChange arenaLeastWrong)

/-- 'tendrillaw4.ArenaPlays': WHATEVER THE INPUT: true; the input reads as it did. -/
def arenaPlaysSpec : ChangeSpec := { name := "arenaPlays", fn := fun _ => fun
  | [d1, d2, d3] => { results := [.lit (.bool true)], args := [d1, d2, d3] }
  | _ => none }
def arenaPlaysRow : OpenClaim := { program := "ytejjkienklaghaa", sum := "5156b2b7dc50b4ff1272545490ae7e779d639b8245630189f13a96858bd208de", func := "tendril/tendrillaw4.ArenaPlays", spec := "arenaPlays", unfollowed := true, recurses := true, apart := false }
def ArenaPlaysSaid : Prop := arenaPlaysRow.holds Try.pinned (OpenSpec.ofChange arenaPlaysSpec)

/-- ITS FALSE NEIGHBOUR: 'it returns false'. Refute it at one input. -/
def arenaPlaysWrong : ChangeSpec := { name := "arenaPlays", fn := fun _ => fun
  | [d1, d2, d3] => { results := [.lit (.bool false)], args := [d1, d2, d3] }
  | _ => none }
def ArenaPlaysWrongFalsely : Prop := arenaPlaysRow.holds Try.pinned (OpenSpec.ofChange arenaPlaysWrong)

/-- 'tendrillaw4.ArenaNew': WHATEVER THE INPUT: true; the input reads as it did. -/
def arenaNewSpec : ChangeSpec := { name := "arenaNew", fn := fun _ => fun
  | [d1, d2] => { results := [.lit (.bool true)], args := [d1, d2] }
  | _ => none }
def arenaNewRow : OpenClaim := { program := "ytejjkienklaghaa", sum := "5156b2b7dc50b4ff1272545490ae7e779d639b8245630189f13a96858bd208de", func := "tendril/tendrillaw4.ArenaNew", spec := "arenaNew", unfollowed := true, recurses := true, apart := false }
def ArenaNewSaid : Prop := arenaNewRow.holds Try.pinned (OpenSpec.ofChange arenaNewSpec)

/-- ITS FALSE NEIGHBOUR: 'it returns false'. Refute it at one input. -/
def arenaNewWrong : ChangeSpec := { name := "arenaNew", fn := fun _ => fun
  | [d1, d2] => { results := [.lit (.bool false)], args := [d1, d2] }
  | _ => none }
def ArenaNewWrongFalsely : Prop := arenaNewRow.holds Try.pinned (OpenSpec.ofChange arenaNewWrong)

/-- 'tendrillaw4.ArenaFills': WHATEVER THE INPUT: true; the input reads as it did. -/
def arenaFillsSpec : ChangeSpec := { name := "arenaFills", fn := fun _ => fun
  | [d1, d2, d3] => { results := [.lit (.bool true)], args := [d1, d2, d3] }
  | _ => none }
def arenaFillsRow : OpenClaim := { program := "ytejjkienklaghaa", sum := "5156b2b7dc50b4ff1272545490ae7e779d639b8245630189f13a96858bd208de", func := "tendril/tendrillaw4.ArenaFills", spec := "arenaFills", unfollowed := true, recurses := true, apart := false }
def ArenaFillsSaid : Prop := arenaFillsRow.holds Try.pinned (OpenSpec.ofChange arenaFillsSpec)

/-- ITS FALSE NEIGHBOUR: 'it returns false'. Refute it at one input. -/
def arenaFillsWrong : ChangeSpec := { name := "arenaFills", fn := fun _ => fun
  | [d1, d2, d3] => { results := [.lit (.bool false)], args := [d1, d2, d3] }
  | _ => none }
def ArenaFillsWrongFalsely : Prop := arenaFillsRow.holds Try.pinned (OpenSpec.ofChange arenaFillsWrong)

/- THE SECOND FORM. 'bulk': how many values and letters a reading holds, each counted each time it is reached (what is shared counts as often as it is met; a slice's spare places count too). A statement '..UptoSaid' is the law's where the arguments, and the package variables that the reading takes, are together of bulk at most 1048576: NARROWER than '..Said'. Prove '..Said' where nothing that the law and all that it calls make is longer than what came in: it says more and counts as full. Else prove '..UptoSaid'. A law counts once. -/
mutual
def uptoBulk {H : Type} : DataW H → Nat
  | .lit (.string bytes) => bytes.length + 1
  | .lit _ => 1
  | .nil => 1
  | .ptr d => uptoBulk d + 1
  | .slice elems spare => uptoBulkAll elems + uptoBulkAll spare + 1
  | .agg parts => uptoBulkAll parts + 1
  | .iface _ d => uptoBulk d + 1
  | .map entries => uptoBulkEntries entries + 1
  | .held _ => 1
def uptoBulkAll {H : Type} : List (DataW H) → Nat
  | [] => 0
  | d :: r => uptoBulk d + uptoBulkAll r
def uptoBulkEntries {H : Type} : List (Lit × DataW H) → Nat
  | [] => 0
  | x :: r => uptoBulkEntry x + uptoBulkEntries r
def uptoBulkEntry {H : Type} : Lit × DataW H → Nat
  | (.string bytes, d) => bytes.length + uptoBulk d + 1
  | (_, d) => uptoBulk d + 1
 end
def uptoSmall : (H : Type) → List (DataW H) → Bool := fun _ ds => decide (uptoBulkAll ds ≤ 1048576)
def OpenSpec.upto (s : _root_.Go.ChangeSpec) : _root_.Go.OpenSpec := { _root_.Go.OpenSpec.ofChange s with cond := some uptoSmall }

/-- 'tendrillaw4.ArenaRuns', WHERE WHAT IT READS IS OF BULK AT MOST 1048576: true; the input reads as it did. -/
def arenaRunsUptoRow : OpenClaim := { program := "ytejjkienklaghaa", sum := "5156b2b7dc50b4ff1272545490ae7e779d639b8245630189f13a96858bd208de", func := "tendril/tendrillaw4.ArenaRuns", spec := "arenaRuns", unfollowed := true, recurses := true, apart := false, narrowed := true }
def ArenaRunsUptoSaid : Prop := arenaRunsUptoRow.holds Try.pinned (OpenSpec.upto arenaRunsSpec)

/-- 'tendrillaw4.ArenaOnce', WHERE WHAT IT READS IS OF BULK AT MOST 1048576: true; the input reads as it did. -/
def arenaOnceUptoRow : OpenClaim := { program := "ytejjkienklaghaa", sum := "5156b2b7dc50b4ff1272545490ae7e779d639b8245630189f13a96858bd208de", func := "tendril/tendrillaw4.ArenaOnce", spec := "arenaOnce", unfollowed := true, recurses := true, apart := false, narrowed := true }
def ArenaOnceUptoSaid : Prop := arenaOnceUptoRow.holds Try.pinned (OpenSpec.upto arenaOnceSpec)

/-- 'tendrillaw4.ArenaLeast', WHERE WHAT IT READS IS OF BULK AT MOST 1048576: true; the input reads as it did. -/
def arenaLeastUptoRow : OpenClaim := { program := "ytejjkienklaghaa", sum := "5156b2b7dc50b4ff1272545490ae7e779d639b8245630189f13a96858bd208de", func := "tendril/tendrillaw4.ArenaLeast", spec := "arenaLeast", unfollowed := true, recurses := true, apart := false, narrowed := true }
def ArenaLeastUptoSaid : Prop := arenaLeastUptoRow.holds Try.pinned (OpenSpec.upto arenaLeastSpec)

/-- 'tendrillaw4.ArenaPlays', WHERE WHAT IT READS IS OF BULK AT MOST 1048576: true; the input reads as it did. -/
def arenaPlaysUptoRow : OpenClaim := { program := "ytejjkienklaghaa", sum := "5156b2b7dc50b4ff1272545490ae7e779d639b8245630189f13a96858bd208de", func := "tendril/tendrillaw4.ArenaPlays", spec := "arenaPlays", unfollowed := true, recurses := true, apart := false, narrowed := true }
def ArenaPlaysUptoSaid : Prop := arenaPlaysUptoRow.holds Try.pinned (OpenSpec.upto arenaPlaysSpec)

/-- 'tendrillaw4.ArenaNew', WHERE WHAT IT READS IS OF BULK AT MOST 1048576: true; the input reads as it did. -/
def arenaNewUptoRow : OpenClaim := { program := "ytejjkienklaghaa", sum := "5156b2b7dc50b4ff1272545490ae7e779d639b8245630189f13a96858bd208de", func := "tendril/tendrillaw4.ArenaNew", spec := "arenaNew", unfollowed := true, recurses := true, apart := false, narrowed := true }
def ArenaNewUptoSaid : Prop := arenaNewUptoRow.holds Try.pinned (OpenSpec.upto arenaNewSpec)

/-- 'tendrillaw4.ArenaFills', WHERE WHAT IT READS IS OF BULK AT MOST 1048576: true; the input reads as it did. -/
def arenaFillsUptoRow : OpenClaim := { program := "ytejjkienklaghaa", sum := "5156b2b7dc50b4ff1272545490ae7e779d639b8245630189f13a96858bd208de", func := "tendril/tendrillaw4.ArenaFills", spec := "arenaFills", unfollowed := true, recurses := true, apart := false, narrowed := true }
def ArenaFillsUptoSaid : Prop := arenaFillsUptoRow.holds Try.pinned (OpenSpec.upto arenaFillsSpec)

end Rows
end Go.Proofs.Ytejjkienklaghaa
