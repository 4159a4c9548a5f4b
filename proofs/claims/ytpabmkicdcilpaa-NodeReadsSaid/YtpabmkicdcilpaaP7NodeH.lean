/- The reference's nodes: With, the plain law. -/
import Derived.Test.YtpabmkicdcilpaaP7NodeG
namespace Go.Proofs.Ytpabmkicdcilpaa
open Go.Vm
set_option linter.unusedSimpArgs false
set_option linter.unusedVariables false
set_option maxRecDepth 100000
/-- Is one of these at a byte or behind it? -/
def anyGe (b : Nat) (t : List (Nat × Int)) : Bool := t.any fun p => decide (b ≤ p.1)
def lowL (b : Nat) (t : List (Nat × Int)) : List (Nat × Int) := t.filter fun p => decide (p.1 < b)
def highL (b : Nat) (t : List (Nat × Int)) : List (Nat × Int) := t.filter fun p => decide (b < p.1)
/-- What With has behind the first ones. -/
def withL (b : Nat) (kid : Int) (t : List (Nat × Int)) : List (Nat × Int) := lowL b t ++ (if anyGe b t then [(b, kid)] else []) ++ highL b t
variable {n : NodeP} {b j y : Nat} {kid x : Int}
/-- What With comes to. -/
def withF (n : NodeP) (b : Nat) (kid : Int) : List (Nat × Int) := lowL b (n.keys.zip n.kids) ++ [(b, kid)] ++ highL b (n.keys.zip n.kids)
end Go.Proofs.Ytpabmkicdcilpaa
/- The reference's nodes: what With comes to. -/
namespace Go.Proofs.Ytpabmkicdcilpaa
open Go.Vm
set_option linter.unusedSimpArgs false
set_option linter.unusedVariables false
set_option maxRecDepth 100000
variable {n : NodeP} {b : Nat} {kid : Int}
end Go.Proofs.Ytpabmkicdcilpaa
/- The reference's nodes: With, one more pair. -/
namespace Go.Proofs.Ytpabmkicdcilpaa
open Go.Vm
set_option linter.unusedSimpArgs false
set_option linter.unusedVariables false
set_option maxRecDepth 100000
variable {T : Vm.Prog} {g : AH}
def c33d1 : ACode := match c33l0 with
  | .seq _ (.seq _ (.seq (.block _ (.seq _ (.seq (.seq _ (.cond _ (.seq d _) _)) _))) _)) => d
  | c => c
def c33d2 : ACode := match c33l0 with
  | .seq _ (.seq _ (.seq (.block _ (.seq _ (.seq _ (.seq _ (.cond _ d _))))) _)) => d
  | c => c
def c33d3 : ACode := match c33 with
  | .seq _ (.seq _ (.seq _ (.seq _ (.seq _ (.seq (.seq _ (.cond _ d _)) _))))) => d
  | c => c
section
variable {h0 : AH} {N po p z b : Nat} {kid : Int} {n : NodeP} {kv0 iv0 : AV} {l : List (Nat × Int)}
end
end Go.Proofs.Ytpabmkicdcilpaa
/- The reference's nodes: With. -/
namespace Go.Proofs.Ytpabmkicdcilpaa
open Go.Vm
set_option linter.unusedSimpArgs false
set_option linter.unusedVariables false
set_option maxRecDepth 100000
variable {T : Vm.Prog} {h : AH}
def c33e : ACode := match c33 with
  | .seq _ (.seq _ (.seq _ (.seq _ (.seq _ (.seq _ e))))) => e
  | c => c
end Go.Proofs.Ytpabmkicdcilpaa
/- The reference's nodes: With, the whole. -/
namespace Go.Proofs.Ytpabmkicdcilpaa
open Go.Vm
set_option linter.unusedSimpArgs false
set_option linter.unusedVariables false
set_option maxRecDepth 100000
variable {T : Vm.Prog} {h : AH}
end Go.Proofs.Ytpabmkicdcilpaa
