/- The law NodeLeafApart. -/
import Derived.Test.YtpabmkicdcilpaaP7Q
namespace Go.Proofs.Ytpabmkicdcilpaa
open Go.Vm
set_option linter.unusedSimpArgs false
set_option linter.unusedVariables false
set_option maxRecDepth 100000
variable {T : Vm.Prog} {h : AH}
def zN : List AV := [.int .i64 0, .int .u64 0, .str [], .nilSlice, .nilSlice]
theorem zN_set {g : AH} {q : Nat} (hz : g.get q = some (.cells [.int .i64 0, .int .u64 0, .str [], .nilSlice, .nilSlice] true)) : storeV g 5 (.ptr q 0) (.agg [.int .i64 0, .int .u64 0, .str [], .nilSlice, .nilSlice]) = some (g.set q (.cells [.int .i64 0, .int .u64 0, .str [], .nilSlice, .nilSlice] true)) := store_all hz rfl rfl rfl
theorem fill5 : fillV [AV.int .i64 0, .int .u64 0, .str [], .nilSlice, .nilSlice] [] = some [AV.int .i64 0, .int .u64 0, .str [], .nilSlice, .nilSlice] := rfl
end Go.Proofs.Ytpabmkicdcilpaa
