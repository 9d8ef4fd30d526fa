/- What the statement's row says of the program, reckoned by the kernel. -/
import Derived.Test.YtknkbioalohofaaRow
import Derived.Test.YtknkbioalohofaaRows
namespace Go.Proofs.Ytknkbioalohofaa
theorem kept_named : Try.pinned.checked.prog.funcNamed Rows.chirographKeptRow.func = some 18 := by kernel_rfl
theorem kept_closed : joinedFacts Try.pinned.checked.prog 18 Try.f18 Rows.chirographKeptSpec Rows.chirographKeptRow = true := by kernel_rfl
end Go.Proofs.Ytknkbioalohofaa
