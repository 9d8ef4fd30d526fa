/- What the statement's row says of the program, reckoned by the kernel. -/
import Derived.Test.YtknkbioalohofaaRow
import Derived.Test.YtknkbioalohofaaRows
namespace Go.Proofs.Ytknkbioalohofaa
theorem dplays_named : Try.pinned.checked.prog.funcNamed Rows.diskPlaysRow.func = some 13 := by kernel_rfl
theorem dplays_closed : joinedFacts Try.pinned.checked.prog 13 Try.f13 Rows.diskPlaysSpec Rows.diskPlaysRow = true := by kernel_rfl
end Go.Proofs.Ytknkbioalohofaa
