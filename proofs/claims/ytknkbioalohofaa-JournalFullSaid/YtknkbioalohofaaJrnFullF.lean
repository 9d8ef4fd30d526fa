/- What the statement's row says of the program, reckoned by the kernel. -/
import Derived.Test.YtknkbioalohofaaRow
import Derived.Test.YtknkbioalohofaaRows
namespace Go.Proofs.Ytknkbioalohofaa
theorem jfull_named : Try.pinned.checked.prog.funcNamed Rows.journalFullRow.func = some 15 := by kernel_rfl
theorem jfull_closed : joinedFacts Try.pinned.checked.prog 15 Try.f15 Rows.journalFullSpec Rows.journalFullRow = true := by kernel_rfl
end Go.Proofs.Ytknkbioalohofaa
