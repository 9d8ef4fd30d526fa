/- What the statement's row says of the program, reckoned by the kernel. -/
import Derived.Test.YtknkbioalohofaaRow
import Derived.Test.YtknkbioalohofaaRows
namespace Go.Proofs.Ytknkbioalohofaa
theorem jplays_named : Try.pinned.checked.prog.funcNamed Rows.journalPlaysRow.func = some 17 := by kernel_rfl
theorem jplays_closed : joinedFacts Try.pinned.checked.prog 17 Try.f17 Rows.journalPlaysSpec Rows.journalPlaysRow = true := by kernel_rfl
end Go.Proofs.Ytknkbioalohofaa
