/- What the statement's row says of the program, reckoned by the kernel. -/
import Derived.Test.YtknkbioalohofaaRow
import Derived.Test.YtknkbioalohofaaRows
namespace Go.Proofs.Ytknkbioalohofaa
theorem jkeeps_named : Try.pinned.checked.prog.funcNamed Rows.journalKeepsRow.func = some 14 := by kernel_rfl
theorem jkeeps_closed : joinedFacts Try.pinned.checked.prog 14 Try.f14 Rows.journalKeepsSpec Rows.journalKeepsRow = true := by kernel_rfl
end Go.Proofs.Ytknkbioalohofaa
