/- What the statement's row says of the program, reckoned by the kernel. -/
import Derived.Test.YtknkbioalohofaaRow
import Derived.Test.YtknkbioalohofaaRows
namespace Go.Proofs.Ytknkbioalohofaa
theorem jspoilt_named : Try.pinned.checked.prog.funcNamed Rows.journalSpoiltRow.func = some 16 := by kernel_rfl
theorem jspoilt_closed : joinedFacts Try.pinned.checked.prog 16 Try.f16 Rows.journalSpoiltSpec Rows.journalSpoiltRow = true := by kernel_rfl
end Go.Proofs.Ytknkbioalohofaa
