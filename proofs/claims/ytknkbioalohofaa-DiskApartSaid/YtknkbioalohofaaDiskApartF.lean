/- What the statement's row says of the program, reckoned by the kernel. -/
import Derived.Test.YtknkbioalohofaaRow
import Derived.Test.YtknkbioalohofaaRows
namespace Go.Proofs.Ytknkbioalohofaa
theorem dapart_named : Try.pinned.checked.prog.funcNamed Rows.diskApartRow.func = some 12 := by kernel_rfl
theorem dapart_closed : joinedFacts Try.pinned.checked.prog 12 Try.f12 Rows.diskApartSpec Rows.diskApartRow = true := by kernel_rfl
end Go.Proofs.Ytknkbioalohofaa
