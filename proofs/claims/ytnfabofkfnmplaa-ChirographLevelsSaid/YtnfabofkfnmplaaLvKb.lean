/- Boxes of files, of states and of jobs, stored anew. -/
import Derived.Test.YtnfabofkfnmplaaLvW
namespace Go.Proofs.Ytnfabofkfnmplaa
open Go.RowKit
section
variable {w : World} {g : Nat} {t : TypeId}
theorem put5 {a0 a1 a2 a3 a4 : Value} (h : Blk w g #[a0, a1, a2, a3, a4] t) (b0 b1 b2 b3 b4 : Value) : ∀ W, W = ((((w.setCell ⟨g, 0, none⟩ b0).setCell ⟨g, 1, none⟩ b1).setCell ⟨g, 2, none⟩ b2).setCell ⟨g, 3, none⟩ b3).setCell ⟨g, 4, none⟩ b4 → Blk W g #[b0, b1, b2, b3, b4] t ∧ Only g w W := by
  rintro _ rfl
  exact ⟨((((h.set_ 0 b0).set_ 1 b1).set_ 2 b2).set_ 3 b3).set_ 4 b4, ((((Only.setCell w g 0 b0).trans (Only.setCell _ g 1 b1)).trans (Only.setCell _ g 2 b2)).trans (Only.setCell _ g 3 b3)).trans (Only.setCell _ g 4 b4)⟩
theorem put3 {a0 a1 a2 : Value} (h : Blk w g #[a0, a1, a2] t) (b0 b1 b2 : Value) : ∀ W, W = ((w.setCell ⟨g, 0, none⟩ b0).setCell ⟨g, 1, none⟩ b1).setCell ⟨g, 2, none⟩ b2 → Blk W g #[b0, b1, b2] t ∧ Only g w W := by
  rintro _ rfl
  exact ⟨((h.set_ 0 b0).set_ 1 b1).set_ 2 b2, ((Only.setCell w g 0 b0).trans (Only.setCell _ g 1 b1)).trans (Only.setCell _ g 2 b2)⟩
/-- One cell of three. -/
theorem cell0_3 {a0 a1 a2 : Value} (h : Blk w g #[a0, a1, a2] t) (u : Value) : Blk (w.setCell ⟨g, 0, none⟩ u) g #[u, a1, a2] t ∧ Only g w (w.setCell ⟨g, 0, none⟩ u) := ⟨h.set_ 0 u, Only.setCell w g 0 u⟩
theorem cell1_3 {a0 a1 a2 : Value} (h : Blk w g #[a0, a1, a2] t) (u : Value) : Blk (w.setCell ⟨g, 1, none⟩ u) g #[a0, u, a2] t ∧ Only g w (w.setCell ⟨g, 1, none⟩ u) := ⟨h.set_ 1 u, Only.setCell w g 1 u⟩
theorem cell2_3 {a0 a1 a2 : Value} (h : Blk w g #[a0, a1, a2] t) (u : Value) : Blk (w.setCell ⟨g, 2, none⟩ u) g #[a0, a1, u] t ∧ Only g w (w.setCell ⟨g, 2, none⟩ u) := ⟨h.set_ 2 u, Only.setCell w g 2 u⟩
end
end Go.Proofs.Ytnfabofkfnmplaa
