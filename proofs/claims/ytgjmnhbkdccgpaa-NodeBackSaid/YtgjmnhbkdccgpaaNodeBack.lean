/- NodeBack: nodes go and come back. No condition. -/
import Derived.Test.YtgjmnhbkdccgpaaNBackW
namespace Go.Proofs.Ytgjmnhbkdccgpaa
open Go.ChangeShapes Go.WideShapes Go.ChangeAt Go.RowKit

set_option maxRecDepth 1000000 in
theorem nback_law : LawHolds 17 Try.f17 := by
  intro H enc W base args ds p hval hA
  rw [Try.params17] at hA hval
  obtain ⟨v0, vs0, d0, ds0, p0, q0, hargs, rfl, rfl, k0, r0⟩ := trodAll_cons hA
  obtain ⟨v1, vs1, d1, ds1, p1, q1, rfl, rfl, rfl, k1, r1⟩ := trodAll_cons r0
  obtain ⟨v2, vs2, d2, ds2, p2, q2, rfl, rfl, rfl, k2, r2⟩ := trodAll_cons r1
  obtain ⟨rfl, rfl, rfl⟩ := trodAll_nil r2
  obtain rfl : args = #[v0, v1, v2] := by cases args; simp_all
  obtain ⟨l, v, j, hl, hv, hj, rfl⟩ := open_leaf (hval 0 61 v0 rfl rfl) k0
  obtain ⟨a0, b0, c0, e0, ha0, hb0, hc0, he0, rfl⟩ := open_item (hval 1 65 v1 rfl rfl) k1
  obtain ⟨a1, b1, c1, e1, ha1, hb1, hc1, he1, rfl⟩ := open_item (hval 2 65 v2 rfl rfl) k2
  exact nback_walk l v j a0 b0 c0 e0 a1 b1 c1 e1 hl hv hj ha0 hb0 hc0 he0 ha1 hb1 hc1 he1 W

theorem nback_lifted (os : Os) (started : os.Started) (H : Type) (enc : TypeId × Value → H) :
    ReturnsInHanded {} Try.checked os 17 .any (Rows.nodeBackSpec.pre6 enc Try.prog Try.f17 Rows.nodeBackRow.domain false) (Rows.nodeBackSpec.post enc Try.prog Try.f17 false true false false) :=
  lifted_of started (by kernel_rfl) Try.func17
    (ChangeSpec.witness6 (enc := enc) (C := Try.checked) false ⟨#[], #[.agg (leafC zlab zlab 0).toArray, .agg (itemC 0 zlab zlab 0).toArray, .agg (itemC 0 zlab zlab 0).toArray], []⟩ 8 (by kernel_rfl) (by kernel_rfl) (by kernel_rfl) (by kernel_rfl))
    rfl (by kernel_rfl) (fun ds h => by rw [Try.params17] at h; match ds, h with | [_, _, _], _ => rfl) (by rw [Try.params17]; exact of_decide_eq_true (by kernel_rfl)) nback_law
theorem nback_over : Rows.nodeBackRow.holds Try.pinned (OpenSpec.ofChange Rows.nodeBackSpec) :=
  OpenClaim.holds_of_wide 17 Try.f17 rfl rfl rfl rfl rfl rfl rfl ⟨rfl, rfl, rfl, rfl, rfl⟩ rfl rfl rfl rfl rfl (by kernel_rfl) Try.func17 (by kernel_rfl)
    (of_decide_eq_true (by kernel_rfl)) (by unfold Func.isWrapper; first | (rw [if_pos (by decide +kernel)]; kernel_rfl) | (rw [if_neg (by decide +kernel)]; exact ⟨rfl, rfl⟩))
    (fun os started H enc _ => nback_lifted os started H enc)
/-- The statement. -/
theorem nback_proved : Rows.NodeBackSaid := nback_over
#print axioms nback_proved
end Go.Proofs.Ytgjmnhbkdccgpaa
