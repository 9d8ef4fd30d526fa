/- NodeApart: what is summed of unlike nodes is unlike. No condition. -/
import Derived.Test.YtgjmnhbkdccgpaaNApartW
namespace Go.Proofs.Ytgjmnhbkdccgpaa
open Go.ChangeShapes Go.WideShapes Go.ChangeAt Go.RowKit

set_option maxRecDepth 1000000 in
theorem napart_law : LawHolds 14 Try.f14 := by
  intro H enc W base args ds p hval hA
  rw [Try.params14] at hA hval
  obtain ⟨v0, vs0, d0, ds0, p0, q0, hargs, rfl, rfl, k0, r0⟩ := trodAll_cons hA
  obtain ⟨v1, vs1, d1, ds1, p1, q1, rfl, rfl, rfl, k1, r1⟩ := trodAll_cons r0
  obtain ⟨v2, vs2, d2, ds2, p2, q2, rfl, rfl, rfl, k2, r2⟩ := trodAll_cons r1
  obtain ⟨v3, vs3, d3, ds3, p3, q3, rfl, rfl, rfl, k3, r3⟩ := trodAll_cons r2
  obtain ⟨v4, vs4, d4, ds4, p4, q4, rfl, rfl, rfl, k4, r4⟩ := trodAll_cons r3
  obtain ⟨v5, vs5, d5, ds5, p5, q5, rfl, rfl, rfl, k5, r5⟩ := trodAll_cons r4
  obtain ⟨rfl, rfl, rfl⟩ := trodAll_nil r5
  obtain rfl : args = #[v0, v1, v2, v3, v4, v5] := by cases args; simp_all
  obtain ⟨k, u, i, hk, hu, hi, rfl⟩ := open_leaf (hval 0 61 v0 rfl rfl) k0
  obtain ⟨l, v, j, hl, hv, hj, rfl⟩ := open_leaf (hval 1 61 v1 rfl rfl) k1
  obtain ⟨a0, b0, c0, e0, ha0, hb0, hc0, he0, rfl⟩ := open_item (hval 2 65 v2 rfl rfl) k2
  obtain ⟨a1, b1, c1, e1, ha1, hb1, hc1, he1, rfl⟩ := open_item (hval 3 65 v3 rfl rfl) k3
  obtain ⟨a2, b2, c2, e2, ha2, hb2, hc2, he2, rfl⟩ := open_item (hval 4 65 v4 rfl rfl) k4
  obtain ⟨a3, b3, c3, e3, ha3, hb3, hc3, he3, rfl⟩ := open_item (hval 5 65 v5 rfl rfl) k5
  exact napart_walk k u i l v j a0 b0 c0 e0 a1 b1 c1 e1 a2 b2 c2 e2 a3 b3 c3 e3 hk hu hi hl hv hj ha0 hb0 hc0 he0 ha1 hb1 hc1 he1 ha2 hb2 hc2 he2 ha3 hb3 hc3 he3 W

theorem napart_lifted (os : Os) (started : os.Started) (H : Type) (enc : TypeId × Value → H) :
    ReturnsInHanded {} Try.checked os 14 .any (Rows.nodeApartSpec.pre6 enc Try.prog Try.f14 Rows.nodeApartRow.domain false) (Rows.nodeApartSpec.post enc Try.prog Try.f14 false true false false) :=
  lifted_of started (by kernel_rfl) Try.func14
    (ChangeSpec.witness6 (enc := enc) (C := Try.checked) false ⟨#[], #[.agg (leafC zlab zlab 0).toArray, .agg (leafC zlab zlab 0).toArray, .agg (itemC 0 zlab zlab 0).toArray, .agg (itemC 0 zlab zlab 0).toArray, .agg (itemC 0 zlab zlab 0).toArray, .agg (itemC 0 zlab zlab 0).toArray], []⟩ 8 (by kernel_rfl) (by kernel_rfl) (by kernel_rfl) (by kernel_rfl))
    rfl (by kernel_rfl) (fun ds h => by rw [Try.params14] at h; match ds, h with | [_, _, _, _, _, _], _ => rfl) (by rw [Try.params14]; exact of_decide_eq_true (by kernel_rfl)) napart_law
theorem napart_over : Rows.nodeApartRow.holds Try.pinned (OpenSpec.ofChange Rows.nodeApartSpec) :=
  OpenClaim.holds_of_wide 14 Try.f14 rfl rfl rfl rfl rfl rfl rfl ⟨rfl, rfl, rfl, rfl, rfl⟩ rfl rfl rfl rfl rfl (by kernel_rfl) Try.func14 (by kernel_rfl)
    (of_decide_eq_true (by kernel_rfl)) (by unfold Func.isWrapper; first | (rw [if_pos (by decide +kernel)]; kernel_rfl) | (rw [if_neg (by decide +kernel)]; exact ⟨rfl, rfl⟩))
    (fun os started H enc _ => napart_lifted os started H enc)
/-- The statement. -/
theorem napart_proved : Rows.NodeApartSaid := napart_over
#print axioms napart_proved
end Go.Proofs.Ytgjmnhbkdccgpaa
