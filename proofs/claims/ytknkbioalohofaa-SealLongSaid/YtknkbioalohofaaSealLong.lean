/- SealLong: a text as long as may be is framed. No condition. -/
import Derived.Test.YtknkbioalohofaaSealAwake
import Derived.Test.YtknkbioalohofaaPureCuts
import Derived.Test.YtknkbioalohofaaKit6
namespace Go.Proofs.Ytknkbioalohofaa
open Go.ChangeShapes Go.WideShapes Go.ChangeAt Go.RowKit

set_option maxRecDepth 100000 in
set_option maxHeartbeats 2000000 in
theorem long_walk (c : UInt8) (more : Int) (w : World) :
    Calls Try.prog 7 #[.int .u8 (c.toNat : Int), .int .i64 more] w fun e w' => e = .returned (.bool true) ∧ Below w.heap.size w w' := by
  by_cases h1 : more < 1
  · have d1 : decide (more < 1) = true := by simpa using h1
    go_enter Try.func7, Try.ntmps7
    go_wp2_with (go_at_call 21; with_reducible refine (awake_any _).mono ?_; rintro e w2 ⟨rfl, hb2⟩)
    go_ret
    exact ⟨rfl, hb2⟩
  · by_cases h2 : 20 < more
    · have d1 : decide (more < 1) = false := by simpa using h1
      have d2 : decide (20 < more) = true := by simpa using h2
      go_enter Try.func7, Try.ntmps7
      go_wp2_with (go_at_call 21; with_reducible refine (awake_any _).mono ?_; rintro e w2 ⟨rfl, hb2⟩)
      go_ret
      exact ⟨rfl, hb2⟩
    · obtain ⟨m, rfl⟩ := Int.eq_ofNat_of_zero_le (show 0 ≤ more by omega)
      have d1 : decide ((m : Int) < 1) = false := by simp; omega
      have d2 : decide (20 < (m : Int)) = false := by simp; omega
      have hm1 : 1 ≤ m := by omega
      have hm2 : m ≤ 20 := by omega
      obtain ⟨N, hN⟩ : ∃ N, N = 65536 + m := ⟨_, rfl⟩
      have hmk := make_bytes 41 Try.underlying41 N (65536 + (m : Int)) (by omega) (by omega)
      have HN := Lib.hid (show 65536 < N ∧ N ≤ 65556 by omega)
      have b0 := Blk.new w (labA (List.replicate N 0)) 5
      have hB0 := below_alloc1 w (.cells (labA (List.replicate N 0)) 5)
      have e0 : fillTo c N 0 = List.replicate N 0 := by simp [fillTo]
      rw [← e0] at b0
      have hm3 : (m : Int) ≤ 20 := by omega
      clear hN h1 h2 e0 hm1 hm2
      go_enter Try.func7, Try.ntmps7
      go_wp2
      go_loopw [26] (fun i wr => ∃ k : Nat, k ≤ N ∧ i = .int .i64 (k : Int) ∧ Blk wr w.heap.size (labA (fillTo c N k)) 5 ∧ Below w.heap.size w wr) (fun i _ => N - (intOf i).toNat)
      case atStart => exact ⟨0, Nat.zero_le _, rfl, b0, hB0⟩
      case round =>
        obtain ⟨k, hk, rfl, b1, hB⟩ := hrel
        have hN2 := HN.out.2
        by_cases hlt : k < N
        · have i0 : (0 : Int) ≤ (k : Int) := by omega
          have i1 : (k : Int) < (N : Int) := by omega
          have i2 : (N : Int) ≤ 65556 := by omega
          have c1 := blk_bytes b1 k (by rw [fillTo_length _ _ _ hk]; exact hlt)
          have f1 := b1.free k
          have b2 := blk_put b1 k c
          rw [fillTo_set c N k hlt] at b2
          have hB2 := hB.setCell (p := ⟨w.heap.size, k, none⟩) (Nat.le_refl _) (.int .u8 (c.toNat : Int))
          generalize c.toNat = cn at *
          go_wp2
          exact ⟨⟨k + 1, by omega, by go_num, b2, hB2⟩, by simp [intOf]; omega⟩
        · obtain rfl : k = N := by omega
          have hLl := fillTo_length c k k (Nat.le_refl _)
          generalize fillTo c k k = L at *
          have hTl : (L.take 65536).length = 65536 := by rw [List.length_take, hLl]; have := HN.out.1; omega
          have hcv1 := conv_blk b1 41 Try.underlying41 65536 k (by rw [hLl]; have := HN.out.1; omega)
          have hcv2 := fun (W : World) (h : Blk W w.heap.size (labA L) 5) => conv_blk h 41 Try.underlying41 k k (by rw [hLl]; exact Nat.le_refl _)
          rw [List.take_of_length_le (by rw [hLl]; exact Nat.le_refl _)] at hcv2
          have hcv3 := fun (W : World) (h : Blk W w.heap.size (labA L) 5) => conv_blk h 41 Try.underlying41 65536 k (by rw [hLl]; have := HN.out.1; omega)
          have H1 := Lib.hid (wrap_any (L.take 65536) (by rw [hTl]; exact Nat.le_refl _))
          have H2 := Lib.hid (wrap_big L (by rw [hLl]; exact HN.out.1))
          have ho := C.opn_wrap (L.take 65536) [] (by rw [hTl]; exact Nat.le_refl _)
          rw [List.append_nil, hTl] at ho
          have h3 := open_any (C.wrap (L.take 65536))
          rw [ho] at h3
          have H3 := Lib.hid h3
          have Hcv2 := Lib.hid hcv2
          have Hcv3 := Lib.hid hcv3
          have hn1 : (65536 : Int) ≤ (k : Int) := by have := HN.out.1; omega
          clear h3 ho hcv2 hcv3 hTl hLl hmk b0 hB0 hlt hk
          generalize C.wrap (L.take 65536) = F at *
          generalize L.take 65536 = T at *
          go_wp2_with (first | (go_at_call 20; with_reducible refine (H1.out _).mono ?_; rintro e w1 ⟨rfl, hb1⟩; replace b1 := b1.at_ hb1; replace hB := hB.trans (hb1.mono hB.size); have hcv4 := Hcv2.out _ b1) | (go_at_call 20; with_reducible refine (H2.out _).mono ?_; rintro e w2 ⟨rfl, rfl⟩) | (go_at_call 25; with_reducible refine (H3.out _).mono ?_; rintro e w3 ⟨rfl, hb3⟩; replace b1 := b1.at_ hb3; replace hB := hB.trans (hb3.mono hB.size)) | (go_at_call 21; with_reducible refine (awake_any _).mono ?_; rintro e w4 ⟨rfl, hb4⟩; replace b1 := b1.at_ hb4; replace hB := hB.trans (hb4.mono hB.size); have hcv5 := Hcv3.out _ b1))
          go_ret
          exact ⟨by first | rfl | simp, hB⟩
set_option maxRecDepth 1000000 in
theorem long_law : LawHolds 7 Try.f7 := by
  intro H enc W base args ds p hval hA
  rw [Try.params7] at hA hval
  obtain ⟨v0, vs0, d0, ds0, p0, q0, hargs, rfl, rfl, k0, r0⟩ := trodAll_cons hA
  obtain ⟨v1, vs1, d1, ds1, p1, q1, rfl, rfl, rfl, k1, r1⟩ := trodAll_cons r0
  obtain ⟨rfl, rfl, rfl⟩ := trodAll_nil r1
  obtain rfl : args = #[v0, v1] := by cases args; simp_all
  obtain ⟨n, rfl, _, _, hwf⟩ := open_int Try.underlying5 (hval 0 5 v0 rfl rfl) k0
  obtain ⟨m, rfl, _, _, _⟩ := open_int Try.underlying3 (hval 1 3 v1 rfl rfl) k1
  obtain ⟨b, hb⟩ := byte_of n hwf
  rw [hb]
  exact long_walk b m W

theorem long_lifted (os : Os) (started : os.Started) (H : Type) (enc : TypeId × Value → H) :
    ReturnsInHanded {} Try.checked os 7 .any (Rows.sealLongSpec.pre6 enc Try.prog Try.f7 Rows.sealLongRow.domain false) (Rows.sealLongSpec.post enc Try.prog Try.f7 false true false false) :=
  lifted_of started (by kernel_rfl) Try.func7
    (ChangeSpec.witness6 (enc := enc) (C := Try.checked) false ⟨#[], #[.int .u8 0, .int .i64 0], []⟩ 8 (by kernel_rfl) (by kernel_rfl) (by kernel_rfl) (by kernel_rfl))
    rfl (by kernel_rfl) (fun ds h => by rw [Try.params7] at h; match ds, h with | [_, _], _ => rfl) (by rw [Try.params7]; exact of_decide_eq_true (by kernel_rfl)) long_law
theorem long_over : Rows.sealLongRow.holds Try.pinned (OpenSpec.ofChange Rows.sealLongSpec) :=
  OpenClaim.holds_of_wide 7 Try.f7 rfl rfl rfl rfl rfl rfl rfl ⟨rfl, rfl, rfl, rfl, rfl⟩ rfl rfl rfl rfl rfl (by kernel_rfl) Try.func7 (by kernel_rfl)
    (of_decide_eq_true (by kernel_rfl)) (by unfold Func.isWrapper; first | (rw [if_pos (by decide +kernel)]; kernel_rfl) | (rw [if_neg (by decide +kernel)]; exact ⟨rfl, rfl⟩))
    (fun os started H enc _ => long_lifted os started H enc)
/-- The statement. -/
theorem long_proved : Rows.SealLongSaid := long_over
#print axioms long_proved
end Go.Proofs.Ytknkbioalohofaa
