/- BitsLooks: labels' bits, their order and what they have in common are as the document's: for any two labels and any number. No condition. -/
import Derived.Test.YtokjmdlklhkjlaaWAwake1
import Derived.Test.YtokjmdlklhkjlaaOpenB
namespace Go.Proofs.Ytokjmdlklhkjlaa
open Go.ChangeShapes Go.WideShapes Go.ChangeAt Go.RowKit

set_option maxHeartbeats 4000000 in
theorem looks_walk (a b : List UInt8) (ha : a.length = 32) (hb : b.length = 32) (i r : Int) (h1 : ∀ w, Calls Try.prog 13 #[.agg (labA a), .int .i64 i] w fun e w' => e = .returned (.int .i64 r) ∧ Below w.heap.size w w')
    (h2 : ∀ w, Calls Try.prog 14 #[.agg (labA a), .int .i64 i] w fun e w' => e = .returned (.int .i64 r) ∧ Below w.heap.size w w') (w : World) :
    Calls Try.prog 3 #[.agg (labA a), .agg (labA b), .int .i64 i] w fun e w' => e = .returned (.bool true) ∧ Below w.heap.size w w' := by
  have hz : (Try.prog.info? 23).map (·.size) = some (labA a).size := by rw [labA_size, ha]; kernel_rfl
  have hz' : (Try.prog.info? 23).map (·.size) = some (labA b).size := by rw [labA_size, hb]; kernel_rfl
  have bA : Blk ((w.alloc (.cells (labA a) 23)).alloc (.cells (labA b) 23)) w.heap.size (labA a) 23 := heap_alloc2_old _ _ _
  have bB : Blk ((w.alloc (.cells (labA a) 23)).alloc (.cells (labA b) 23)) (w.heap.size + 1) (labA b) 23 := heap_alloc2_new _ _ _
  have H1 := Lib.hid h1
  have H2 := Lib.hid h2
  have H3 := Lib.hid (ord_any a b ha hb)
  have H4 := Lib.hid (rord_any a b ha hb)
  have H5 := Lib.hid (ord_any b a hb ha)
  have H6 := Lib.hid (rord_any b a hb ha)
  have H7 := Lib.hid (cmn_any a b ha hb)
  have H8 := Lib.hid (rcmn_any a b ha hb)
  clear h1 h2
  go_enter Try.func3, Try.ntmps3
  go_wp2
  refine wp_region_quiet_below (by kernel_rfl) (by kernel_rfl) ?_
  repeat (first | (go_big_quiet_want; refine quiet_load_row 23 (.tmp 3) (by rfl) (w.heap.size) (by rfl) 23 (labA a) (0, 0) _ (heap_regrown bA) Try.underlying23 (by rfl) hz ?_; simp only [Act.put, List.setIfInBounds_toArray, List.set_cons_succ, List.set_cons_zero]; go_big_quiet_on) | (go_big_quiet_want; refine quiet_load_row 23 (.tmp 4) (by rfl) (w.heap.size + 1) (by rfl) 23 (labA b) (0, 0) _ (heap_regrown bB) Try.underlying23 (by rfl) hz' ?_; simp only [Act.put, List.setIfInBounds_toArray, List.set_cons_succ, List.set_cons_zero]; go_big_quiet_on) | go_big_quiet_step (first | with_reducible exact calls_regrown _ (fun W _ => awake_any W) | with_reducible exact calls_regrown _ (fun W _ => H1.out W) | with_reducible exact calls_regrown _ (fun W _ => H2.out W) | with_reducible exact calls_regrown _ (fun W _ => H3.out W) | with_reducible exact calls_regrown _ (fun W _ => H4.out W) | with_reducible exact calls_regrown _ (fun W _ => H5.out W) | with_reducible exact calls_regrown _ (fun W _ => H6.out W) | with_reducible exact calls_regrown _ (fun W _ => H7.out W) | with_reducible exact calls_regrown _ (fun W _ => H8.out W) | fail))
  refine wpQuiet_nil ?_
  intro w1 hw1
  have hb1 := below_of_regrown hw1
  clear hw1
  go_wp2
  go_ret
  exact ⟨rfl, (((Below.refl _ _).alloc (Nat.le_refl _) _).alloc (by simp) _).trans (hb1.mono (by simp; omega))⟩

theorem looks_law : LawHolds 3 Try.f3 := by
  intro H enc W base args ds p hval hA
  rw [Try.params3] at hA hval
  obtain ⟨v0, vs0, d0, ds0, p0, q0, hargs, rfl, rfl, k0, r0⟩ := trodAll_cons hA
  obtain ⟨v1, vs1, d1, ds1, p1, q1, rfl, rfl, rfl, k1, r1⟩ := trodAll_cons r0
  obtain ⟨v2, vs2, d2, ds2, p2, q2, rfl, rfl, rfl, k2, r2⟩ := trodAll_cons r1
  obtain ⟨rfl, rfl, rfl⟩ := trodAll_nil r2
  obtain rfl : args = #[v0, v1, v2] := by cases args; simp_all
  obtain ⟨a, ha, rfl⟩ := open_lab (hval 0 23 v0 rfl rfl) k0
  obtain ⟨b, hb, rfl⟩ := open_lab (hval 1 23 v1 rfl rfl) k1
  obtain ⟨i, rfl, _, _, _⟩ := open_int Try.underlying3 (hval 2 3 v2 rfl rfl) k2
  by_cases hi : 0 ≤ i ∧ i < 256
  · exact looks_walk a b ha hb i _ (bit_in a ha i hi.1 hi.2) (rbit_in a ha i hi.1 hi.2) W
  · exact looks_walk a b ha hb i 0 (bit_out a i (by omega)) (rbit_out a i (by omega)) W

theorem looks_lifted (os : Os) (started : os.Started) (H : Type) (enc : TypeId × Value → H) :
    ReturnsInHanded {} Try.checked os 3 .any (Rows.bitsLooksSpec.pre6 enc Try.prog Try.f3 Rows.bitsLooksRow.domain false) (Rows.bitsLooksSpec.post enc Try.prog Try.f3 false true false false) :=
  lifted_of started (by kernel_rfl) Try.func3
    (ChangeSpec.witness6 (enc := enc) (C := Try.checked) false ⟨#[], #[.agg (labA zlab), .agg (labA zlab), .int .i64 0], []⟩ 8 (by kernel_rfl) (by kernel_rfl) (by kernel_rfl) (by kernel_rfl))
    rfl (by kernel_rfl) (fun ds h => by rw [Try.params3] at h; match ds, h with | [_, _, _], _ => rfl) (by rw [Try.params3]; exact of_decide_eq_true (by kernel_rfl)) looks_law

theorem looks_over : Rows.bitsLooksRow.holds Try.pinned (OpenSpec.ofChange Rows.bitsLooksSpec) :=
  OpenClaim.holds_of_wide 3 Try.f3 rfl rfl rfl rfl rfl rfl rfl ⟨rfl, rfl, rfl, rfl, rfl⟩ rfl rfl rfl rfl rfl (by kernel_rfl) Try.func3 (by kernel_rfl)
    (of_decide_eq_true (by kernel_rfl)) (by unfold Func.isWrapper; first | (rw [if_pos (by decide +kernel)]; kernel_rfl) | (rw [if_neg (by decide +kernel)]; exact ⟨rfl, rfl⟩))
    (fun os started H enc _ => looks_lifted os started H enc)

/-- The statement. -/
theorem looks_proved : Rows.BitsLooksSaid := looks_over
#print axioms looks_proved
end Go.Proofs.Ytokjmdlklhkjlaa
