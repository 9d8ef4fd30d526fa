/- BitsHex: a label's digits are the document's, and any text is read as the document says. No condition. -/
import Derived.Test.YtokjmdlklhkjlaaWAwake1
import Derived.Test.YtokjmdlklhkjlaaOpenB
import Derived.Test.YtokjmdlklhkjlaaWRead2
import Derived.Test.YtokjmdlklhkjlaaWHex3
namespace Go.Proofs.Ytokjmdlklhkjlaa
open Go.ChangeShapes Go.WideShapes Go.ChangeAt Go.RowKit
open Go.ChangeMaps (open_string)

theorem eq_lab (x : List UInt8) (hx : x.length = 32) (w : World) : (binOp .eql 23 (.agg (labA x)) (.agg (labA x))).run Try.prog w = .ok (.bool true) w := by
  rw [eql23 x x hx hx w, beq_self_eq_true]

set_option maxHeartbeats 2000000 in
theorem bhex_walk (l : List UInt8) (hl : l.length = 32) (s : ByteArray) (w : World) :
    Calls Try.prog 10 #[.agg (labA l), .string s] w fun e w' => e = .returned (.bool true) ∧ Below w.heap.size w w' := by
  have hz23 : ∀ x : List UInt8, x.length = 32 → (Try.prog.info? 23).map (·.size) = some (labA x).size := fun x hx => by rw [labA_size, hx]; kernel_rfl
  have bL := Blk.new w (labA l) 23
  have hB := (Below.refl w.heap.size w).alloc (Nat.le_refl _) (.cells (labA l) 23)
  have H1 := Lib.hid (read_any s)
  have H2 := Lib.hid (rread_any s)
  have H3 := Lib.hid (hex_any l hl)
  have H4 := Lib.hid (rhex_any l hl)
  have hc := rdLab_length s.data.toList
  have he : ((B.read s.data.toList).isSome = true ∧ rdErr s.data.toList = 0) ∨ ((B.read s.data.toList).isSome = false ∧ rdErr s.data.toList = 4) := by
    unfold rdErr
    cases (B.read s.data.toList).isSome
    · exact .inr ⟨rfl, rfl⟩
    · exact .inl ⟨rfl, rfl⟩
  generalize rdLab s.data.toList = c at H1 H2 hc
  generalize rdErr s.data.toList = er at H1 he
  generalize (B.read s.data.toList).isSome = ok at H2 he
  generalize (⟨(B.hex l).toArray⟩ : ByteArray) = S at H3 H4
  rcases he with ⟨rfl, rfl⟩ | ⟨rfl, rfl⟩
  all_goals
    go_enter Try.func10, Try.ntmps10
    go_wp2_with (first | (refine wpList_fresh (by rfl) 23 (by rfl) _ fresh_lab ?_; simp only [Act.put, List.setIfInBounds_toArray, List.set_cons_succ, List.set_cons_zero]; try simp only [World.size_alloc]) | (go_at_call 35; with_reducible refine (H1.out _).mono ?_; rintro e wn ⟨rfl, hbn⟩; replace bL := bL.at_ hbn; replace hB := hB.trans (hbn.mono hB.size); clear hbn) | ((refine wpList_store_blk (by rfl) 23 (.tmp 5) (.tmp 12) (by rfl) (0) (labA c) (by rfl) (by rfl) ((Blk.new _ _ _)) (by rw [labA_size, labA_size, hc, zlab_length]; omega) (hz23 _ hc) (labA_all _) ?_; simp only [Act.put]); intro w5 bX o5; rw [splice_all _ _ (by rw [labA_size, labA_size, hc, zlab_length])] at bX; have hlL := bL.lt; replace bL := (bL.alloc _).only o5 (by omega); replace hB := o5.below (hB.alloc hB.size _) (by have := hB.size; omega); clear o5) | (go_at_call 36; with_reducible refine (H2.out _).mono ?_; rintro e wn ⟨rfl, hbn⟩; replace bL := bL.at_ hbn; replace bX := bX.at_ hbn; replace hB := hB.trans (hbn.mono hB.size); clear hbn) | ((refine wpList_store_blk (by rfl) 23 (.tmp 7) (.tmp 17) (by rfl) (0) (labA c) (by rfl) (by rfl) ((Blk.new _ _ _)) (by rw [labA_size, labA_size, hc, zlab_length]; omega) (hz23 _ hc) (labA_all _) ?_; simp only [Act.put]); intro w7 bY o7; rw [splice_all _ _ (by rw [labA_size, labA_size, hc, zlab_length])] at bY; have hlX := bX.lt; have hlM := bL.lt; replace bL := (bL.alloc _).only o7 (by omega); replace bX := (bX.alloc _).only o7 (by omega); replace hB := o7.below (hB.alloc hB.size _) (by have := hB.size; omega); clear o7))
    refine wp_region_quiet_below (by kernel_rfl) (by kernel_rfl) ?_
    repeat (first | (go_big_quiet_want; refine quiet_load_blk 23 (.tmp 2) (by rfl) (0) (by rfl) (heap_regrown bL) (labA l) (whole_at) _ Try.underlying23 (by rfl) (hz23 l hl) ?_; simp only [Act.put, List.setIfInBounds_toArray, List.set_cons_succ, List.set_cons_zero]; go_big_quiet_on) | (go_big_quiet_want; refine quiet_load_blk 23 (.tmp 5) (by rfl) (0) (by rfl) (heap_regrown bX) (labA c) (whole_at) _ Try.underlying23 (by rfl) (hz23 c hc) ?_; simp only [Act.put, List.setIfInBounds_toArray, List.set_cons_succ, List.set_cons_zero]; go_big_quiet_on) | (go_big_quiet_want; refine quiet_load_blk 23 (.tmp 7) (by rfl) (0) (by rfl) (heap_regrown bY) (labA c) (whole_at) _ Try.underlying23 (by rfl) (hz23 c hc) ?_; simp only [Act.put, List.setIfInBounds_toArray, List.set_cons_succ, List.set_cons_zero]; go_big_quiet_on) | (go_big_quiet_want; refine quiet_bin .eql 23 23 (.tmp 28) (.tmp 29) (by rfl) (labA c) (labA c) (by rfl) (by rfl) guard23 (.bool true) (eq_lab c hc) ?_; simp only [Act.put, List.setIfInBounds_toArray, List.set_cons_succ, List.set_cons_zero]; go_big_quiet_on) | go_big_quiet_step (first | with_reducible exact calls_regrown _ (fun W _ => awake_any W) | with_reducible exact calls_regrown _ (fun W _ => H3.out W) | with_reducible exact calls_regrown _ (fun W _ => H4.out W) | fail))
    refine wpQuiet_nil ?_
    intro w1 hw1
    have hb1 := below_of_regrown hw1
    clear hw1
    go_wp2
    go_ret
    exact ⟨rfl, hB.trans (hb1.mono hB.size)⟩

theorem bhex_law : LawHolds 10 Try.f10 := by
  intro H enc W base args ds p hval hA
  rw [Try.params10] at hA hval
  obtain ⟨v0, vs0, d0, ds0, p0, q0, hargs, rfl, rfl, k0, r0⟩ := trodAll_cons hA
  obtain ⟨v1, vs1, d1, ds1, p1, q1, rfl, rfl, rfl, k1, r1⟩ := trodAll_cons r0
  obtain ⟨rfl, rfl, rfl⟩ := trodAll_nil r1
  obtain rfl : args = #[v0, v1] := by cases args; simp_all
  obtain ⟨a, ha, rfl⟩ := open_lab (hval 0 23 v0 rfl rfl) k0
  obtain ⟨s, rfl, _, _, _⟩ := open_string Try.underlying9 (hval 1 9 v1 rfl rfl) k1
  exact bhex_walk a ha s W

theorem bhex_lifted (os : Os) (started : os.Started) (H : Type) (enc : TypeId × Value → H) :
    ReturnsInHanded {} Try.checked os 10 .any (Rows.bitsHexSpec.pre6 enc Try.prog Try.f10 Rows.bitsHexRow.domain false) (Rows.bitsHexSpec.post enc Try.prog Try.f10 false true false false) :=
  lifted_of started (by kernel_rfl) Try.func10
    (ChangeSpec.witness6 (enc := enc) (C := Try.checked) false ⟨#[], #[.agg (labA zlab), .string ⟨#[]⟩], []⟩ 8 (by kernel_rfl) (by kernel_rfl) (by kernel_rfl) (by kernel_rfl))
    rfl (by kernel_rfl) (fun ds h => by rw [Try.params10] at h; match ds, h with | [_, _], _ => rfl) (by rw [Try.params10]; exact of_decide_eq_true (by kernel_rfl)) bhex_law
theorem bhex_over : Rows.bitsHexRow.holds Try.pinned (OpenSpec.ofChange Rows.bitsHexSpec) :=
  OpenClaim.holds_of_wide 10 Try.f10 rfl rfl rfl rfl rfl rfl rfl ⟨rfl, rfl, rfl, rfl, rfl⟩ rfl rfl rfl rfl rfl (by kernel_rfl) Try.func10 (by kernel_rfl)
    (of_decide_eq_true (by kernel_rfl)) (by unfold Func.isWrapper; first | (rw [if_pos (by decide +kernel)]; kernel_rfl) | (rw [if_neg (by decide +kernel)]; exact ⟨rfl, rfl⟩))
    (fun os started H enc _ => bhex_lifted os started H enc)
/-- The statement. -/
theorem bhex_proved : Rows.BitsHexSaid := bhex_over
#print axioms bhex_proved
end Go.Proofs.Ytokjmdlklhkjlaa
