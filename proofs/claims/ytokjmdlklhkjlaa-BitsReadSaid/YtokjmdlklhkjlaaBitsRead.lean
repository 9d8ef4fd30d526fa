/- BitsRead: digits go and come back, and stand in the labels' order. No condition. -/
import Derived.Test.YtokjmdlklhkjlaaBitsHex
namespace Go.Proofs.Ytokjmdlklhkjlaa
open Go.ChangeShapes Go.WideShapes Go.ChangeAt Go.RowKit

theorem less_compare : ∀ a b : List UInt8, a.length = b.length → Op.bytesLess a b = decide (Lib.compareBytes a b < 0)
  | [], [], _ => rfl
  | x :: a, y :: b, h => by
    have ih := less_compare a b (by simpa using h)
    rw [Op.bytesLess, Lib.compareBytes, ih]
    by_cases h1 : x < y
    · rw [if_pos h1, decide_eq_true h1]; rfl
    · rw [if_neg h1, decide_eq_false h1, Bool.false_or]
      by_cases h2 : y < x
      · rw [if_pos h2]
        have : (x == y) = false := by rw [beq_eq_false_iff_ne]; intro e; subst e; exact absurd h2 (UInt8.lt_irrefl _)
        rw [this]; rfl
      · rw [if_neg h2]
        have : x = y := UInt8.le_antisymm (UInt8.not_lt.1 h2) (UInt8.not_lt.1 h1)
        rw [this, beq_self_eq_true, Bool.true_and]
  | [], _ :: _, h => by simp at h
  | _ :: _, [], h => by simp at h
theorem less_hex (a b : List UInt8) (ha : a.length = 32) (hb : b.length = 32) : Op.bytesLess (⟨(B.hex a).toArray⟩ : ByteArray).toList (⟨(B.hex b).toArray⟩ : ByteArray).toList = decide (B.ord a b < 0) := by
  rw [Lib.toList_data, Lib.toList_data]
  show Op.bytesLess (B.hex a) (B.hex b) = _
  rw [less_compare _ _ (by rw [B.hex_length, B.hex_length, ha, hb]), B.compare_hex _ _ (by rw [ha, hb]), B.compare_ord ha hb]

set_option maxHeartbeats 2000000 in
theorem bread_walk (a b : List UInt8) (ha : a.length = 32) (hb : b.length = 32) (w : World) :
    Calls Try.prog 11 #[.agg (labA a), .agg (labA b)] w fun e w' => e = .returned (.bool true) ∧ Below w.heap.size w w' := by
  have hz23 : ∀ x : List UInt8, x.length = 32 → (Try.prog.info? 23).map (·.size) = some (labA x).size := fun x hx => by rw [labA_size, hx]; kernel_rfl
  have bA : Blk ((w.alloc (.cells (labA a) 23)).alloc (.cells (labA b) 23)) w.heap.size (labA a) 23 := heap_alloc2_old _ _ _
  have bB : Blk ((w.alloc (.cells (labA a) 23)).alloc (.cells (labA b) 23)) (w.heap.size + 1) (labA b) 23 := heap_alloc2_new _ _ _
  have hB := ((Below.refl w.heap.size w).alloc (Nat.le_refl _) (.cells (labA a) 23)).alloc (by simp) (.cells (labA b) 23)
  have H1 := Lib.hid (hex_any a ha)
  have H2 := Lib.hid (hex_any b hb)
  have h3 := read_any ⟨(B.hex a).toArray⟩
  obtain ⟨e1, e2, _⟩ := rd_some (B.read_hex ha)
  rw [show (⟨(B.hex a).toArray⟩ : ByteArray).data.toList = B.hex a from rfl, e1, e2] at h3
  have H3 := Lib.hid h3
  have H4 := Lib.hid (ord_any a b ha hb)
  have hless := less_hex a b ha hb
  have hsz : (⟨(B.hex a).toArray⟩ : ByteArray).size = 64 := by
    show (B.hex a).toArray.size = 64
    rw [List.size_toArray, B.hex_length, ha]
  clear h3 e1 e2
  generalize (⟨(B.hex a).toArray⟩ : ByteArray) = S at H1 H3 hless hsz
  generalize (⟨(B.hex b).toArray⟩ : ByteArray) = T at H2 hless
  generalize B.ord a b = r at H4 hless
  go_enter Try.func11, Try.ntmps11
  go_wp2
  refine wp_region_quiet_below (by kernel_rfl) (by kernel_rfl) ?_
  repeat (first | (go_big_quiet_want; refine quiet_load_blk 23 (.tmp 2) (by rfl) (0) (by rfl) (heap_regrown bA) (labA a) (whole_at) _ Try.underlying23 (by rfl) (hz23 a ha) ?_; simp only [Act.put, List.setIfInBounds_toArray, List.set_cons_succ, List.set_cons_zero]; go_big_quiet_on) | (go_big_quiet_want; refine quiet_load_blk 23 (.tmp 3) (by rfl) (0) (by rfl) (heap_regrown bB) (labA b) (whole_at) _ Try.underlying23 (by rfl) (hz23 b hb) ?_; simp only [Act.put, List.setIfInBounds_toArray, List.set_cons_succ, List.set_cons_zero]; go_big_quiet_on) | go_big_quiet_step (first | with_reducible exact calls_regrown _ (fun W _ => H1.out W) | with_reducible exact calls_regrown _ (fun W _ => H2.out W) | fail))
  refine wpQuiet_nil ?_
  intro w1 hw1
  have hb1 := below_of_regrown hw1
  clear hw1
  replace bA := bA.at_ hb1
  replace bB := bB.at_ hb1
  replace hB := hB.trans (hb1.mono hB.size)
  go_wp2_with (first | (refine wpList_fresh (by rfl) 23 (by rfl) _ fresh_lab ?_; simp only [Act.put, List.setIfInBounds_toArray, List.set_cons_succ, List.set_cons_zero]; try simp only [World.size_alloc]) | (refine wpList_load_blk (by rfl) 23 (.tmp 2) (by rfl) 0 (by rfl) (bA) (labA a) whole_at _ Try.underlying23 (by rfl) (hz23 a ha) ?_; simp only [Act.put, List.setIfInBounds_toArray, List.set_cons_succ, List.set_cons_zero]) | (refine wpList_load_blk (by rfl) 23 (.tmp 3) (by rfl) 0 (by rfl) (bB) (labA b) whole_at _ Try.underlying23 (by rfl) (hz23 b hb) ?_; simp only [Act.put, List.setIfInBounds_toArray, List.set_cons_succ, List.set_cons_zero]) | (refine wpList_load_blk (by rfl) 23 (.tmp 7) (by rfl) 0 (by rfl) (bX) (labA a) whole_at _ Try.underlying23 (by rfl) (hz23 a ha) ?_; simp only [Act.put, List.setIfInBounds_toArray, List.set_cons_succ, List.set_cons_zero]) | (go_at_call 35; with_reducible refine (H3.out _).mono ?_; rintro e wn ⟨rfl, hbn⟩; replace bA := bA.at_ hbn; replace bB := bB.at_ hbn; replace hB := hB.trans (hbn.mono hB.size); clear hbn) | ((refine wpList_store_blk (by rfl) 23 (.tmp 7) (.tmp 17) (by rfl) (0) (labA a) (by rfl) (by rfl) ((Blk.new _ _ _)) (by rw [labA_size, labA_size, ha, zlab_length]; omega) (hz23 _ ha) (labA_all _) ?_; simp only [Act.put]); intro w5 bX o5; rw [splice_all _ _ (by rw [labA_size, labA_size, ha, zlab_length])] at bX; have hlA := bA.lt; have hlB := bB.lt; replace bA := (bA.alloc _).only o5 (by omega); replace bB := (bB.alloc _).only o5 (by omega); replace hB := o5.below (hB.alloc hB.size _) (by have := hB.size; omega); clear o5) | (go_at_call 15; with_reducible refine (H4.out _).mono ?_; rintro e wn ⟨rfl, hbn⟩; replace bA := bA.at_ hbn; replace bB := bB.at_ hbn; replace bX := bX.at_ hbn; replace hB := hB.trans (hbn.mono hB.size); clear hbn) | (go_at_call 12; with_reducible refine (awake_any _).mono ?_; rintro e wn ⟨rfl, hbn⟩; replace bA := bA.at_ hbn; replace bB := bB.at_ hbn; replace bX := bX.at_ hbn; replace hB := hB.trans (hbn.mono hB.size); clear hbn) | (refine wpList_bin (by rfl) .eql 23 23 (.tmp 29) (.tmp 30) (by rfl) (labA a) (labA a) (by rfl) (by rfl) guard23 (.bool true) (eq_lab a ha) ?_; simp only [Act.put, List.setIfInBounds_toArray, List.set_cons_succ, List.set_cons_zero]))
  go_ret
  exact ⟨rfl, hB⟩

theorem bread_law : LawHolds 11 Try.f11 := by
  intro H enc W base args ds p hval hA
  rw [Try.params11] at hA hval
  obtain ⟨v0, vs0, d0, ds0, p0, q0, hargs, rfl, rfl, k0, r0⟩ := trodAll_cons hA
  obtain ⟨v1, vs1, d1, ds1, p1, q1, rfl, rfl, rfl, k1, r1⟩ := trodAll_cons r0
  obtain ⟨rfl, rfl, rfl⟩ := trodAll_nil r1
  obtain rfl : args = #[v0, v1] := by cases args; simp_all
  obtain ⟨a, ha, rfl⟩ := open_lab (hval 0 23 v0 rfl rfl) k0
  obtain ⟨b, hb, rfl⟩ := open_lab (hval 1 23 v1 rfl rfl) k1
  exact bread_walk a b ha hb W

theorem bread_lifted (os : Os) (started : os.Started) (H : Type) (enc : TypeId × Value → H) :
    ReturnsInHanded {} Try.checked os 11 .any (Rows.bitsReadSpec.pre6 enc Try.prog Try.f11 Rows.bitsReadRow.domain false) (Rows.bitsReadSpec.post enc Try.prog Try.f11 false true false false) :=
  lifted_of started (by kernel_rfl) Try.func11
    (ChangeSpec.witness6 (enc := enc) (C := Try.checked) false ⟨#[], #[.agg (labA zlab), .agg (labA zlab)], []⟩ 8 (by kernel_rfl) (by kernel_rfl) (by kernel_rfl) (by kernel_rfl))
    rfl (by kernel_rfl) (fun ds h => by rw [Try.params11] at h; match ds, h with | [_, _], _ => rfl) (by rw [Try.params11]; exact of_decide_eq_true (by kernel_rfl)) bread_law
theorem bread_over : Rows.bitsReadRow.holds Try.pinned (OpenSpec.ofChange Rows.bitsReadSpec) :=
  OpenClaim.holds_of_wide 11 Try.f11 rfl rfl rfl rfl rfl rfl rfl ⟨rfl, rfl, rfl, rfl, rfl⟩ rfl rfl rfl rfl rfl (by kernel_rfl) Try.func11 (by kernel_rfl)
    (of_decide_eq_true (by kernel_rfl)) (by unfold Func.isWrapper; first | (rw [if_pos (by decide +kernel)]; kernel_rfl) | (rw [if_neg (by decide +kernel)]; exact ⟨rfl, rfl⟩))
    (fun os started H enc _ => bread_lifted os started H enc)
/-- The statement. -/
theorem bread_proved : Rows.BitsReadSaid := bread_over
#print axioms bread_proved
end Go.Proofs.Ytokjmdlklhkjlaa
