/- The walk of code.Writer.Label. -/
import Derived.Test.YtgjmnhbkdccgpaaWWrite
namespace Go.Proofs.Ytgjmnhbkdccgpaa
open Go.RowKit

set_option maxHeartbeats 1000000 in
theorem wlabel_any (l : List UInt8) (hl : l.length = 32) (g : Nat) (v : Value) (xs : List UInt8) (w : World) (h : Wst w g v xs) (hx : xs.length ≤ 140737488355000) :
    Calls Try.prog 71 #[.pointer (some ⟨g, 0, none⟩), .agg (labA l)] w fun e w' => e = .returned (.tuple #[]) ∧ ∃ v', Wst w' g v' (xs ++ l) ∧ Wto w g v w' v' := by
  have b1 := Blk.new w (labA l) 25
  have bg := h.blk.alloc (.cells (labA l) 25)
  have c0 := bg.cellv (i := 0) (v := v) rfl
  have f0 := bg.free 0
  have hsrc := src_bytes b1 (l := l) (off := 0) (fun j hj => by rw [Nat.zero_add]; exact labA_byte l j hj)
  have hyl2 : xs.length + 32 ≤ 140737488355328 := by omega
  have Hl := Lib.hid hl
  clear b1 hl
  go_enter Try.func71, Try.ntmps71
  go_wp2
  go_region_law (refine step_append_buf rfl (.tmp 8) (.tmp 9) 36 rfl Try.underlying36 rfl ((h.buf.alloc _).drew) ⟨w.heap.size, 0, none⟩ 32 32 l rfl Hl.out hsrc hyl2 ?_; intro v1 w1 hb1 hg1 hr1; have bk1 := bg.drew.grown hg1 (Ne.symm h.ne); have c1 := bk1.cellv (i := 0) (v := v) rfl; have f1 := bk1.free 0; obtain ⟨gr, cr, rfl⟩ := hb1.form_ne (by intro e; have := congrArg List.length e; simp [Hl.out] at this); simp only [List.length_append] at hb1 hr1)
  all_goals
    obtain ⟨hw3, ht3⟩ := wst_append h hb1 (below_alloc1 _ _).drew hg1 hr1
    go_wp2
    go_end0
    exact ⟨rfl, _, hw3, ht3⟩
end Go.Proofs.Ytgjmnhbkdccgpaa
