/- The walk of code.Reader.Label. -/
import Derived.Test.YtgjmnhbkdccgpaaWRNum
import Derived.Test.YtgjmnhbkdccgpaaWCut
import Derived.Test.YtgjmnhbkdccgpaaKit4
namespace Go.Proofs.Ytgjmnhbkdccgpaa
open Go.RowKit

theorem label_splice (t : List UInt8) : splice (labA zlab) 0 (t.map byteV).toArray = labA (t ++ (List.replicate 32 0).drop t.length) := by
  unfold splice labA zlab
  simp [List.map_drop]
set_option maxRecDepth 100000 in
set_option maxHeartbeats 2000000 in
theorem rlabel_any (s : List UInt8) (hs : s.length ≤ 4611686018427387904) (r : D.Rd) (g : Nat) (w : World) (h : Rst w g s r) :
    Calls Try.prog 88 #[.pointer (some ⟨g, 0, none⟩)] w fun e w' => e = .returned (.agg (labA (D.label s r).1)) ∧ Rst w' g s (D.label s r).2 ∧ w.grownBy w' (some g) := by
  have hz0 : (Try.prog.info? 25).map (·.size) = some (labA zlab).size := by rw [labA_size, zlab_length]; kernel_rfl
  have b3 : Blk ((w.alloc (.cells (labA zlab) 25)).alloc (.cells (labA zlab) 25)) (w.heap.size + 1) (labA zlab) 25 := heap_alloc2_new _ _ _
  have b2 : Blk ((w.alloc (.cells (labA zlab) 25)).alloc (.cells (labA zlab) 25)) w.heap.size (labA zlab) 25 := heap_alloc2_old _ _ _
  have hr0 : Rst ((w.alloc (.cells (labA zlab) 25)).alloc (.cells (labA zlab) 25)) g s r := ⟨(h.blk.alloc _).alloc _, h.loc⟩
  have h1 := fun w h => take_any s hs r 32 (by omega) g w h
  rw [show ((32 : Nat) : Int) = 32 from rfl] at h1
  have H1 := Lib.hid h1
  clear h1
  go_enter Try.func88, Try.ntmps88
  go_wp2_with (first | (refine wpList_fresh (by rfl) 25 (by rfl) _ fresh_lab1 ?_; simp only [Act.put, List.setIfInBounds_toArray, List.set_cons_succ, List.set_cons_zero]; try simp only [World.size_alloc]))
  have hlt := h.blk.lt
  have htl := D.take_length s r 32
  have htz : 0 + (D.take s r 32).1.length ≤ (labA zlab).size := by rw [labA_size, zlab_length]; omega
  go_region_law (first | (refine step_copy_str_blk (T := 25) rfl (.tmp 4) (.tmp 6) 36 9 rfl 5 Try.underlying36 (fun _ => by kernel_rfl) 0 32 32 rfl (D.take s r 32).1 rfl htl (b3.drew.only ho1 (by omega)) htz ?_; intro w4 b4 o4) | (go_simp; with_reducible refine (H1.out _ hr0.drew).mono ?_; rintro e w1 ⟨rfl, hr1, ho1⟩))
  have e32 := label_splice (D.take s r 32).1
  rw [e32] at b4
  have hll : ((D.take s r 32).1 ++ (List.replicate 32 0).drop (D.take s r 32).1.length).length = 32 := by simp; omega
  have Hres := Lib.hid (show D.label s r = ((D.take s r 32).1 ++ (List.replicate 32 0).drop (D.take s r 32).1.length, (D.take s r 32).2) from rfl)
  have bx := (b2.drew.only ho1 (by omega)).only o4 (by omega)
  have hr4 : Rst w4 g s (D.take s r 32).2 := ⟨hr1.blk.only o4 (by omega), hr1.loc⟩
  have hgr0 := grown_then (below_grows (row := some g) ((((Below.refl w.heap.size w).alloc (Nat.le_refl _) (.cells (labA zlab) 25)).alloc (by simp) (.cells (labA zlab) 25)).drew)) ho1.grown
  have hgr := grown_only hgr0 o4 (by omega)
  clear e32 htz H1 hr0 b3 b2 hr1
  generalize (D.take s r 32).1 ++ (List.replicate 32 0).drop (D.take s r 32).1.length = L at *
  have hzL : (Try.prog.info? 25).map (·.size) = some (labA L).size := by rw [labA_size, hll]; kernel_rfl
  go_wp2_with (first | (refine wpList_load_blk (by rfl) 25 (.tmp 3) (by rfl) 0 (by rfl) (b4) (labA L) whole_at _ Try.underlying25 (by rfl) hzL ?_; simp only [Act.put, List.setIfInBounds_toArray, List.set_cons_succ, List.set_cons_zero]) | ((refine wpList_store_blk (by rfl) 25 (.tmp 2) (.tmp 8) (by rfl) (0) (labA L) (by rfl) (by rfl) (bx) (by rw [labA_size, labA_size, hll, zlab_length]; omega) hzL (labA_all _) ?_; simp only [Act.put]); intro w5 b5 o5))
  rw [splice_all _ _ (by rw [labA_size, labA_size, hll, zlab_length])] at b5
  refine bodyPost_ret (v := .agg (labA L)) (results_blk (by rfl) _ b5 _ (by rfl) Try.underlying25 (by rfl) hzL) rfl ?_
  rw [Hres.out]
  exact ⟨rfl, hr4.only o5 (by omega), grown_only hgr o5 (Nat.le_refl _)⟩
end Go.Proofs.Ytgjmnhbkdccgpaa
