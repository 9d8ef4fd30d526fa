/- The walk of node.write. -/
import Derived.Test.YtgjmnhbkdccgpaaWFlag
import Derived.Test.YtgjmnhbkdccgpaaWWText
namespace Go.Proofs.Ytgjmnhbkdccgpaa
open Go.RowKit

set_option maxRecDepth 100000 in
set_option maxHeartbeats 1000000 in
theorem nwrite_any (n : Nat) (p s : List UInt8) (t : Nat) (hn : n < 9223372036854775808) (ht : t < 9223372036854775808) (hp : p.length = 32) (hs : s.length = 32) (g : Nat) (v : Value) (xs : List UInt8) (w : World) (h : Wst w g v xs) (hx : xs.length ≤ 100000) :
    Calls Try.prog 74 #[.pointer (some ⟨g, 0, none⟩), .agg (itemC n p s t).toArray] w fun e w' => e = .returned (.tuple #[]) ∧ ∃ v', Wst w' g v' (xs ++ D.itemW n p s t) ∧ Wto w g v w' v' := by
  have b0 := Blk.new w (itemC n p s t).toArray 65
  have hw0 := h.below (below_alloc1 w (.cells (itemC n p s t).toArray 65))
  have ht0 := Wto.pre (below_alloc1 w (.cells (itemC n p s t).toArray 65)) (Wto.refl _ g v)
  have hg : w.heap.size ≠ g := by have := h.blk.lt; omega
  have ho : v.ownBlock ≠ some w.heap.size := fun e => by have := h.buf.lt e; omega
  have f0 : (itemC n p s t).toArray[0]? = some (.int .i64 n) := rfl
  have f1 : ∀ j, j < (labA p).size → (itemC n p s t).toArray[1 + j]? = (labA p)[j]? := fun j hj => by
    rw [List.getElem?_toArray]
    have hj' : j < (p.map byteV).length := by rw [List.length_map]; rw [labA_size] at hj; exact hj
    rw [itemC_pre n p s t j _ (List.getElem?_eq_getElem hj')]
    unfold labA; rw [List.getElem?_toArray, List.getElem?_eq_getElem hj']
  have f2 : ∀ j, j < (labA s).size → (itemC n p s t).toArray[33 + j]? = (labA s)[j]? := fun j hj => by
    rw [List.getElem?_toArray]
    have hj' : j < (s.map byteV).length := by rw [List.length_map]; rw [labA_size] at hj; exact hj
    rw [itemC_sum n p s t hp j _ (List.getElem?_eq_getElem hj')]
    unfold labA; rw [List.getElem?_toArray, List.getElem?_eq_getElem hj']
  have f3 : (itemC n p s t).toArray[65]? = some (.int .i64 t) := by rw [List.getElem?_toArray]; exact itemC_at n p s t hp hs
  have hz1 := size_lab p hp
  have hz2 := size_lab s hs
  have hr : xs ++ D.itemW n p s t = xs ++ D.numB n ++ p ++ s ++ D.numB t := by unfold D.itemW; simp only [List.append_assoc]
  have hnl := D.numB_le9 n (by omega)
  have W1 := Lib.hid (fun v W h hx => number_any n hn g v xs W h hx)
  have W2 := Lib.hid (fun v W h hx => wlabel_any p hp g v (xs ++ D.numB n) W h hx)
  have W3 := Lib.hid (fun v W h hx => wlabel_any s hs g v (xs ++ D.numB n ++ p) W h hx)
  have W4 := Lib.hid (fun v W h hx => number_any t ht g v (xs ++ D.numB n ++ p ++ s) W h hx)
  have l1 : xs.length ≤ 140737488355000 := by omega
  have l2 : (xs ++ D.numB n).length ≤ 140737488355000 := by rw [List.length_append]; omega
  have l3 : (xs ++ D.numB n ++ p).length ≤ 140737488355000 := by rw [List.length_append, List.length_append]; omega
  have l4 : (xs ++ D.numB n ++ p ++ s).length ≤ 140737488355000 := by rw [List.length_append, List.length_append, List.length_append]; omega
  rw [hr]
  clear hr hnl hn ht hx
  generalize xs ++ D.numB n ++ p ++ s ++ D.numB t = x4 at *
  generalize xs ++ D.numB n ++ p ++ s = x3 at *
  generalize xs ++ D.numB n ++ p = x2 at *
  generalize xs ++ D.numB n = x1 at *
  generalize (itemC n p s t).toArray = C at *
  have k0 := b0.cellv f0
  go_enter Try.func74, Try.ntmps74
  go_wp2_with (first | (refine wpList_load_blk (by rfl) 25 (.tmp 11) (by rfl) (1) (by rfl) (b1) (labA p) (f1) _ Try.underlying25 (by rfl) hz1 ?_; simp only [Act.put, List.setIfInBounds_toArray, List.set_cons_succ, List.set_cons_zero]) | (refine wpList_load_blk (by rfl) 25 (.tmp 15) (by rfl) (33) (by rfl) (b2) (labA s) (f2) _ Try.underlying25 (by rfl) hz2 ?_; simp only [Act.put, List.setIfInBounds_toArray, List.set_cons_succ, List.set_cons_zero]) | ((go_at_call 72; first | ((with_reducible refine (W1.out _ _ hw0 l1).mono ?_); rintro e w1 ⟨rfl, v1, hw1, ht1⟩; have hl0 := b0.lt; have b1 := b0.wto ht1 hg ho; have ho1 := ht1.own_ne hl0 ho; replace ht1 := ht0.trans ht1) | ((with_reducible refine (W4.out _ _ hw3 l4).mono ?_); rintro e w4 ⟨rfl, v4, hw4, ht4⟩; replace ht4 := ht3.trans ht4))) | ((go_at_call 71; first | ((with_reducible refine (W2.out _ _ hw1 l2).mono ?_); rintro e w2 ⟨rfl, v2, hw2, ht2⟩; have hl1 := b1.lt; have b2 := b1.wto ht2 hg ho1; have ho2 := ht2.own_ne hl1 ho1; replace ht2 := ht1.trans ht2) | ((with_reducible refine (W3.out _ _ hw2 l3).mono ?_); rintro e w3 ⟨rfl, v3, hw3, ht3⟩; have b3 := b2.wto ht3 hg ho2; have k3 := b3.cellv f3; replace ht3 := ht2.trans ht3))))
  go_end0
  exact ⟨rfl, _, hw4, ht4⟩
end Go.Proofs.Ytgjmnhbkdccgpaa
