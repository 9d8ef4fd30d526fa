/- The walk of node.Good. -/
import Derived.Test.YtgjmnhbkdccgpaaWItem2
namespace Go.Proofs.Ytgjmnhbkdccgpaa
open Go.RowKit

theorem size_pref (n : Int) (p : List UInt8) (hp : p.length = 32) : (Try.prog.info? 63).map (·.size) = some (prefA n p).size := by rw [prefA_size, hp]; kernel_rfl
namespace D
def goodI (n : Int) (p : List UInt8) (t : Int) : Bool := B.good n p && decide (0 ≤ t) && decide (t ≤ 1073741824)
end D
set_option maxRecDepth 100000 in
set_option maxHeartbeats 1000000 in
theorem ngood_any (n : Int) (p s : List UInt8) (t : Int) (hn : (Lit.int .i64 n).wf = true) (hp : p.length = 32) (hs : s.length = 32) (w : World) :
    Calls Try.prog 106 #[.agg (itemC n p s t).toArray] w fun e w' => e = .returned (.bool (D.goodI n p t)) ∧ Below w.heap.size w w' := by
  have GG := Lib.hid (fun W => good_any n hn p hp W)
  have hz := size_pref n p hp
  have B0 := Blk.new w (itemC n p s t).toArray 65
  have hB := below_alloc1 w (.cells (itemC n p s t).toArray 65)
  have e1 : ∀ j, j < (prefA n p).size → (itemC n p s t).toArray[0 + j]? = (prefA n p)[j]? := fun j hj => by
    rw [prefA_size, hp] at hj
    rw [Nat.zero_add, List.getElem?_toArray]
    unfold itemC prefA
    match j with
    | 0 => rfl
    | j + 1 =>
      rw [List.getElem?_cons_succ, List.append_assoc, List.getElem?_append_left (by rw [List.length_map]; omega)]
      simp
  have hG : D.goodI n p t = (B.good n p && decide (0 ≤ t) && decide (t ≤ 1073741824)) := rfl
  generalize D.goodI n p t = R at *
  cases hg : B.good n p with
  | false =>
    rw [hg] at GG hG
    simp only [Bool.false_and] at hG
    subst hG
    have k2 : ∀ W, Below (w.alloc (.cells (itemC n p s t).toArray 65)).heap.size (w.alloc (.cells (itemC n p s t).toArray 65)) W → W.cell? ⟨w.heap.size, 65, none⟩ = some (.int .i64 t) := fun W h => ((B0.at_ h).cell 65).trans (by rw [List.getElem?_toArray]; exact itemC_at n p s t hp hs)
    go_enter Try.func106, Try.ntmps106
    go_wp2_with (first | (refine wpList_load_blk (by rfl) 63 (.tmp 3) (by rfl) (0) (by rfl) (B0) (prefA n p) (e1) _ Try.underlying63 (by rfl) hz ?_; simp only [Act.put, List.setIfInBounds_toArray, List.set_cons_succ, List.set_cons_zero]) | (go_at_call 126; (with_reducible refine (GG.out _).mono ?_); rintro e w1 ⟨rfl, hb1⟩))
    go_ret
    exact ⟨rfl, hB.trans (hb1.mono hB.size)⟩
  | true =>
    rw [hg] at GG hG
    simp only [Bool.true_and] at hG
    have k2 : ∀ W, Below (w.alloc (.cells (itemC n p s t).toArray 65)).heap.size (w.alloc (.cells (itemC n p s t).toArray 65)) W → W.cell? ⟨w.heap.size, 65, none⟩ = some (.int .i64 t) := fun W h => ((B0.at_ h).cell 65).trans (by rw [List.getElem?_toArray]; exact itemC_at n p s t hp hs)
    have K2 := Lib.hid k2
    clear k2
    by_cases c1 : 0 ≤ t
    · have d1 : decide (0 ≤ t) = true := by simp; omega
      by_cases c2 : t ≤ 1073741824
      · have d2 : decide (t ≤ 1073741824) = true := by simp; omega
        rw [d1, d2] at hG
        subst hG
        go_enter Try.func106, Try.ntmps106
        go_wp2_with (first | (refine wpList_load_blk (by rfl) 63 (.tmp 3) (by rfl) (0) (by rfl) (B0) (prefA n p) (e1) _ Try.underlying63 (by rfl) hz ?_; simp only [Act.put, List.setIfInBounds_toArray, List.set_cons_succ, List.set_cons_zero]) | (go_at_call 126; (with_reducible refine (GG.out _).mono ?_); rintro e w1 ⟨rfl, hb1⟩; have k3 := K2.out _ hb1))
        go_ret
        exact ⟨rfl, hB.trans (hb1.mono hB.size)⟩
      · have d2 : decide (t ≤ 1073741824) = false := by simp; omega
        rw [d1, d2] at hG
        subst hG
        go_enter Try.func106, Try.ntmps106
        go_wp2_with (first | (refine wpList_load_blk (by rfl) 63 (.tmp 3) (by rfl) (0) (by rfl) (B0) (prefA n p) (e1) _ Try.underlying63 (by rfl) hz ?_; simp only [Act.put, List.setIfInBounds_toArray, List.set_cons_succ, List.set_cons_zero]) | (go_at_call 126; (with_reducible refine (GG.out _).mono ?_); rintro e w1 ⟨rfl, hb1⟩; have k3 := K2.out _ hb1))
        go_ret
        exact ⟨rfl, hB.trans (hb1.mono hB.size)⟩
    · have d1 : decide (0 ≤ t) = false := by simp; omega
      rw [d1, Bool.false_and] at hG
      subst hG
      go_enter Try.func106, Try.ntmps106
      go_wp2_with (first | (refine wpList_load_blk (by rfl) 63 (.tmp 3) (by rfl) (0) (by rfl) (B0) (prefA n p) (e1) _ Try.underlying63 (by rfl) hz ?_; simp only [Act.put, List.setIfInBounds_toArray, List.set_cons_succ, List.set_cons_zero]) | (go_at_call 126; (with_reducible refine (GG.out _).mono ?_); rintro e w1 ⟨rfl, hb1⟩; have k3 := K2.out _ hb1))
      go_ret
      exact ⟨rfl, hB.trans (hb1.mono hB.size)⟩
end Go.Proofs.Ytgjmnhbkdccgpaa
