/- The walk of seal.All. -/
import Derived.Test.YtknkbioalohofaaWOpen
import Derived.Test.YtknkbioalohofaaKit5
import Derived.Test.YtknkbioalohofaaPureAll
namespace Go.Proofs.Ytknkbioalohofaa
open Go.RowKit

set_option maxRecDepth 100000 in
set_option maxHeartbeats 2000000 in
/-- seal.All. -/
theorem all_any (s : List UInt8) (hs : s.length ≤ 35184372088832) (w : World) :
    Calls Try.prog 27 #[.string ⟨s.toArray⟩] w fun e w' => ∃ v, e = .returned (.tuple #[v, .int .i64 ((C.all s).2 : Int)]) ∧ Row1 w' 9 v ((C.all s).1.map strV) ∧ (v.ownBlock = none ∨ ∃ k, w.heap.size ≤ k ∧ v.ownBlock = some k) ∧ Below w.heap.size w w' := by
  have hz := str_size s
  have Hfr := Lib.hid (fun i h => str_from_ s i (i : Int) rfl h)
  generalize (⟨s.toArray⟩ : ByteArray) = S at *
  go_enter Try.func27, Try.ntmps27
  go_wp2
  go_loopw [4, 5] (fun v i wr => ∃ (ts : List (List UInt8)) (k : Nat), C.Got s ts k ∧ i = .int .i64 (k : Int) ∧ Row1 wr 9 v (ts.map strV) ∧ (v.ownBlock = none ∨ ∃ k, w.heap.size ≤ k ∧ v.ownBlock = some k) ∧ Below w.heap.size w wr) (fun _ i _ => s.length - (intOf i).toNat)
  case atStart => exact ⟨[], 0, C.Got.start s, rfl, Row1.nil _ _, .inl rfl, Below.refl _ _⟩
  case round =>
    obtain ⟨ts, k, hgot, rfl, hrow, hown, hB⟩ := hrel
    have hk := hgot.1
    have hk8 := hgot.2.1
    have hf := Hfr.out k hk
    have H1 := Lib.hid (open_any (s.drop k))
    have hki : (k : Int) ≤ 35184372088832 := by omega
    have hk0 : (0 : Int) ≤ (k : Int) := by omega
    by_cases h0 : (C.opn (s.drop k)).2.2 = 0
    · obtain ⟨g1, g2, g3⟩ := C.opn_ok h0
      have hnext := hgot.next h0
      have hlt := hnext.1
      have Hnext := Lib.hid hnext
      have Hg1 := Lib.hid g2
      rw [h0] at H1
      generalize C.opn (s.drop k) = T at H1 Hnext g1 g2 hlt Hg1
      obtain ⟨t, n, e⟩ := T
      simp only at H1 Hnext g1 g2 hlt Hg1
      have hn : (n : Int) ≤ 35184372088832 := by omega
      rw [show ((0 : Nat) : Int) = 0 from rfl] at H1
      have hlen : ((ts.map strV).length + 1) * 16 ≤ 140737488355328 := by rw [List.length_map]; omega
      clear h0 g1 g2 hnext hgot
      go_wp2_with (first | (go_at_call 25; with_reducible refine (H1.out _).mono ?_; rintro e w1 ⟨rfl, hb1⟩) | (at_builtin; refine wpList_append_row rfl info_str (.tmp 21) (.tmp 23) 35 rfl Try.underlying35 rfl ((hrow.at_ hb1).alloc _) ⟨w1.heap.size, 0, none⟩ 1 1 [strV t] rfl rfl (new_cells _ _ _ rfl _) (str_one [t]) hlen ?_; intro v1 w2 hrow2 hg2 hr2))
      have hB1 := (hB.trans (hb1.mono hB.size)).alloc (o := .cells #[strV t] 9) (Nat.le_trans hB.size hb1.size)
      have hs1 : w.heap.size ≤ (w1.alloc (.cells #[strV t] 9)).heap.size := by have := hB.size; have := hb1.size; simp; omega
      have hB2 := below_grown_own hB1 hs1 hg2 hown
      have hown2 := own_later hown hs1 hr2
      rw [show ts.map strV ++ [strV t] = (ts ++ [t]).map strV by simp] at hrow2
      go_roundw
      case rel => exact ⟨ts ++ [t], k + n, Hnext.out, by go_num, hrow2, hown2, hB2⟩
      case measure => have := Hg1.out; simp [intOf]; omega
    · have hdone := hgot.done h0
      have de : (((C.opn (s.drop k)).2.2 : Int) != 0) = true := by rw [bne_iff_ne]; omega
      have Hdone := Lib.hid hdone
      generalize C.opn (s.drop k) = T at H1 de
      obtain ⟨t, n, e⟩ := T
      simp only at H1 de
      clear h0 hdone hgot
      go_wp2_with (go_at_call 25; with_reducible refine (H1.out _).mono ?_; rintro e w1 ⟨rfl, hb1⟩)
      go_ret2
      rw [Hdone.out]
      exact ⟨_, rfl, hrow.at_ hb1, hown, hB.trans (hb1.mono hB.size)⟩
end Go.Proofs.Ytknkbioalohofaa
