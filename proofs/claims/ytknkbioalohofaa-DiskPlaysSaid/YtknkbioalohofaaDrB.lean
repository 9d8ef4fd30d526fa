/- The walks of the document's disk's Used, good, deed, New, Arm. -/
import Derived.Test.YtknkbioalohofaaDrA
namespace Go.Proofs.Ytknkbioalohofaa
open Go.RowKit

namespace D
theorem used_take_succ {l : List Fl} {k : Nat} {f : Fl} (h : l[k]? = some f) : used (l.take (k + 1)) = used (l.take k) + f.b.length := by
  rw [List.take_add_one, h]
  unfold used
  simp
theorem used_take_le (l : List Fl) (k : Nat) : used (l.take k) ≤ used l := by
  conv => rhs; rw [← List.take_append_drop k l]
  unfold used
  rw [List.map_append, List.sum_append]
  omega
end D
set_option maxRecDepth 100000 in
set_option maxHeartbeats 2000000 in
theorem rused_any (M : D.Dk) (v : Value) (w : World) (h : FRead w v M.files) (hl : M.files.length ≤ 1000000) (hu : D.used M.files ≤ 1099511627776) :
    Calls Try.prog 53 #[dskV M v] w fun e w' => e = .returned (.int .i64 (D.used M.files : Int)) ∧ Below w.heap.size w w' := by
  obtain ⟨A, c, rfl, hcap, h⟩ := fread_open h
  obtain ⟨room, fuse, dead, l⟩ := M
  dsimp only at h hcap hl hu ⊢
  unfold dskV
  dsimp only
  have hB0 := below_alloc1 w (.cells #[.int .i64 room, .int .i64 fuse, .bool dead, .slice A l.length c] 76)
  go_enter Try.func53, Try.ntmps53
  go_wp2
  go_loopw [3, 9] (fun u i wr => ∃ k : Nat, k ≤ l.length ∧ i = .int .i64 (k : Int) ∧ u = .int .i64 (D.used (l.take k) : Int) ∧ Below w.heap.size w wr) (fun _ i _ => l.length - (intOf i).toNat)
  case atStart => exact ⟨0, Nat.zero_le _, rfl, rfl, hB0⟩
  case round =>
    clear hB0
    obtain ⟨k, hk, rfl, rfl, hB⟩ := hrel
    have q0 : (0 : Int) ≤ (k : Int) := by omega
    by_cases hm : k < l.length
    · have d1 : decide ((k : Int) < (l.length : Int)) = true := decide_eq_true (by omega)
      have q1 : (k : Int) < (l.length : Int) := by omega
      obtain ⟨f, hf⟩ : ∃ f, l[k]? = some f := ⟨_, List.getElem?_eq_getElem hm⟩
      obtain ⟨g, o, rfl, hg, cR⟩ := fread_at (h.at_ (hB.mono (Nat.le_refl _))) hf
      have hus := D.used_take_succ hf
      have hul := D.used_take_le l (k + 1)
      obtain ⟨nm, b, s⟩ := f
      have cR' : wr.rangeAt g (o + k * 3) [.string ⟨nm.toArray⟩, .string ⟨b.toArray⟩, .int .i64 (s : Int)] := cR
      have hsz : (Try.prog.info? 81).map (·.size) = some [Value.string ⟨nm.toArray⟩, .string ⟨b.toArray⟩, .int .i64 (s : Int)].length := size_file
      have hw1 : IntKind.i64.wrap ((k : Int) + 1) = ((k + 1 : Nat) : Int) := by rw [IntWalk.i64_in _ (by omega)]; omega
      have hz : (⟨b.toArray⟩ : ByteArray).size = b.length := by simp [ByteArray.size]
      dsimp only at hus
      have hw2 : IntKind.i64.wrap ((D.used (l.take k) : Int) + (b.length : Int)) = ((D.used (l.take (k + 1)) : Nat) : Int) := by rw [IntWalk.i64_in _ (by omega)]; omega
      have hB' := hB.alloc hB.size (.cells #[Value.string ⟨nm.toArray⟩, .string ⟨b.toArray⟩, .int .i64 (s : Int)] 81)
      clear hus hul cR hf
      generalize D.used (l.take k) = U at *
      generalize hU' : D.used (l.take (k + 1)) = U' at *
      have HU := Lib.hid hU'
      clear hU'
      go_wp2_with (refine wpList_load_mid rfl 81 (.tmp 11) rfl g (o + k * 3) rfl _ _ cR' Try.underlying81 rfl hsz ?_; go_frame)
      go_roundw
      case rel => exact ⟨k + 1, by omega, by rfl, by rw [HU.out], hB'⟩
      case measure => simp [intOf]; omega
    · have d1 : decide ((k : Int) < (l.length : Int)) = false := decide_eq_false (by omega)
      have d2 : decide (k < l.length) = false := decide_eq_false hm
      have htk : l.take k = l := List.take_of_length_le (by omega)
      rw [htk]
      go_wp2
      go_ret
      exact ⟨rfl, hB⟩
set_option maxRecDepth 100000 in
set_option maxHeartbeats 2000000 in
theorem rgood_any (n : List UInt8) (w : World) : Calls Try.prog 95 #[.string ⟨n.toArray⟩] w fun e w' => e = .returned (.bool (D.good n)) ∧ w = w' := by
  have hz : (⟨n.toArray⟩ : ByteArray).size = n.length := by simp [ByteArray.size]
  by_cases h0 : 0 < n.length
  · have d0 : decide ((0 : Int) < (n.length : Int)) = true := decide_eq_true (by omega)
    have d0' : decide (0 < n.length) = true := decide_eq_true h0
    have hg : D.good n = decide (n.length ≤ 100) := by
      unfold D.good
      have : n.isEmpty = false := by cases n with | nil => simp at h0 | cons _ _ => rfl
      rw [this]; rfl
    by_cases h1 : n.length ≤ 100
    · have d1 : decide ((n.length : Int) ≤ 100) = true := decide_eq_true (by omega)
      have d1' : decide (n.length ≤ 100) = true := decide_eq_true h1
      rw [hg, d1']
      go_enter Try.func95, Try.ntmps95
      go_wp2
      go_ret
      exact ⟨rfl, rfl⟩
    · have d1 : decide ((n.length : Int) ≤ 100) = false := decide_eq_false (by omega)
      have d1' : decide (n.length ≤ 100) = false := decide_eq_false h1
      rw [hg, d1']
      go_enter Try.func95, Try.ntmps95
      go_wp2
      go_ret
      exact ⟨rfl, rfl⟩
  · obtain rfl : n = [] := List.eq_nil_of_length_eq_zero (by omega)
    go_enter Try.func95, Try.ntmps95
    go_wp2
    go_ret
    exact ⟨rfl, rfl⟩
theorem size_dskC (a b c d : Value) : (Try.prog.info? 76).map (·.size) = some (#[a, b, c, d] : Array Value).size := size_dsk
set_option maxRecDepth 100000 in
set_option maxHeartbeats 2000000 in
theorem rdeed_any (M : D.Dk) (A : Option Addr) (n c : Nat) (w : World) (hf : -9223372036854775807 ≤ M.fuse ∧ M.fuse ≤ 9223372036854775807) :
    Calls Try.prog 96 #[dskV M (.slice A n c)] w fun e w' => e = .returned (.tuple #[dskV (D.deed M).1 (.slice A n c), .int .i64 ((D.deed M).2 : Int)]) ∧ Below w.heap.size w w' := by
  obtain ⟨room, fuse, dead, l⟩ := M
  dsimp only at hf
  unfold dskV
  dsimp only
  go_enter Try.func96, Try.ntmps96
  rcases Int.lt_trichotomy fuse 0 with h | h | h
  · have e0 : (fuse == 0) = false := by rw [beq_eq_false_iff_ne]; omega
    have e1 : decide (0 < fuse) = false := decide_eq_false (by omega)
    have Hd := Lib.hid (D.deed_calm (M := ⟨room, fuse, dead, l⟩) h)
    go_wp2
    obtain ⟨-, b1, hb⟩ := two_new w #[.int .i64 room, .int .i64 fuse, .bool dead, .slice A n c] #[.int .i64 room, .int .i64 fuse, .bool dead, .slice A n c] 76 76
    refine bodyPost_ret (v := .tuple #[.agg #[.int .i64 room, .int .i64 fuse, .bool dead, .slice A n c], .int .i64 0]) (results_blk2 (by rfl) _ b1 _ _ (by rfl) (by rfl) Try.underlying76 (by rfl) (size_dskC _ _ _ _)) rfl ?_
    exact ⟨by rw [Hd.out]; rfl, hb⟩
  · subst h
    have Hd := Lib.hid (D.deed_last (M := ⟨room, 0, dead, l⟩) rfl)
    go_wp2
    obtain ⟨-, b1, hb⟩ := two_new w #[.int .i64 room, .int .i64 0, .bool true, .slice A n c] #[.int .i64 room, .int .i64 0, .bool true, .slice A n c] 76 76
    refine bodyPost_ret (v := .tuple #[.agg #[.int .i64 room, .int .i64 0, .bool true, .slice A n c], .int .i64 10]) (results_blk2 (by rfl) _ b1 _ _ (by rfl) (by rfl) Try.underlying76 (by rfl) (size_dskC _ _ _ _)) rfl ?_
    exact ⟨by rw [Hd.out]; rfl, hb⟩
  · have e0 : (fuse == 0) = false := by rw [beq_eq_false_iff_ne]; omega
    have e1 : decide (0 < fuse) = true := decide_eq_true (by omega)
    have hw : IntKind.i64.wrap (fuse - 1) = fuse - 1 := by rw [IntWalk.i64_in _ (by omega)]
    have Hd := Lib.hid (D.deed_more (M := ⟨room, fuse, dead, l⟩) h)
    go_wp2
    obtain ⟨-, b1, hb⟩ := two_new w #[.int .i64 room, .int .i64 (fuse - 1), .bool dead, .slice A n c] #[.int .i64 room, .int .i64 (fuse - 1), .bool dead, .slice A n c] 76 76
    refine bodyPost_ret (v := .tuple #[.agg #[.int .i64 room, .int .i64 (fuse - 1), .bool dead, .slice A n c], .int .i64 0]) (results_blk2 (by rfl) _ b1 _ _ (by rfl) (by rfl) Try.underlying76 (by rfl) (size_dskC _ _ _ _)) rfl ?_
    exact ⟨by rw [Hd.out]; rfl, hb⟩
end Go.Proofs.Ytknkbioalohofaa
