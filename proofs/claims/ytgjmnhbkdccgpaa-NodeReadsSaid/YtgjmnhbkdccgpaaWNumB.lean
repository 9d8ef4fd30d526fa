/- The walk of the document's Number. -/
import Derived.Test.YtgjmnhbkdccgpaaWWText
namespace Go.Proofs.Ytgjmnhbkdccgpaa
open Go.RowKit

theorem str1 (w : World) (b : UInt8) (x : Int) (hx : x = (b.toNat : Int)) : (convert 36 9 (.slice (some ⟨w.heap.size, 0, none⟩) 1 1)).run Try.prog (w.alloc (.cells #[.int .u8 x] 5)) = .ok (.string ⟨[b].toArray⟩) (w.alloc (.cells #[.int .u8 x] 5)) :=
  (buf_build w [b] #[.int .u8 x] 1 (by rw [hx]; rfl) rfl (by omega)).string Try.underlying36 Try.underlying9
set_option maxRecDepth 100000 in
set_option maxHeartbeats 1000000 in
/-- The document's Number. -/
theorem rnum_any (n : Nat) (hn : n < 9223372036854775808) (w : World) :
    Calls Try.prog 68 #[.int .i64 (n : Int)] w fun e w' => e = .returned (.string ⟨(D.numB n).toArray⟩) ∧ Below w.heap.size w w' := by
  go_enter Try.func68, Try.ntmps68
  go_wp2
  go_loopw [3, 4] (fun y x wr => ∃ (m : Nat) (acc : List UInt8) (A : ByteArray), x = .int .i64 (m : Int) ∧ y = .string A ∧ A = ⟨acc.toArray⟩ ∧ m ≤ n ∧ D.be m ++ acc = D.be n ∧ Below w.heap.size w wr) (fun _ x _ => (intOf x).toNat)
  case atStart => exact ⟨n, [], _, rfl, rfl, rfl, Nat.le_refl _, List.append_nil _, Below.refl _ _⟩
  case round =>
    obtain ⟨m, acc, A, rfl, rfl, hA, hm, hch, hB⟩ := hrel
    have m0 : (0 : Int) ≤ (m : Int) := by omega
    have m1 : (m : Int) < 9223372036854775808 := by omega
    have hbn := D.be_len2 n
    have hbn8 := D.blen_le 8 n (by omega)
    have hal : acc.length ≤ 8 := by
      have := congrArg List.length hch
      rw [List.length_append] at this
      omega
    by_cases h0 : m = 0
    · subst h0
      rw [D.be_zero, List.nil_append] at hch
      have hl : acc.length = D.blen n := by rw [hch]; exact hbn
      have s1 := str_add [UInt8.ofNat acc.length] acc (by simp; omega)
      have hv := str1 wr (UInt8.ofNat acc.length) (acc.length : Int) (by rw [UInt8.toNat_ofNat']; omega)
      have HE := Lib.hid (show [UInt8.ofNat acc.length] ++ acc = D.numB n by unfold D.numB; rw [hl, hch]; rfl)
      have hz := str_size acc
      rw [← hA] at hz s1
      have a0 : (0 : Int) ≤ (A.size : Int) := by omega
      have a1 : (A.size : Int) ≤ 8 := by omega
      rw [HE.out] at s1
      rw [show (acc.length : Int) = (A.size : Int) by rw [hz]] at hv
      generalize (⟨[UInt8.ofNat acc.length].toArray⟩ : ByteArray) = O at *
      clear hA hch hal hl hz HE
      go_wp2
      go_ret
      exact ⟨rfl, hB.alloc hB.size _⟩
    · have d1 : decide ((0 : Int) < (m : Int)) = true := by simp; omega
      have d1' : decide (0 < m) = true := by simp; omega
      have hb := D.be_next h0
      have s1 := str_add [UInt8.ofNat m] acc (by simp; omega)
      have hv := str1 wr (UInt8.ofNat m) ((m : Int) % 256) (by rw [UInt8.toNat_ofNat']; omega)
      have HE := Lib.hid (show D.be (m / 256) ++ ([UInt8.ofNat m] ++ acc) = D.be n by rw [← List.append_assoc, ← hb, hch])
      rw [← hA] at s1
      generalize (⟨[UInt8.ofNat m].toArray⟩ : ByteArray) = O at *
      generalize hR : (⟨([UInt8.ofNat m] ++ acc).toArray⟩ : ByteArray) = R at *
      have HR := Lib.hid hR
      clear hA hch hb hR
      have Hm := Lib.hid h0
      have Hmm := Lib.hid hm
      clear h0 hm
      go_wp2
      go_roundw
      case rel => exact ⟨m / 256, _, _, by go_num, rfl, HR.out.symm, by have := Hmm.out; omega, HE.out, hB.alloc hB.size _⟩
      case measure => have := Hm.out; simp [intOf]; omega
end Go.Proofs.Ytgjmnhbkdccgpaa
