/- Plain laws: the other half of the roots. -/
import Derived.Test.YtgjmnhbkdccgpaaPureRoot
namespace Go.Proofs.Ytgjmnhbkdccgpaa
namespace T
theorem r3_8 : ∀ k : Fin 4, root (plist.getD (32 + k.val) 0) 3 = (S.steps.getD (32 + k.val) 0#32).toNat := by decide +kernel
theorem r3_9 : ∀ k : Fin 4, root (plist.getD (36 + k.val) 0) 3 = (S.steps.getD (36 + k.val) 0#32).toNat := by decide +kernel
theorem r3_10 : ∀ k : Fin 4, root (plist.getD (40 + k.val) 0) 3 = (S.steps.getD (40 + k.val) 0#32).toNat := by decide +kernel
theorem r3_11 : ∀ k : Fin 4, root (plist.getD (44 + k.val) 0) 3 = (S.steps.getD (44 + k.val) 0#32).toNat := by decide +kernel
theorem r3_12 : ∀ k : Fin 4, root (plist.getD (48 + k.val) 0) 3 = (S.steps.getD (48 + k.val) 0#32).toNat := by decide +kernel
theorem r3_13 : ∀ k : Fin 4, root (plist.getD (52 + k.val) 0) 3 = (S.steps.getD (52 + k.val) 0#32).toNat := by decide +kernel
theorem r3_14 : ∀ k : Fin 4, root (plist.getD (56 + k.val) 0) 3 = (S.steps.getD (56 + k.val) 0#32).toNat := by decide +kernel
theorem r3_15 : ∀ k : Fin 4, root (plist.getD (60 + k.val) 0) 3 = (S.steps.getD (60 + k.val) 0#32).toNat := by decide +kernel
theorem roots3 (k : Nat) (h : k < 64) : root (plist.getD k 0) 3 = (S.steps.getD k 0#32).toNat := by
  obtain ⟨q, r, hr, rfl⟩ : ∃ q r, r < 4 ∧ k = 4 * q + r := ⟨k / 4, k % 4, by omega, by omega⟩
  match q, h with
  | 0, _ => exact r3_0 ⟨r, hr⟩
  | 1, _ => exact r3_1 ⟨r, hr⟩
  | 2, _ => exact r3_2 ⟨r, hr⟩
  | 3, _ => exact r3_3 ⟨r, hr⟩
  | 4, _ => exact r3_4 ⟨r, hr⟩
  | 5, _ => exact r3_5 ⟨r, hr⟩
  | 6, _ => exact r3_6 ⟨r, hr⟩
  | 7, _ => exact r3_7 ⟨r, hr⟩
  | 8, _ => exact r3_8 ⟨r, hr⟩
  | 9, _ => exact r3_9 ⟨r, hr⟩
  | 10, _ => exact r3_10 ⟨r, hr⟩
  | 11, _ => exact r3_11 ⟨r, hr⟩
  | 12, _ => exact r3_12 ⟨r, hr⟩
  | 13, _ => exact r3_13 ⟨r, hr⟩
  | 14, _ => exact r3_14 ⟨r, hr⟩
  | 15, _ => exact r3_15 ⟨r, hr⟩
  | q + 16, h => omega
end T
end Go.Proofs.Ytgjmnhbkdccgpaa
