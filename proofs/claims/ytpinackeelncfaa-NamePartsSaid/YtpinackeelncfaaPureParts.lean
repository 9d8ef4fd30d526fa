/- Plain law: the parts of a text cover it. -/
import Derived.Test.YtpinackeelncfaaWParts
namespace Go.Proofs.Ytpinackeelncfaa
open Go.RowKit
namespace N
/-- These parts, with joints between them, are the text from a place on. -/
def Cov (s : List UInt8) : Nat → List (List UInt8) → Prop
  | _, [] => False
  | at_, [t] => at_ ≤ s.length ∧ t = s.drop at_
  | at_, t :: u :: r => at_ + t.length < s.length ∧ t = (s.drop at_).take t.length ∧ kind ((s.getD (at_ + t.length) 0).toNat : Int) = 3 ∧ Cov s (at_ + t.length + 1) (u :: r)
theorem partsGo_ne (s : List UInt8) : ∀ (l : List (Nat × Nat × Nat)) (fr : Nat), ∃ t r, partsGo s l fr = t :: r
  | [], fr => ⟨_, _, rfl⟩
  | x :: t, fr => by
    rw [partsGo]
    split
    · exact ⟨_, _, rfl⟩
    · exact partsGo_ne s t fr
theorem rnc_low (b0 b1 b2 b3 n : Nat) : 128 ≤ (rnc b0 b1 b2 b3 n).1 ∨ (rnc b0 b1 b2 b3 n).1 = b0 := by
  unfold rnc
  repeat' split
  all_goals first | (left; simp only; omega) | exact .inr rfl
theorem cov_parts (s : List UInt8) : ∀ (m p fr : Nat), s.length ≤ m + p → fr ≤ p → p ≤ s.length → Cov s fr (partsGo s (rest s p) fr)
  | 0, p, fr, hm, h1, h2 => by
    rw [rest_end s p (by omega)]
    exact ⟨by omega, rfl⟩
  | m + 1, p, fr, hm, h1, h2 => by
    by_cases hlt : p < s.length
    · have hst := step_le s p hlt
      rw [rest_next s p hlt, partsGo]
      dsimp only
      by_cases hk : kind ((rn (s.drop p)).1 : Int) = 3
      · rw [if_pos hk]
        have hj := kind_joint hk
        have hz : (rn (s.drop p)).2 = 1 := rn_small _ (by omega)
        have hlow : 128 ≤ (rn (s.drop p)).1 ∨ (rn (s.drop p)).1 = ((s.drop p).getD 0 0).toNat := rnc_low ..
        have e0 : (s.drop p).getD 0 0 = s.getD p 0 := by rw [List.getD_eq_getElem?_getD, List.getElem?_drop, List.getD_eq_getElem?_getD, Nat.add_zero]
        rw [e0] at hlow
        have hc : (rn (s.drop p)).1 = (s.getD p 0).toNat := by omega
        rw [hz]
        have ih := cov_parts s m (p + 1) (p + 1) (by omega) (Nat.le_refl _) (by omega)
        obtain ⟨u, r, hur⟩ := partsGo_ne s (rest s (p + 1)) (p + 1)
        rw [hur] at ih ⊢
        have hl : ((s.drop fr).take (p - fr)).length = p - fr := by rw [List.length_take, List.length_drop]; omega
        refine ⟨by rw [hl]; omega, by rw [hl], ?_, ?_⟩
        · rw [hl, show fr + (p - fr) = p by omega, ← hc]; exact hk
        · rw [hl, show fr + (p - fr) + 1 = p + 1 by omega]; exact ih
      · rw [if_neg hk]
        exact cov_parts s m _ fr (by omega) (by omega) (by omega)
    · rw [rest_end s p hlt]
      exact ⟨by omega, rfl⟩
theorem parts_cov (s : List UInt8) : Cov s 0 (parts s) := cov_parts s s.length 0 0 (by omega) (by omega) (by omega)
end N
end Go.Proofs.Ytpinackeelncfaa
