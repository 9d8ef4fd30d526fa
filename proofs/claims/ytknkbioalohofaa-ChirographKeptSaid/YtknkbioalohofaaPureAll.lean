/- Plain laws: frames one behind the other. No program in sight. -/
import Derived.Test.YtknkbioalohofaaPureTab
namespace Go.Proofs.Ytknkbioalohofaa
namespace C

/-- What a frame that is right has: its bytes, its text's. -/
theorem opn_ok {s : List UInt8} (h : (opn s).2.2 = 0) : (opn s).2.1 ≤ s.length ∧ (opn s).2.1 = (opn s).1.length + 8 ∧ (opn s).1.length ≤ 65536 := by
  unfold opn at h ⊢
  by_cases h1 : s.length < 8
  · rw [if_pos h1] at h; cases h
  · rw [if_neg h1] at h ⊢
    by_cases h2 : (s.getD 0 0).toNat ≠ 94
    · rw [if_pos h2] at h; cases h
    · rw [if_neg h2] at h ⊢
      by_cases h3 : 65536 < toldN s
      · rw [if_pos h3] at h; cases h
      · rw [if_neg h3] at h ⊢
        by_cases h4 : s.length < 8 + toldN s
        · rw [if_pos h4] at h; cases h
        · rw [if_neg h4] at h ⊢
          by_cases h5 : (check (s.take 4 ++ (s.drop 8).take (toldN s))).toNat = toldC s
          · rw [if_pos h5]
            have hl : ((s.drop 8).take (toldN s)).length = toldN s := by rw [List.length_take, List.length_drop]; omega
            show 8 + toldN s ≤ s.length ∧ 8 + toldN s = ((s.drop 8).take (toldN s)).length + 8 ∧ ((s.drop 8).take (toldN s)).length ≤ 65536
            rw [hl]; omega
          · rw [if_neg h5] at h; cases h
theorem allF_more : ∀ (k j : Nat) (s : List UInt8), s.length < k → k ≤ j → allF j s = allF k s
  | 0, _, _, h, _ => by omega
  | k + 1, 0, _, _, h => by omega
  | k + 1, j + 1, s, h, hj => by
    unfold allF
    by_cases h0 : (opn s).2.2 = 0
    · rw [if_pos h0, if_pos h0]
      obtain ⟨h1, h2, _⟩ := opn_ok h0
      have hl : (s.drop (opn s).2.1).length < k := by rw [List.length_drop]; omega
      rw [allF_more k j _ hl (by omega)]
    · rw [if_neg h0, if_neg h0]
theorem all_none {s : List UInt8} (h : ¬ (opn s).2.2 = 0) : all s = ([], 0) := by unfold all allF; rw [if_neg h]
theorem all_some {s : List UInt8} (h : (opn s).2.2 = 0) : all s = ((opn s).1 :: (all (s.drop (opn s).2.1)).1, (opn s).2.1 + (all (s.drop (opn s).2.1)).2) := by
  obtain ⟨h1, h2, _⟩ := opn_ok h
  have hl : (s.drop (opn s).2.1).length + 1 ≤ s.length := by rw [List.length_drop]; omega
  have e := allF_more ((s.drop (opn s).2.1).length + 1) s.length (s.drop (opn s).2.1) (by omega) hl
  unfold all
  conv => lhs; unfold allF
  rw [if_pos h, e]
/-- How far it has been read: some texts, up to a place. -/
def Got (s : List UInt8) (ts : List (List UInt8)) (i : Nat) : Prop := i ≤ s.length ∧ 8 * ts.length ≤ i ∧ (all s).1 = ts ++ (all (s.drop i)).1 ∧ (all s).2 = i + (all (s.drop i)).2
theorem Got.start (s : List UInt8) : Got s [] 0 := ⟨Nat.zero_le _, by simp, by simp, by simp⟩
theorem Got.next {s : List UInt8} {ts : List (List UInt8)} {i : Nat} (h : Got s ts i) (h0 : (opn (s.drop i)).2.2 = 0) : Got s (ts ++ [(opn (s.drop i)).1]) (i + (opn (s.drop i)).2.1) := by
  obtain ⟨h1, h2, h3, h4⟩ := h
  obtain ⟨g1, g2, _⟩ := opn_ok h0
  rw [List.length_drop] at g1
  rw [all_some h0, List.drop_drop] at h3 h4
  refine ⟨by omega, by simp; omega, by rw [h3]; simp, by rw [h4]; omega⟩
theorem Got.done {s : List UInt8} {ts : List (List UInt8)} {i : Nat} (h : Got s ts i) (h0 : ¬ (opn (s.drop i)).2.2 = 0) : all s = (ts, i) := by
  obtain ⟨_, _, h3, h4⟩ := h
  rw [all_none h0] at h3 h4
  exact Prod.ext (by rw [h3]; simp) (by rw [h4]; simp)
theorem opn_nil : ¬ (opn []).2.2 = 0 := by decide
end C
end Go.Proofs.Ytknkbioalohofaa
