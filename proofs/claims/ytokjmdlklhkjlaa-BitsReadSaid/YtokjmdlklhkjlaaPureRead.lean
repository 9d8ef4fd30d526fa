/- Plain laws: how a label is read off its digits, byte by byte. -/
import Derived.Test.YtokjmdlklhkjlaaPureHex
namespace Go.Proofs.Ytokjmdlklhkjlaa
namespace B
/-- The first k bytes read, the others noughts. -/
def rd (s : List UInt8) (k : Nat) : List UInt8 := (List.range k).map (valAt s) ++ List.replicate (32 - k) 0
def OkTo (s : List UInt8) (k : Nat) : Prop := ∀ i, i < k → okAt s i = true
theorem OkTo.start (s : List UInt8) : OkTo s 0 := fun i hi => by omega
theorem OkTo.next {s : List UInt8} {k : Nat} (h : OkTo s k) (hk : okAt s k = true) : OkTo s (k + 1) := fun i hi => by
  by_cases e : i = k
  · subst e; exact hk
  · exact h i (by omega)
theorem rd_length (s : List UInt8) (k : Nat) (hk : k ≤ 32) : (rd s k).length = 32 := by simp [rd]; omega
theorem rd_set (s : List UInt8) (k : Nat) (hk : k < 32) : (rd s k).set k (valAt s k) = rd s (k + 1) := by
  unfold rd
  rw [List.set_append_right _ _ (by simp), List.length_map, List.length_range, Nat.sub_self, show 32 - k = (32 - (k + 1)) + 1 from by omega, List.replicate_succ, List.set_cons_zero, List.range_succ, List.map_append]
  simp
theorem read_some {s : List UInt8} (hl : s.length = 64) (h : OkTo s 32) : read s = some (rd s 32) := by
  unfold read
  rw [if_pos ⟨hl, List.all_eq_true.2 fun i hi => h i (List.mem_range.1 hi)⟩]
  simp [rd]
theorem read_bad {s : List UInt8} {k : Nat} (hk : k < 32) (h : okAt s k = false) : read s = none := by
  unfold read
  rw [if_neg]
  intro ⟨_, h2⟩
  have := List.all_eq_true.1 h2 k (List.mem_range.2 hk)
  rw [h] at this; cases this
theorem read_len {s : List UInt8} (hl : s.length ≠ 64) : read s = none := by
  unfold read
  rw [if_neg fun h => hl h.1]
theorem okAt_yes {s : List UInt8} {k : Nat} (h1 : dig (s.getD (2 * k) 0) ≤ 15) (h2 : dig (s.getD (2 * k + 1) 0) ≤ 15) : okAt s k = true := by unfold okAt; rw [decide_eq_true h1, decide_eq_true h2]; rfl
theorem okAt_no1 {s : List UInt8} {k : Nat} (h1 : ¬ dig (s.getD (2 * k) 0) ≤ 15) : okAt s k = false := by unfold okAt; rw [decide_eq_false h1]; rfl
theorem okAt_no2 {s : List UInt8} {k : Nat} (h1 : ¬ dig (s.getD (2 * k + 1) 0) ≤ 15) : okAt s k = false := by unfold okAt; rw [decide_eq_false h1, Bool.and_false]
theorem valAt_toNat {s : List UInt8} {k : Nat} (h1 : dig (s.getD (2 * k) 0) ≤ 15) (h2 : dig (s.getD (2 * k + 1) 0) ≤ 15) : (valAt s k).toNat = 16 * dig (s.getD (2 * k) 0) + dig (s.getD (2 * k + 1) 0) := by
  unfold valAt
  rw [UInt8.toNat_ofNat']
  omega
theorem read_length {s l : List UInt8} (h : read s = some l) : l.length = 32 := by
  unfold read at h
  split at h
  · cases h; simp
  · cases h
end B
end Go.Proofs.Ytokjmdlklhkjlaa
