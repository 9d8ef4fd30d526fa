/- A text's iterator. -/
import Derived.Test.YtknkbioalohofaaWKindD
import Derived.Lib.OthersKept
namespace Go.Proofs.Ytknkbioalohofaa
open Go.RowKit

/-- The iterator of a text, in a block, at a place. -/
def It (w : World) (k : Nat) (s : List UInt8) (p : Nat) : Prop := w.heap[k]? = some (.stringIter ⟨s.toArray⟩ p)
section
variable {w w' : World} {k p : Nat} {s : List UInt8}
theorem It.lt (h : It w k s p) : k < w.heap.size := (Array.getElem?_eq_some_iff.1 h).1
theorem It.at_ (h : It w k s p) (hb : Below w.heap.size w w') : It w' k s p := (hb.block k h.lt).trans h
theorem It.move (h : It w k s p) (q : Nat) : It (w.iterAt k ⟨s.toArray⟩ q) k s q := Lib.iterAt_heap w k _ p q h
theorem It.pos (h : It w k s p) : w.iterPos k = p := by
  unfold It at h
  simp [World.iterPos, h]
theorem It.next (h : It w k s p) (hp : p < s.length) (ty : TypeId) : (Instr.next (.pointer (some ⟨k, 0, none⟩)) true ty).run Try.prog w = .ok (.tuple #[.bool true, .int .i64 (p : Int), .int .i32 (((N.rn (s.drop p)).1 : Nat) : Int)]) (w.iterAt k ⟨s.toArray⟩ (p + (N.rn (s.drop p)).2)) := by
  rw [← N.decode_rn s p hp]
  exact Lib.run_next_any_at w k _ p ty h (by rw [str_size]; exact hp)
theorem It.stop (h : It w k s p) (hp : ¬ p < s.length) (ty : TypeId) : (Instr.next (.pointer (some ⟨k, 0, none⟩)) true ty).run Try.prog w = .ok (.tuple #[.bool false]) w :=
  Lib.run_next_end_at w k _ p ty h (by rw [str_size]; exact hp)
theorem It.start (w : World) (s : List UInt8) : It (w.iter ⟨s.toArray⟩ 0) w.heap.size s 0 := World.iter_heap w _ 0
theorem below_iter0 (w : World) (s : ByteArray) : Below w.heap.size w (w.iter s 0) := below_alloc1 w _
end
namespace N
theorem runesFrom_len : ∀ (f : Nat) (s : List UInt8) (p : Nat), (runesFrom f s p).length ≤ f
  | 0, _, _ => Nat.le_refl _
  | f + 1, s, p => by
    rw [runesFrom]
    split
    · have := runesFrom_len f s (p + (rn (s.drop p)).2); simp; omega
    · simp
theorem runes_len (s : List UInt8) : (runes s).length ≤ s.length := runesFrom_len _ _ _
theorem step_le (s : List UInt8) (p : Nat) (h : p < s.length) : p + (rn (s.drop p)).2 ≤ s.length ∧ p < p + (rn (s.drop p)).2 := by
  have h1 := rn_size (s.drop p)
  have h2 : (s.drop p).length = s.length - p := List.length_drop ..
  omega
end N
end Go.Proofs.Ytknkbioalohofaa
