/- A text's iterator; the walk of name.Runes. -/
import Derived.Test.YtpinackeelncfaaWKind
import Derived.Lib.OthersKept
namespace Go.Proofs.Ytpinackeelncfaa
open Go.RowKit

/-- The iterator of a text, in a block, at a place. -/
def It (w : World) (k : Nat) (s : List UInt8) (p : Nat) : Prop := w.heap[k]? = some (.stringIter ⟨s.toArray⟩ p)
section
variable {w w' : World} {k p : Nat} {s : List UInt8}
theorem It.lt (h : It w k s p) : k < w.heap.size := (Array.getElem?_eq_some_iff.1 h).1
theorem It.at_ (h : It w k s p) (hb : Below w.heap.size w w') : It w' k s p := (hb.block k h.lt).trans h
theorem It.move (h : It w k s p) (q : Nat) : It (w.iterAt k ⟨s.toArray⟩ q) k s q := Lib.iterAt_heap w k _ p q h
theorem It.pos (h : It w k s p) : w.iterPos k = p := by
  unfold It at h
  simp [World.iterPos, h]
theorem It.next (h : It w k s p) (hp : p < s.length) (ty : TypeId) : (Instr.next (.pointer (some ⟨k, 0, none⟩)) true ty).run Try.prog w = .ok (.tuple #[.bool true, .int .i64 (p : Int), .int .i32 (((N.rn (s.drop p)).1 : Nat) : Int)]) (w.iterAt k ⟨s.toArray⟩ (p + (N.rn (s.drop p)).2)) := by
  rw [← N.decode_rn s p hp]
  exact Lib.run_next_any_at w k _ p ty h (by rw [str_size]; exact hp)
theorem It.stop (h : It w k s p) (hp : ¬ p < s.length) (ty : TypeId) : (Instr.next (.pointer (some ⟨k, 0, none⟩)) true ty).run Try.prog w = .ok (.tuple #[.bool false]) w :=
  Lib.run_next_end_at w k _ p ty h (by rw [str_size]; exact hp)
theorem It.start (w : World) (s : List UInt8) : It (w.iter ⟨s.toArray⟩ 0) w.heap.size s 0 := World.iter_heap w _ 0
theorem below_iter0 (w : World) (s : ByteArray) : Below w.heap.size w (w.iter s 0) := below_alloc1 w _
end
namespace N
theorem runesFrom_len : ∀ (f : Nat) (s : List UInt8) (p : Nat), (runesFrom f s p).length ≤ f
  | 0, _, _ => Nat.le_refl _
  | f + 1, s, p => by
    rw [runesFrom]
    split
    · have := runesFrom_len f s (p + (rn (s.drop p)).2); simp; omega
    · simp
theorem runes_len (s : List UInt8) : (runes s).length ≤ s.length := runesFrom_len _ _ _
theorem step_le (s : List UInt8) (p : Nat) (h : p < s.length) : p + (rn (s.drop p)).2 ≤ s.length ∧ p < p + (rn (s.drop p)).2 := by
  have h1 := rn_size (s.drop p)
  have h2 : (s.drop p).length = s.length - p := List.length_drop ..
  omega
end N
set_option maxRecDepth 100000 in
set_option maxHeartbeats 1000000 in
theorem runes_any (s : List UInt8) (w : World) (hs : s.length ≤ 35184372088832) :
    Calls Try.prog 14 #[.string ⟨s.toArray⟩] w fun e w' => e = .returned (.int .i64 ((N.runes s).length : Int)) ∧ Below w.heap.size w w' := by
  have hr := N.runes_len s
  have h0 := It.start w s
  have hb0 := below_iter0 w ⟨s.toArray⟩
  generalize hR : (N.runes s).length = R at *
  have HR := Lib.hid (show (N.rest s 0).length = R from hR)
  clear hR
  go_enter Try.func14, Try.ntmps14
  go_wp2
  go_loopw [3] (fun v wr => ∃ p r : Nat, v = .int .i64 (r : Int) ∧ p ≤ s.length ∧ It wr w.heap.size s p ∧ r + (N.rest s p).length = R ∧ Below w.heap.size w wr) (fun _ wr => s.length - wr.iterPos w.heap.size)
  case atStart => exact ⟨0, 0, rfl, by omega, h0, by rw [HR.out]; omega, hb0⟩
  case round =>
    clear h0 hb0 HR
    obtain ⟨p, r, rfl, hp, hit, hrr, hB⟩ := hrel
    by_cases hlt : p < s.length
    · have hnx := fun ty => hit.next hlt ty
      have hn := N.rest_next s p hlt
      have hst := N.step_le s p hlt
      have hit2 := hit.move (p + (N.rn (s.drop p)).2)
      have hB2 := Lib.below_iterAt hB (Nat.le_refl _) ⟨s.toArray⟩ (p + (N.rn (s.drop p)).2)
      have hpos := Lib.hid hit.pos
      have hpos2 := Lib.hid hit2.pos
      rw [hn, List.length_cons] at hrr
      have hrb : (r : Int) ≤ 35184372088832 := by omega
      have Hrr := Lib.hid hrr
      have Hst := Lib.hid hst
      clear hn hit hrr hst hlt
      go_wp2
      go_roundw
      case rel => exact ⟨p + (N.rn (s.drop p)).2, r + 1, by go_num, Hst.out.1, hit2, by have := Hrr.out; omega, hB2⟩
      case measure => rw [hpos.out, hpos2.out]; have := Hst.out; omega
    · have hnx := fun ty => hit.stop hlt ty
      have hn := N.rest_end s p hlt
      rw [hn, List.length_nil, Nat.add_zero] at hrr
      have Hrr := Lib.hid hrr
      clear hn hit hrr hlt
      go_wp2
      go_ret
      exact ⟨by rw [← Hrr.out]; rfl, hB⟩
end Go.Proofs.Ytpinackeelncfaa
