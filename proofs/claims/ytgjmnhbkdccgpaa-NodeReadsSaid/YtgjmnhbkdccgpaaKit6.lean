/- Byte slices that are made at once, and written in place: blocks that are known whole. -/
import Derived.Test.YtgjmnhbkdccgpaaKit4
import Derived.Laws.MakeOwn
import Derived.Laws.OwnMore
namespace Go.Proofs.Ytgjmnhbkdccgpaa
open Go.RowKit

theorem made_bytes (n : Nat) : madeCells #[.int .u8 0] n = labA (List.replicate n 0) := by
  apply Array.ext'
  rw [toList_madeCells_one]
  simp [labA, byteV]
theorem make_bytes (t : TypeId) (ht : Try.prog.underlying t = some (.slice 5)) (n : Nat) (x : Int) (hx : x = (n : Int)) (hn : n ≤ 140737488355328) (w : World) : (Instr.makeSlice t (.int .i64 x) (.int .i64 x)).run Try.prog w = .ok (.slice (some ⟨w.heap.size, 0, none⟩) n n) (w.alloc (.cells (labA (List.replicate n 0)) 5)) := by
  obtain ⟨i5, hi, hz0, hz1, hz2⟩ := info_parts info_u8
  subst hx
  have hr := run_make (P := Try.prog) w t 5 i5 (.int .u8 0) ht hi hz0 .i64 .i64 (n : Int) (n : Int) (by omega) (by omega) (by rw [hz2]; omega) (by omega)
  rw [Int.toNat_natCast, hz1, Nat.mul_one] at hr
  rw [hr]
  have : (Value.int .u8 0).cells = #[.int .u8 0] := rfl
  rw [this, made_bytes]
section
variable {w : World} {g : Nat} {l : List UInt8} {t : TypeId}
theorem blk_bytes (h : Blk w g (labA l) t) (j : Nat) (hj : j < l.length) : w.cell? ⟨g, j, none⟩ = some (.int .u8 ((l.getD j 0).toNat : Int)) := h.cellv (labA_get l j hj)
theorem conv_blk (h : Blk w g (labA l) t) (src : TypeId) (hs : Try.prog.underlying src = some (.slice 5)) (n cap : Nat) (hn : n ≤ l.length) :
    (convert src 9 (.slice (some ⟨g, 0, none⟩) n cap)).run Try.prog w = .ok (.string ⟨(l.take n).toArray⟩) w := by
  have hl : (l.take n).length = n := by rw [List.length_take]; omega
  have := run_convert_bytes_back (P := Try.prog) w src 9 5 ⟨g, 0, none⟩ cap (l.take n) hs Try.underlying5 Try.underlying9 (fun j hj => by
    rw [Addr.add_mid, Nat.zero_add, blk_bytes h j (by omega), List.getElem_take, List.getD_eq_getElem?_getD, List.getElem?_eq_getElem (by omega)]; rfl)
  rw [hl] at this
  exact this
/-- A byte is written. -/
theorem blk_put (h : Blk w g (labA l) t) (j : Nat) (b : UInt8) : Blk (w.setCell ⟨g, j, none⟩ (.int .u8 (b.toNat : Int))) g (labA (l.set j b)) t := by
  have := h.set_ j (byteV b)
  rw [labA_set] at this
  exact this
end
/-- The first k are b, the others noughts. -/
def fillTo (b : UInt8) (n k : Nat) : List UInt8 := List.replicate k b ++ List.replicate (n - k) 0
theorem fillTo_set (b : UInt8) (n k : Nat) (h : k < n) : (fillTo b n k).set k b = fillTo b n (k + 1) := by
  unfold fillTo
  obtain ⟨m, hm⟩ : ∃ m, n - k = m + 1 := ⟨n - k - 1, by omega⟩
  rw [hm, show n - (k + 1) = m from by omega, List.set_append_right _ _ (by simp), List.length_replicate, Nat.sub_self, List.replicate_succ, List.set_cons_zero, List.replicate_succ', List.append_assoc]
  rfl
theorem fillTo_length (b : UInt8) (n k : Nat) (h : k ≤ n) : (fillTo b n k).length = n := by unfold fillTo; simp; omega
end Go.Proofs.Ytgjmnhbkdccgpaa
