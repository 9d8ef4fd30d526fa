/- The bytes of a string in a new row, which may be written: the row bears a mark behind its last cell. -/
import Derived.Test.YtgjmnhbkdccgpaaKit6
namespace Go.Proofs.Ytgjmnhbkdccgpaa
open Go.RowKit

/-- Block g is known whole; a mark lies behind its last cell. -/
def BlkF (w : World) (g : Nat) (cs : Array Value) (t : TypeId) : Prop := w.heap[g]? = some (.cells cs t (cs.size, cs.size + 1))
section
variable {w w' : World} {g : Nat} {cs : Array Value} {t : TypeId}
theorem BlkF.lt (h : BlkF w g cs t) : g < w.heap.size := by
  rcases Nat.lt_or_ge g w.heap.size with h1 | h1
  · exact h1
  · unfold BlkF at h; rw [Array.getElem?_eq_none h1] at h; cases h
theorem BlkF.cellv (h : BlkF w g cs t) {i : Nat} {v : Value} (hi : cs[i]? = some v) : w.cell? ⟨g, i, none⟩ = some v := (cell_of_row w g i cs t _ h).trans hi
theorem BlkF.free (h : BlkF w g cs t) (i : Nat) (hi : i < cs.size) : w.frozen? ⟨g, i, none⟩ = false := by
  unfold BlkF at h
  simp [World.frozen?, h]
  omega
theorem BlkF.at_ (h : BlkF w g cs t) (hb : Below w.heap.size w w') : BlkF w' g cs t := (hb.block g h.lt).trans h
theorem BlkF.drew (h : BlkF w g cs t) : BlkF w.drew g cs t := h
theorem BlkF.drewN (h : BlkF w g cs t) (n : Nat) : BlkF (w.drewN n) g cs t := h
theorem BlkF.alloc (h : BlkF w g cs t) (o : Obj) : BlkF (w.alloc o) g cs t := (Below.heap_alloc w o g h.lt).trans h
theorem BlkF.set_ (h : BlkF w g cs t) (i : Nat) (u : Value) : BlkF (w.setCell ⟨g, i, none⟩ u) g (cs.setIfInBounds i u) t := by
  unfold BlkF at h ⊢
  simp [World.setCell, Array.getElem?_modify, h]
end
section
variable {w : World} {g : Nat} {l : List UInt8} {t : TypeId}
theorem blkF_bytes (h : BlkF w g (labA l) t) (j : Nat) (hj : j < l.length) : w.cell? ⟨g, j, none⟩ = some (.int .u8 ((l.getD j 0).toNat : Int)) := h.cellv (labA_get l j hj)
theorem blkF_put (h : BlkF w g (labA l) t) (j : Nat) (b : UInt8) : BlkF (w.setCell ⟨g, j, none⟩ (.int .u8 (b.toNat : Int))) g (labA (l.set j b)) t := by
  have := h.set_ j (byteV b)
  rw [labA_set] at this
  exact this
theorem conv_blkF (h : BlkF w g (labA l) t) (src : TypeId) (hs : Try.prog.underlying src = some (.slice 5)) (n cap : Nat) (hn : n ≤ l.length) :
    (convert src 9 (.slice (some ⟨g, 0, none⟩) n cap)).run Try.prog w = .ok (.string ⟨(l.take n).toArray⟩) w := by
  have hl : (l.take n).length = n := by rw [List.length_take]; omega
  have := run_convert_bytes_back (P := Try.prog) w src 9 5 ⟨g, 0, none⟩ cap (l.take n) hs Try.underlying5 Try.underlying9 (fun j hj => by
    rw [Addr.add_mid, Nat.zero_add, blkF_bytes h j (by omega), List.getElem_take, List.getD_eq_getElem?_getD, List.getElem?_eq_getElem (by omega)]; rfl)
  rw [hl] at this
  exact this
end
/-- The bytes of a string in a new row. -/
theorem bytes_blk (l : List UInt8) (w : World) (dst : TypeId) (hd : Try.prog.underlying dst = some (.slice 5)) :
    ∃ W cap z, (convert 9 dst (.string ⟨l.toArray⟩)).run Try.prog w = .ok (.slice (some ⟨w.heap.size, 0, none⟩) l.length cap) W ∧ Below w.heap.size w W ∧ W.heap.size = w.heap.size + 1 ∧ cap = l.length + z ∧
      BlkF W w.heap.size (labA (l ++ List.replicate z 0)) 5 := by
  have hz : (⟨l.toArray⟩ : ByteArray).size = l.length := by simp [ByteArray.size]
  have hr := run_bytes_of_string w 9 dst 5 ⟨l.toArray⟩ Try.underlying9 hd Try.underlying5
  rw [hz] at hr
  have hge := grownCap_ge w l.length 0 5
  refine ⟨_, _, grownCap w l.length 0 5 - l.length, hr, (Below.refl _ _).drew.alloc (Nat.le_refl _) _, by simp, by omega, ?_⟩
  have hc : bytesRow ⟨l.toArray⟩ (grownCap w l.length 0 5) = labA (l ++ List.replicate (grownCap w l.length 0 5 - l.length) 0) := by
    unfold bytesRow labA
    rw [hz]
    apply Array.ext'
    simp [byteV]
  rw [hc]
  exact heap_alloc_new w.drew _
end Go.Proofs.Ytgjmnhbkdccgpaa
