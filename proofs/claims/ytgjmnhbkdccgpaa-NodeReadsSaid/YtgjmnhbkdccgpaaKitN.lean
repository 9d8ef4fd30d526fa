/- Leaves and items as rows of cells; labels in their midst. -/
import Derived.Test.YtgjmnhbkdccgpaaRelL
import Derived.Test.YtgjmnhbkdccgpaaKit6
namespace Go.Proofs.Ytgjmnhbkdccgpaa
open Go.RowKit

def leafC (l v : List UInt8) (t : Int) : List Value := l.map byteV ++ v.map byteV ++ [.int .i64 t]
def itemC (n : Int) (p s : List UInt8) (t : Int) : List Value := .int .i64 n :: (p.map byteV ++ s.map byteV ++ [.int .i64 t])
theorem leafC_length (l v : List UInt8) (t : Int) (hl : l.length = 32) (hv : v.length = 32) : (leafC l v t).length = 65 := by simp [leafC, hl, hv]
theorem itemC_length (n : Int) (p s : List UInt8) (t : Int) (hp : p.length = 32) (hs : s.length = 32) : (itemC n p s t).length = 66 := by simp [itemC, hp, hs]
theorem leafC_lab (l v : List UInt8) (t : Int) (j : Nat) (u : Value) (h : (l.map byteV)[j]? = some u) : (leafC l v t)[j]? = some u := by
  unfold leafC
  rw [List.append_assoc, List.getElem?_append_left (List.getElem?_eq_some_iff.1 h).1]
  exact h
theorem leafC_val (l v : List UInt8) (t : Int) (hl : l.length = 32) (j : Nat) (u : Value) (h : (v.map byteV)[j]? = some u) : (leafC l v t)[32 + j]? = some u := by
  unfold leafC
  rw [List.append_assoc, List.getElem?_append_right (by rw [List.length_map]; omega), List.length_map, hl, Nat.add_sub_cancel_left, List.getElem?_append_left (List.getElem?_eq_some_iff.1 h).1]
  exact h
theorem leafC_at (l v : List UInt8) (t : Int) (hl : l.length = 32) (hv : v.length = 32) : (leafC l v t)[64]? = some (.int .i64 t) := by
  unfold leafC
  rw [List.getElem?_append_right (by simp; omega)]
  simp [hl, hv]
theorem itemC_len (n : Int) (p s : List UInt8) (t : Int) : (itemC n p s t)[0]? = some (.int .i64 n) := rfl
theorem itemC_pre (n : Int) (p s : List UInt8) (t : Int) (j : Nat) (u : Value) (h : (p.map byteV)[j]? = some u) : (itemC n p s t)[1 + j]? = some u := by
  unfold itemC
  rw [Nat.add_comm, List.getElem?_cons_succ, List.append_assoc, List.getElem?_append_left (List.getElem?_eq_some_iff.1 h).1]
  exact h
theorem itemC_sum (n : Int) (p s : List UInt8) (t : Int) (hp : p.length = 32) (j : Nat) (u : Value) (h : (s.map byteV)[j]? = some u) : (itemC n p s t)[33 + j]? = some u := by
  unfold itemC
  rw [show 33 + j = (32 + j) + 1 by omega, List.getElem?_cons_succ, List.append_assoc, List.getElem?_append_right (by rw [List.length_map]; omega), List.length_map, hp, Nat.add_sub_cancel_left, List.getElem?_append_left (List.getElem?_eq_some_iff.1 h).1]
  exact h
theorem itemC_at (n : Int) (p s : List UInt8) (t : Int) (hp : p.length = 32) (hs : s.length = 32) : (itemC n p s t)[65]? = some (.int .i64 t) := by
  unfold itemC
  rw [List.getElem?_cons_succ, List.getElem?_append_right (by simp; omega)]
  simp [hp, hs]
/-- A label in the midst of a block, as a text. -/
theorem conv_at {w : World} {g o : Nat} {l : List UInt8} (hl : l.length = 32) (h : w.rangeAt g o (l.map byteV)) : (convert 36 9 (.slice (some ⟨g, o, none⟩) 32 32)).run Try.prog w = .ok (.string ⟨l.toArray⟩) w := by
  have := run_convert_bytes_back (P := Try.prog) w 36 9 5 ⟨g, o, none⟩ 32 l Try.underlying36 Try.underlying5 Try.underlying9 (fun j hj => by
    rw [Addr.add_mid]
    exact h j _ (by rw [List.getElem?_map, List.getElem?_eq_getElem hj]; rfl))
  rw [hl] at this
  exact this
theorem blk_rangeL {w : World} {g o : Nat} {C : List Value} {t : TypeId} {cs : List Value} (b : Blk w g C.toArray t) (h : ∀ j u, cs[j]? = some u → C[o + j]? = some u) : w.rangeAt g o cs := fun j u hj => (b.cell (o + j)).trans (by rw [List.getElem?_toArray]; exact h j u hj)
theorem range_stp {w w' : World} {g o : Nat} {cs : List Value} (h : w.rangeAt g o cs) (hg : g < w.heap.size) (hb : Below w.heap.size w w') : w'.rangeAt g o cs := fun j u hj => (hb.cell (p := ⟨g, o + j, none⟩) hg).trans (h j u hj)
/-- A label out of a block's midst, as one step. -/
theorem wp_load_labR {o : Oper} {a : Act} {w : World} {Q : Exit → Act → World → Prop} {K : Act → World → Prop} {g i : Nat} {l : List UInt8} (x : Operand) (ho : o.op = .load 25 x) (hx : a.eval x = .pointer (some ⟨g, i, none⟩)) (b : w.rangeAt g i (l.map byteV)) (hl : l.length = 32)
    (hk : K (a.put o.dst (.agg (labA l))) w) : o.wp Try.prog a w K Q :=
  wp_load_mid 25 x ho g i hx (l.map byteV) _ b Try.underlying25 (by rfl) (by rw [List.length_map, hl]; kernel_rfl) hk
end Go.Proofs.Ytgjmnhbkdccgpaa
