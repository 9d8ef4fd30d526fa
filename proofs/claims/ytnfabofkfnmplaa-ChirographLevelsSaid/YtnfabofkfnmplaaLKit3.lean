
/- Byte slices that the program itself made and fills by append: where they lie, and that nothing else changes. -/
import Derived.Test.YtnfabofkfnmplaaLKit2
import Derived.ArgAppend
import Derived.Laws.BytesArg
namespace Go.Proofs.Ytnfabofkfnmplaa
open Go.RowKit

theorem owns_zero {w : World} {base : Nat} {e : TypeId} {size : Nat} {v : Value} {n : Nat} {xs : List Value} (h : w.ownsRow base e size v n xs) : w.ownsRow 0 e size v n xs :=
  ⟨h.1, h.2.imp id fun ⟨g, cap, cur, h1, _, h3⟩ => ⟨g, cap, cur, h1, Nat.zero_le _, h3⟩⟩
theorem grown_none {w w' : World} {row : Option Nat} (h : w.grownBy w' none) : w.grownBy w' row :=
  ⟨h.os, h.tape, h.output, h.size, fun k hk _ => h.block k hk (by simp)⟩
theorem own_of_base {w : World} {base : Nat} {e : TypeId} {size : Nat} {v : Value} {n : Nat} {xs : List Value} (h : w.ownsRow base e size v n xs) : v.ownBlock = none ∨ ∃ k, base ≤ k ∧ v.ownBlock = some k := by
  rcases h.2 with ⟨rfl, _⟩ | ⟨g, cap, cur, rfl, hb, _⟩
  · exact .inl rfl
  · exact .inr ⟨g, hb, rfl⟩
section
variable {ops : Array Oper} {o : Oper} {a : Act} {w : World} {v : Value} {xs : List UInt8}
end
section
variable {w w' : World} {v : Value} {xs : List UInt8}
theorem Blk.drew {g : Nat} {cs : Array Value} {t : TypeId} (h : Blk w g cs t) : Blk w.drew g cs t := h
theorem below_alloc1 (w : World) (o : Obj) : Below w.heap.size w (w.alloc o) := (Below.refl _ _).alloc (Nat.le_refl _) o
theorem cells1 (w : World) (b : UInt8) (x : Int) (hx : (b.toNat : Int) = x) (t : TypeId) : ∀ (j : Nat) (u : Value), ([b].map byteV)[j]? = some u → (w.alloc (.cells #[.int .u8 x] t)).cell? ((⟨w.heap.size, 0, none⟩ : Addr).add j) = some u := by
  intro j u h
  rw [Addr.add_mid, cell_of_row _ _ _ _ _ _ (heap_alloc_new w _)]
  match j, h with
  | 0, h => subst hx; simpa [byteV] using h
  | j + 1, h => simp at h
theorem str_size (l : List UInt8) : (⟨l.toArray⟩ : ByteArray).size = l.length := by simp [ByteArray.size]
/-- A byte of a string. -/
theorem str_index (l : List UInt8) (k : Nat) (hk : k < l.length) (w : World) (kd : IntKind) : (Instr.index 9 (.string ⟨l.toArray⟩) (.int kd (k : Int))).run Try.prog w = .ok (.int .u8 ((l.getD k 0).toNat : Int)) w := by
  have hz := str_size l
  rw [run_index_string w 9 _ _ _ Try.underlying9]
  rw [dif_pos ⟨by omega, by rw [hz]; omega⟩]
  show Result.ok (Value.int .u8 (((l.toArray[((k : Int)).toNat]'(by simpa using hk)).toNat : Nat) : Int)) w = _
  simp [List.getD_eq_getElem?_getD, hk]
/-- Two strings, one behind the other. -/
theorem str_add (a b : List UInt8) (h : a.length + b.length ≤ 4611686018427387904) (w : World) : (Op.stringOp .add ⟨a.toArray⟩ ⟨b.toArray⟩).run Try.prog w = .ok (.string ⟨(a ++ b).toArray⟩) w := by
  rw [run_string_add_sum w _ _ (by rw [str_size, str_size]; omega)]
  simp [ByteArray.mk_append_mk]
theorem cells_new (w : World) (l : List UInt8) (cs : Array Value) (hc : cs = (l.map byteV).toArray) (t : TypeId) : ∀ (j : Nat) (u : Value), (l.map byteV)[j]? = some u → (w.alloc (.cells cs t)).cell? ((⟨w.heap.size, 0, none⟩ : Addr).add j) = some u := by
  intro j u h
  subst hc
  rw [Addr.add_mid, cell_of_row _ _ _ _ _ _ (heap_alloc_new w _)]
  simpa using h
/-- A string's midst. -/
theorem str_mid (s : List UInt8) (i j : Nat) (h1 : i ≤ j) (h : j ≤ s.length) (kd ke : IntKind) (w : World) : (Instr.slice 9 (.string ⟨s.toArray⟩) (some (.int kd (i : Int))) (some (.int ke (j : Int))) none).run Try.prog w = .ok (.string ⟨((s.drop i).take (j - i)).toArray⟩) w := by
  have hz := str_size s
  rw [run_slice_string w 9 _ kd ke (i : Int) (j : Int) Try.underlying9 (by omega) (by omega) (by rw [hz]; omega)]
  congr 2
  rw [show ((i : Int)).toNat = i from by omega, show ((j : Int)).toNat = j from by omega]
  apply ByteArray.ext
  rw [ByteArray.data_extract]
  simp
theorem str_from (s : List UInt8) (i : Nat) (h : i ≤ s.length) (kd : IntKind) (w : World) : (Instr.slice 9 (.string ⟨s.toArray⟩) (some (.int kd (i : Int))) none none).run Try.prog w = .ok (.string ⟨(s.drop i).toArray⟩) w := by
  have hz := str_size s
  rw [run_slice_string_l w 9 _ Try.underlying9 kd (i : Int) (by omega) (by rw [hz]; omega)]
  congr 2
  rw [show ((i : Int)).toNat = i from by omega]
  apply ByteArray.ext
  rw [ByteArray.data_extract, hz]
  simp [List.take_of_length_le]
theorem str_upto (s : List UInt8) (j : Nat) (h : j ≤ s.length) (kd : IntKind) (w : World) : (Instr.slice 9 (.string ⟨s.toArray⟩) none (some (.int kd (j : Int))) none).run Try.prog w = .ok (.string ⟨(s.take j).toArray⟩) w := by
  have hz := str_size s
  rw [run_slice_string_h w 9 _ Try.underlying9 kd (j : Int) (by omega) (by rw [hz]; omega)]
  congr 2
  rw [show ((j : Int)).toNat = j from by omega]
  apply ByteArray.ext
  rw [ByteArray.data_extract]
  simp
/-- The same, with the places as the walk spells them. -/
theorem str_index_ (l : List UInt8) (k : Nat) (j : Int) (hj : j = (k : Int)) (hk : k < l.length) (w : World) : (Instr.index 9 (.string ⟨l.toArray⟩) (.int .i64 j)).run Try.prog w = .ok (.int .u8 ((l.getD k 0).toNat : Int)) w := by
  subst hj; exact str_index l k hk w .i64
theorem str_mid_ (s : List UInt8) (i j : Nat) (x y : Int) (hx : x = (i : Int)) (hy : y = (j : Int)) (h1 : i ≤ j) (h : j ≤ s.length) (w : World) : (Instr.slice 9 (.string ⟨s.toArray⟩) (some (.int .i64 x)) (some (.int .i64 y)) none).run Try.prog w = .ok (.string ⟨((s.drop i).take (j - i)).toArray⟩) w := by
  subst hx hy; exact str_mid s i j h1 h .i64 .i64 w
theorem str_from_ (s : List UInt8) (i : Nat) (x : Int) (hx : x = (i : Int)) (h : i ≤ s.length) (w : World) : (Instr.slice 9 (.string ⟨s.toArray⟩) (some (.int .i64 x)) none none).run Try.prog w = .ok (.string ⟨(s.drop i).toArray⟩) w := by
  subst hx; exact str_from s i h .i64 w
theorem str_upto_ (s : List UInt8) (j : Nat) (y : Int) (hy : y = (j : Int)) (h : j ≤ s.length) (w : World) : (Instr.slice 9 (.string ⟨s.toArray⟩) none (some (.int .i64 y)) none).run Try.prog w = .ok (.string ⟨(s.take j).toArray⟩) w := by
  subst hy; exact str_upto s j h .i64 w
/-- Strings that differ, as the walk asks for it. -/
theorem str_list (a : List UInt8) : (⟨a.toArray⟩ : ByteArray).toList = a := by rw [ByteArray.toList_eq]
theorem str_ne {a b : List UInt8} (h : a ≠ b) : ((⟨a.toArray⟩ : ByteArray).toList == (⟨b.toArray⟩ : ByteArray).toList) = false := by
  rw [str_list, str_list, beq_eq_false_iff_ne]
  exact h
theorem str_eq (a b : List UInt8) : ((⟨a.toArray⟩ : ByteArray).toList == (⟨b.toArray⟩ : ByteArray).toList) = (a == b) := by rw [str_list, str_list]
end
end Go.Proofs.Ytnfabofkfnmplaa
