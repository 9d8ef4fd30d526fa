/- Byte slices that the program itself made and fills by append: where they lie, and that nothing else changes. -/
import Derived.Test.YtknkbioalohofaaKit2
import Derived.ArgAppend
import Derived.Laws.BytesArg
namespace Go.Proofs.Ytknkbioalohofaa
open Go.RowKit

/-- The bytes of a slice of the program's own. -/
def Buf (w : World) (v : Value) (xs : List UInt8) : Prop := w.ownsRow 0 5 1 v xs.length (xs.map byteV)
theorem Buf.nil (w : World) : Buf w (.slice none 0 0) [] := World.ownsRow_nil w _ _ _
theorem owns_zero {w : World} {base : Nat} {e : TypeId} {size : Nat} {v : Value} {n : Nat} {xs : List Value} (h : w.ownsRow base e size v n xs) : w.ownsRow 0 e size v n xs :=
  ⟨h.1, h.2.imp id fun ⟨g, cap, cur, h1, _, h3⟩ => ⟨g, cap, cur, h1, Nat.zero_le _, h3⟩⟩
theorem grown_none {w w' : World} {row : Option Nat} (h : w.grownBy w' none) : w.grownBy w' row :=
  ⟨h.os, h.tape, h.output, h.size, fun k hk _ => h.block k hk (by simp)⟩
theorem own_of_base {w : World} {base : Nat} {e : TypeId} {size : Nat} {v : Value} {n : Nat} {xs : List Value} (h : w.ownsRow base e size v n xs) : v.ownBlock = none ∨ ∃ k, base ≤ k ∧ v.ownBlock = some k := by
  rcases h.2 with ⟨rfl, _⟩ | ⟨g, cap, cur, rfl, hb, _⟩
  · exact .inl rfl
  · exact .inr ⟨g, hb, rfl⟩
/-- append to such a slice: the same block, or a new one. -/
theorem run_append_buf {w : World} {v : Value} {xs : List UInt8} (h : Buf w v xs) (t ty : TypeId) (ht : Try.prog.underlying t = some (.slice 5)) (a : Addr) (m c : Nat) (news : List UInt8) (hl : news.length = m) (hnews : ∀ j u, (news.map byteV)[j]? = some u → w.cell? (a.add j) = some u) (hlen : xs.length + m ≤ 140737488355328) :
    ∃ v' w', (Builtin.append_ #[t, t] ty #[v, .slice (some a) m c]).run Try.prog w = .ok v' w' ∧ Buf w' v' (xs ++ news) ∧ w.grownBy w' v.ownBlock ∧ (v'.ownBlock = v.ownBlock ∨ ∃ k, w.heap.size ≤ k ∧ v'.ownBlock = some k) := by
  obtain ⟨i5, hi, hz0, hz1, hz2⟩ := info_parts info_u8
  subst hl
  have hn : (news.map byteV).length = news.length * 1 := by simp
  have hmax : xs.length + news.length ≤ maxLen := Nat.le_trans hlen (by decide)
  have hb1 : ∀ u ∈ news.map byteV, u.oneCell' = true := bytes_one news
  have hx : xs.map byteV ++ news.map byteV = (xs ++ news).map byteV := by simp
  have hxl : (xs ++ news).length = xs.length + news.length := List.length_append
  rcases h.2 with ⟨rfl, h0⟩ | ⟨g, cap, cur, rfl, _, hg⟩
  · have hxs : xs = [] := List.eq_nil_of_length_eq_zero h0
    subst hxs
    obtain ⟨v', w', hrun, r1, r2, _⟩ := run_append_own (P := Try.prog) w w.heap.size t ty _ i5 _ 1 1 ht hi hz0 hz1 hz2 rfl (by omega) (.slice none 0 0) 0 [] (World.ownsRow_nil w _ _ _) a news.length c (news.map byteV) hn hnews hb1 (by simpa using hmax) (by simpa using hlen) (Nat.le_refl _)
    refine ⟨v', w', hrun, ?_, r2, ?_⟩
    · unfold Buf
      simpa using owns_zero r1
    · rcases own_of_base r1 with e | ⟨k, hk, e⟩
      · exact .inl e
      · exact .inr ⟨k, hk, e⟩
  · by_cases hroom : xs.length + news.length ≤ cap
    · obtain ⟨w', hrun, r1, r2⟩ := run_append_fits (P := Try.prog) w 0 t ty _ i5 1 ht hi hz1 g xs.length cap (xs.map byteV) h a news.length c (news.map byteV) hn hnews hb1 hroom
      refine ⟨_, w', hrun, ?_, r2, .inl rfl⟩
      unfold Buf
      rw [← hx, hxl]
      exact r1
    · obtain ⟨v', w', hrun, r1, r2⟩ := run_append_arg_grows (P := Try.prog) w t ty _ i5 _ 1 1 ht hi hz0 hz1 hz2 rfl (by omega) ⟨g, 0, none⟩ xs.length cap (xs.map byteV) (by simp) (h.cells rfl) a news.length c (news.map byteV) hn hnews (by omega) hmax (by omega)
      refine ⟨v', w', hrun, ?_, grown_none r2, ?_⟩
      · unfold Buf
        rw [← hx, hxl]
        exact owns_zero r1
      · rcases own_of_base r1 with e | ⟨k, hk, e⟩
        · exfalso
          rcases r1.2 with ⟨e2, h3⟩ | ⟨g2, c2, cu2, e2, _⟩
          · omega
          · rw [e2] at e; cases e
        · exact .inr ⟨k, hk, e⟩
section
variable {ops : Array Oper} {o : Oper} {a : Act} {w : World} {v : Value} {xs : List UInt8}
theorem wp_append_buf {K : Act → World → Prop} {Q : Exit → Act → World → Prop} (s x : Operand) (t : TypeId) (hop : o.op = Op.call { callee := Callee.builtin Builtin.append, args := #[s, x], argTypes := #[t, t] }) (ht : Try.prog.underlying t = some (.slice 5)) (hs : a.eval s = v) (h : Buf w v xs)
    (ad : Addr) (m c : Nat) (news : List UInt8) (hx : a.eval x = .slice (some ad) m c) (hl : news.length = m) (hnews : ∀ j u, (news.map byteV)[j]? = some u → w.cell? (ad.add j) = some u) (hlen : xs.length + m ≤ 140737488355328)
    (hK : ∀ v' w', Buf w' v' (xs ++ news) → w.grownBy w' v.ownBlock → (v'.ownBlock = v.ownBlock ∨ ∃ k, w.heap.size ≤ k ∧ v'.ownBlock = some k) → K (a.put o.dst v') w') : Oper.wp Try.prog o a w K Q := by
  obtain ⟨v', w', hrun, r1, r2, r3⟩ := run_append_buf h t o.type ht ad m c news hl hnews hlen
  unfold Oper.wp
  simp [execOp, hop, resolve, invoke, builtin, hs, hx, hrun, Result.andThen]
  exact hK v' w' r1 r2 r3
theorem wpList_append_buf {rest : List Oper} {Q : Exit → Act → World → Prop} (hg : o.guard = none) (s x : Operand) (t : TypeId) (hop : o.op = Op.call { callee := Callee.builtin Builtin.append, args := #[s, x], argTypes := #[t, t] }) (ht : Try.prog.underlying t = some (.slice 5)) (hs : a.eval s = v) (h : Buf w v xs)
    (ad : Addr) (m c : Nat) (news : List UInt8) (hx : a.eval x = .slice (some ad) m c) (hl : news.length = m) (hnews : ∀ j u, (news.map byteV)[j]? = some u → w.cell? (ad.add j) = some u) (hlen : xs.length + m ≤ 140737488355328)
    (hK : ∀ v' w', Buf w' v' (xs ++ news) → w.grownBy w' v.ownBlock → (v'.ownBlock = v.ownBlock ∨ ∃ k, w.heap.size ≤ k ∧ v'.ownBlock = some k) → wpList Try.prog ops Q rest (a.put o.dst v') w') : wpList Try.prog ops Q (o :: rest) a w :=
  wpList_plain hg fun _ hK' => wp_append_buf s x t hop ht hs h ad m c news hx hl hnews hlen fun v' w' h1 h2 h3 => hK' _ _ (hK v' w' h1 h2 h3)
/-- The same as one step of a region that draws. -/
theorem step_append_buf {K : Act → World → Prop} {Q : Exit → Act → World → Prop} {E : Prop} (hg : o.guard = none) (s x : Operand) (t : TypeId) (hop : o.op = Op.call { callee := Callee.builtin Builtin.append, args := #[s, x], argTypes := #[t, t] }) (ht : Try.prog.underlying t = some (.slice 5)) (hs : a.eval s = v) (h : Buf w v xs)
    (ad : Addr) (m c : Nat) (news : List UInt8) (hx : a.eval x = .slice (some ad) m c) (hl : news.length = m) (hnews : ∀ j u, (news.map byteV)[j]? = some u → w.cell? (ad.add j) = some u) (hlen : xs.length + m ≤ 140737488355328)
    (hK : ∀ v' w', Buf w' v' (xs ++ news) → w.grownBy w' v.ownBlock → (v'.ownBlock = v.ownBlock ∨ ∃ k, w.heap.size ≤ k ∧ v'.ownBlock = some k) → K (a.put o.dst v') w') : if Region.wanted o (yielded ops a.tmps) = true then Oper.wp Try.prog o a w K Q else E := by
  rw [if_pos (show Region.wanted o (yielded ops a.tmps) = true by simp [Region.wanted, hg])]
  exact wp_append_buf s x t hop ht hs h ad m c news hx hl hnews hlen hK
end
section
variable {w w' : World} {v : Value} {xs : List UInt8}
theorem Buf.cell (h : Buf w v xs) {g : Nat} (hg : v.ownBlock = some g) (j : Nat) (hj : j < xs.length) : w.cell? ((⟨g, 0, none⟩ : Addr).add j) = some (.int .u8 (xs[j].toNat : Int)) := h.cells hg j _ (by simp [byteV, hj])
theorem Buf.form (h : Buf w v xs) : (v = .slice none 0 0 ∧ xs = []) ∨ ∃ g cap, v = .slice (some ⟨g, 0, none⟩) xs.length cap := by
  rcases h.2 with ⟨rfl, h0⟩ | ⟨g, cap, cur, rfl, _⟩
  · exact .inl ⟨rfl, List.eq_nil_of_length_eq_zero h0⟩
  · exact .inr ⟨g, cap, rfl⟩
theorem Buf.form_ne (h : Buf w v xs) (hx : xs ≠ []) : ∃ g cap, v = .slice (some ⟨g, 0, none⟩) xs.length cap := h.form.resolve_left fun e => hx e.2
/-- Nothing of the row has changed. -/
theorem Buf.kept (h : Buf w v xs) (hk : ∀ g, v.ownBlock = some g → w'.heap[g]? = w.heap[g]?) : Buf w' v xs := by
  refine ⟨h.1, ?_⟩
  rcases h.2 with hn | ⟨g, cap, cur, rfl, hb, hg, rest⟩
  · exact .inl hn
  · exact .inr ⟨g, cap, cur, rfl, hb, by rw [hk g rfl]; exact hg, rest⟩
/-- Such a slice as a string. -/
theorem Buf.string (h : Buf w v xs) {src dst : TypeId} (hs : Try.prog.underlying src = some (.slice 5)) (hd : Try.prog.underlying dst = some .string) : (convert src dst v).run Try.prog w = .ok (.string ⟨xs.toArray⟩) w := by
  rcases h.form with ⟨rfl, rfl⟩ | ⟨g, cap, rfl⟩
  · exact run_convert_bytes_nil w src _ hs Try.underlying5 0 0 dst hd
  · exact run_convert_bytes_back w src dst _ _ cap xs hs Try.underlying5 hd fun j hj => h.cell rfl j hj
theorem Buf.alloc (h : Buf w v xs) (o : Obj) : Buf (w.alloc o) v xs := World.ownsRow.alloc h o
theorem Buf.drew (h : Buf w v xs) : Buf w.drew v xs := h
theorem Blk.drew {g : Nat} {cs : Array Value} {t : TypeId} (h : Blk w g cs t) : Blk w.drew g cs t := h
theorem below_alloc1 (w : World) (o : Obj) : Below w.heap.size w (w.alloc o) := (Below.refl _ _).alloc (Nat.le_refl _) o
theorem cells1 (w : World) (b : UInt8) (x : Int) (hx : (b.toNat : Int) = x) (t : TypeId) : ∀ (j : Nat) (u : Value), ([b].map byteV)[j]? = some u → (w.alloc (.cells #[.int .u8 x] t)).cell? ((⟨w.heap.size, 0, none⟩ : Addr).add j) = some u := by
  intro j u h
  rw [Addr.add_mid, cell_of_row _ _ _ _ _ _ (heap_alloc_new w _)]
  match j, h with
  | 0, h => subst hx; simpa [byteV] using h
  | j + 1, h => simp at h
/-- The bytes of a string in a new row. -/
theorem bytes_law (l : List UInt8) (w : World) (dst : TypeId) (hd : Try.prog.underlying dst = some (.slice 5)) :
    ∃ W cap, (convert 9 dst (.string ⟨l.toArray⟩)).run Try.prog w = .ok (.slice (some ⟨w.heap.size, 0, none⟩) l.length cap) W ∧ Below w.heap.size w W ∧ W.heap.size = w.heap.size + 1 ∧ l.length ≤ cap ∧
      (∀ j, j < l.length → W.cell? ⟨w.heap.size, j, none⟩ = some (.int .u8 ((l.getD j 0).toNat : Int))) := by
  have hz : (⟨l.toArray⟩ : ByteArray).size = l.length := by simp [ByteArray.size]
  have hr := run_bytes_of_string w 9 dst 5 ⟨l.toArray⟩ Try.underlying9 hd Try.underlying5
  rw [hz] at hr
  refine ⟨_, _, hr, (Below.refl _ _).drew.alloc (Nat.le_refl _) _, by simp, ?_, fun j hj => ?_⟩
  · exact grownCap_ge w _ 0 5
  · have hc := cell_of_row _ _ j _ _ _ (heap_alloc_new w.drew (.cells (bytesRow ⟨l.toArray⟩ (grownCap w l.length 0 5)) 5 ((bytesRow ⟨l.toArray⟩ (grownCap w l.length 0 5)).size, (bytesRow ⟨l.toArray⟩ (grownCap w l.length 0 5)).size + 1)))
    refine hc.trans ?_
    unfold bytesRow
    rw [Array.getElem?_append_left (by simpa using hj)]
    simp [List.getD_eq_getElem?_getD, hj]
theorem str_size (l : List UInt8) : (⟨l.toArray⟩ : ByteArray).size = l.length := by simp [ByteArray.size]
/-- A byte of a string. -/
theorem str_index (l : List UInt8) (k : Nat) (hk : k < l.length) (w : World) (kd : IntKind) : (Instr.index 9 (.string ⟨l.toArray⟩) (.int kd (k : Int))).run Try.prog w = .ok (.int .u8 ((l.getD k 0).toNat : Int)) w := by
  have hz := str_size l
  rw [run_index_string w 9 _ _ _ Try.underlying9]
  rw [dif_pos ⟨by omega, by rw [hz]; omega⟩]
  show Result.ok (Value.int .u8 (((l.toArray[((k : Int)).toNat]'(by simpa using hk)).toNat : Nat) : Int)) w = _
  simp [List.getD_eq_getElem?_getD, hk]
/-- Two strings, one behind the other. -/
theorem str_add (a b : List UInt8) (h : a.length + b.length ≤ 4611686018427387904) (w : World) : (Op.stringOp .add ⟨a.toArray⟩ ⟨b.toArray⟩).run Try.prog w = .ok (.string ⟨(a ++ b).toArray⟩) w := by
  rw [run_string_add_sum w _ _ (by rw [str_size, str_size]; omega)]
  simp [ByteArray.mk_append_mk]
/-- A byte slice that is written out. -/
theorem buf_build (w : World) (l : List UInt8) (cs : Array Value) (n : Nat) (hc : cs = (l.map byteV).toArray) (hn : l.length = n) (hl : n ≤ 4611686018427387904) : Buf (w.alloc (.cells cs 5)) (.slice (some ⟨w.heap.size, 0, none⟩) n n) l := by
  subst hc hn
  refine ⟨by simp, .inr ⟨w.heap.size, l.length, (l.map byteV).toArray, rfl, Nat.zero_le _, heap_alloc_new w _, Nat.le_refl _, Nat.le_trans hl (by decide), by simp, by simp [List.take_of_length_le]⟩⟩
theorem cells_new (w : World) (l : List UInt8) (cs : Array Value) (hc : cs = (l.map byteV).toArray) (t : TypeId) : ∀ (j : Nat) (u : Value), (l.map byteV)[j]? = some u → (w.alloc (.cells cs t)).cell? ((⟨w.heap.size, 0, none⟩ : Addr).add j) = some u := by
  intro j u h
  subst hc
  rw [Addr.add_mid, cell_of_row _ _ _ _ _ _ (heap_alloc_new w _)]
  simpa using h
/-- A string's midst. -/
theorem str_mid (s : List UInt8) (i j : Nat) (h1 : i ≤ j) (h : j ≤ s.length) (kd ke : IntKind) (w : World) : (Instr.slice 9 (.string ⟨s.toArray⟩) (some (.int kd (i : Int))) (some (.int ke (j : Int))) none).run Try.prog w = .ok (.string ⟨((s.drop i).take (j - i)).toArray⟩) w := by
  have hz := str_size s
  rw [run_slice_string w 9 _ kd ke (i : Int) (j : Int) Try.underlying9 (by omega) (by omega) (by rw [hz]; omega)]
  congr 2
  rw [show ((i : Int)).toNat = i from by omega, show ((j : Int)).toNat = j from by omega]
  apply ByteArray.ext
  rw [ByteArray.data_extract]
  simp
theorem str_from (s : List UInt8) (i : Nat) (h : i ≤ s.length) (kd : IntKind) (w : World) : (Instr.slice 9 (.string ⟨s.toArray⟩) (some (.int kd (i : Int))) none none).run Try.prog w = .ok (.string ⟨(s.drop i).toArray⟩) w := by
  have hz := str_size s
  rw [run_slice_string_l w 9 _ Try.underlying9 kd (i : Int) (by omega) (by rw [hz]; omega)]
  congr 2
  rw [show ((i : Int)).toNat = i from by omega]
  apply ByteArray.ext
  rw [ByteArray.data_extract, hz]
  simp [List.take_of_length_le]
theorem str_upto (s : List UInt8) (j : Nat) (h : j ≤ s.length) (kd : IntKind) (w : World) : (Instr.slice 9 (.string ⟨s.toArray⟩) none (some (.int kd (j : Int))) none).run Try.prog w = .ok (.string ⟨(s.take j).toArray⟩) w := by
  have hz := str_size s
  rw [run_slice_string_h w 9 _ Try.underlying9 kd (j : Int) (by omega) (by rw [hz]; omega)]
  congr 2
  rw [show ((j : Int)).toNat = j from by omega]
  apply ByteArray.ext
  rw [ByteArray.data_extract]
  simp
/-- The same, with the places as the walk spells them. -/
theorem str_index_ (l : List UInt8) (k : Nat) (j : Int) (hj : j = (k : Int)) (hk : k < l.length) (w : World) : (Instr.index 9 (.string ⟨l.toArray⟩) (.int .i64 j)).run Try.prog w = .ok (.int .u8 ((l.getD k 0).toNat : Int)) w := by
  subst hj; exact str_index l k hk w .i64
theorem str_mid_ (s : List UInt8) (i j : Nat) (x y : Int) (hx : x = (i : Int)) (hy : y = (j : Int)) (h1 : i ≤ j) (h : j ≤ s.length) (w : World) : (Instr.slice 9 (.string ⟨s.toArray⟩) (some (.int .i64 x)) (some (.int .i64 y)) none).run Try.prog w = .ok (.string ⟨((s.drop i).take (j - i)).toArray⟩) w := by
  subst hx hy; exact str_mid s i j h1 h .i64 .i64 w
theorem str_from_ (s : List UInt8) (i : Nat) (x : Int) (hx : x = (i : Int)) (h : i ≤ s.length) (w : World) : (Instr.slice 9 (.string ⟨s.toArray⟩) (some (.int .i64 x)) none none).run Try.prog w = .ok (.string ⟨(s.drop i).toArray⟩) w := by
  subst hx; exact str_from s i h .i64 w
theorem str_upto_ (s : List UInt8) (j : Nat) (y : Int) (hy : y = (j : Int)) (h : j ≤ s.length) (w : World) : (Instr.slice 9 (.string ⟨s.toArray⟩) none (some (.int .i64 y)) none).run Try.prog w = .ok (.string ⟨(s.take j).toArray⟩) w := by
  subst hy; exact str_upto s j h .i64 w
/-- Strings that differ, as the walk asks for it. -/
theorem str_list (a : List UInt8) : (⟨a.toArray⟩ : ByteArray).toList = a := by rw [ByteArray.toList_eq]
theorem str_ne {a b : List UInt8} (h : a ≠ b) : ((⟨a.toArray⟩ : ByteArray).toList == (⟨b.toArray⟩ : ByteArray).toList) = false := by
  rw [str_list, str_list, beq_eq_false_iff_ne]
  exact h
theorem str_eq (a b : List UInt8) : ((⟨a.toArray⟩ : ByteArray).toList == (⟨b.toArray⟩ : ByteArray).toList) = (a == b) := by rw [str_list, str_list]
theorem Buf.at_ (h : Buf w v xs) (hb : Below w.heap.size w w') : Buf w' v xs := h.kept fun g hg => hb.block g ((World.ownsRow.lt h g hg).2)
theorem Buf.lt (h : Buf w v xs) {g : Nat} (hg : v.ownBlock = some g) : g < w.heap.size := (World.ownsRow.lt h g hg).2
end
end Go.Proofs.Ytknkbioalohofaa
