/- Slices of labels that the program itself made and fills by append. -/
import Derived.Test.YtknkbioalohofaaKit5
import Derived.Test.YtknkbioalohofaaRelL
namespace Go.Proofs.Ytknkbioalohofaa
open Go.RowKit

def labC (l : List (List UInt8)) : List Value := l.flatMap fun x => x.map byteV
def RowL (w : World) (v : Value) (l : List (List UInt8)) : Prop := w.ownsRow 0 50 32 v l.length (labC l)
theorem RowL.nil (w : World) : RowL w (.slice none 0 0) [] := World.ownsRow_nil w _ _ _
theorem info_lab3 : (Try.prog.info? 50).map (fun i => (i.zero, i.size, i.bytes)) = some (some (.agg (labA zlab)), 32, 32) := by kernel_rfl
theorem byte_one (x : List UInt8) : ∀ u ∈ x.map byteV, u.oneCell' = true := by
  intro u hu
  obtain ⟨b, _, rfl⟩ := List.mem_map.1 hu
  rfl
/-- append of one label: the same block, or a new one. -/
theorem run_append_rowL {w : World} {v : Value} {l : List (List UInt8)} (h : RowL w v l) (ty : TypeId) (a : Addr) (c : Nat) (x : List UInt8) (hx : x.length = 32) (hnews : ∀ j u, (x.map byteV)[j]? = some u → w.cell? (a.add j) = some u) (hlen : l.length ≤ 1000000) :
    ∃ v' w', (Builtin.append_ #[44, 44] ty #[v, .slice (some a) 1 c]).run Try.prog w = .ok v' w' ∧ RowL w' v' (l ++ [x]) ∧ w.grownBy w' v.ownBlock ∧ (v'.ownBlock = v.ownBlock ∨ ∃ k, w.heap.size ≤ k ∧ v'.ownBlock = some k) := by
  obtain ⟨i5, hi, hz0, hz1, hz2⟩ := info_parts info_lab3
  have ht : Try.prog.underlying 44 = some (.slice 50) := Try.underlying44
  have hn : (x.map byteV).length = 1 * 32 := by rw [List.length_map, hx]
  have hzc : (Value.agg (labA zlab)).cells.size = 32 := rfl
  have hmax : l.length + 1 ≤ maxLen := Nat.le_trans (show l.length + 1 ≤ 1000001 by omega) (by decide)
  have hlc : labC (l ++ [x]) = labC l ++ x.map byteV := by simp [labC]
  have hll : (l ++ [x]).length = l.length + 1 := by simp
  rcases h.2 with ⟨rfl, h0⟩ | ⟨g, cap, cur, rfl, _, hg⟩
  · have hl0 : l = [] := List.eq_nil_of_length_eq_zero h0
    subst hl0
    obtain ⟨v', w', hrun, r1, r2, _⟩ := run_append_own (P := Try.prog) w w.heap.size 44 ty _ i5 _ 32 32 ht hi hz0 hz1 hz2 hzc (by omega) (.slice none 0 0) 0 [] (World.ownsRow_nil w _ _ _) a 1 c (x.map byteV) hn hnews (byte_one x) (by simpa using hmax) (by omega) (Nat.le_refl _)
    refine ⟨v', w', hrun, ?_, r2, ?_⟩
    · unfold RowL
      rw [hlc, hll]
      exact owns_zero r1
    · rcases own_of_base r1 with e | ⟨k, hk, e⟩
      · exact .inl e
      · exact .inr ⟨k, hk, e⟩
  · by_cases hroom : l.length + 1 ≤ cap
    · obtain ⟨w', hrun, r1, r2⟩ := run_append_fits (P := Try.prog) w 0 44 ty _ i5 32 ht hi hz1 g l.length cap (labC l) h a 1 c (x.map byteV) hn hnews (byte_one x) hroom
      refine ⟨_, w', hrun, ?_, r2, .inl rfl⟩
      unfold RowL
      rw [hlc, hll]
      exact r1
    · obtain ⟨v', w', hrun, r1, r2⟩ := run_append_arg_grows (P := Try.prog) w 44 ty _ i5 _ 32 32 ht hi hz0 hz1 hz2 hzc (by omega) ⟨g, 0, none⟩ l.length cap (labC l) h.1 (h.cells rfl) a 1 c (x.map byteV) hn hnews (by omega) hmax (by omega)
      refine ⟨v', w', hrun, ?_, grown_none r2, ?_⟩
      · unfold RowL
        rw [hlc, hll]
        exact owns_zero r1
      · rcases own_of_base r1 with e | ⟨k, hk, e⟩
        · exfalso
          rcases r1.2 with ⟨e2, h3⟩ | ⟨g2, c2, cu2, e2, _⟩
          · omega
          · rw [e2] at e; cases e
        · exact .inr ⟨k, hk, e⟩
section
variable {ops : Array Oper} {o : Oper} {a : Act} {w w' : World} {v : Value} {l : List (List UInt8)}
theorem wp_append_rowL {K : Act → World → Prop} {Q : Exit → Act → World → Prop} (s x : Operand) (hop : o.op = Op.call { callee := Callee.builtin Builtin.append, args := #[s, x], argTypes := #[44, 44] }) (hs : a.eval s = v) (h : RowL w v l)
    (ad : Addr) (c : Nat) (m : List UInt8) (hm : m.length = 32) (hx : a.eval x = .slice (some ad) 1 c) (hnews : ∀ j u, (m.map byteV)[j]? = some u → w.cell? (ad.add j) = some u) (hlen : l.length ≤ 1000000)
    (hK : ∀ v' w', RowL w' v' (l ++ [m]) → w.grownBy w' v.ownBlock → (v'.ownBlock = v.ownBlock ∨ ∃ k, w.heap.size ≤ k ∧ v'.ownBlock = some k) → K (a.put o.dst v') w') : Oper.wp Try.prog o a w K Q := by
  obtain ⟨v', w', hrun, r1, r2, r3⟩ := run_append_rowL h o.type ad c m hm hnews hlen
  unfold Oper.wp
  simp [execOp, hop, resolve, invoke, builtin, hs, hx, hrun, Result.andThen]
  exact hK v' w' r1 r2 r3
theorem wpList_append_rowL {rest : List Oper} {Q : Exit → Act → World → Prop} (hg : o.guard = none) (s x : Operand) (hop : o.op = Op.call { callee := Callee.builtin Builtin.append, args := #[s, x], argTypes := #[44, 44] }) (hs : a.eval s = v) (h : RowL w v l)
    (ad : Addr) (c : Nat) (m : List UInt8) (hm : m.length = 32) (hx : a.eval x = .slice (some ad) 1 c) (hnews : ∀ j u, (m.map byteV)[j]? = some u → w.cell? (ad.add j) = some u) (hlen : l.length ≤ 1000000)
    (hK : ∀ v' w', RowL w' v' (l ++ [m]) → w.grownBy w' v.ownBlock → (v'.ownBlock = v.ownBlock ∨ ∃ k, w.heap.size ≤ k ∧ v'.ownBlock = some k) → wpList Try.prog ops Q rest (a.put o.dst v') w') : wpList Try.prog ops Q (o :: rest) a w :=
  wpList_plain hg fun _ hK' => wp_append_rowL s x hop hs h ad c m hm hx hnews hlen fun v' w' h1 h2 h3 => hK' _ _ (hK v' w' h1 h2 h3)
theorem wpList_build_lab {rest : List Oper} {Q : Exit → Act → World → Prop} (hg : o.guard = none) {m : List UInt8} (k : Nat) (ho : o.op = .buildSlice 44 1 #[(0, .tmp k)]) (hx : a.tmps.getD k undef = .agg (labA m)) (hm : m.length = 32)
    (hk : wpList Try.prog ops Q rest (a.put o.dst (.slice (some ⟨w.heap.size, 0, none⟩) 1 1)) (w.alloc (.cells (labA m) 50))) : wpList Try.prog ops Q (o :: rest) a w :=
  wpList_plain hg fun _ hK => wp_build_lab k ho hx hm (hK _ _ hk)
theorem RowL.lt (h : RowL w v l) {g : Nat} (hg : v.ownBlock = some g) : g < w.heap.size := (World.ownsRow.lt h g hg).2
theorem RowL.kept (h : RowL w v l) (hk : ∀ g, v.ownBlock = some g → w'.heap[g]? = w.heap[g]?) : RowL w' v l := by
  refine ⟨h.1, ?_⟩
  rcases h.2 with hn | ⟨g, cap, cur, rfl, hb, hg, rest⟩
  · exact .inl hn
  · exact .inr ⟨g, cap, cur, rfl, hb, by rw [hk g rfl]; exact hg, rest⟩
theorem RowL.at_ (h : RowL w v l) (hb : Below w.heap.size w w') : RowL w' v l := h.kept fun _ hg => hb.block _ (h.lt hg)
theorem RowL.alloc (h : RowL w v l) (o : Obj) : RowL (w.alloc o) v l := World.ownsRow.alloc h o
theorem RowL.drewN (h : RowL w v l) (n : Nat) : RowL (w.drewN n) v l := h
theorem RowL.grown {row : Option Nat} (h : RowL w v l) (hg : w.grownBy w' row) (hr : ∀ g, v.ownBlock = some g → row ≠ some g) : RowL w' v l :=
  h.kept fun g hgo => hg.block g (h.lt hgo) (Ne.symm (hr g hgo))
theorem RowL.made (w : World) : RowL (w.alloc (.cells #[] 50)) (.slice (some ⟨w.heap.size, 0, none⟩) 0 0) [] := World.ownsRow_made (base := 0) (size := 32) w #[] 0 (Nat.zero_le _) (by decide) rfl
theorem labC_get : ∀ (l : List (List UInt8)) (j : Nat) (x : List UInt8), (∀ y ∈ l, y.length = 32) → l[j]? = some x → ∀ i u, (x.map byteV)[i]? = some u → (labC l)[j * 32 + i]? = some u
  | [], j, x, _, h, i, u, hu => by cases h
  | y :: l, 0, x, hl, h, i, u, hu => by
    obtain rfl : y = x := by simpa using h
    have hi : i < (y.map byteV).length := (List.getElem?_eq_some_iff.1 hu).1
    show (y.map byteV ++ labC l)[0 * 32 + i]? = some u
    rw [Nat.zero_mul, Nat.zero_add, List.getElem?_append_left hi]
    exact hu
  | y :: l, j + 1, x, hl, h, i, u, hu => by
    have hy : (y.map byteV).length = 32 := by rw [List.length_map]; exact hl y (List.mem_cons_self ..)
    show (y.map byteV ++ labC l)[(j + 1) * 32 + i]? = some u
    rw [List.getElem?_append_right (by omega), show (j + 1) * 32 + i - (y.map byteV).length = j * 32 + i by omega]
    exact labC_get l j x (fun z hz => hl z (List.mem_cons_of_mem _ hz)) (by simpa using h) i u hu
theorem RowL.range (h : RowL w v l) (hl : ∀ y ∈ l, y.length = 32) {g : Nat} (hg : v.ownBlock = some g) {j : Nat} {x : List UInt8} (hj : l[j]? = some x) : w.rangeAt g (j * 32) (x.map byteV) := fun i u hu => by
  have := h.cells hg _ _ (labC_get l j x hl hj i u hu)
  rwa [Addr.add_mid, Nat.zero_add] at this
theorem RowL.form (h : RowL w v l) : (v = .slice none 0 0 ∧ l = []) ∨ ∃ g cap, v = .slice (some ⟨g, 0, none⟩) l.length cap ∧ l.length ≤ cap := by
  rcases h.2 with ⟨rfl, h0⟩ | ⟨g, cap, cur, rfl, _, _, hc, _⟩
  · exact .inl ⟨rfl, List.eq_nil_of_length_eq_zero h0⟩
  · exact .inr ⟨g, cap, rfl, hc⟩
end
end Go.Proofs.Ytknkbioalohofaa
