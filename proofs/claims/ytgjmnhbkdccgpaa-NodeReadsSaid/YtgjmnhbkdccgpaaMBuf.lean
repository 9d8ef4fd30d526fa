/- A byte slice of the program's own whose row may bear a mark behind its last cell ([]byte(s) makes such), filled by append of single bytes. -/
import Derived.Test.YtgjmnhbkdccgpaaKit7
namespace Go.Proofs.Ytgjmnhbkdccgpaa
open Go.RowKit

theorem lt_of_heap {w : World} {g : Nat} {o : Obj} (h : w.heap[g]? = some o) : g < w.heap.size := by
  rcases Nat.lt_or_ge g w.heap.size with h1 | h1
  · exact h1
  · rw [Array.getElem?_eq_none h1] at h; cases h
/-- The bytes of a slice that lies from cell 0 of a row on; the row lies at B or behind. -/
def MBuf (B : Nat) (w : World) (v : Value) (xs : List UInt8) : Prop :=
  ∃ (g : Nat) (cur : Array Value) (fr : Nat × Nat), v = .slice (some ⟨g, 0, none⟩) xs.length cur.size ∧ B ≤ g ∧ w.heap[g]? = some (.cells cur 5 fr) ∧ (fr = (0, 0) ∨ fr = (cur.size, cur.size + 1)) ∧ xs.length ≤ cur.size ∧ ∀ j, j < xs.length → cur[j]? = some (byteV (xs.getD j 0))
theorem MBuf.ofBlkF {B : Nat} {w : World} {g cap z : Nat} {l : List UInt8} (h : BlkF w g (labA (l ++ List.replicate z 0)) 5) (hB : B ≤ g) (hc : cap = l.length + z) : MBuf B w (.slice (some ⟨g, 0, none⟩) l.length cap) l := by
  have hs : (labA (l ++ List.replicate z 0)).size = cap := by rw [labA_size, List.length_append, List.length_replicate, hc]
  refine ⟨g, _, _, by rw [hs], hB, h, .inr rfl, by omega, fun j hj => ?_⟩
  rw [labA_get _ j (by rw [List.length_append]; omega), List.getD_eq_getElem?_getD, List.getElem?_append_left hj, ← List.getD_eq_getElem?_getD]
  rfl
theorem MBuf.at_ {B : Nat} {w w' : World} {v : Value} {xs : List UInt8} (h : MBuf B w v xs) (hb : Below w.heap.size w w') : MBuf B w' v xs := by
  obtain ⟨g, cur, fr, h1, h2, h3, h4⟩ := h
  exact ⟨g, cur, fr, h1, h2, (hb.block g (lt_of_heap h3)).trans h3, h4⟩
theorem MBuf.cell {B : Nat} {w : World} {v : Value} {xs : List UInt8} (h : MBuf B w v xs) : ∃ g cap, v = .slice (some ⟨g, 0, none⟩) xs.length cap ∧ B ≤ g ∧ g < w.heap.size ∧ xs.length ≤ cap ∧ ∀ j, j < xs.length → w.cell? ⟨g, j, none⟩ = some (.int .u8 ((xs.getD j 0).toNat : Int)) := by
  obtain ⟨g, cur, fr, h1, h2, h3, h4, h5, h6⟩ := h
  exact ⟨g, cur.size, h1, h2, lt_of_heap h3, h5, fun j hj => (cell_of_row w g j cur _ fr h3).trans (h6 j hj)⟩
/-- append of one byte. -/
theorem run_append_mb {B : Nat} {w : World} {v : Value} {xs : List UInt8} (h : MBuf B w v xs) (hB : B ≤ w.heap.size) (t ty : TypeId) (ht : Try.prog.underlying t = some (.slice 5)) (a : Addr) (b : UInt8) (hb : w.cell? a = some (byteV b)) (hlen : xs.length + 1 ≤ 140737488355328) :
    ∃ v' w', (Builtin.append_ #[t, t] ty #[v, .slice (some a) 1 1]).run Try.prog w = .ok v' w' ∧ MBuf B w' v' (xs ++ [b]) ∧ Below B w w' := by
  obtain ⟨i5, hi, hz0, hz1, hz2⟩ := info_parts info_u8
  obtain ⟨g, cur, fr, rfl, hg, hh, hfr, hle, hc⟩ := h
  have hnews : ∀ j u, [byteV b][j]? = some u → w.cell? (a.add j) = some u := by
    intro j u hu
    obtain rfl : j = 0 := by
      rcases j with _ | j
      · rfl
      · simp at hu
    simp at hu
    subst hu
    have e : a.add 0 = a := by simp [Addr.add]
    rw [e]
    exact hb
  have h1 : ∀ u ∈ [byteV b], u.oneCell' = true := by intro u hu; simp at hu; subst hu; rfl
  by_cases hroom : xs.length + 1 ≤ cur.size
  · have hrun := run_append_room_cells (P := Try.prog) (w := w) t ty _ i5 ht hi g 0 xs.length cur.size a 1 1 [byteV b] (by rw [hz1]; rfl) hnews h1 hroom
      (fun j hj => by
        have : j = 0 := by simpa using hj
        subst this
        rw [hz1, cell_of_row w g _ cur _ fr hh, Array.getElem?_eq_getElem (by omega)]; rfl)
      (fun j hj => by
        have : j = 0 := by simpa using hj
        subst this
        rw [hz1]
        simp only [World.frozen?, hh]
        rcases hfr with e | e <;> (rw [e]; simp; try omega))
    refine ⟨_, _, hrun, ⟨g, cur.setIfInBounds xs.length (byteV b), fr, by rw [List.length_append, Array.size_setIfInBounds]; rfl, hg, ?_, by rw [Array.size_setIfInBounds]; exact hfr, by rw [List.length_append, Array.size_setIfInBounds]; exact hroom, ?_⟩, ?_⟩
    · rw [hz1]
      simp [World.setCells, World.setCell, Array.getElem?_modify, hh]
    · intro j hj
      rw [List.length_append] at hj
      simp only [List.length_singleton] at hj
      rcases Nat.lt_or_ge j xs.length with hlt | hge
      · rw [Array.getElem?_setIfInBounds_ne (by omega), hc j hlt, List.getD_eq_getElem?_getD, List.getD_eq_getElem?_getD, List.getElem?_append_left hlt]
      · obtain rfl : j = xs.length := by omega
        rw [Array.getElem?_setIfInBounds_self_of_lt (by omega), List.getD_eq_getElem?_getD, List.getElem?_append_right (Nat.le_refl _)]
        simp
    · rw [hz1]
      simp only [World.setCells]
      exact (Below.refl B w).setCell hg _
  · obtain ⟨v', w', hrun, r1, r2⟩ := run_append_arg_grows (P := Try.prog) w t ty _ i5 _ 1 1 ht hi hz0 hz1 hz2 rfl (by omega) ⟨g, 0, none⟩ xs.length cur.size (xs.map byteV) (by simp)
      (fun j u hu => by
        rw [Addr.add_mid, Nat.zero_add, cell_of_row w g j cur _ fr hh]
        rw [List.getElem?_map] at hu
        rcases Nat.lt_or_ge j xs.length with hlt | hge
        · rw [hc j hlt, List.getD_eq_getElem?_getD]
          rw [List.getElem?_eq_getElem hlt] at hu ⊢
          exact hu
        · rw [List.getElem?_eq_none hge] at hu; cases hu)
      a 1 1 [byteV b] rfl hnews (by omega) (Nat.le_trans hlen (by decide)) (by omega)
    obtain ⟨_, hr⟩ := r1
    rcases hr with ⟨_, h0⟩ | ⟨g2, cap2, cur2, rfl, hg2, hh2, hn2, _, hsz2, htk⟩
    · omega
    · refine ⟨_, w', hrun, ⟨g2, cur2, (0, 0), by rw [hsz2, List.length_append, Nat.mul_one]; rfl, by omega, hh2, .inl rfl, by rw [List.length_append, hsz2]; simpa using hn2, ?_⟩, ⟨r2.os, r2.tape, r2.output, r2.size, fun k hk => r2.block k (by omega) (by simp)⟩⟩
      intro j hj
      have e : (cur2.toList.take ((xs.length + 1) * 1))[j]? = (xs.map byteV ++ [byteV b])[j]? := by rw [htk]
      have hj2 : j < xs.length + 1 := by simpa using hj
      rw [List.getElem?_take_of_lt (by omega), Array.getElem?_toList, show xs.map byteV ++ [byteV b] = (xs ++ [b]).map byteV from by simp, List.getElem?_map, List.getElem?_eq_getElem hj] at e
      rw [e, List.getD_eq_getElem?_getD, List.getElem?_eq_getElem hj]
      rfl
section
variable {ops : Array Oper} {o : Oper} {a : Act} {w : World} {v : Value} {xs : List UInt8} {B : Nat}
theorem wpList_append_mb {rest : List Oper} {Q : Exit → Act → World → Prop} (hg : o.guard = none) (s x : Operand) (t : TypeId) (hop : o.op = Op.call { callee := Callee.builtin Builtin.append, args := #[s, x], argTypes := #[t, t] }) (ht : Try.prog.underlying t = some (.slice 5)) (hs : a.eval s = v) (h : MBuf B w v xs) (hB : B ≤ w.heap.size)
    (ad : Addr) (b : UInt8) (hx : a.eval x = .slice (some ad) 1 1) (hb : w.cell? ad = some (byteV b)) (hlen : xs.length + 1 ≤ 140737488355328)
    (hK : ∀ v' w', MBuf B w' v' (xs ++ [b]) → Below B w w' → wpList Try.prog ops Q rest (a.put o.dst v') w') : wpList Try.prog ops Q (o :: rest) a w :=
  wpList_plain hg fun _ hK' => by
    obtain ⟨v', w', hrun, r1, r2⟩ := run_append_mb h hB t o.type ht ad b hb hlen
    unfold Oper.wp
    simp [execOp, hop, resolve, invoke, builtin, hs, hx, hrun, Result.andThen]
    exact hK' _ _ (hK v' w' r1 r2)
end
end Go.Proofs.Ytgjmnhbkdccgpaa
