/- append of a string to a byte slice of the program's own. -/
import Derived.Test.YtknkbioalohofaaKit3
import Derived.Lib.AppendStr
namespace Go.Proofs.Ytknkbioalohofaa
open Go.RowKit

theorem strCells_list (l : List UInt8) : Lib.strCells ⟨l.toArray⟩ = l.map byteV := rfl
theorem run_append_buf_str {w : World} {v : Value} {xs : List UInt8} (h : Buf w v xs) (t u ty : TypeId) (ht : Try.prog.underlying t = some (.slice 5)) (hu : Try.prog.underlying u = some .string) (l : List UInt8) (hlen : xs.length + l.length ≤ 140737488355328) :
    ∃ v' w', (Builtin.append_ #[t, u] ty #[v, .string ⟨l.toArray⟩]).run Try.prog w = .ok v' w' ∧ Buf w' v' (xs ++ l) ∧ w.grownBy w' v.ownBlock ∧ (v'.ownBlock = v.ownBlock ∨ ∃ k, w.heap.size ≤ k ∧ v'.ownBlock = some k) := by
  obtain ⟨i5, hi, hz0, hz1, hz2⟩ := info_parts info_u8
  have hz := str_size l
  have hmax : xs.length + l.length ≤ maxLen := Nat.le_trans hlen (by decide)
  obtain ⟨v', w', hrun, r1, r2, r3⟩ := Lib.run_append_own_string (P := Try.prog) w 0 t u ty _ i5 ht hu hi hz0 hz1 hz2 v xs.length (xs.map byteV) h ⟨l.toArray⟩ (by rw [hz]; exact hmax) (by rw [hz]; exact hlen) (Nat.zero_le _)
  refine ⟨v', w', hrun, ?_, r2, ?_⟩
  · unfold Buf
    rw [hz, strCells_list, ← List.map_append] at r1
    rw [List.length_append]
    exact r1
  · rcases h.2 with ⟨rfl, h0⟩ | ⟨g, cap, cur, rfl, _, hg, hnc, hcm, hcs, _⟩
    · by_cases h1 : l.length = 0
      · have := r3.2 ⟨rfl, by rw [hz]; exact h1⟩
        rw [this]; exact .inl rfl
      · have hr := run_append_nil_string (P := Try.prog) w t u ty _ i5 (.int .u8 0) ht hu hi hz0 ⟨l.toArray⟩ (by rw [hz]; omega) (by rw [hz]; simp only [maxLen] at hmax; omega) (by rw [hz2, hz]; omega)
        rw [hr] at hrun
        injection hrun with e1 e2
        subst e1
        exact .inr ⟨_, Nat.le_refl _, rfl⟩
    · by_cases hroom : xs.length + l.length ≤ cap
      · have hcs' : cur.size = cap := by simpa using hcs
        have hr := Lib.run_append_room_string (P := Try.prog) w t u ty _ i5 ht hu hi hz1 g xs.length cap cur hg ⟨l.toArray⟩ (by rw [hz]; exact hroom) (by rw [hz]; omega)
        rw [hr] at hrun
        injection hrun with e1 e2
        subst e1
        exact .inl rfl
      · have hr := Lib.run_append_grow_string (P := Try.prog) w t u ty _ i5 (.int .u8 0) ht hu hi hz0 ⟨g, 0, none⟩ xs.length cap (xs.map byteV) (by rw [hz1]; simp) (h.cells rfl) ⟨l.toArray⟩ (by rw [hz]; omega) (by rw [hz]; simp only [maxLen] at hmax; omega) (by rw [hz2, hz]; exact growslice_fits (by omega) (by omega))
        rw [hr] at hrun
        injection hrun with e1 e2
        subst e1
        exact .inr ⟨_, Nat.le_refl _, rfl⟩
section
variable {ops : Array Oper} {o : Oper} {a : Act} {w : World} {v : Value} {xs : List UInt8}
theorem wp_append_buf_str {K : Act → World → Prop} {Q : Exit → Act → World → Prop} (s x : Operand) (t u : TypeId) (hop : o.op = Op.call { callee := Callee.builtin Builtin.append, args := #[s, x], argTypes := #[t, u] }) (ht : Try.prog.underlying t = some (.slice 5)) (hu : Try.prog.underlying u = some .string) (hs : a.eval s = v) (h : Buf w v xs)
    (l : List UInt8) (hx : a.eval x = .string ⟨l.toArray⟩) (hlen : xs.length + l.length ≤ 140737488355328)
    (hK : ∀ v' w', Buf w' v' (xs ++ l) → w.grownBy w' v.ownBlock → (v'.ownBlock = v.ownBlock ∨ ∃ k, w.heap.size ≤ k ∧ v'.ownBlock = some k) → K (a.put o.dst v') w') : Oper.wp Try.prog o a w K Q := by
  obtain ⟨v', w', hrun, r1, r2, r3⟩ := run_append_buf_str h t u o.type ht hu l hlen
  unfold Oper.wp
  simp [execOp, hop, resolve, invoke, builtin, hs, hx, hrun, Result.andThen]
  exact hK v' w' r1 r2 r3
theorem wpList_append_buf_str {rest : List Oper} {Q : Exit → Act → World → Prop} (hg : o.guard = none) (s x : Operand) (t u : TypeId) (hop : o.op = Op.call { callee := Callee.builtin Builtin.append, args := #[s, x], argTypes := #[t, u] }) (ht : Try.prog.underlying t = some (.slice 5)) (hu : Try.prog.underlying u = some .string) (hs : a.eval s = v) (h : Buf w v xs)
    (l : List UInt8) (hx : a.eval x = .string ⟨l.toArray⟩) (hlen : xs.length + l.length ≤ 140737488355328)
    (hK : ∀ v' w', Buf w' v' (xs ++ l) → w.grownBy w' v.ownBlock → (v'.ownBlock = v.ownBlock ∨ ∃ k, w.heap.size ≤ k ∧ v'.ownBlock = some k) → wpList Try.prog ops Q rest (a.put o.dst v') w') : wpList Try.prog ops Q (o :: rest) a w :=
  wpList_plain hg fun _ hK' => wp_append_buf_str s x t u hop ht hu hs h l hx hlen fun v' w' h1 h2 h3 => hK' _ _ (hK v' w' h1 h2 h3)
theorem step_append_buf_str {K : Act → World → Prop} {Q : Exit → Act → World → Prop} {E : Prop} (hg : o.guard = none) (s x : Operand) (t u : TypeId) (hop : o.op = Op.call { callee := Callee.builtin Builtin.append, args := #[s, x], argTypes := #[t, u] }) (ht : Try.prog.underlying t = some (.slice 5)) (hu : Try.prog.underlying u = some .string) (hs : a.eval s = v) (h : Buf w v xs)
    (l : List UInt8) (hx : a.eval x = .string ⟨l.toArray⟩) (hlen : xs.length + l.length ≤ 140737488355328)
    (hK : ∀ v' w', Buf w' v' (xs ++ l) → w.grownBy w' v.ownBlock → (v'.ownBlock = v.ownBlock ∨ ∃ k, w.heap.size ≤ k ∧ v'.ownBlock = some k) → K (a.put o.dst v') w') : if Region.wanted o (yielded ops a.tmps) = true then Oper.wp Try.prog o a w K Q else E := by
  rw [if_pos (show Region.wanted o (yielded ops a.tmps) = true by simp [Region.wanted, hg])]
  exact wp_append_buf_str s x t u hop ht hu hs h l hx hlen hK
end
end Go.Proofs.Ytknkbioalohofaa
