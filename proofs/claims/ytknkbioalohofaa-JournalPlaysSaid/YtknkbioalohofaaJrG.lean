/- Slices that are read, opened. -/
import Derived.Test.YtknkbioalohofaaJrF
namespace Go.Proofs.Ytknkbioalohofaa
open Go.RowKit
section
variable {α : Type} {w : World} {v : Value} {l : List α} {f : α → Value}
theorem sread_open (h : SRead w v (l.map f)) : ∃ A c, v = .slice A l.length c ∧ SRead w (.slice A l.length c) (l.map f) := by
  obtain ⟨A, c, rfl, hc, hcell⟩ := h
  rw [List.length_map]
  exact ⟨A, c, rfl, A, c, by rw [List.length_map], hc, hcell⟩
theorem sread_at {A : Option Addr} {n c k : Nat} {x : α} (h : SRead w (.slice A n c) (l.map f)) (hk : l[k]? = some x) : ∃ g o, A = some ⟨g, o, none⟩ ∧ g < w.heap.size ∧ w.cell? ⟨g, o + k, none⟩ = some (f x) := by
  obtain ⟨A', c', heq, hc, hcell⟩ := h
  injection heq with e1 e2 e3
  subst e1
  rcases hcell with e | ⟨g, o, rfl, hg, hcl⟩
  · have := List.map_eq_nil_iff.1 e
    subst this
    cases hk
  · exact ⟨g, o, rfl, hg, hcl k _ (by rw [List.getElem?_map, hk]; rfl)⟩
theorem row_open {e : TypeId} (h : Row1 w e v (l.map f)) : ∃ A c, v = .slice A l.length c ∧ Row1 w e (.slice A l.length c) (l.map f) := by
  obtain ⟨A, c, rfl, -, -⟩ := h.reads
  rw [List.length_map] at h ⊢
  exact ⟨A, c, rfl, h⟩
end
theorem row_cap {w : World} {e : TypeId} {A : Option Addr} {L c : Nat} {f : List UInt8 → Value} {l : List (List UInt8)} (h : Row1 w e (.slice A L c) (l.map f)) (hl : l.length = L) : L ≤ c := by
  obtain ⟨A', c', heq, hc', -⟩ := h.reads
  injection heq with e1 e2 e3
  rw [List.length_map] at e2 hc'
  omega
/-- A slice of texts from a place on; up to a place. -/
theorem sl_from (A : Option Addr) {L c k n : Nat} {z : Int} (hz : (k : Int) = z) (hk : k ≤ L) (hn : L - k = n) (hc : L ≤ c) : ∃ A' c', (∀ W : World, (Instr.slice 35 (.slice A L c) (some (.int .i64 z)) none none).run Try.prog W = .ok (.slice A' n c') W) ∧
    ∀ (W : World) (l : List (List UInt8)), SRead W (.slice A L c) (l.map strV) → SRead W (.slice A' n c') ((l.drop k).map strV) := by
  subst hz hn
  refine ⟨if c = k then A else A.map (·.add k), c - k, fun W => ?_, fun W l h => ?_⟩
  · have hu : Try.prog.underlying 35 = some (.slice (Try.prog.elem 35)) := by kernel_rfl
    obtain ⟨i0, hi, hz0, hz1, hz2⟩ := info_parts info_str.1
    have hel : Try.prog.elem 35 = 9 := by kernel_rfl
    rw [run_slice_l W 35 A L c hu .i64 (k : Int) (by omega) (by omega), hel]
    simp [sizeOf, typeInfo, hi, hz1, sliced, Result.andThen]
  · obtain ⟨A', c', heq, hc', hcell⟩ := h
    injection heq with e1 e2 e3
    subst e1 e3
    rw [List.length_map] at e2
    subst e2
    refine ⟨_, _, by rw [List.length_map, List.length_drop], by rw [List.length_map, List.length_drop]; omega, ?_⟩
    by_cases h0 : l.drop k = []
    · exact .inl (by rw [h0]; rfl)
    · rcases hcell with e | ⟨g, o, rfl, hg, hcl⟩
      · have := List.map_eq_nil_iff.1 e
        rw [this] at h0; simp at h0
      · have hlt : k < l.length := by
          rcases Nat.lt_or_ge k l.length with h | h
          · exact h
          · exact absurd (List.drop_of_length_le h) h0
        rw [if_neg (by omega)]
        refine .inr ⟨g, o + k, by rw [Option.map_some, Addr.add_mid], hg, fun j u hu => ?_⟩
        rw [Nat.add_assoc]
        refine hcl (k + j) u ?_
        rw [List.getElem?_map, List.getElem?_drop] at hu
        rw [List.getElem?_map]
        exact hu
theorem sl_upto (A : Option Addr) {L c k : Nat} {z : Int} (hz : (k : Int) = z) (hk : k ≤ L) (hc : L ≤ c) : (∀ W : World, (Instr.slice 35 (.slice A L c) none (some (.int .i64 z)) none).run Try.prog W = .ok (.slice A k c) W) ∧
    ∀ (W : World) (l : List (List UInt8)), SRead W (.slice A L c) (l.map strV) → SRead W (.slice A k c) ((l.take k).map strV) := by
  subst hz
  refine ⟨fun W => ?_, fun W l h => ?_⟩
  · have hu : Try.prog.underlying 35 = some (.slice (Try.prog.elem 35)) := by kernel_rfl
    obtain ⟨i0, hi, hz0, hz1, hz2⟩ := info_parts info_str.1
    have hel : Try.prog.elem 35 = 9 := by kernel_rfl
    rw [run_slice_h W 35 A L c hu .i64 (k : Int) (by omega) (by omega), hel]
    cases A <;> simp [sizeOf, typeInfo, hi, sliced, Result.andThen, Addr.add]
  · obtain ⟨A', c', heq, hc', hcell⟩ := h
    injection heq with e1 e2 e3
    subst e1 e3
    rw [List.length_map] at e2
    subst e2
    have htk : (l.take k).length = k := by rw [List.length_take]; omega
    refine ⟨_, _, by rw [List.length_map, htk], by rw [List.length_map, htk]; omega, ?_⟩
    rcases hcell with e | ⟨g, o, rfl, hg, hcl⟩
    · have := List.map_eq_nil_iff.1 e
      exact .inl (by rw [this]; simp)
    · refine .inr ⟨g, o, rfl, hg, fun j u hu => hcl j u ?_⟩
      rw [List.getElem?_map, List.getElem?_take] at hu
      rw [List.getElem?_map]
      split at hu
      · exact hu
      · cases hu
end Go.Proofs.Ytknkbioalohofaa
