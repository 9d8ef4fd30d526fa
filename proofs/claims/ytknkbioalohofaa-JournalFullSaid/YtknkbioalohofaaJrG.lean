/- Slices that are read, opened. -/
import Derived.Test.YtknkbioalohofaaJrF
namespace Go.Proofs.Ytknkbioalohofaa
open Go.RowKit
section
variable {α : Type} {w : World} {v : Value} {l : List α} {f : α → Value}
theorem sread_open (h : SRead w v (l.map f)) : ∃ A c, v = .slice A l.length c ∧ SRead w (.slice A l.length c) (l.map f) := by
  obtain ⟨A, c, rfl, hc, hcell⟩ := h
  rw [List.length_map]
  exact ⟨A, c, rfl, A, c, by rw [List.length_map], hc, hcell⟩
theorem sread_at {A : Option Addr} {n c k : Nat} {x : α} (h : SRead w (.slice A n c) (l.map f)) (hk : l[k]? = some x) : ∃ g o, A = some ⟨g, o, none⟩ ∧ g < w.heap.size ∧ w.cell? ⟨g, o + k, none⟩ = some (f x) := by
  obtain ⟨A', c', heq, hc, hcell⟩ := h
  injection heq with e1 e2 e3
  subst e1
  rcases hcell with e | ⟨g, o, rfl, hg, hcl⟩
  · have := List.map_eq_nil_iff.1 e
    subst this
    cases hk
  · exact ⟨g, o, rfl, hg, hcl k _ (by rw [List.getElem?_map, hk]; rfl)⟩
theorem row_open {e : TypeId} (h : Row1 w e v (l.map f)) : ∃ A c, v = .slice A l.length c ∧ Row1 w e (.slice A l.length c) (l.map f) := by
  obtain ⟨A, c, rfl, -, -⟩ := h.reads
  rw [List.length_map] at h ⊢
  exact ⟨A, c, rfl, h⟩
end
end Go.Proofs.Ytknkbioalohofaa
