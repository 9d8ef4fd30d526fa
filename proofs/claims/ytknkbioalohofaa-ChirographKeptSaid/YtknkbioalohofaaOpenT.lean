/- How lists of texts come in as arguments. -/
import Derived.Test.YtknkbioalohofaaKit5
import Derived.Test.YtknkbioalohofaaRow
import Derived.SliceStrings
namespace Go.Proofs.Ytknkbioalohofaa
open Go.ChangeShapes Go.WideShapes Go.ChangeAt Go.RowKit

theorem cells_str : Try.prog.cellsOf 9 = 1 := by kernel_rfl
theorem lt_of_cell {w : World} {a : Addr} {u : Value} (h : w.cell? a = some u) : a.block < w.heap.size := by
  rcases Nat.lt_or_ge a.block w.heap.size with h1 | h1
  · exact h1
  · exfalso
    unfold World.cell? at h
    rw [Array.getElem?_eq_none h1] at h
    revert h
    cases a.spot <;> simp
section
variable {H : Type} {enc : TypeId × Value → H} {W : World} {base : Nat} {sp : Nat → Bool} {held : Bool} {v : Value} {d : DataW H} {p : List MemPlace}
set_option maxRecDepth 1000000 in
theorem open_texts (hval : Value.okWide Try.prog W .any base 35 v) (h : DataW.Trod enc Try.prog W 0 sp held 35 v d p) :
    ∃ ts : List (List UInt8), SRead W v (ts.map strV) ∧ ts.length ≤ 9223372036854775807 ∧ ∀ t ∈ ts, t.length ≤ 9223372036854775807 := by
  obtain ⟨a0, len, cap, rfl⟩ := okWide_slice Try.underlying35 hval
  obtain ⟨fuel, hf⟩ := h
  have hf' : DataW.trod enc Try.prog W 0 sp held fuel 35 [.slice a0 len cap] = some (d, p) := hf
  rcases open_strings Try.underlying35 Try.underlying9 cells_str hf' with ⟨hcs, hx⟩ | ⟨a, len', cap', ss, hcs, _, hl, hm, hz, hx, hcell, hsz⟩
  · simp at hcs
    obtain ⟨rfl, rfl, rfl⟩ := hcs
    exact ⟨[], ⟨none, 0, rfl, Nat.zero_le _, .inl rfl⟩, by simp, by simp⟩
  · simp at hcs
    obtain ⟨rfl, rfl, rfl⟩ := hcs
    have hlen : len ≤ ss.length := by rw [hz]; split <;> omega
    have hl2 : (ss.take len).length = len := by rw [List.length_take]; omega
    have hmx : cap ≤ 9223372036854775807 := by unfold maxLen at hm; exact hm
    refine ⟨(ss.take len).map (·.data.toList), ⟨some a, cap, by simp; omega, by simp; omega, ?_⟩, by simp; omega, ?_⟩
    · by_cases h0 : len = 0
      · subst h0; exact .inl (by simp)
      · obtain ⟨b, off, spot⟩ := a
        have hspot : spot = none := by simpa [Addr.add] using World.cell?_spot (hcell 0 (by omega))
        subst hspot
        have h00 := hcell 0 (by omega)
        refine .inr ⟨b, off, rfl, by have := lt_of_cell h00; simpa [Addr.add] using this, fun j u hu => ?_⟩
        rw [List.map_map] at hu
        have hj : j < len := by
          have := (List.getElem?_eq_some_iff.1 hu).1
          simp at this
          omega
        rw [List.getElem?_map, List.getElem?_take_of_lt hj, List.getElem?_eq_getElem (by omega)] at hu
        have hc := hcell j (by omega)
        rw [Addr.add_mid] at hc
        rw [hc, ← hu]
        simp [List.getD, strV, List.getElem?_eq_getElem (show j < ss.length by omega)]
    · intro t ht
      obtain ⟨s, hs, rfl⟩ := List.mem_map.1 ht
      have := hsz s (List.mem_of_mem_take hs)
      unfold maxLen at this
      rw [Array.length_toList]
      exact this
end
end Go.Proofs.Ytknkbioalohofaa
