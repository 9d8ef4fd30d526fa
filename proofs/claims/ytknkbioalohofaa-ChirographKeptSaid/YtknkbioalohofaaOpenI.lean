/- How lists of numbers and of truths come in as arguments. -/
import Derived.Test.YtknkbioalohofaaDkL
import Derived.Deep.Slices
import Derived.Deep.Grids
namespace Go.Proofs.Ytknkbioalohofaa
open Go.ChangeShapes Go.WideShapes Go.ChangeAt Go.RowKit Go.Deep

theorem wf_i64 {n : Int} (h : (Lit.int .i64 n).wf = true) : -9223372036854775808 ≤ n ∧ n < 9223372036854775808 := by
  simp only [Lit.wf, IntKind.min, IntKind.max, IntKind.signed, IntKind.bits, Bool.and_eq_true] at h
  have h0 := h.1
  have h1 := h.2
  simp at h0 h1
  omega
theorem cells_int : Try.prog.cellsOf 3 = 1 := by kernel_rfl
theorem cells_bool : Try.prog.cellsOf 4 = 1 := by kernel_rfl
section
variable {H : Type} {enc : TypeId × Value → H} {W : World} {base : Nat} {sp : Nat → Bool} {held : Bool} {v : Value} {d : DataW H} {p : List MemPlace}
theorem choose_list {α : Type} (len : Nat) (P : Nat → α → Prop) (h : ∀ i, i < len → ∃ a, P i a) : ∃ l : List α, l.length = len ∧ ∀ i a, l[i]? = some a → P i a := by
  induction len with
  | zero => exact ⟨[], rfl, by simp⟩
  | succ n ih =>
    obtain ⟨l, h1, h2⟩ := ih fun i hi => h i (by omega)
    obtain ⟨a, ha⟩ := h n (by omega)
    refine ⟨l ++ [a], by simp [h1], fun i b hb => ?_⟩
    rcases Nat.lt_or_ge i l.length with hi | hi
    · rw [List.getElem?_append_left hi] at hb
      exact h2 i b hb
    · rw [List.getElem?_append_right hi] at hb
      have : i - l.length = 0 := by
        rcases Nat.eq_zero_or_pos (i - l.length) with e | e
        · exact e
        · rw [List.getElem?_eq_none (by simp; omega)] at hb; cases hb
      rw [this] at hb
      injection hb with hb
      rw [← hb, show i = n by omega]
      exact ha
theorem nums_of_trod {fuel : Nat} {cs : List Value} {x : DataW H × List MemPlace} (hf' : DataW.trod enc Try.prog W 0 sp held fuel 39 cs = some x) :
    ∃ (v : Value) (l : List Int), cs = [v] ∧ IntsAt W v l ∧ l.length ≤ 9223372036854775807 ∧ ∀ a ∈ l, -9223372036854775808 ≤ a ∧ a < 9223372036854775808 := by
  rcases open_slice1 Try.underlying39 cells_int hf' with ⟨hcs, hx⟩ | ⟨a, len, cap, m, n, V, D, Pl, hcs, _, hl, hm, hmm, hx, hcell⟩
  · exact ⟨_, [], hcs, intsAt_nil W, by simp, by simp⟩
  · have hlen : len ≤ m := by rw [hmm]; split <;> omega
    obtain ⟨l, hl1, hl2⟩ := choose_list len (fun i x => V i = .int .i64 x ∧ (Lit.int .i64 x).wf = true) fun i hi => by
      obtain ⟨_, ht⟩ := hcell i (by omega)
      obtain ⟨x, hx, _, hw⟩ := DataW.trod_int Try.underlying3 ht
      exact ⟨x, by simpa using hx, hw⟩
    have hmx : cap ≤ 9223372036854775807 := by unfold maxLen at hm; exact hm
    refine ⟨_, l, hcs, ⟨some a, cap, by rw [List.length_map, hl1], by rw [List.length_map]; omega, ?_⟩, by omega, fun x hx => ?_⟩
    · by_cases h0 : len = 0
      · exact .inl (by rw [List.map_eq_nil_iff]; exact List.eq_nil_of_length_eq_zero (by omega))
      · obtain ⟨b, off, spot⟩ := a
        have hspot : spot = none := by simpa [Addr.add] using World.cell?_spot (hcell 0 (by omega)).1
        subst hspot
        have h00 := (hcell 0 (by omega)).1
        refine .inr ⟨b, off, rfl, by have := lt_of_cell h00; simpa [Addr.add] using this, fun j u hu => ?_⟩
        rw [List.getElem?_map, Option.map_eq_some_iff] at hu
        obtain ⟨x, hx, rfl⟩ := hu
        have hj : j < len := by rw [← hl1]; exact (List.getElem?_eq_some_iff.1 hx).1
        have hc := (hcell j (by omega)).1
        rw [Addr.add_mid, (hl2 j x hx).1] at hc
        exact hc
    · obtain ⟨i, hi⟩ := List.getElem?_of_mem hx
      exact wf_i64 (hl2 i x hi).2
set_option maxRecDepth 1000000 in
theorem open_nums (hval : Value.okWide Try.prog W .any base 39 v) (h : DataW.Trod enc Try.prog W 0 sp held 39 v d p) :
    ∃ l : List Int, IntsAt W v l ∧ l.length ≤ 9223372036854775807 ∧ ∀ a ∈ l, -9223372036854775808 ≤ a ∧ a < 9223372036854775808 := by
  obtain ⟨a0, len, cap, rfl⟩ := okWide_slice Try.underlying39 hval
  obtain ⟨fuel, hf⟩ := h
  have hf' : DataW.trod enc Try.prog W 0 sp held fuel 39 [.slice a0 len cap] = some (d, p) := hf
  obtain ⟨v, l, hv, r⟩ := nums_of_trod hf'
  injection hv with hv
  subst hv
  exact ⟨l, r⟩
/-- A slice that reads as these truths. -/
def BoolsAt (w : World) (v : Value) (l : List Bool) : Prop := SRead w v (l.map Value.bool)
set_option maxRecDepth 1000000 in
theorem open_truths (hval : Value.okWide Try.prog W .any base 87 v) (h : DataW.Trod enc Try.prog W 0 sp held 87 v d p) :
    ∃ l : List Bool, BoolsAt W v l ∧ l.length ≤ 9223372036854775807 := by
  obtain ⟨a0, len, cap, rfl⟩ := okWide_slice Try.underlying87 hval
  obtain ⟨fuel, hf⟩ := h
  have hf' : DataW.trod enc Try.prog W 0 sp held fuel 87 [.slice a0 len cap] = some (d, p) := hf
  rcases open_slice1 Try.underlying87 cells_bool hf' with ⟨hcs, hx⟩ | ⟨a, len', cap', m, n, V, D, Pl, hcs, _, hl, hm, hmm, hx, hcell⟩
  · simp at hcs
    obtain ⟨rfl, rfl, rfl⟩ := hcs
    exact ⟨[], ⟨none, 0, rfl, Nat.le_refl _, .inl rfl⟩, by simp⟩
  · simp at hcs
    obtain ⟨rfl, rfl, rfl⟩ := hcs
    have hlen : len ≤ m := by rw [hmm]; split <;> omega
    obtain ⟨l, hl1, hl2⟩ := choose_list len (fun i x => V i = .bool x) fun i hi => by
      obtain ⟨_, ht⟩ := hcell i (by omega)
      obtain ⟨x, hx, _⟩ := DataW.trod_bool Try.underlying4 ht
      exact ⟨x, by simpa using hx⟩
    have hmx : cap ≤ 9223372036854775807 := by unfold maxLen at hm; exact hm
    refine ⟨l, ⟨some a, cap, by rw [List.length_map, hl1], by rw [List.length_map]; omega, ?_⟩, by omega⟩
    by_cases h0 : len = 0
    · exact .inl (by rw [List.map_eq_nil_iff]; exact List.eq_nil_of_length_eq_zero (by omega))
    · obtain ⟨b, off, spot⟩ := a
      have hspot : spot = none := by simpa [Addr.add] using World.cell?_spot (hcell 0 (by omega)).1
      subst hspot
      have h00 := (hcell 0 (by omega)).1
      refine .inr ⟨b, off, rfl, by have := lt_of_cell h00; simpa [Addr.add] using this, fun j u hu => ?_⟩
      rw [List.getElem?_map, Option.map_eq_some_iff] at hu
      obtain ⟨x, hx, rfl⟩ := hu
      have hj : j < len := by rw [← hl1]; exact (List.getElem?_eq_some_iff.1 hx).1
      have hc := (hcell j (by omega)).1
      rw [Addr.add_mid, hl2 j x hx] at hc
      exact hc
end
end Go.Proofs.Ytknkbioalohofaa
