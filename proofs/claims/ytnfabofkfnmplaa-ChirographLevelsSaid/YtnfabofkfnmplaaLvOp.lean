/- How lists of lists of entries come in as an argument. -/
import Derived.Test.YtnfabofkfnmplaaLvM
import Derived.Test.YtnfabofkfnmplaaRow
import Derived.Deep.Slices
import Derived.Deep.Grids
import Derived.Deep.MidRow
namespace Go.Proofs.Ytnfabofkfnmplaa
open Go.ChangeShapes Go.WideShapes Go.ChangeAt Go.RowKit Go.Deep

theorem cells_en : Try.prog.cellsOf 26 = 3 := by kernel_rfl
theorem cells_str : Try.prog.cellsOf 9 = 1 := by kernel_rfl
theorem cells_bool : Try.prog.cellsOf 4 = 1 := by kernel_rfl
theorem cells_ens : Try.prog.cellsOf 23 = 1 := by kernel_rfl
theorem und_rows : Try.prog.underlying 22 = some (.slice 23) := by kernel_rfl
theorem lt_of_cell {w : World} {a : Addr} {u : Value} (h : w.cell? a = some u) : a.block < w.heap.size := by
  rcases Nat.lt_or_ge a.block w.heap.size with h1 | h1
  · exact h1
  · exfalso
    unfold World.cell? at h
    rw [Array.getElem?_eq_none h1] at h
    revert h
    cases a.spot <;> simp
theorem choose_list {α : Type} (len : Nat) (P : Nat → α → Prop) (h : ∀ i, i < len → ∃ a, P i a) : ∃ l : List α, l.length = len ∧ ∀ i a, l[i]? = some a → P i a := by
  induction len with
  | zero => exact ⟨[], rfl, by simp⟩
  | succ n ih =>
    obtain ⟨l, h1, h2⟩ := ih fun i hi => h i (by omega)
    obtain ⟨a, ha⟩ := h n (by omega)
    refine ⟨l ++ [a], by simp [h1], fun i b hb => ?_⟩
    rcases Nat.lt_or_ge i l.length with hi | hi
    · rw [List.getElem?_append_left hi] at hb
      exact h2 i b hb
    · rw [List.getElem?_append_right hi] at hb
      have : i - l.length = 0 := by
        rcases Nat.eq_zero_or_pos (i - l.length) with e | e
        · exact e
        · rw [List.getElem?_eq_none (by simp; omega)] at hb; cases hb
      rw [this] at hb
      injection hb with hb
      rw [← hb, show i = n by omega]
      exact ha
section
variable {H : Type} {enc : TypeId × Value → H} {W : World} {base : Nat} {sp : Nat → Bool} {held : Bool} {v : Value} {d : DataW H} {p : List MemPlace}
theorem str_of_trod {fuel : Nat} {cs : List Value} {x : DataW H × List MemPlace} (h : DataW.trod enc Try.prog W 0 sp held fuel 9 cs = some x) : ∃ l : List UInt8, cs = [.string ⟨l.toArray⟩] := by
  obtain ⟨s, rfl, _, hs⟩ := DataW.trod_string Try.underlying9 h
  exact ⟨s.data.toList, rfl⟩
theorem one_of {cs : List Value} {i : Nat} {u : Value} (h : (cs.drop i).take 1 = [u]) : cs[i]? = some u := by
  have := congrArg (·[0]?) h
  simpa using this
set_option maxRecDepth 100000 in
theorem en_of_trod {fuel : Nat} {cs : List Value} {x : DataW H × List MemPlace} (hf : DataW.trod enc Try.prog W 0 sp held fuel 26 cs = some x) : ∃ a : L.En, cs = enC a := by
  obtain ⟨xs, n, _, _, hlen, hxs, hfs⟩ := DataW.trod_struct Try.underlying26 hf
  rw [cells_en] at hlen
  have hx : xs.length = 3 := hxs
  obtain ⟨y0, y1, y2, rfl⟩ : ∃ y0 y1 y2, xs = [y0, y1, y2] := by
    match xs, hx with
    | [y0, y1, y2], _ => exact ⟨y0, y1, y2, rfl⟩
  have f0 : DataW.trod enc Try.prog W 0 sp held n 9 ((cs.drop 0).take (Try.prog.cellsOf 9)) = some y0 := hfs 0 _ rfl
  have f1 : DataW.trod enc Try.prog W 0 sp held n 9 ((cs.drop 1).take (Try.prog.cellsOf 9)) = some y1 := hfs 1 _ rfl
  have f2 : DataW.trod enc Try.prog W 0 sp held n 4 ((cs.drop 2).take (Try.prog.cellsOf 4)) = some y2 := hfs 2 _ rfl
  rw [cells_str] at f0 f1
  rw [cells_bool] at f2
  obtain ⟨k, e0⟩ := str_of_trod f0
  obtain ⟨u, e1⟩ := str_of_trod f1
  obtain ⟨b, e2, _⟩ := DataW.trod_bool Try.underlying4 f2
  refine ⟨⟨k, u, b⟩, ?_⟩
  replace e0 := one_of e0
  replace e1 := one_of e1
  replace e2 := one_of e2
  match cs, hlen with
  | [c0, c1, c2], _ =>
    simp at e0 e1 e2
    subst e0 e1 e2
    rfl
theorem ens_of_trod {fuel : Nat} {cs : List Value} {x : DataW H × List MemPlace} (hf' : DataW.trod enc Try.prog W 0 sp held fuel 23 cs = some x) :
    ∃ (v : Value) (l : List L.En), cs = [v] ∧ ERead W v l := by
  rcases open_slice und_en hf' with ⟨hcs, hx⟩ | ⟨a, len, cap, m, n, Dd, Pl, hcs, _, hl, hm, hmm, hx, hcell⟩
  · exact ⟨_, [], hcs, none, 0, rfl, Nat.le_refl _, .inl rfl⟩
  · rw [cells_en] at hcell
    have hlen : len ≤ m := by rw [hmm]; split <;> omega
    obtain ⟨l, hl1, hl2⟩ := choose_list len (fun i x => W.cells? 0 (a.add (i * 3)) 3 = some (enC x)) fun i hi => by
      obtain ⟨cs', hc, ht⟩ := hcell i (by omega)
      obtain ⟨x, rfl⟩ := en_of_trod ht
      exact ⟨x, hc⟩
    refine ⟨_, l, hcs, some a, cap, by rw [List.length_map, hl1], by rw [List.length_map]; omega, ?_⟩
    by_cases h0 : len = 0
    · exact .inl (by rw [List.map_eq_nil_iff]; exact List.eq_nil_of_length_eq_zero (by omega))
    · obtain ⟨b, off, spot⟩ := a
      have hall := fun j x hj => World.cells?_some (hl2 j x hj)
      obtain ⟨x0, hx0⟩ : ∃ x0, l[0]? = some x0 := ⟨_, List.getElem?_eq_getElem (by omega)⟩
      have h00 : W.cell? (((⟨b, off, spot⟩ : Addr).add (0 * 3)).add 0) = some (.string ⟨x0.key.toArray⟩) := (hall 0 x0 hx0).2.2 0 (by omega)
      have hspot : spot = none := by simpa [Addr.add] using World.cell?_spot h00
      subst hspot
      refine .inr ⟨b, off, rfl, by have := lt_of_cell h00; simpa [Addr.add] using this, fun j y hj i u hu => ?_⟩
      rw [List.getElem?_map, Option.map_eq_some_iff] at hj
      obtain ⟨x, hxj, rfl⟩ := hj
      have hi : i < 3 := (List.getElem?_eq_some_iff.1 hu).1
      have hc := (hall j x hxj).2.2 i hi
      rw [Addr.add_mid, Addr.add_mid, hu] at hc
      exact hc
set_option maxRecDepth 1000000 in
theorem open_rows (hval : Value.okWide Try.prog W .any base 22 v) (h : DataW.Trod enc Try.prog W 0 sp held 22 v d p) :
    ∃ (vs : List Value) (ls : List (List L.En)), SRead W v vs ∧ ReadAll W vs ls := by
  obtain ⟨a0, len, cap, rfl⟩ := okWide_slice und_rows hval
  obtain ⟨fuel, hf⟩ := h
  have hf' : DataW.trod enc Try.prog W 0 sp held fuel 22 [.slice a0 len cap] = some (d, p) := hf
  rcases open_slice1 und_rows cells_ens hf' with ⟨hcs, hx⟩ | ⟨a, len', cap', m, n, V, Dd, Pl, hcs, _, hl, hm, hmm, hx, hcell⟩
  · simp at hcs
    obtain ⟨rfl, rfl, rfl⟩ := hcs
    exact ⟨[], [], ⟨none, 0, rfl, Nat.le_refl _, .inl rfl⟩, rfl, fun i v l hv _ => by cases hv⟩
  · simp at hcs
    obtain ⟨rfl, rfl, rfl⟩ := hcs
    have hlen : len ≤ m := by rw [hmm]; split <;> omega
    obtain ⟨l, hl1, hl2⟩ := choose_list len (fun i (x : Value × List L.En) => V i = x.1 ∧ ERead W x.1 x.2) fun i hi => by
      obtain ⟨_, ht⟩ := hcell i (by omega)
      obtain ⟨v, l, e, hE⟩ := ens_of_trod ht
      injection e with e
      exact ⟨(v, l), e, hE⟩
    refine ⟨l.map (·.1), l.map (·.2), ⟨some a, cap, by rw [List.length_map, hl1], by rw [List.length_map]; omega, ?_⟩, by rw [List.length_map, List.length_map], fun i v m hv hm => ?_⟩
    · by_cases h0 : len = 0
      · exact .inl (by rw [List.map_eq_nil_iff]; exact List.eq_nil_of_length_eq_zero (by omega))
      · obtain ⟨b, off, spot⟩ := a
        have hspot : spot = none := by simpa [Addr.add] using World.cell?_spot (hcell 0 (by omega)).1
        subst hspot
        have h00 := (hcell 0 (by omega)).1
        refine .inr ⟨b, off, rfl, by have := lt_of_cell h00; simpa [Addr.add] using this, fun j u hu => ?_⟩
        rw [List.getElem?_map, Option.map_eq_some_iff] at hu
        obtain ⟨x, hx, rfl⟩ := hu
        have hj : j < len := by rw [← hl1]; exact (List.getElem?_eq_some_iff.1 hx).1
        have hc := (hcell j (by omega)).1
        rw [Addr.add_mid, (hl2 j x hx).1] at hc
        exact hc
    · rw [List.getElem?_map, Option.map_eq_some_iff] at hv hm
      obtain ⟨x, hx, rfl⟩ := hv
      obtain ⟨y, hy, rfl⟩ := hm
      rw [hx] at hy
      injection hy with hy
      subst hy
      exact (hl2 i x hx).2
end
end Go.Proofs.Ytnfabofkfnmplaa
