/- How a list of calls comes in as an argument. -/
import Derived.Test.YtknkbioalohofaaOpenI
import Derived.Deep.MidRow
namespace Go.Proofs.Ytknkbioalohofaa
open Go.ChangeShapes Go.WideShapes Go.ChangeAt Go.RowKit Go.Deep

namespace D
/-- A call of the disk laws. -/
structure A5 where
  kind : Int
  name : List UInt8
  to : List UInt8
  b : List UInt8
  n : Int
  keeps : List Int
  kv : Value
def A5.cells (a : A5) : List Value := [.int .i64 a.kind, .string ⟨a.name.toArray⟩, .string ⟨a.to.toArray⟩, .string ⟨a.b.toArray⟩, .int .i64 a.n, a.kv]
end D
structure ActOk (W : World) (a : D.A5) : Prop where
  kind : -9223372036854775808 ≤ a.kind ∧ a.kind < 9223372036854775808
  name : a.name.length ≤ 9223372036854775807
  to : a.to.length ≤ 9223372036854775807
  b : a.b.length ≤ 9223372036854775807
  n : -9223372036854775808 ≤ a.n ∧ a.n < 9223372036854775808
  ints : IntsAt W a.kv a.keeps
  wf : ∀ x ∈ a.keeps, -9223372036854775808 ≤ x ∧ x < 9223372036854775808
def ActsAt (w : World) (v : Value) (l : List D.A5) : Prop :=
  ∃ A c, v = .slice A l.length c ∧ l.length ≤ c ∧ (l = [] ∨ ∃ g o, A = some ⟨g, o, none⟩ ∧ g < w.heap.size ∧ ∀ j x, l[j]? = some x → w.rangeAt g (o + j * 6) x.cells) ∧ ∀ x ∈ l, ActOk w x
theorem cells_act : Try.prog.cellsOf 71 = 6 := by kernel_rfl
theorem cells_nums : Try.prog.cellsOf 39 = 1 := by kernel_rfl
section
variable {H : Type} {enc : TypeId × Value → H} {W : World} {base : Nat} {sp : Nat → Bool} {held : Bool} {v : Value} {d : DataW H} {p : List MemPlace}
theorem str_of_trod {fuel : Nat} {cs : List Value} {x : DataW H × List MemPlace} (h : DataW.trod enc Try.prog W 0 sp held fuel 9 cs = some x) : ∃ l : List UInt8, cs = [.string ⟨l.toArray⟩] ∧ l.length ≤ 9223372036854775807 := by
  obtain ⟨s, rfl, _, hs⟩ := DataW.trod_string Try.underlying9 h
  refine ⟨s.data.toList, rfl, ?_⟩
  rw [Array.length_toList]
  unfold maxLen at hs
  exact hs
theorem one_of {cs : List Value} {i : Nat} {u : Value} (h : (cs.drop i).take 1 = [u]) : cs[i]? = some u := by
  have := congrArg (·[0]?) h
  simpa using this
set_option maxRecDepth 100000 in
theorem act_of_trod {fuel : Nat} {cs : List Value} {x : DataW H × List MemPlace} (hf : DataW.trod enc Try.prog W 0 sp held fuel 71 cs = some x) : ∃ a : D.A5, cs = a.cells ∧ ActOk W a := by
  obtain ⟨xs, n, _, _, hlen, hxs, hfs⟩ := DataW.trod_struct Try.underlying71 hf
  rw [cells_act] at hlen
  have hx : xs.length = 6 := hxs
  obtain ⟨y0, y1, y2, y3, y4, y5, rfl⟩ : ∃ y0 y1 y2 y3 y4 y5, xs = [y0, y1, y2, y3, y4, y5] := by
    match xs, hx with
    | [y0, y1, y2, y3, y4, y5], _ => exact ⟨y0, y1, y2, y3, y4, y5, rfl⟩
  have f0 : DataW.trod enc Try.prog W 0 sp held n 3 ((cs.drop 0).take (Try.prog.cellsOf 3)) = some y0 := hfs 0 _ rfl
  have f1 : DataW.trod enc Try.prog W 0 sp held n 9 ((cs.drop 1).take (Try.prog.cellsOf 9)) = some y1 := hfs 1 _ rfl
  have f2 : DataW.trod enc Try.prog W 0 sp held n 9 ((cs.drop 2).take (Try.prog.cellsOf 9)) = some y2 := hfs 2 _ rfl
  have f3 : DataW.trod enc Try.prog W 0 sp held n 9 ((cs.drop 3).take (Try.prog.cellsOf 9)) = some y3 := hfs 3 _ rfl
  have f4 : DataW.trod enc Try.prog W 0 sp held n 3 ((cs.drop 4).take (Try.prog.cellsOf 3)) = some y4 := hfs 4 _ rfl
  have f5 : DataW.trod enc Try.prog W 0 sp held n 39 ((cs.drop 5).take (Try.prog.cellsOf 39)) = some y5 := hfs 5 _ rfl
  rw [cells_int] at f0 f4
  rw [cells_str] at f1 f2 f3
  rw [cells_nums] at f5
  obtain ⟨kind, e0, _, w0⟩ := DataW.trod_int Try.underlying3 f0
  obtain ⟨name, e1, w1⟩ := str_of_trod f1
  obtain ⟨to, e2, w2⟩ := str_of_trod f2
  obtain ⟨b, e3, w3⟩ := str_of_trod f3
  obtain ⟨m, e4, _, w4⟩ := DataW.trod_int Try.underlying3 f4
  obtain ⟨kv, l, e5, w5, _, w6⟩ := nums_of_trod f5
  refine ⟨⟨kind, name, to, b, m, l, kv⟩, ?_, ⟨wf_i64 w0, w1, w2, w3, wf_i64 w4, w5, w6⟩⟩
  replace e0 := one_of e0
  replace e1 := one_of e1
  replace e2 := one_of e2
  replace e3 := one_of e3
  replace e4 := one_of e4
  replace e5 := one_of e5
  match cs, hlen with
  | [c0, c1, c2, c3, c4, c5], _ =>
    simp at e0 e1 e2 e3 e4 e5
    subst e0 e1 e2 e3 e4 e5
    rfl
set_option maxRecDepth 1000000 in
theorem open_acts (hval : Value.okWide Try.prog W .any base 69 v) (h : DataW.Trod enc Try.prog W 0 sp held 69 v d p) : ∃ l : List D.A5, ActsAt W v l := by
  obtain ⟨a0, len, cap, rfl⟩ := okWide_slice Try.underlying69 hval
  obtain ⟨fuel, hf⟩ := h
  have hf' : DataW.trod enc Try.prog W 0 sp held fuel 69 [.slice a0 len cap] = some (d, p) := hf
  rcases open_slice Try.underlying69 hf' with ⟨hcs, hx⟩ | ⟨a, len', cap', m, n, Dd, Pl, hcs, _, hl, hm, hmm, hx, hcell⟩
  · simp at hcs
    obtain ⟨rfl, rfl, rfl⟩ := hcs
    exact ⟨[], none, 0, rfl, Nat.le_refl _, .inl rfl, by simp⟩
  · simp at hcs
    obtain ⟨rfl, rfl, rfl⟩ := hcs
    rw [cells_act] at hcell
    have hlen : len ≤ m := by rw [hmm]; split <;> omega
    obtain ⟨l, hl1, hl2⟩ := choose_list len (fun i x => W.cells? 0 (a.add (i * 6)) 6 = some x.cells ∧ ActOk W x) fun i hi => by
      obtain ⟨cs', hc, ht⟩ := hcell i (by omega)
      obtain ⟨x, rfl, hx⟩ := act_of_trod ht
      exact ⟨x, hc, hx⟩
    refine ⟨l, some a, cap, by rw [hl1], by omega, ?_, fun x hx => ?_⟩
    · by_cases h0 : len = 0
      · exact .inl (List.eq_nil_of_length_eq_zero (by omega))
      · obtain ⟨b, off, spot⟩ := a
        have hall := fun j x hj => World.cells?_some (hl2 j x hj).1
        have hlx : ∀ (x : D.A5), x.cells.length = 6 := fun _ => rfl
        obtain ⟨x0, hx0⟩ : ∃ x0, l[0]? = some x0 := ⟨_, List.getElem?_eq_getElem (by omega)⟩
        have h00 : W.cell? (((⟨b, off, spot⟩ : Addr).add (0 * 6)).add 0) = some (.int .i64 x0.kind) := (hall 0 x0 hx0).2.2 0 (by omega)
        have hspot : spot = none := by simpa [Addr.add] using World.cell?_spot h00
        subst hspot
        refine .inr ⟨b, off, rfl, by have := lt_of_cell h00; simpa [Addr.add] using this, fun j x hj i u hu => ?_⟩
        have hi : i < 6 := by rw [← hlx x]; exact (List.getElem?_eq_some_iff.1 hu).1
        have hc := (hall j x hj).2.2 i hi
        rw [Addr.add_mid, Addr.add_mid, hu] at hc
        exact hc
    · obtain ⟨i, hi⟩ := List.getElem?_of_mem hx
      exact (hl2 i x hi).2
end
end Go.Proofs.Ytknkbioalohofaa
