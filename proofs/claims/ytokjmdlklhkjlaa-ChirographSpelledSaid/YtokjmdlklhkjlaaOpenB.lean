/- How labels and prefixes come in as arguments. -/
import Derived.Test.YtokjmdlklhkjlaaRow
import Derived.Test.YtokjmdlklhkjlaaWGood
namespace Go.Proofs.Ytokjmdlklhkjlaa
open Go.ChangeShapes Go.WideShapes Go.ChangeAt Go.RowKit
section
variable {H : Type} {enc : TypeId × Value → H} {W : World} {base : Nat} {sp : Nat → Bool} {held : Bool} {v : Value} {d : DataW H} {p : List MemPlace}
theorem open_lab (hval : Value.okWide Try.prog W .any base 23 v) (h : DataW.Trod enc Try.prog W 0 sp held 23 v d p) : ∃ l : List UInt8, l.length = 32 ∧ v = .agg (labA l) := by
  obtain ⟨cs, rfl, _, _⟩ : ∃ cs, v = .agg cs ∧ cs.size = Try.prog.cellsOf 23 ∧ Row.okWide Try.prog W .any base 23 cs := by
    simpa [Value.okWide, Try.underlying23] using hval
  obtain ⟨fuel, hf⟩ := h
  obtain ⟨l, hl, hcs⟩ := bytes_of_trod Try.underlying23 Try.underlying5 cells5 cells23 hf
  refine ⟨l, hl, ?_⟩
  have : cs.toList = l.map byteV := hcs
  unfold labA
  rw [← this]
theorem open_pref (hval : Value.okWide Try.prog W .any base 29 v) (h : DataW.Trod enc Try.prog W 0 sp held 29 v d p) : ∃ (n : Int) (l : List UInt8), (Lit.int .i64 n).wf = true ∧ l.length = 32 ∧ v = .agg (prefA n l) := by
  obtain ⟨cs, rfl, _, _⟩ : ∃ cs, v = .agg cs ∧ cs.size = Try.prog.cellsOf 29 ∧ Row.okWide Try.prog W .any base 29 cs := by
    simpa [Value.okWide, Try.underlying29] using hval
  obtain ⟨fuel, hf⟩ := h
  obtain ⟨xs, m, _, _, hlen, hxs, hg⟩ := DataW.trod_struct Try.underlying29 hf
  rw [cells29] at hlen
  have hx2 : xs.length = 2 := hxs
  have g0 : DataW.trod enc Try.prog W 0 sp held m 3 (((Value.agg cs).cells.toList.drop 0).take (Try.prog.cellsOf 3)) = xs[0]? := hg 0 _ rfl
  have g1 : DataW.trod enc Try.prog W 0 sp held m 23 (((Value.agg cs).cells.toList.drop 1).take (Try.prog.cellsOf 23)) = xs[1]? := hg 1 _ rfl
  rw [cells3, List.drop_zero] at g0
  rw [cells23] at g1
  match cs, hlen, g0, g1 with
  | ⟨c :: cs⟩, hlen, g0, g1 =>
    rw [List.getElem?_eq_getElem (show 0 < xs.length by omega)] at g0
    rw [List.getElem?_eq_getElem (show 1 < xs.length by omega)] at g1
    obtain ⟨n, hn, _, hwf⟩ := DataW.trod_int Try.underlying3 g0
    have hl32 : (List.take 32 (List.drop 1 (Value.agg ⟨c :: cs⟩).cells.toList)) = cs := by
      show List.take 32 (List.drop 1 (c :: cs)) = cs
      have : cs.length = 32 := by simpa [Value.cells] using hlen
      rw [List.drop_succ_cons, List.drop_zero, List.take_of_length_le (by omega)]
    rw [hl32] at g1
    obtain ⟨l, hl, hcs⟩ := bytes_of_trod Try.underlying23 Try.underlying5 cells5 cells23 g1
    have hc : c = .int .i64 n := by simpa [Value.cells] using hn
    refine ⟨n, l, hwf, hl, ?_⟩
    unfold prefA
    rw [hc, hcs]
  | ⟨[]⟩, hlen, _, _ => simp [Value.cells] at hlen
end
end Go.Proofs.Ytokjmdlklhkjlaa
