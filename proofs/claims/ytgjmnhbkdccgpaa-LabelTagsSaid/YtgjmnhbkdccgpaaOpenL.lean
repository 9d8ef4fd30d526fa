/- How labels come in as arguments. -/
import Derived.Test.YtgjmnhbkdccgpaaShaAwake
namespace Go.Proofs.Ytgjmnhbkdccgpaa
open Go.ChangeShapes Go.WideShapes Go.ChangeAt Go.RowKit
section
variable {H : Type} {enc : TypeId × Value → H} {W : World} {base : Nat} {sp : Nat → Bool} {held : Bool} {v : Value} {d : DataW H} {p : List MemPlace}
set_option maxRecDepth 1000000 in
theorem open_lab (hval : Value.okWide Try.prog W .any base 25 v) (h : DataW.Trod enc Try.prog W 0 sp held 25 v d p) : ∃ l : List UInt8, l.length = 32 ∧ v = .agg (labA l) := by
  obtain ⟨cs, rfl, _, _⟩ : ∃ cs, v = .agg cs ∧ cs.size = Try.prog.cellsOf 25 ∧ Row.okWide Try.prog W .any base 25 cs := by
    simpa [Value.okWide, Try.underlying25] using hval
  obtain ⟨fuel, hf⟩ := h
  obtain ⟨l, hl, hcs⟩ := bytes_of_trod Try.underlying25 Try.underlying5 cells_u8 cells_lab hf
  refine ⟨l, hl, ?_⟩
  have : cs.toList = l.map byteV := hcs
  unfold labA
  rw [← this]
end
end Go.Proofs.Ytgjmnhbkdccgpaa
