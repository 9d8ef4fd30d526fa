/-
  No cell of these rows narrows 'for every input' (looked for: loops, veiled, ifaces, maps, wideKeys, modest, calm, conditions, laid).
  DERIVED. THE GIVEN ROWS OF THIS SEAT. 9 by the template 'for every input the law returns true; each argument reads behind the call as it read before'; 0 by the template 'total and deterministic' (their statements: YtokjmdlklhkjlaaTotals.lean).
  GIVEN WITH THE SEED: the statements are not yours to turn. If you find one false, say at which input.
  Laid BY PROGRAM, IN A SANDBOX (cutbox-rows.mjs): the forced cells as the released guide's own fill.sh prints them over the translation 1f306f800682cc3c… (all of the seat's roots in one cut). By AI agents, Wed Nov 11 2026. No macro, syntax, notation, axiom, sorry.
-/
import Derived.Test.YtokjmdlklhkjlaaChecked
import GoSem.Claim
import GoSem.ClaimJoined
import GoSem.ClaimMapViews
import Derived.JoinedTies
import Derived.KernelRfl
namespace Go.Proofs.Ytokjmdlklhkjlaa
/- THE CELL 'sum', in the pinned program and in every row, IS THE sha256 OF THE DUMP (.gsa) THAT YtokjmdlklhkjlaaProg.lean LOADS. Nothing in Lean hashes anything: it is a label: what it is worth is what the hold of that sum in a sandbox is worth. -/
noncomputable def Try.pinned : Pinned := { name := "ytokjmdlklhkjlaa", sum := "1f306f800682cc3c7346fb150befa6a5e64d5c3c76d68cb19e7bf38ebf6ac0ba", checked := Try.checked }
namespace Rows
def none {H : Type} : Left H := { results := [], args := [] }

/-- 'chirographlaw01.BitsLooks': WHATEVER THE INPUT: true; the input reads as it did. -/
def bitsLooksSpec : ChangeSpec := { name := "bitsLooks", fn := fun _ => fun
  | [d1, d2, d3] => { results := [.lit (.bool true)], args := [d1, d2, d3] }
  | _ => none }
def bitsLooksRow : OpenClaim := { program := "ytokjmdlklhkjlaa", sum := "1f306f800682cc3c7346fb150befa6a5e64d5c3c76d68cb19e7bf38ebf6ac0ba", func := "chirograph/chirographlaw01.BitsLooks", spec := "bitsLooks", inPlace := ["internal/bytealg.Compare"], apart := false }
def BitsLooksSaid : Prop := bitsLooksRow.holds Try.pinned (OpenSpec.ofChange bitsLooksSpec)

/-- ITS FALSE NEIGHBOUR: 'it returns false'. Refute it at one input. -/
def bitsLooksWrong : ChangeSpec := { name := "bitsLooks", fn := fun _ => fun
  | [d1, d2, d3] => { results := [.lit (.bool false)], args := [d1, d2, d3] }
  | _ => none }
def BitsLooksWrongFalsely : Prop := bitsLooksRow.holds Try.pinned (OpenSpec.ofChange bitsLooksWrong)

/-- 'chirographlaw01.BitsNext': WHATEVER THE INPUT: true; the input reads as it did. -/
def bitsNextSpec : ChangeSpec := { name := "bitsNext", fn := fun _ => fun
  | [d1, d2] => { results := [.lit (.bool true)], args := [d1, d2] }
  | _ => none }
def bitsNextRow : OpenClaim := { program := "ytokjmdlklhkjlaa", sum := "1f306f800682cc3c7346fb150befa6a5e64d5c3c76d68cb19e7bf38ebf6ac0ba", func := "chirograph/chirographlaw01.BitsNext", spec := "bitsNext", inPlace := ["internal/bytealg.Compare"], apart := false }
def BitsNextSaid : Prop := bitsNextRow.holds Try.pinned (OpenSpec.ofChange bitsNextSpec)

/-- ITS FALSE NEIGHBOUR: 'it returns false'. Refute it at one input. -/
def bitsNextWrong : ChangeSpec := { name := "bitsNext", fn := fun _ => fun
  | [d1, d2] => { results := [.lit (.bool false)], args := [d1, d2] }
  | _ => none }
def BitsNextWrongFalsely : Prop := bitsNextRow.holds Try.pinned (OpenSpec.ofChange bitsNextWrong)

/-- 'chirographlaw01.BitsBetween': WHATEVER THE INPUT: true; the input reads as it did. -/
def bitsBetweenSpec : ChangeSpec := { name := "bitsBetween", fn := fun _ => fun
  | [d1, d2, d3] => { results := [.lit (.bool true)], args := [d1, d2, d3] }
  | _ => none }
def bitsBetweenRow : OpenClaim := { program := "ytokjmdlklhkjlaa", sum := "1f306f800682cc3c7346fb150befa6a5e64d5c3c76d68cb19e7bf38ebf6ac0ba", func := "chirograph/chirographlaw01.BitsBetween", spec := "bitsBetween", inPlace := ["internal/bytealg.Compare"], apart := false }
def BitsBetweenSaid : Prop := bitsBetweenRow.holds Try.pinned (OpenSpec.ofChange bitsBetweenSpec)

/-- ITS FALSE NEIGHBOUR: 'it returns false'. Refute it at one input. -/
def bitsBetweenWrong : ChangeSpec := { name := "bitsBetween", fn := fun _ => fun
  | [d1, d2, d3] => { results := [.lit (.bool false)], args := [d1, d2, d3] }
  | _ => none }
def BitsBetweenWrongFalsely : Prop := bitsBetweenRow.holds Try.pinned (OpenSpec.ofChange bitsBetweenWrong)

/-- 'chirographlaw01.BitsParted': WHATEVER THE INPUT: true; the input reads as it did. -/
def bitsPartedSpec : ChangeSpec := { name := "bitsParted", fn := fun _ => fun
  | [d1, d2] => { results := [.lit (.bool true)], args := [d1, d2] }
  | _ => none }
def bitsPartedRow : OpenClaim := { program := "ytokjmdlklhkjlaa", sum := "1f306f800682cc3c7346fb150befa6a5e64d5c3c76d68cb19e7bf38ebf6ac0ba", func := "chirograph/chirographlaw01.BitsParted", spec := "bitsParted", inPlace := ["internal/bytealg.Compare"], apart := false }
def BitsPartedSaid : Prop := bitsPartedRow.holds Try.pinned (OpenSpec.ofChange bitsPartedSpec)

/-- ITS FALSE NEIGHBOUR: 'it returns false'. Refute it at one input. -/
def bitsPartedWrong : ChangeSpec := { name := "bitsParted", fn := fun _ => fun
  | [d1, d2] => { results := [.lit (.bool false)], args := [d1, d2] }
  | _ => none }
def BitsPartedWrongFalsely : Prop := bitsPartedRow.holds Try.pinned (OpenSpec.ofChange bitsPartedWrong)

/-- 'chirographlaw01.BitsCuts': WHATEVER THE INPUT: true; the input reads as it did. -/
def bitsCutsSpec : ChangeSpec := { name := "bitsCuts", fn := fun _ => fun
  | [d1, d2, d3, d4] => { results := [.lit (.bool true)], args := [d1, d2, d3, d4] }
  | _ => none }
def bitsCutsRow : OpenClaim := { program := "ytokjmdlklhkjlaa", sum := "1f306f800682cc3c7346fb150befa6a5e64d5c3c76d68cb19e7bf38ebf6ac0ba", func := "chirograph/chirographlaw01.BitsCuts", spec := "bitsCuts", inPlace := ["internal/bytealg.Compare"], apart := false }
def BitsCutsSaid : Prop := bitsCutsRow.holds Try.pinned (OpenSpec.ofChange bitsCutsSpec)

/-- ITS FALSE NEIGHBOUR: 'it returns false'. Refute it at one input. -/
def bitsCutsWrong : ChangeSpec := { name := "bitsCuts", fn := fun _ => fun
  | [d1, d2, d3, d4] => { results := [.lit (.bool false)], args := [d1, d2, d3, d4] }
  | _ => none }
def BitsCutsWrongFalsely : Prop := bitsCutsRow.holds Try.pinned (OpenSpec.ofChange bitsCutsWrong)

/-- 'chirographlaw01.BitsGrown': WHATEVER THE INPUT: true; the input reads as it did. -/
def bitsGrownSpec : ChangeSpec := { name := "bitsGrown", fn := fun _ => fun
  | [d1, d2] => { results := [.lit (.bool true)], args := [d1, d2] }
  | _ => none }
def bitsGrownRow : OpenClaim := { program := "ytokjmdlklhkjlaa", sum := "1f306f800682cc3c7346fb150befa6a5e64d5c3c76d68cb19e7bf38ebf6ac0ba", func := "chirograph/chirographlaw01.BitsGrown", spec := "bitsGrown", inPlace := ["internal/bytealg.Compare"], apart := false }
def BitsGrownSaid : Prop := bitsGrownRow.holds Try.pinned (OpenSpec.ofChange bitsGrownSpec)

/-- ITS FALSE NEIGHBOUR: 'it returns false'. Refute it at one input. -/
def bitsGrownWrong : ChangeSpec := { name := "bitsGrown", fn := fun _ => fun
  | [d1, d2] => { results := [.lit (.bool false)], args := [d1, d2] }
  | _ => none }
def BitsGrownWrongFalsely : Prop := bitsGrownRow.holds Try.pinned (OpenSpec.ofChange bitsGrownWrong)

/-- 'chirographtop.ChirographSpelled': WHATEVER THE INPUT: true; the input reads as it did. -/
def chirographSpelledSpec : ChangeSpec := { name := "chirographSpelled", fn := fun _ => fun
  | [d1, d2, d3] => { results := [.lit (.bool true)], args := [d1, d2, d3] }
  | _ => none }
def chirographSpelledRow : OpenClaim := { program := "ytokjmdlklhkjlaa", sum := "1f306f800682cc3c7346fb150befa6a5e64d5c3c76d68cb19e7bf38ebf6ac0ba", func := "chirograph/chirographtop.ChirographSpelled", spec := "chirographSpelled", apart := false }
def ChirographSpelledSaid : Prop := chirographSpelledRow.holds Try.pinned (OpenSpec.ofChange chirographSpelledSpec)

/-- ITS FALSE NEIGHBOUR: 'it returns false'. Refute it at one input. -/
def chirographSpelledWrong : ChangeSpec := { name := "chirographSpelled", fn := fun _ => fun
  | [d1, d2, d3] => { results := [.lit (.bool false)], args := [d1, d2, d3] }
  | _ => none }
def ChirographSpelledWrongFalsely : Prop := chirographSpelledRow.holds Try.pinned (OpenSpec.ofChange chirographSpelledWrong)

/-- 'chirographlaw01.BitsHex': WHATEVER THE INPUT: true; the input reads as it did. -/
def bitsHexSpec : ChangeSpec := { name := "bitsHex", fn := fun _ => fun
  | [d1, d2] => { results := [.lit (.bool true)], args := [d1, d2] }
  | _ => none }
def bitsHexRow : OpenClaim := { program := "ytokjmdlklhkjlaa", sum := "1f306f800682cc3c7346fb150befa6a5e64d5c3c76d68cb19e7bf38ebf6ac0ba", func := "chirograph/chirographlaw01.BitsHex", spec := "bitsHex", inPlace := ["internal/bytealg.Compare"], apart := false }
def BitsHexSaid : Prop := bitsHexRow.holds Try.pinned (OpenSpec.ofChange bitsHexSpec)

/-- ITS FALSE NEIGHBOUR: 'it returns false'. Refute it at one input. -/
def bitsHexWrong : ChangeSpec := { name := "bitsHex", fn := fun _ => fun
  | [d1, d2] => { results := [.lit (.bool false)], args := [d1, d2] }
  | _ => none }
def BitsHexWrongFalsely : Prop := bitsHexRow.holds Try.pinned (OpenSpec.ofChange bitsHexWrong)

/-- 'chirographlaw01.BitsRead': WHATEVER THE INPUT: true; the input reads as it did. -/
def bitsReadSpec : ChangeSpec := { name := "bitsRead", fn := fun _ => fun
  | [d1, d2] => { results := [.lit (.bool true)], args := [d1, d2] }
  | _ => none }
def bitsReadRow : OpenClaim := { program := "ytokjmdlklhkjlaa", sum := "1f306f800682cc3c7346fb150befa6a5e64d5c3c76d68cb19e7bf38ebf6ac0ba", func := "chirograph/chirographlaw01.BitsRead", spec := "bitsRead", inPlace := ["internal/bytealg.Compare"], apart := false }
def BitsReadSaid : Prop := bitsReadRow.holds Try.pinned (OpenSpec.ofChange bitsReadSpec)

/-- ITS FALSE NEIGHBOUR: 'it returns false'. Refute it at one input. -/
def bitsReadWrong : ChangeSpec := { name := "bitsRead", fn := fun _ => fun
  | [d1, d2] => { results := [.lit (.bool false)], args := [d1, d2] }
  | _ => none }
def BitsReadWrongFalsely : Prop := bitsReadRow.holds Try.pinned (OpenSpec.ofChange bitsReadWrong)

/- THE SECOND FORM. 'bulk': how many values and letters a reading holds, each counted each time it is reached (what is shared counts as often as it is met; a slice's spare places count too). A statement '..UptoSaid' is the law's where the arguments, and the package variables that the reading takes, are together of bulk at most 1048576: NARROWER than '..Said'. Prove '..Said' where nothing that the law and all that it calls make is longer than what came in: it says more and counts as full. Else prove '..UptoSaid'. A law counts once. -/
mutual
def uptoBulk {H : Type} : DataW H → Nat
  | .lit (.string bytes) => bytes.length + 1
  | .lit _ => 1
  | .nil => 1
  | .ptr d => uptoBulk d + 1
  | .slice elems spare => uptoBulkAll elems + uptoBulkAll spare + 1
  | .agg parts => uptoBulkAll parts + 1
  | .iface _ d => uptoBulk d + 1
  | .map entries => uptoBulkEntries entries + 1
  | .held _ => 1
def uptoBulkAll {H : Type} : List (DataW H) → Nat
  | [] => 0
  | d :: r => uptoBulk d + uptoBulkAll r
def uptoBulkEntries {H : Type} : List (Lit × DataW H) → Nat
  | [] => 0
  | x :: r => uptoBulkEntry x + uptoBulkEntries r
def uptoBulkEntry {H : Type} : Lit × DataW H → Nat
  | (.string bytes, d) => bytes.length + uptoBulk d + 1
  | (_, d) => uptoBulk d + 1
 end
def uptoSmall : (H : Type) → List (DataW H) → Bool := fun _ ds => decide (uptoBulkAll ds ≤ 1048576)
def OpenSpec.upto (s : _root_.Go.ChangeSpec) : _root_.Go.OpenSpec := { _root_.Go.OpenSpec.ofChange s with cond := some uptoSmall }

/-- 'chirographlaw01.BitsLooks', WHERE WHAT IT READS IS OF BULK AT MOST 1048576: true; the input reads as it did. -/
def bitsLooksUptoRow : OpenClaim := { program := "ytokjmdlklhkjlaa", sum := "1f306f800682cc3c7346fb150befa6a5e64d5c3c76d68cb19e7bf38ebf6ac0ba", func := "chirograph/chirographlaw01.BitsLooks", spec := "bitsLooks", inPlace := ["internal/bytealg.Compare"], apart := false, narrowed := true }
def BitsLooksUptoSaid : Prop := bitsLooksUptoRow.holds Try.pinned (OpenSpec.upto bitsLooksSpec)

/-- 'chirographlaw01.BitsNext', WHERE WHAT IT READS IS OF BULK AT MOST 1048576: true; the input reads as it did. -/
def bitsNextUptoRow : OpenClaim := { program := "ytokjmdlklhkjlaa", sum := "1f306f800682cc3c7346fb150befa6a5e64d5c3c76d68cb19e7bf38ebf6ac0ba", func := "chirograph/chirographlaw01.BitsNext", spec := "bitsNext", inPlace := ["internal/bytealg.Compare"], apart := false, narrowed := true }
def BitsNextUptoSaid : Prop := bitsNextUptoRow.holds Try.pinned (OpenSpec.upto bitsNextSpec)

/-- 'chirographlaw01.BitsBetween', WHERE WHAT IT READS IS OF BULK AT MOST 1048576: true; the input reads as it did. -/
def bitsBetweenUptoRow : OpenClaim := { program := "ytokjmdlklhkjlaa", sum := "1f306f800682cc3c7346fb150befa6a5e64d5c3c76d68cb19e7bf38ebf6ac0ba", func := "chirograph/chirographlaw01.BitsBetween", spec := "bitsBetween", inPlace := ["internal/bytealg.Compare"], apart := false, narrowed := true }
def BitsBetweenUptoSaid : Prop := bitsBetweenUptoRow.holds Try.pinned (OpenSpec.upto bitsBetweenSpec)

/-- 'chirographlaw01.BitsParted', WHERE WHAT IT READS IS OF BULK AT MOST 1048576: true; the input reads as it did. -/
def bitsPartedUptoRow : OpenClaim := { program := "ytokjmdlklhkjlaa", sum := "1f306f800682cc3c7346fb150befa6a5e64d5c3c76d68cb19e7bf38ebf6ac0ba", func := "chirograph/chirographlaw01.BitsParted", spec := "bitsParted", inPlace := ["internal/bytealg.Compare"], apart := false, narrowed := true }
def BitsPartedUptoSaid : Prop := bitsPartedUptoRow.holds Try.pinned (OpenSpec.upto bitsPartedSpec)

/-- 'chirographlaw01.BitsCuts', WHERE WHAT IT READS IS OF BULK AT MOST 1048576: true; the input reads as it did. -/
def bitsCutsUptoRow : OpenClaim := { program := "ytokjmdlklhkjlaa", sum := "1f306f800682cc3c7346fb150befa6a5e64d5c3c76d68cb19e7bf38ebf6ac0ba", func := "chirograph/chirographlaw01.BitsCuts", spec := "bitsCuts", inPlace := ["internal/bytealg.Compare"], apart := false, narrowed := true }
def BitsCutsUptoSaid : Prop := bitsCutsUptoRow.holds Try.pinned (OpenSpec.upto bitsCutsSpec)

/-- 'chirographlaw01.BitsGrown', WHERE WHAT IT READS IS OF BULK AT MOST 1048576: true; the input reads as it did. -/
def bitsGrownUptoRow : OpenClaim := { program := "ytokjmdlklhkjlaa", sum := "1f306f800682cc3c7346fb150befa6a5e64d5c3c76d68cb19e7bf38ebf6ac0ba", func := "chirograph/chirographlaw01.BitsGrown", spec := "bitsGrown", inPlace := ["internal/bytealg.Compare"], apart := false, narrowed := true }
def BitsGrownUptoSaid : Prop := bitsGrownUptoRow.holds Try.pinned (OpenSpec.upto bitsGrownSpec)

/-- 'chirographtop.ChirographSpelled', WHERE WHAT IT READS IS OF BULK AT MOST 1048576: true; the input reads as it did. -/
def chirographSpelledUptoRow : OpenClaim := { program := "ytokjmdlklhkjlaa", sum := "1f306f800682cc3c7346fb150befa6a5e64d5c3c76d68cb19e7bf38ebf6ac0ba", func := "chirograph/chirographtop.ChirographSpelled", spec := "chirographSpelled", apart := false, narrowed := true }
def ChirographSpelledUptoSaid : Prop := chirographSpelledUptoRow.holds Try.pinned (OpenSpec.upto chirographSpelledSpec)

/-- 'chirographlaw01.BitsHex', WHERE WHAT IT READS IS OF BULK AT MOST 1048576: true; the input reads as it did. -/
def bitsHexUptoRow : OpenClaim := { program := "ytokjmdlklhkjlaa", sum := "1f306f800682cc3c7346fb150befa6a5e64d5c3c76d68cb19e7bf38ebf6ac0ba", func := "chirograph/chirographlaw01.BitsHex", spec := "bitsHex", inPlace := ["internal/bytealg.Compare"], apart := false, narrowed := true }
def BitsHexUptoSaid : Prop := bitsHexUptoRow.holds Try.pinned (OpenSpec.upto bitsHexSpec)

/-- 'chirographlaw01.BitsRead', WHERE WHAT IT READS IS OF BULK AT MOST 1048576: true; the input reads as it did. -/
def bitsReadUptoRow : OpenClaim := { program := "ytokjmdlklhkjlaa", sum := "1f306f800682cc3c7346fb150befa6a5e64d5c3c76d68cb19e7bf38ebf6ac0ba", func := "chirograph/chirographlaw01.BitsRead", spec := "bitsRead", inPlace := ["internal/bytealg.Compare"], apart := false, narrowed := true }
def BitsReadUptoSaid : Prop := bitsReadUptoRow.holds Try.pinned (OpenSpec.upto bitsReadSpec)

end Rows
end Go.Proofs.Ytokjmdlklhkjlaa
