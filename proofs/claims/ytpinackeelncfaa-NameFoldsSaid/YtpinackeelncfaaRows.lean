/-
  No cell of these rows narrows 'for every input' (looked for: loops, veiled, ifaces, maps, wideKeys, modest, calm, conditions, laid).
  DERIVED. THE GIVEN ROWS OF THIS SEAT. 5 by the template 'for every input the law returns true; each argument reads behind the call as it read before'; 0 by the template 'total and deterministic' (their statements: YtpinackeelncfaaTotals.lean).
  GIVEN WITH THE SEED: the statements are not yours to turn. If you find one false, say at which input.
  Laid BY PROGRAM, IN A SANDBOX (cutbox-rows.mjs): the forced cells as the released guide's own fill.sh prints them over the translation 8a1c8edd78780ce3… (all of the seat's roots in one cut). By AI agents, Wed Nov 11 2026. No macro, syntax, notation, axiom, sorry.
-/
import Derived.Test.YtpinackeelncfaaChecked
import GoSem.Claim
import GoSem.ClaimJoined
import GoSem.ClaimMapViews
import Derived.JoinedTies
import Derived.KernelRfl
namespace Go.Proofs.Ytpinackeelncfaa
/- THE CELL 'sum', in the pinned program and in every row, IS THE sha256 OF THE DUMP (.gsa) THAT YtpinackeelncfaaProg.lean LOADS. Nothing in Lean hashes anything: it is a label: what it is worth is what the hold of that sum in a sandbox is worth. -/
noncomputable def Try.pinned : Pinned := { name := "ytpinackeelncfaa", sum := "8a1c8edd78780ce3c70389d783f632210031c28b9c6bed765d900e46ecbe53e2", checked := Try.checked }
namespace Rows
def none {H : Type} : Left H := { results := [], args := [] }

/-- 'chirographlaw06.NameChecks': WHATEVER THE INPUT: true; the input reads as it did. -/
def nameChecksSpec : ChangeSpec := { name := "nameChecks", fn := fun _ => fun
  | [d1, d2] => { results := [.lit (.bool true)], args := [d1, d2] }
  | _ => none }
def nameChecksRow : OpenClaim := { program := "ytpinackeelncfaa", sum := "8a1c8edd78780ce3c70389d783f632210031c28b9c6bed765d900e46ecbe53e2", func := "chirograph/chirographlaw06.NameChecks", spec := "nameChecks", apart := false }
def NameChecksSaid : Prop := nameChecksRow.holds Try.pinned (OpenSpec.ofChange nameChecksSpec)

/-- ITS FALSE NEIGHBOUR: 'it returns false'. Refute it at one input. -/
def nameChecksWrong : ChangeSpec := { name := "nameChecks", fn := fun _ => fun
  | [d1, d2] => { results := [.lit (.bool false)], args := [d1, d2] }
  | _ => none }
def NameChecksWrongFalsely : Prop := nameChecksRow.holds Try.pinned (OpenSpec.ofChange nameChecksWrong)

/-- 'chirographlaw06.NameJoins': WHATEVER THE INPUT: true; the input reads as it did. -/
def nameJoinsSpec : ChangeSpec := { name := "nameJoins", fn := fun _ => fun
  | [d1, d2, d3] => { results := [.lit (.bool true)], args := [d1, d2, d3] }
  | _ => none }
def nameJoinsRow : OpenClaim := { program := "ytpinackeelncfaa", sum := "8a1c8edd78780ce3c70389d783f632210031c28b9c6bed765d900e46ecbe53e2", func := "chirograph/chirographlaw06.NameJoins", spec := "nameJoins", apart := false }
def NameJoinsSaid : Prop := nameJoinsRow.holds Try.pinned (OpenSpec.ofChange nameJoinsSpec)

/-- ITS FALSE NEIGHBOUR: 'it returns false'. Refute it at one input. -/
def nameJoinsWrong : ChangeSpec := { name := "nameJoins", fn := fun _ => fun
  | [d1, d2, d3] => { results := [.lit (.bool false)], args := [d1, d2, d3] }
  | _ => none }
def NameJoinsWrongFalsely : Prop := nameJoinsRow.holds Try.pinned (OpenSpec.ofChange nameJoinsWrong)

/-- 'chirographlaw06.NameFolds': WHATEVER THE INPUT: true; the input reads as it did. -/
def nameFoldsSpec : ChangeSpec := { name := "nameFolds", fn := fun _ => fun
  | [d] => { results := [.lit (.bool true)], args := [d] }
  | _ => none }
def nameFoldsRow : OpenClaim := { program := "ytpinackeelncfaa", sum := "8a1c8edd78780ce3c70389d783f632210031c28b9c6bed765d900e46ecbe53e2", func := "chirograph/chirographlaw06.NameFolds", spec := "nameFolds", apart := false }
def NameFoldsSaid : Prop := nameFoldsRow.holds Try.pinned (OpenSpec.ofChange nameFoldsSpec)

/-- ITS FALSE NEIGHBOUR: 'it returns false'. Refute it at one input. -/
def nameFoldsWrong : ChangeSpec := { name := "nameFolds", fn := fun _ => fun
  | [d] => { results := [.lit (.bool false)], args := [d] }
  | _ => none }
def NameFoldsWrongFalsely : Prop := nameFoldsRow.holds Try.pinned (OpenSpec.ofChange nameFoldsWrong)

/-- 'chirographlaw06.NameTwice': WHATEVER THE INPUT: true; the input reads as it did. -/
def nameTwiceSpec : ChangeSpec := { name := "nameTwice", fn := fun _ => fun
  | [d] => { results := [.lit (.bool true)], args := [d] }
  | _ => none }
def nameTwiceRow : OpenClaim := { program := "ytpinackeelncfaa", sum := "8a1c8edd78780ce3c70389d783f632210031c28b9c6bed765d900e46ecbe53e2", func := "chirograph/chirographlaw06.NameTwice", spec := "nameTwice", apart := false }
def NameTwiceSaid : Prop := nameTwiceRow.holds Try.pinned (OpenSpec.ofChange nameTwiceSpec)

/-- ITS FALSE NEIGHBOUR: 'it returns false'. Refute it at one input. -/
def nameTwiceWrong : ChangeSpec := { name := "nameTwice", fn := fun _ => fun
  | [d] => { results := [.lit (.bool false)], args := [d] }
  | _ => none }
def NameTwiceWrongFalsely : Prop := nameTwiceRow.holds Try.pinned (OpenSpec.ofChange nameTwiceWrong)

/-- 'chirographlaw06.NameParts': WHATEVER THE INPUT: true; the input reads as it did. -/
def namePartsSpec : ChangeSpec := { name := "nameParts", fn := fun _ => fun
  | [d] => { results := [.lit (.bool true)], args := [d] }
  | _ => none }
def namePartsRow : OpenClaim := { program := "ytpinackeelncfaa", sum := "8a1c8edd78780ce3c70389d783f632210031c28b9c6bed765d900e46ecbe53e2", func := "chirograph/chirographlaw06.NameParts", spec := "nameParts", apart := false }
def NamePartsSaid : Prop := namePartsRow.holds Try.pinned (OpenSpec.ofChange namePartsSpec)

/-- ITS FALSE NEIGHBOUR: 'it returns false'. Refute it at one input. -/
def namePartsWrong : ChangeSpec := { name := "nameParts", fn := fun _ => fun
  | [d] => { results := [.lit (.bool false)], args := [d] }
  | _ => none }
def NamePartsWrongFalsely : Prop := namePartsRow.holds Try.pinned (OpenSpec.ofChange namePartsWrong)

/- THE SECOND FORM. 'bulk': how many values and letters a reading holds, each counted each time it is reached (what is shared counts as often as it is met; a slice's spare places count too). A statement '..UptoSaid' is the law's where the arguments, and the package variables that the reading takes, are together of bulk at most 1048576: NARROWER than '..Said'. Prove '..Said' where nothing that the law and all that it calls make is longer than what came in: it says more and counts as full. Else prove '..UptoSaid'. A law counts once. -/
mutual
def uptoBulk {H : Type} : DataW H → Nat
  | .lit (.string bytes) => bytes.length + 1
  | .lit _ => 1
  | .nil => 1
  | .ptr d => uptoBulk d + 1
  | .slice elems spare => uptoBulkAll elems + uptoBulkAll spare + 1
  | .agg parts => uptoBulkAll parts + 1
  | .iface _ d => uptoBulk d + 1
  | .map entries => uptoBulkEntries entries + 1
  | .held _ => 1
def uptoBulkAll {H : Type} : List (DataW H) → Nat
  | [] => 0
  | d :: r => uptoBulk d + uptoBulkAll r
def uptoBulkEntries {H : Type} : List (Lit × DataW H) → Nat
  | [] => 0
  | x :: r => uptoBulkEntry x + uptoBulkEntries r
def uptoBulkEntry {H : Type} : Lit × DataW H → Nat
  | (.string bytes, d) => bytes.length + uptoBulk d + 1
  | (_, d) => uptoBulk d + 1
 end
def uptoSmall : (H : Type) → List (DataW H) → Bool := fun _ ds => decide (uptoBulkAll ds ≤ 1048576)
def OpenSpec.upto (s : _root_.Go.ChangeSpec) : _root_.Go.OpenSpec := { _root_.Go.OpenSpec.ofChange s with cond := some uptoSmall }

/-- 'chirographlaw06.NameChecks', WHERE WHAT IT READS IS OF BULK AT MOST 1048576: true; the input reads as it did. -/
def nameChecksUptoRow : OpenClaim := { program := "ytpinackeelncfaa", sum := "8a1c8edd78780ce3c70389d783f632210031c28b9c6bed765d900e46ecbe53e2", func := "chirograph/chirographlaw06.NameChecks", spec := "nameChecks", apart := false, narrowed := true }
def NameChecksUptoSaid : Prop := nameChecksUptoRow.holds Try.pinned (OpenSpec.upto nameChecksSpec)

/-- 'chirographlaw06.NameJoins', WHERE WHAT IT READS IS OF BULK AT MOST 1048576: true; the input reads as it did. -/
def nameJoinsUptoRow : OpenClaim := { program := "ytpinackeelncfaa", sum := "8a1c8edd78780ce3c70389d783f632210031c28b9c6bed765d900e46ecbe53e2", func := "chirograph/chirographlaw06.NameJoins", spec := "nameJoins", apart := false, narrowed := true }
def NameJoinsUptoSaid : Prop := nameJoinsUptoRow.holds Try.pinned (OpenSpec.upto nameJoinsSpec)

/-- 'chirographlaw06.NameFolds', WHERE WHAT IT READS IS OF BULK AT MOST 1048576: true; the input reads as it did. -/
def nameFoldsUptoRow : OpenClaim := { program := "ytpinackeelncfaa", sum := "8a1c8edd78780ce3c70389d783f632210031c28b9c6bed765d900e46ecbe53e2", func := "chirograph/chirographlaw06.NameFolds", spec := "nameFolds", apart := false, narrowed := true }
def NameFoldsUptoSaid : Prop := nameFoldsUptoRow.holds Try.pinned (OpenSpec.upto nameFoldsSpec)

/-- 'chirographlaw06.NameTwice', WHERE WHAT IT READS IS OF BULK AT MOST 1048576: true; the input reads as it did. -/
def nameTwiceUptoRow : OpenClaim := { program := "ytpinackeelncfaa", sum := "8a1c8edd78780ce3c70389d783f632210031c28b9c6bed765d900e46ecbe53e2", func := "chirograph/chirographlaw06.NameTwice", spec := "nameTwice", apart := false, narrowed := true }
def NameTwiceUptoSaid : Prop := nameTwiceUptoRow.holds Try.pinned (OpenSpec.upto nameTwiceSpec)

/-- 'chirographlaw06.NameParts', WHERE WHAT IT READS IS OF BULK AT MOST 1048576: true; the input reads as it did. -/
def namePartsUptoRow : OpenClaim := { program := "ytpinackeelncfaa", sum := "8a1c8edd78780ce3c70389d783f632210031c28b9c6bed765d900e46ecbe53e2", func := "chirograph/chirographlaw06.NameParts", spec := "nameParts", apart := false, narrowed := true }
def NamePartsUptoSaid : Prop := namePartsUptoRow.holds Try.pinned (OpenSpec.upto namePartsSpec)

end Rows
end Go.Proofs.Ytpinackeelncfaa
