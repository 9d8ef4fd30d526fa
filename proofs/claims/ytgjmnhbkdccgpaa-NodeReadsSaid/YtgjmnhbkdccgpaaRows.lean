/-
  No cell of these rows narrows 'for every input' (looked for: loops, veiled, ifaces, maps, wideKeys, modest, calm, conditions, laid).
  DERIVED. THE GIVEN ROWS OF THIS SEAT. 15 by the template 'for every input the law returns true; each argument reads behind the call as it read before'; 0 by the template 'total and deterministic' (their statements: YtgjmnhbkdccgpaaTotals.lean).
  GIVEN WITH THE SEED: the statements are not yours to turn. If you find one false, say at which input.
  Laid BY PROGRAM, IN A SANDBOX (cutbox-rows.mjs): the forced cells as the released guide's own fill.sh prints them over the translation badda7b7396896b8… (all of the seat's roots in one cut). By AI agents, Wed Nov 11 2026. No macro, syntax, notation, axiom, sorry.
-/
import Derived.Test.YtgjmnhbkdccgpaaChecked
import GoSem.Claim
import GoSem.ClaimJoined
import GoSem.ClaimMapViews
import Derived.JoinedTies
import Derived.KernelRfl
namespace Go.Proofs.Ytgjmnhbkdccgpaa
/- THE CELL 'sum', in the pinned program and in every row, IS THE sha256 OF THE DUMP (.gsa) THAT YtgjmnhbkdccgpaaProg.lean LOADS. Nothing in Lean hashes anything: it is a label: what it is worth is what the hold of that sum in a sandbox is worth. -/
noncomputable def Try.pinned : Pinned := { name := "ytgjmnhbkdccgpaa", sum := "badda7b7396896b80fc75512bc49413201d93ce7bff9456b24f8378ee2984e01", checked := Try.checked }
namespace Rows
def none {H : Type} : Left H := { results := [], args := [] }

/-- 'chirographlaw03.ShaSums': WHATEVER THE INPUT: true; the input reads as it did. -/
def shaSumsSpec : ChangeSpec := { name := "shaSums", fn := fun _ => fun
  | [d] => { results := [.lit (.bool true)], args := [d] }
  | _ => none }
def shaSumsRow : OpenClaim := { program := "ytgjmnhbkdccgpaa", sum := "badda7b7396896b80fc75512bc49413201d93ce7bff9456b24f8378ee2984e01", func := "chirograph/chirographlaw03.ShaSums", spec := "shaSums", apart := false }
def ShaSumsSaid : Prop := shaSumsRow.holds Try.pinned (OpenSpec.ofChange shaSumsSpec)

/-- ITS FALSE NEIGHBOUR: 'it returns false'. Refute it at one input. -/
def shaSumsWrong : ChangeSpec := { name := "shaSums", fn := fun _ => fun
  | [d] => { results := [.lit (.bool false)], args := [d] }
  | _ => none }
def ShaSumsWrongFalsely : Prop := shaSumsRow.holds Try.pinned (OpenSpec.ofChange shaSumsWrong)

/-- 'chirographlaw03.ShaTables': WHATEVER THE INPUT: true; the input reads as it did. -/
def shaTablesSpec : ChangeSpec := { name := "shaTables", fn := fun _ => fun
  | [d] => { results := [.lit (.bool true)], args := [d] }
  | _ => none }
def shaTablesRow : OpenClaim := { program := "ytgjmnhbkdccgpaa", sum := "badda7b7396896b80fc75512bc49413201d93ce7bff9456b24f8378ee2984e01", func := "chirograph/chirographlaw03.ShaTables", spec := "shaTables", apart := false }
def ShaTablesSaid : Prop := shaTablesRow.holds Try.pinned (OpenSpec.ofChange shaTablesSpec)

/-- ITS FALSE NEIGHBOUR: 'it returns false'. Refute it at one input. -/
def shaTablesWrong : ChangeSpec := { name := "shaTables", fn := fun _ => fun
  | [d] => { results := [.lit (.bool false)], args := [d] }
  | _ => none }
def ShaTablesWrongFalsely : Prop := shaTablesRow.holds Try.pinned (OpenSpec.ofChange shaTablesWrong)

/-- 'chirographlaw03.ShaJoins': WHATEVER THE INPUT: true; the input reads as it did. -/
def shaJoinsSpec : ChangeSpec := { name := "shaJoins", fn := fun _ => fun
  | [d1, d2] => { results := [.lit (.bool true)], args := [d1, d2] }
  | _ => none }
def shaJoinsRow : OpenClaim := { program := "ytgjmnhbkdccgpaa", sum := "badda7b7396896b80fc75512bc49413201d93ce7bff9456b24f8378ee2984e01", func := "chirograph/chirographlaw03.ShaJoins", spec := "shaJoins", apart := false }
def ShaJoinsSaid : Prop := shaJoinsRow.holds Try.pinned (OpenSpec.ofChange shaJoinsSpec)

/-- ITS FALSE NEIGHBOUR: 'it returns false'. Refute it at one input. -/
def shaJoinsWrong : ChangeSpec := { name := "shaJoins", fn := fun _ => fun
  | [d1, d2] => { results := [.lit (.bool false)], args := [d1, d2] }
  | _ => none }
def ShaJoinsWrongFalsely : Prop := shaJoinsRow.holds Try.pinned (OpenSpec.ofChange shaJoinsWrong)

/-- 'chirographlaw03.ShaApart': WHATEVER THE INPUT: true; the input reads as it did. -/
def shaApartSpec : ChangeSpec := { name := "shaApart", fn := fun _ => fun
  | [d1, d2, d3, d4] => { results := [.lit (.bool true)], args := [d1, d2, d3, d4] }
  | _ => none }
def shaApartRow : OpenClaim := { program := "ytgjmnhbkdccgpaa", sum := "badda7b7396896b80fc75512bc49413201d93ce7bff9456b24f8378ee2984e01", func := "chirograph/chirographlaw03.ShaApart", spec := "shaApart", apart := false }
def ShaApartSaid : Prop := shaApartRow.holds Try.pinned (OpenSpec.ofChange shaApartSpec)

/-- ITS FALSE NEIGHBOUR: 'it returns false'. Refute it at one input. -/
def shaApartWrong : ChangeSpec := { name := "shaApart", fn := fun _ => fun
  | [d1, d2, d3, d4] => { results := [.lit (.bool false)], args := [d1, d2, d3, d4] }
  | _ => none }
def ShaApartWrongFalsely : Prop := shaApartRow.holds Try.pinned (OpenSpec.ofChange shaApartWrong)

/-- 'chirographlaw03.ShaMacs': WHATEVER THE INPUT: true; the input reads as it did. -/
def shaMacsSpec : ChangeSpec := { name := "shaMacs", fn := fun _ => fun
  | [d1, d2] => { results := [.lit (.bool true)], args := [d1, d2] }
  | _ => none }
def shaMacsRow : OpenClaim := { program := "ytgjmnhbkdccgpaa", sum := "badda7b7396896b80fc75512bc49413201d93ce7bff9456b24f8378ee2984e01", func := "chirograph/chirographlaw03.ShaMacs", spec := "shaMacs", apart := false }
def ShaMacsSaid : Prop := shaMacsRow.holds Try.pinned (OpenSpec.ofChange shaMacsSpec)

/-- ITS FALSE NEIGHBOUR: 'it returns false'. Refute it at one input. -/
def shaMacsWrong : ChangeSpec := { name := "shaMacs", fn := fun _ => fun
  | [d1, d2] => { results := [.lit (.bool false)], args := [d1, d2] }
  | _ => none }
def ShaMacsWrongFalsely : Prop := shaMacsRow.holds Try.pinned (OpenSpec.ofChange shaMacsWrong)

/-- 'chirographlaw03.ShaKeys': WHATEVER THE INPUT: true; the input reads as it did. -/
def shaKeysSpec : ChangeSpec := { name := "shaKeys", fn := fun _ => fun
  | [d1, d2] => { results := [.lit (.bool true)], args := [d1, d2] }
  | _ => none }
def shaKeysRow : OpenClaim := { program := "ytgjmnhbkdccgpaa", sum := "badda7b7396896b80fc75512bc49413201d93ce7bff9456b24f8378ee2984e01", func := "chirograph/chirographlaw03.ShaKeys", spec := "shaKeys", apart := false }
def ShaKeysSaid : Prop := shaKeysRow.holds Try.pinned (OpenSpec.ofChange shaKeysSpec)

/-- ITS FALSE NEIGHBOUR: 'it returns false'. Refute it at one input. -/
def shaKeysWrong : ChangeSpec := { name := "shaKeys", fn := fun _ => fun
  | [d1, d2] => { results := [.lit (.bool false)], args := [d1, d2] }
  | _ => none }
def ShaKeysWrongFalsely : Prop := shaKeysRow.holds Try.pinned (OpenSpec.ofChange shaKeysWrong)

/-- 'chirographlaw14.LabelSeeds': WHATEVER THE INPUT: true; the input reads as it did. -/
def labelSeedsSpec : ChangeSpec := { name := "labelSeeds", fn := fun _ => fun
  | [d1, d2, d3, d4, d5] => { results := [.lit (.bool true)], args := [d1, d2, d3, d4, d5] }
  | _ => none }
def labelSeedsRow : OpenClaim := { program := "ytgjmnhbkdccgpaa", sum := "badda7b7396896b80fc75512bc49413201d93ce7bff9456b24f8378ee2984e01", func := "chirograph/chirographlaw14.LabelSeeds", spec := "labelSeeds", apart := false }
def LabelSeedsSaid : Prop := labelSeedsRow.holds Try.pinned (OpenSpec.ofChange labelSeedsSpec)

/-- ITS FALSE NEIGHBOUR: 'it returns false'. Refute it at one input. -/
def labelSeedsWrong : ChangeSpec := { name := "labelSeeds", fn := fun _ => fun
  | [d1, d2, d3, d4, d5] => { results := [.lit (.bool false)], args := [d1, d2, d3, d4, d5] }
  | _ => none }
def LabelSeedsWrongFalsely : Prop := labelSeedsRow.holds Try.pinned (OpenSpec.ofChange labelSeedsWrong)

/-- 'chirographlaw14.LabelApart': WHATEVER THE INPUT: true; the input reads as it did. -/
def labelApartSpec : ChangeSpec := { name := "labelApart", fn := fun _ => fun
  | [d1, d2, d3, d4] => { results := [.lit (.bool true)], args := [d1, d2, d3, d4] }
  | _ => none }
def labelApartRow : OpenClaim := { program := "ytgjmnhbkdccgpaa", sum := "badda7b7396896b80fc75512bc49413201d93ce7bff9456b24f8378ee2984e01", func := "chirograph/chirographlaw14.LabelApart", spec := "labelApart", apart := false }
def LabelApartSaid : Prop := labelApartRow.holds Try.pinned (OpenSpec.ofChange labelApartSpec)

/-- ITS FALSE NEIGHBOUR: 'it returns false'. Refute it at one input. -/
def labelApartWrong : ChangeSpec := { name := "labelApart", fn := fun _ => fun
  | [d1, d2, d3, d4] => { results := [.lit (.bool false)], args := [d1, d2, d3, d4] }
  | _ => none }
def LabelApartWrongFalsely : Prop := labelApartRow.holds Try.pinned (OpenSpec.ofChange labelApartWrong)

/-- 'chirographlaw14.LabelTags': WHATEVER THE INPUT: true; the input reads as it did. -/
def labelTagsSpec : ChangeSpec := { name := "labelTags", fn := fun _ => fun
  | [d1, d2, d3] => { results := [.lit (.bool true)], args := [d1, d2, d3] }
  | _ => none }
def labelTagsRow : OpenClaim := { program := "ytgjmnhbkdccgpaa", sum := "badda7b7396896b80fc75512bc49413201d93ce7bff9456b24f8378ee2984e01", func := "chirograph/chirographlaw14.LabelTags", spec := "labelTags", apart := false }
def LabelTagsSaid : Prop := labelTagsRow.holds Try.pinned (OpenSpec.ofChange labelTagsSpec)

/-- ITS FALSE NEIGHBOUR: 'it returns false'. Refute it at one input. -/
def labelTagsWrong : ChangeSpec := { name := "labelTags", fn := fun _ => fun
  | [d1, d2, d3] => { results := [.lit (.bool false)], args := [d1, d2, d3] }
  | _ => none }
def LabelTagsWrongFalsely : Prop := labelTagsRow.holds Try.pinned (OpenSpec.ofChange labelTagsWrong)

/-- 'chirographlaw14.LabelStands': WHATEVER THE INPUT: true; the input reads as it did. -/
def labelStandsSpec : ChangeSpec := { name := "labelStands", fn := fun _ => fun
  | [d1, d2, d3, d4] => { results := [.lit (.bool true)], args := [d1, d2, d3, d4] }
  | _ => none }
def labelStandsRow : OpenClaim := { program := "ytgjmnhbkdccgpaa", sum := "badda7b7396896b80fc75512bc49413201d93ce7bff9456b24f8378ee2984e01", func := "chirograph/chirographlaw14.LabelStands", spec := "labelStands", apart := false }
def LabelStandsSaid : Prop := labelStandsRow.holds Try.pinned (OpenSpec.ofChange labelStandsSpec)

/-- ITS FALSE NEIGHBOUR: 'it returns false'. Refute it at one input. -/
def labelStandsWrong : ChangeSpec := { name := "labelStands", fn := fun _ => fun
  | [d1, d2, d3, d4] => { results := [.lit (.bool false)], args := [d1, d2, d3, d4] }
  | _ => none }
def LabelStandsWrongFalsely : Prop := labelStandsRow.holds Try.pinned (OpenSpec.ofChange labelStandsWrong)

/-- 'chirographlaw15.NodeWrites': WHATEVER THE INPUT: true; the input reads as it did. -/
def nodeWritesSpec : ChangeSpec := { name := "nodeWrites", fn := fun _ => fun
  | [d1, d2, d3] => { results := [.lit (.bool true)], args := [d1, d2, d3] }
  | _ => none }
def nodeWritesRow : OpenClaim := { program := "ytgjmnhbkdccgpaa", sum := "badda7b7396896b80fc75512bc49413201d93ce7bff9456b24f8378ee2984e01", func := "chirograph/chirographlaw15.NodeWrites", spec := "nodeWrites", inPlace := ["internal/bytealg.Compare"], apart := false }
def NodeWritesSaid : Prop := nodeWritesRow.holds Try.pinned (OpenSpec.ofChange nodeWritesSpec)

/-- ITS FALSE NEIGHBOUR: 'it returns false'. Refute it at one input. -/
def nodeWritesWrong : ChangeSpec := { name := "nodeWrites", fn := fun _ => fun
  | [d1, d2, d3] => { results := [.lit (.bool false)], args := [d1, d2, d3] }
  | _ => none }
def NodeWritesWrongFalsely : Prop := nodeWritesRow.holds Try.pinned (OpenSpec.ofChange nodeWritesWrong)

/-- 'chirographlaw15.NodeApart': WHATEVER THE INPUT: true; the input reads as it did. -/
def nodeApartSpec : ChangeSpec := { name := "nodeApart", fn := fun _ => fun
  | [d1, d2, d3, d4, d5, d6] => { results := [.lit (.bool true)], args := [d1, d2, d3, d4, d5, d6] }
  | _ => none }
def nodeApartRow : OpenClaim := { program := "ytgjmnhbkdccgpaa", sum := "badda7b7396896b80fc75512bc49413201d93ce7bff9456b24f8378ee2984e01", func := "chirograph/chirographlaw15.NodeApart", spec := "nodeApart", inPlace := ["internal/bytealg.Compare"], apart := false }
def NodeApartSaid : Prop := nodeApartRow.holds Try.pinned (OpenSpec.ofChange nodeApartSpec)

/-- ITS FALSE NEIGHBOUR: 'it returns false'. Refute it at one input. -/
def nodeApartWrong : ChangeSpec := { name := "nodeApart", fn := fun _ => fun
  | [d1, d2, d3, d4, d5, d6] => { results := [.lit (.bool false)], args := [d1, d2, d3, d4, d5, d6] }
  | _ => none }
def NodeApartWrongFalsely : Prop := nodeApartRow.holds Try.pinned (OpenSpec.ofChange nodeApartWrong)

/-- 'chirographlaw15.NodeOne': WHATEVER THE INPUT: true; the input reads as it did. -/
def nodeOneSpec : ChangeSpec := { name := "nodeOne", fn := fun _ => fun
  | [d] => { results := [.lit (.bool true)], args := [d] }
  | _ => none }
def nodeOneRow : OpenClaim := { program := "ytgjmnhbkdccgpaa", sum := "badda7b7396896b80fc75512bc49413201d93ce7bff9456b24f8378ee2984e01", func := "chirograph/chirographlaw15.NodeOne", spec := "nodeOne", inPlace := ["internal/bytealg.Compare"], apart := false }
def NodeOneSaid : Prop := nodeOneRow.holds Try.pinned (OpenSpec.ofChange nodeOneSpec)

/-- ITS FALSE NEIGHBOUR: 'it returns false'. Refute it at one input. -/
def nodeOneWrong : ChangeSpec := { name := "nodeOne", fn := fun _ => fun
  | [d] => { results := [.lit (.bool false)], args := [d] }
  | _ => none }
def NodeOneWrongFalsely : Prop := nodeOneRow.holds Try.pinned (OpenSpec.ofChange nodeOneWrong)

/-- 'chirographlaw15.NodeReads': WHATEVER THE INPUT: true; the input reads as it did. -/
def nodeReadsSpec : ChangeSpec := { name := "nodeReads", fn := fun _ => fun
  | [d] => { results := [.lit (.bool true)], args := [d] }
  | _ => none }
def nodeReadsRow : OpenClaim := { program := "ytgjmnhbkdccgpaa", sum := "badda7b7396896b80fc75512bc49413201d93ce7bff9456b24f8378ee2984e01", func := "chirograph/chirographlaw15.NodeReads", spec := "nodeReads", inPlace := ["internal/bytealg.Compare"], apart := false }
def NodeReadsSaid : Prop := nodeReadsRow.holds Try.pinned (OpenSpec.ofChange nodeReadsSpec)

/-- ITS FALSE NEIGHBOUR: 'it returns false'. Refute it at one input. -/
def nodeReadsWrong : ChangeSpec := { name := "nodeReads", fn := fun _ => fun
  | [d] => { results := [.lit (.bool false)], args := [d] }
  | _ => none }
def NodeReadsWrongFalsely : Prop := nodeReadsRow.holds Try.pinned (OpenSpec.ofChange nodeReadsWrong)

/-- 'chirographlaw15.NodeBack': WHATEVER THE INPUT: true; the input reads as it did. -/
def nodeBackSpec : ChangeSpec := { name := "nodeBack", fn := fun _ => fun
  | [d1, d2, d3] => { results := [.lit (.bool true)], args := [d1, d2, d3] }
  | _ => none }
def nodeBackRow : OpenClaim := { program := "ytgjmnhbkdccgpaa", sum := "badda7b7396896b80fc75512bc49413201d93ce7bff9456b24f8378ee2984e01", func := "chirograph/chirographlaw15.NodeBack", spec := "nodeBack", inPlace := ["internal/bytealg.Compare"], apart := false }
def NodeBackSaid : Prop := nodeBackRow.holds Try.pinned (OpenSpec.ofChange nodeBackSpec)

/-- ITS FALSE NEIGHBOUR: 'it returns false'. Refute it at one input. -/
def nodeBackWrong : ChangeSpec := { name := "nodeBack", fn := fun _ => fun
  | [d1, d2, d3] => { results := [.lit (.bool false)], args := [d1, d2, d3] }
  | _ => none }
def NodeBackWrongFalsely : Prop := nodeBackRow.holds Try.pinned (OpenSpec.ofChange nodeBackWrong)

/- THE SECOND FORM. 'bulk': how many values and letters a reading holds, each counted each time it is reached (what is shared counts as often as it is met; a slice's spare places count too). A statement '..UptoSaid' is the law's where the arguments, and the package variables that the reading takes, are together of bulk at most 1048576: NARROWER than '..Said'. Prove '..Said' where nothing that the law and all that it calls make is longer than what came in: it says more and counts as full. Else prove '..UptoSaid'. A law counts once. -/
mutual
def uptoBulk {H : Type} : DataW H → Nat
  | .lit (.string bytes) => bytes.length + 1
  | .lit _ => 1
  | .nil => 1
  | .ptr d => uptoBulk d + 1
  | .slice elems spare => uptoBulkAll elems + uptoBulkAll spare + 1
  | .agg parts => uptoBulkAll parts + 1
  | .iface _ d => uptoBulk d + 1
  | .map entries => uptoBulkEntries entries + 1
  | .held _ => 1
def uptoBulkAll {H : Type} : List (DataW H) → Nat
  | [] => 0
  | d :: r => uptoBulk d + uptoBulkAll r
def uptoBulkEntries {H : Type} : List (Lit × DataW H) → Nat
  | [] => 0
  | x :: r => uptoBulkEntry x + uptoBulkEntries r
def uptoBulkEntry {H : Type} : Lit × DataW H → Nat
  | (.string bytes, d) => bytes.length + uptoBulk d + 1
  | (_, d) => uptoBulk d + 1
 end
def uptoSmall : (H : Type) → List (DataW H) → Bool := fun _ ds => decide (uptoBulkAll ds ≤ 1048576)
def OpenSpec.upto (s : _root_.Go.ChangeSpec) : _root_.Go.OpenSpec := { _root_.Go.OpenSpec.ofChange s with cond := some uptoSmall }

/-- 'chirographlaw03.ShaSums', WHERE WHAT IT READS IS OF BULK AT MOST 1048576: true; the input reads as it did. -/
def shaSumsUptoRow : OpenClaim := { program := "ytgjmnhbkdccgpaa", sum := "badda7b7396896b80fc75512bc49413201d93ce7bff9456b24f8378ee2984e01", func := "chirograph/chirographlaw03.ShaSums", spec := "shaSums", apart := false, narrowed := true }
def ShaSumsUptoSaid : Prop := shaSumsUptoRow.holds Try.pinned (OpenSpec.upto shaSumsSpec)

/-- 'chirographlaw03.ShaTables', WHERE WHAT IT READS IS OF BULK AT MOST 1048576: true; the input reads as it did. -/
def shaTablesUptoRow : OpenClaim := { program := "ytgjmnhbkdccgpaa", sum := "badda7b7396896b80fc75512bc49413201d93ce7bff9456b24f8378ee2984e01", func := "chirograph/chirographlaw03.ShaTables", spec := "shaTables", apart := false, narrowed := true }
def ShaTablesUptoSaid : Prop := shaTablesUptoRow.holds Try.pinned (OpenSpec.upto shaTablesSpec)

/-- 'chirographlaw03.ShaJoins', WHERE WHAT IT READS IS OF BULK AT MOST 1048576: true; the input reads as it did. -/
def shaJoinsUptoRow : OpenClaim := { program := "ytgjmnhbkdccgpaa", sum := "badda7b7396896b80fc75512bc49413201d93ce7bff9456b24f8378ee2984e01", func := "chirograph/chirographlaw03.ShaJoins", spec := "shaJoins", apart := false, narrowed := true }
def ShaJoinsUptoSaid : Prop := shaJoinsUptoRow.holds Try.pinned (OpenSpec.upto shaJoinsSpec)

/-- 'chirographlaw03.ShaApart', WHERE WHAT IT READS IS OF BULK AT MOST 1048576: true; the input reads as it did. -/
def shaApartUptoRow : OpenClaim := { program := "ytgjmnhbkdccgpaa", sum := "badda7b7396896b80fc75512bc49413201d93ce7bff9456b24f8378ee2984e01", func := "chirograph/chirographlaw03.ShaApart", spec := "shaApart", apart := false, narrowed := true }
def ShaApartUptoSaid : Prop := shaApartUptoRow.holds Try.pinned (OpenSpec.upto shaApartSpec)

/-- 'chirographlaw03.ShaMacs', WHERE WHAT IT READS IS OF BULK AT MOST 1048576: true; the input reads as it did. -/
def shaMacsUptoRow : OpenClaim := { program := "ytgjmnhbkdccgpaa", sum := "badda7b7396896b80fc75512bc49413201d93ce7bff9456b24f8378ee2984e01", func := "chirograph/chirographlaw03.ShaMacs", spec := "shaMacs", apart := false, narrowed := true }
def ShaMacsUptoSaid : Prop := shaMacsUptoRow.holds Try.pinned (OpenSpec.upto shaMacsSpec)

/-- 'chirographlaw03.ShaKeys', WHERE WHAT IT READS IS OF BULK AT MOST 1048576: true; the input reads as it did. -/
def shaKeysUptoRow : OpenClaim := { program := "ytgjmnhbkdccgpaa", sum := "badda7b7396896b80fc75512bc49413201d93ce7bff9456b24f8378ee2984e01", func := "chirograph/chirographlaw03.ShaKeys", spec := "shaKeys", apart := false, narrowed := true }
def ShaKeysUptoSaid : Prop := shaKeysUptoRow.holds Try.pinned (OpenSpec.upto shaKeysSpec)

/-- 'chirographlaw14.LabelSeeds', WHERE WHAT IT READS IS OF BULK AT MOST 1048576: true; the input reads as it did. -/
def labelSeedsUptoRow : OpenClaim := { program := "ytgjmnhbkdccgpaa", sum := "badda7b7396896b80fc75512bc49413201d93ce7bff9456b24f8378ee2984e01", func := "chirograph/chirographlaw14.LabelSeeds", spec := "labelSeeds", apart := false, narrowed := true }
def LabelSeedsUptoSaid : Prop := labelSeedsUptoRow.holds Try.pinned (OpenSpec.upto labelSeedsSpec)

/-- 'chirographlaw14.LabelApart', WHERE WHAT IT READS IS OF BULK AT MOST 1048576: true; the input reads as it did. -/
def labelApartUptoRow : OpenClaim := { program := "ytgjmnhbkdccgpaa", sum := "badda7b7396896b80fc75512bc49413201d93ce7bff9456b24f8378ee2984e01", func := "chirograph/chirographlaw14.LabelApart", spec := "labelApart", apart := false, narrowed := true }
def LabelApartUptoSaid : Prop := labelApartUptoRow.holds Try.pinned (OpenSpec.upto labelApartSpec)

/-- 'chirographlaw14.LabelTags', WHERE WHAT IT READS IS OF BULK AT MOST 1048576: true; the input reads as it did. -/
def labelTagsUptoRow : OpenClaim := { program := "ytgjmnhbkdccgpaa", sum := "badda7b7396896b80fc75512bc49413201d93ce7bff9456b24f8378ee2984e01", func := "chirograph/chirographlaw14.LabelTags", spec := "labelTags", apart := false, narrowed := true }
def LabelTagsUptoSaid : Prop := labelTagsUptoRow.holds Try.pinned (OpenSpec.upto labelTagsSpec)

/-- 'chirographlaw14.LabelStands', WHERE WHAT IT READS IS OF BULK AT MOST 1048576: true; the input reads as it did. -/
def labelStandsUptoRow : OpenClaim := { program := "ytgjmnhbkdccgpaa", sum := "badda7b7396896b80fc75512bc49413201d93ce7bff9456b24f8378ee2984e01", func := "chirograph/chirographlaw14.LabelStands", spec := "labelStands", apart := false, narrowed := true }
def LabelStandsUptoSaid : Prop := labelStandsUptoRow.holds Try.pinned (OpenSpec.upto labelStandsSpec)

/-- 'chirographlaw15.NodeWrites', WHERE WHAT IT READS IS OF BULK AT MOST 1048576: true; the input reads as it did. -/
def nodeWritesUptoRow : OpenClaim := { program := "ytgjmnhbkdccgpaa", sum := "badda7b7396896b80fc75512bc49413201d93ce7bff9456b24f8378ee2984e01", func := "chirograph/chirographlaw15.NodeWrites", spec := "nodeWrites", inPlace := ["internal/bytealg.Compare"], apart := false, narrowed := true }
def NodeWritesUptoSaid : Prop := nodeWritesUptoRow.holds Try.pinned (OpenSpec.upto nodeWritesSpec)

/-- 'chirographlaw15.NodeApart', WHERE WHAT IT READS IS OF BULK AT MOST 1048576: true; the input reads as it did. -/
def nodeApartUptoRow : OpenClaim := { program := "ytgjmnhbkdccgpaa", sum := "badda7b7396896b80fc75512bc49413201d93ce7bff9456b24f8378ee2984e01", func := "chirograph/chirographlaw15.NodeApart", spec := "nodeApart", inPlace := ["internal/bytealg.Compare"], apart := false, narrowed := true }
def NodeApartUptoSaid : Prop := nodeApartUptoRow.holds Try.pinned (OpenSpec.upto nodeApartSpec)

/-- 'chirographlaw15.NodeOne', WHERE WHAT IT READS IS OF BULK AT MOST 1048576: true; the input reads as it did. -/
def nodeOneUptoRow : OpenClaim := { program := "ytgjmnhbkdccgpaa", sum := "badda7b7396896b80fc75512bc49413201d93ce7bff9456b24f8378ee2984e01", func := "chirograph/chirographlaw15.NodeOne", spec := "nodeOne", inPlace := ["internal/bytealg.Compare"], apart := false, narrowed := true }
def NodeOneUptoSaid : Prop := nodeOneUptoRow.holds Try.pinned (OpenSpec.upto nodeOneSpec)

/-- 'chirographlaw15.NodeReads', WHERE WHAT IT READS IS OF BULK AT MOST 1048576: true; the input reads as it did. -/
def nodeReadsUptoRow : OpenClaim := { program := "ytgjmnhbkdccgpaa", sum := "badda7b7396896b80fc75512bc49413201d93ce7bff9456b24f8378ee2984e01", func := "chirograph/chirographlaw15.NodeReads", spec := "nodeReads", inPlace := ["internal/bytealg.Compare"], apart := false, narrowed := true }
def NodeReadsUptoSaid : Prop := nodeReadsUptoRow.holds Try.pinned (OpenSpec.upto nodeReadsSpec)

/-- 'chirographlaw15.NodeBack', WHERE WHAT IT READS IS OF BULK AT MOST 1048576: true; the input reads as it did. -/
def nodeBackUptoRow : OpenClaim := { program := "ytgjmnhbkdccgpaa", sum := "badda7b7396896b80fc75512bc49413201d93ce7bff9456b24f8378ee2984e01", func := "chirograph/chirographlaw15.NodeBack", spec := "nodeBack", inPlace := ["internal/bytealg.Compare"], apart := false, narrowed := true }
def NodeBackUptoSaid : Prop := nodeBackUptoRow.holds Try.pinned (OpenSpec.upto nodeBackSpec)

end Rows
end Go.Proofs.Ytgjmnhbkdccgpaa
