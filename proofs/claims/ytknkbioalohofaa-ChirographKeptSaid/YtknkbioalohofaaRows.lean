/-
  No cell of these rows narrows 'for every input' (looked for: loops, veiled, ifaces, maps, wideKeys, modest, calm, conditions, laid).
  DERIVED. THE GIVEN ROWS OF THIS SEAT. 16 by the template 'for every input the law returns true; each argument reads behind the call as it read before'; 0 by the template 'total and deterministic' (their statements: YtknkbioalohofaaTotals.lean).
  GIVEN WITH THE SEED: the statements are not yours to turn. If you find one false, say at which input.
  Laid BY PROGRAM, IN A SANDBOX (cutbox-rows.mjs): the forced cells as the released guide's own fill.sh prints them over the translation a36cd01f46dcf38a… (all of the seat's roots in one cut). By AI agents, Wed Nov 11 2026. No macro, syntax, notation, axiom, sorry.
-/
import Derived.Test.YtknkbioalohofaaChecked
import GoSem.Claim
import GoSem.ClaimJoined
import GoSem.ClaimMapViews
import Derived.JoinedTies
import Derived.KernelRfl
namespace Go.Proofs.Ytknkbioalohofaa
/- THE CELL 'sum', in the pinned program and in every row, IS THE sha256 OF THE DUMP (.gsa) THAT YtknkbioalohofaaProg.lean LOADS. Nothing in Lean hashes anything: it is a label: what it is worth is what the hold of that sum in a sandbox is worth. -/
noncomputable def Try.pinned : Pinned := { name := "ytknkbioalohofaa", sum := "a36cd01f46dcf38aabc6984faa69e78eca0dbbd1a15c68d60b6c22274cd5d33d", checked := Try.checked }
namespace Rows
def none {H : Type} : Left H := { results := [], args := [] }

/-- 'chirographlaw04.SealWraps': WHATEVER THE INPUT: true; the input reads as it did. -/
def sealWrapsSpec : ChangeSpec := { name := "sealWraps", fn := fun _ => fun
  | [d] => { results := [.lit (.bool true)], args := [d] }
  | _ => none }
def sealWrapsRow : OpenClaim := { program := "ytknkbioalohofaa", sum := "a36cd01f46dcf38aabc6984faa69e78eca0dbbd1a15c68d60b6c22274cd5d33d", func := "chirograph/chirographlaw04.SealWraps", spec := "sealWraps", apart := false }
def SealWrapsSaid : Prop := sealWrapsRow.holds Try.pinned (OpenSpec.ofChange sealWrapsSpec)

/-- ITS FALSE NEIGHBOUR: 'it returns false'. Refute it at one input. -/
def sealWrapsWrong : ChangeSpec := { name := "sealWraps", fn := fun _ => fun
  | [d] => { results := [.lit (.bool false)], args := [d] }
  | _ => none }
def SealWrapsWrongFalsely : Prop := sealWrapsRow.holds Try.pinned (OpenSpec.ofChange sealWrapsWrong)

/-- 'chirographlaw04.SealOpens': WHATEVER THE INPUT: true; the input reads as it did. -/
def sealOpensSpec : ChangeSpec := { name := "sealOpens", fn := fun _ => fun
  | [d] => { results := [.lit (.bool true)], args := [d] }
  | _ => none }
def sealOpensRow : OpenClaim := { program := "ytknkbioalohofaa", sum := "a36cd01f46dcf38aabc6984faa69e78eca0dbbd1a15c68d60b6c22274cd5d33d", func := "chirograph/chirographlaw04.SealOpens", spec := "sealOpens", apart := false }
def SealOpensSaid : Prop := sealOpensRow.holds Try.pinned (OpenSpec.ofChange sealOpensSpec)

/-- ITS FALSE NEIGHBOUR: 'it returns false'. Refute it at one input. -/
def sealOpensWrong : ChangeSpec := { name := "sealOpens", fn := fun _ => fun
  | [d] => { results := [.lit (.bool false)], args := [d] }
  | _ => none }
def SealOpensWrongFalsely : Prop := sealOpensRow.holds Try.pinned (OpenSpec.ofChange sealOpensWrong)

/-- 'chirographlaw04.SealCuts': WHATEVER THE INPUT: true; the input reads as it did. -/
def sealCutsSpec : ChangeSpec := { name := "sealCuts", fn := fun _ => fun
  | [d1, d2] => { results := [.lit (.bool true)], args := [d1, d2] }
  | _ => none }
def sealCutsRow : OpenClaim := { program := "ytknkbioalohofaa", sum := "a36cd01f46dcf38aabc6984faa69e78eca0dbbd1a15c68d60b6c22274cd5d33d", func := "chirograph/chirographlaw04.SealCuts", spec := "sealCuts", apart := false }
def SealCutsSaid : Prop := sealCutsRow.holds Try.pinned (OpenSpec.ofChange sealCutsSpec)

/-- ITS FALSE NEIGHBOUR: 'it returns false'. Refute it at one input. -/
def sealCutsWrong : ChangeSpec := { name := "sealCuts", fn := fun _ => fun
  | [d1, d2] => { results := [.lit (.bool false)], args := [d1, d2] }
  | _ => none }
def SealCutsWrongFalsely : Prop := sealCutsRow.holds Try.pinned (OpenSpec.ofChange sealCutsWrong)

/-- 'chirographlaw04.SealSpoilt': WHATEVER THE INPUT: true; the input reads as it did. -/
def sealSpoiltSpec : ChangeSpec := { name := "sealSpoilt", fn := fun _ => fun
  | [d1, d2, d3] => { results := [.lit (.bool true)], args := [d1, d2, d3] }
  | _ => none }
def sealSpoiltRow : OpenClaim := { program := "ytknkbioalohofaa", sum := "a36cd01f46dcf38aabc6984faa69e78eca0dbbd1a15c68d60b6c22274cd5d33d", func := "chirograph/chirographlaw04.SealSpoilt", spec := "sealSpoilt", apart := false }
def SealSpoiltSaid : Prop := sealSpoiltRow.holds Try.pinned (OpenSpec.ofChange sealSpoiltSpec)

/-- ITS FALSE NEIGHBOUR: 'it returns false'. Refute it at one input. -/
def sealSpoiltWrong : ChangeSpec := { name := "sealSpoilt", fn := fun _ => fun
  | [d1, d2, d3] => { results := [.lit (.bool false)], args := [d1, d2, d3] }
  | _ => none }
def SealSpoiltWrongFalsely : Prop := sealSpoiltRow.holds Try.pinned (OpenSpec.ofChange sealSpoiltWrong)

/-- 'chirographlaw04.SealLong': WHATEVER THE INPUT: true; the input reads as it did. -/
def sealLongSpec : ChangeSpec := { name := "sealLong", fn := fun _ => fun
  | [d1, d2] => { results := [.lit (.bool true)], args := [d1, d2] }
  | _ => none }
def sealLongRow : OpenClaim := { program := "ytknkbioalohofaa", sum := "a36cd01f46dcf38aabc6984faa69e78eca0dbbd1a15c68d60b6c22274cd5d33d", func := "chirograph/chirographlaw04.SealLong", spec := "sealLong", apart := false }
def SealLongSaid : Prop := sealLongRow.holds Try.pinned (OpenSpec.ofChange sealLongSpec)

/-- ITS FALSE NEIGHBOUR: 'it returns false'. Refute it at one input. -/
def sealLongWrong : ChangeSpec := { name := "sealLong", fn := fun _ => fun
  | [d1, d2] => { results := [.lit (.bool false)], args := [d1, d2] }
  | _ => none }
def SealLongWrongFalsely : Prop := sealLongRow.holds Try.pinned (OpenSpec.ofChange sealLongWrong)

/-- 'chirographtop.ChirographSealed': WHATEVER THE INPUT: true; the input reads as it did. -/
def chirographSealedSpec : ChangeSpec := { name := "chirographSealed", fn := fun _ => fun
  | [d1, d2] => { results := [.lit (.bool true)], args := [d1, d2] }
  | _ => none }
def chirographSealedRow : OpenClaim := { program := "ytknkbioalohofaa", sum := "a36cd01f46dcf38aabc6984faa69e78eca0dbbd1a15c68d60b6c22274cd5d33d", func := "chirograph/chirographtop.ChirographSealed", spec := "chirographSealed", apart := false }
def ChirographSealedSaid : Prop := chirographSealedRow.holds Try.pinned (OpenSpec.ofChange chirographSealedSpec)

/-- ITS FALSE NEIGHBOUR: 'it returns false'. Refute it at one input. -/
def chirographSealedWrong : ChangeSpec := { name := "chirographSealed", fn := fun _ => fun
  | [d1, d2] => { results := [.lit (.bool false)], args := [d1, d2] }
  | _ => none }
def ChirographSealedWrongFalsely : Prop := chirographSealedRow.holds Try.pinned (OpenSpec.ofChange chirographSealedWrong)

/-- 'chirographlaw05.DiskSure': WHATEVER THE INPUT: true; the input reads as it did. -/
def diskSureSpec : ChangeSpec := { name := "diskSure", fn := fun _ => fun
  | [d1, d2, d3, d4] => { results := [.lit (.bool true)], args := [d1, d2, d3, d4] }
  | _ => none }
def diskSureRow : OpenClaim := { program := "ytknkbioalohofaa", sum := "a36cd01f46dcf38aabc6984faa69e78eca0dbbd1a15c68d60b6c22274cd5d33d", func := "chirograph/chirographlaw05.DiskSure", spec := "diskSure", unfollowed := true, recurses := true, apart := false }
def DiskSureSaid : Prop := diskSureRow.holds Try.pinned (OpenSpec.ofChange diskSureSpec)

/-- ITS FALSE NEIGHBOUR: 'it returns false'. Refute it at one input. -/
def diskSureWrong : ChangeSpec := { name := "diskSure", fn := fun _ => fun
  | [d1, d2, d3, d4] => { results := [.lit (.bool false)], args := [d1, d2, d3, d4] }
  | _ => none }
def DiskSureWrongFalsely : Prop := diskSureRow.holds Try.pinned (OpenSpec.ofChange diskSureWrong)

/-- 'chirographlaw05.DiskRoom': WHATEVER THE INPUT: true; the input reads as it did. -/
def diskRoomSpec : ChangeSpec := { name := "diskRoom", fn := fun _ => fun
  | [d1, d2] => { results := [.lit (.bool true)], args := [d1, d2] }
  | _ => none }
def diskRoomRow : OpenClaim := { program := "ytknkbioalohofaa", sum := "a36cd01f46dcf38aabc6984faa69e78eca0dbbd1a15c68d60b6c22274cd5d33d", func := "chirograph/chirographlaw05.DiskRoom", spec := "diskRoom", unfollowed := true, recurses := true, apart := false }
def DiskRoomSaid : Prop := diskRoomRow.holds Try.pinned (OpenSpec.ofChange diskRoomSpec)

/-- ITS FALSE NEIGHBOUR: 'it returns false'. Refute it at one input. -/
def diskRoomWrong : ChangeSpec := { name := "diskRoom", fn := fun _ => fun
  | [d1, d2] => { results := [.lit (.bool false)], args := [d1, d2] }
  | _ => none }
def DiskRoomWrongFalsely : Prop := diskRoomRow.holds Try.pinned (OpenSpec.ofChange diskRoomWrong)

/-- 'chirographlaw05.DiskDies': WHATEVER THE INPUT: true; the input reads as it did. -/
def diskDiesSpec : ChangeSpec := { name := "diskDies", fn := fun _ => fun
  | [d1, d2, d3] => { results := [.lit (.bool true)], args := [d1, d2, d3] }
  | _ => none }
def diskDiesRow : OpenClaim := { program := "ytknkbioalohofaa", sum := "a36cd01f46dcf38aabc6984faa69e78eca0dbbd1a15c68d60b6c22274cd5d33d", func := "chirograph/chirographlaw05.DiskDies", spec := "diskDies", unfollowed := true, recurses := true, apart := false }
def DiskDiesSaid : Prop := diskDiesRow.holds Try.pinned (OpenSpec.ofChange diskDiesSpec)

/-- ITS FALSE NEIGHBOUR: 'it returns false'. Refute it at one input. -/
def diskDiesWrong : ChangeSpec := { name := "diskDies", fn := fun _ => fun
  | [d1, d2, d3] => { results := [.lit (.bool false)], args := [d1, d2, d3] }
  | _ => none }
def DiskDiesWrongFalsely : Prop := diskDiesRow.holds Try.pinned (OpenSpec.ofChange diskDiesWrong)

/-- 'chirographlaw05.DiskApart': WHATEVER THE INPUT: true; the input reads as it did. -/
def diskApartSpec : ChangeSpec := { name := "diskApart", fn := fun _ => fun
  | [d1, d2] => { results := [.lit (.bool true)], args := [d1, d2] }
  | _ => none }
def diskApartRow : OpenClaim := { program := "ytknkbioalohofaa", sum := "a36cd01f46dcf38aabc6984faa69e78eca0dbbd1a15c68d60b6c22274cd5d33d", func := "chirograph/chirographlaw05.DiskApart", spec := "diskApart", unfollowed := true, recurses := true, apart := false }
def DiskApartSaid : Prop := diskApartRow.holds Try.pinned (OpenSpec.ofChange diskApartSpec)

/-- ITS FALSE NEIGHBOUR: 'it returns false'. Refute it at one input. -/
def diskApartWrong : ChangeSpec := { name := "diskApart", fn := fun _ => fun
  | [d1, d2] => { results := [.lit (.bool false)], args := [d1, d2] }
  | _ => none }
def DiskApartWrongFalsely : Prop := diskApartRow.holds Try.pinned (OpenSpec.ofChange diskApartWrong)

/-- 'chirographlaw05.DiskPlays': WHATEVER THE INPUT: true; the input reads as it did. -/
def diskPlaysSpec : ChangeSpec := { name := "diskPlays", fn := fun _ => fun
  | [d1, d2] => { results := [.lit (.bool true)], args := [d1, d2] }
  | _ => none }
def diskPlaysRow : OpenClaim := { program := "ytknkbioalohofaa", sum := "a36cd01f46dcf38aabc6984faa69e78eca0dbbd1a15c68d60b6c22274cd5d33d", func := "chirograph/chirographlaw05.DiskPlays", spec := "diskPlays", unfollowed := true, recurses := true, apart := false }
def DiskPlaysSaid : Prop := diskPlaysRow.holds Try.pinned (OpenSpec.ofChange diskPlaysSpec)

/-- ITS FALSE NEIGHBOUR: 'it returns false'. Refute it at one input. -/
def diskPlaysWrong : ChangeSpec := { name := "diskPlays", fn := fun _ => fun
  | [d1, d2] => { results := [.lit (.bool false)], args := [d1, d2] }
  | _ => none }
def DiskPlaysWrongFalsely : Prop := diskPlaysRow.holds Try.pinned (OpenSpec.ofChange diskPlaysWrong)

/-- 'chirographlaw07.JournalKeeps': WHATEVER THE INPUT: true; the input reads as it did. -/
def journalKeepsSpec : ChangeSpec := { name := "journalKeeps", fn := fun _ => fun
  | [d1, d2] => { results := [.lit (.bool true)], args := [d1, d2] }
  | _ => none }
def journalKeepsRow : OpenClaim := { program := "ytknkbioalohofaa", sum := "a36cd01f46dcf38aabc6984faa69e78eca0dbbd1a15c68d60b6c22274cd5d33d", func := "chirograph/chirographlaw07.JournalKeeps", spec := "journalKeeps", unfollowed := true, recurses := true, apart := false }
def JournalKeepsSaid : Prop := journalKeepsRow.holds Try.pinned (OpenSpec.ofChange journalKeepsSpec)

/-- ITS FALSE NEIGHBOUR: 'it returns false'. Refute it at one input. -/
def journalKeepsWrong : ChangeSpec := { name := "journalKeeps", fn := fun _ => fun
  | [d1, d2] => { results := [.lit (.bool false)], args := [d1, d2] }
  | _ => none }
def JournalKeepsWrongFalsely : Prop := journalKeepsRow.holds Try.pinned (OpenSpec.ofChange journalKeepsWrong)

/-- 'chirographlaw07.JournalFull': WHATEVER THE INPUT: true; the input reads as it did. -/
def journalFullSpec : ChangeSpec := { name := "journalFull", fn := fun _ => fun
  | [d1, d2] => { results := [.lit (.bool true)], args := [d1, d2] }
  | _ => none }
def journalFullRow : OpenClaim := { program := "ytknkbioalohofaa", sum := "a36cd01f46dcf38aabc6984faa69e78eca0dbbd1a15c68d60b6c22274cd5d33d", func := "chirograph/chirographlaw07.JournalFull", spec := "journalFull", unfollowed := true, recurses := true, apart := false }
def JournalFullSaid : Prop := journalFullRow.holds Try.pinned (OpenSpec.ofChange journalFullSpec)

/-- ITS FALSE NEIGHBOUR: 'it returns false'. Refute it at one input. -/
def journalFullWrong : ChangeSpec := { name := "journalFull", fn := fun _ => fun
  | [d1, d2] => { results := [.lit (.bool false)], args := [d1, d2] }
  | _ => none }
def JournalFullWrongFalsely : Prop := journalFullRow.holds Try.pinned (OpenSpec.ofChange journalFullWrong)

/-- 'chirographlaw07.JournalSpoilt': WHATEVER THE INPUT: true; the input reads as it did. -/
def journalSpoiltSpec : ChangeSpec := { name := "journalSpoilt", fn := fun _ => fun
  | [d1, d2, d3, d4] => { results := [.lit (.bool true)], args := [d1, d2, d3, d4] }
  | _ => none }
def journalSpoiltRow : OpenClaim := { program := "ytknkbioalohofaa", sum := "a36cd01f46dcf38aabc6984faa69e78eca0dbbd1a15c68d60b6c22274cd5d33d", func := "chirograph/chirographlaw07.JournalSpoilt", spec := "journalSpoilt", unfollowed := true, recurses := true, apart := false }
def JournalSpoiltSaid : Prop := journalSpoiltRow.holds Try.pinned (OpenSpec.ofChange journalSpoiltSpec)

/-- ITS FALSE NEIGHBOUR: 'it returns false'. Refute it at one input. -/
def journalSpoiltWrong : ChangeSpec := { name := "journalSpoilt", fn := fun _ => fun
  | [d1, d2, d3, d4] => { results := [.lit (.bool false)], args := [d1, d2, d3, d4] }
  | _ => none }
def JournalSpoiltWrongFalsely : Prop := journalSpoiltRow.holds Try.pinned (OpenSpec.ofChange journalSpoiltWrong)

/-- 'chirographlaw07.JournalPlays': WHATEVER THE INPUT: true; the input reads as it did. -/
def journalPlaysSpec : ChangeSpec := { name := "journalPlays", fn := fun _ => fun
  | [d1, d2] => { results := [.lit (.bool true)], args := [d1, d2] }
  | _ => none }
def journalPlaysRow : OpenClaim := { program := "ytknkbioalohofaa", sum := "a36cd01f46dcf38aabc6984faa69e78eca0dbbd1a15c68d60b6c22274cd5d33d", func := "chirograph/chirographlaw07.JournalPlays", spec := "journalPlays", unfollowed := true, recurses := true, apart := false }
def JournalPlaysSaid : Prop := journalPlaysRow.holds Try.pinned (OpenSpec.ofChange journalPlaysSpec)

/-- ITS FALSE NEIGHBOUR: 'it returns false'. Refute it at one input. -/
def journalPlaysWrong : ChangeSpec := { name := "journalPlays", fn := fun _ => fun
  | [d1, d2] => { results := [.lit (.bool false)], args := [d1, d2] }
  | _ => none }
def JournalPlaysWrongFalsely : Prop := journalPlaysRow.holds Try.pinned (OpenSpec.ofChange journalPlaysWrong)

/-- 'chirographtop.ChirographKept': WHATEVER THE INPUT: true; the input reads as it did. -/
def chirographKeptSpec : ChangeSpec := { name := "chirographKept", fn := fun _ => fun
  | [d1, d2, d3, d4] => { results := [.lit (.bool true)], args := [d1, d2, d3, d4] }
  | _ => none }
def chirographKeptRow : OpenClaim := { program := "ytknkbioalohofaa", sum := "a36cd01f46dcf38aabc6984faa69e78eca0dbbd1a15c68d60b6c22274cd5d33d", func := "chirograph/chirographtop.ChirographKept", spec := "chirographKept", unfollowed := true, recurses := true, apart := false }
def ChirographKeptSaid : Prop := chirographKeptRow.holds Try.pinned (OpenSpec.ofChange chirographKeptSpec)

/-- ITS FALSE NEIGHBOUR: 'it returns false'. Refute it at one input. -/
def chirographKeptWrong : ChangeSpec := { name := "chirographKept", fn := fun _ => fun
  | [d1, d2, d3, d4] => { results := [.lit (.bool false)], args := [d1, d2, d3, d4] }
  | _ => none }
def ChirographKeptWrongFalsely : Prop := chirographKeptRow.holds Try.pinned (OpenSpec.ofChange chirographKeptWrong)

/- THE SECOND FORM. 'bulk': how many values and letters a reading holds, each counted each time it is reached (what is shared counts as often as it is met; a slice's spare places count too). A statement '..UptoSaid' is the law's where the arguments, and the package variables that the reading takes, are together of bulk at most 1048576: NARROWER than '..Said'. Prove '..Said' where nothing that the law and all that it calls make is longer than what came in: it says more and counts as full. Else prove '..UptoSaid'. A law counts once. -/
mutual
def uptoBulk {H : Type} : DataW H → Nat
  | .lit (.string bytes) => bytes.length + 1
  | .lit _ => 1
  | .nil => 1
  | .ptr d => uptoBulk d + 1
  | .slice elems spare => uptoBulkAll elems + uptoBulkAll spare + 1
  | .agg parts => uptoBulkAll parts + 1
  | .iface _ d => uptoBulk d + 1
  | .map entries => uptoBulkEntries entries + 1
  | .held _ => 1
def uptoBulkAll {H : Type} : List (DataW H) → Nat
  | [] => 0
  | d :: r => uptoBulk d + uptoBulkAll r
def uptoBulkEntries {H : Type} : List (Lit × DataW H) → Nat
  | [] => 0
  | x :: r => uptoBulkEntry x + uptoBulkEntries r
def uptoBulkEntry {H : Type} : Lit × DataW H → Nat
  | (.string bytes, d) => bytes.length + uptoBulk d + 1
  | (_, d) => uptoBulk d + 1
 end
def uptoSmall : (H : Type) → List (DataW H) → Bool := fun _ ds => decide (uptoBulkAll ds ≤ 1048576)
def OpenSpec.upto (s : _root_.Go.ChangeSpec) : _root_.Go.OpenSpec := { _root_.Go.OpenSpec.ofChange s with cond := some uptoSmall }

/-- 'chirographlaw04.SealWraps', WHERE WHAT IT READS IS OF BULK AT MOST 1048576: true; the input reads as it did. -/
def sealWrapsUptoRow : OpenClaim := { program := "ytknkbioalohofaa", sum := "a36cd01f46dcf38aabc6984faa69e78eca0dbbd1a15c68d60b6c22274cd5d33d", func := "chirograph/chirographlaw04.SealWraps", spec := "sealWraps", apart := false, narrowed := true }
def SealWrapsUptoSaid : Prop := sealWrapsUptoRow.holds Try.pinned (OpenSpec.upto sealWrapsSpec)

/-- 'chirographlaw04.SealOpens', WHERE WHAT IT READS IS OF BULK AT MOST 1048576: true; the input reads as it did. -/
def sealOpensUptoRow : OpenClaim := { program := "ytknkbioalohofaa", sum := "a36cd01f46dcf38aabc6984faa69e78eca0dbbd1a15c68d60b6c22274cd5d33d", func := "chirograph/chirographlaw04.SealOpens", spec := "sealOpens", apart := false, narrowed := true }
def SealOpensUptoSaid : Prop := sealOpensUptoRow.holds Try.pinned (OpenSpec.upto sealOpensSpec)

/-- 'chirographlaw04.SealCuts', WHERE WHAT IT READS IS OF BULK AT MOST 1048576: true; the input reads as it did. -/
def sealCutsUptoRow : OpenClaim := { program := "ytknkbioalohofaa", sum := "a36cd01f46dcf38aabc6984faa69e78eca0dbbd1a15c68d60b6c22274cd5d33d", func := "chirograph/chirographlaw04.SealCuts", spec := "sealCuts", apart := false, narrowed := true }
def SealCutsUptoSaid : Prop := sealCutsUptoRow.holds Try.pinned (OpenSpec.upto sealCutsSpec)

/-- 'chirographlaw04.SealSpoilt', WHERE WHAT IT READS IS OF BULK AT MOST 1048576: true; the input reads as it did. -/
def sealSpoiltUptoRow : OpenClaim := { program := "ytknkbioalohofaa", sum := "a36cd01f46dcf38aabc6984faa69e78eca0dbbd1a15c68d60b6c22274cd5d33d", func := "chirograph/chirographlaw04.SealSpoilt", spec := "sealSpoilt", apart := false, narrowed := true }
def SealSpoiltUptoSaid : Prop := sealSpoiltUptoRow.holds Try.pinned (OpenSpec.upto sealSpoiltSpec)

/-- 'chirographlaw04.SealLong', WHERE WHAT IT READS IS OF BULK AT MOST 1048576: true; the input reads as it did. -/
def sealLongUptoRow : OpenClaim := { program := "ytknkbioalohofaa", sum := "a36cd01f46dcf38aabc6984faa69e78eca0dbbd1a15c68d60b6c22274cd5d33d", func := "chirograph/chirographlaw04.SealLong", spec := "sealLong", apart := false, narrowed := true }
def SealLongUptoSaid : Prop := sealLongUptoRow.holds Try.pinned (OpenSpec.upto sealLongSpec)

/-- 'chirographtop.ChirographSealed', WHERE WHAT IT READS IS OF BULK AT MOST 1048576: true; the input reads as it did. -/
def chirographSealedUptoRow : OpenClaim := { program := "ytknkbioalohofaa", sum := "a36cd01f46dcf38aabc6984faa69e78eca0dbbd1a15c68d60b6c22274cd5d33d", func := "chirograph/chirographtop.ChirographSealed", spec := "chirographSealed", apart := false, narrowed := true }
def ChirographSealedUptoSaid : Prop := chirographSealedUptoRow.holds Try.pinned (OpenSpec.upto chirographSealedSpec)

/-- 'chirographlaw05.DiskSure', WHERE WHAT IT READS IS OF BULK AT MOST 1048576: true; the input reads as it did. -/
def diskSureUptoRow : OpenClaim := { program := "ytknkbioalohofaa", sum := "a36cd01f46dcf38aabc6984faa69e78eca0dbbd1a15c68d60b6c22274cd5d33d", func := "chirograph/chirographlaw05.DiskSure", spec := "diskSure", unfollowed := true, recurses := true, apart := false, narrowed := true }
def DiskSureUptoSaid : Prop := diskSureUptoRow.holds Try.pinned (OpenSpec.upto diskSureSpec)

/-- 'chirographlaw05.DiskRoom', WHERE WHAT IT READS IS OF BULK AT MOST 1048576: true; the input reads as it did. -/
def diskRoomUptoRow : OpenClaim := { program := "ytknkbioalohofaa", sum := "a36cd01f46dcf38aabc6984faa69e78eca0dbbd1a15c68d60b6c22274cd5d33d", func := "chirograph/chirographlaw05.DiskRoom", spec := "diskRoom", unfollowed := true, recurses := true, apart := false, narrowed := true }
def DiskRoomUptoSaid : Prop := diskRoomUptoRow.holds Try.pinned (OpenSpec.upto diskRoomSpec)

/-- 'chirographlaw05.DiskDies', WHERE WHAT IT READS IS OF BULK AT MOST 1048576: true; the input reads as it did. -/
def diskDiesUptoRow : OpenClaim := { program := "ytknkbioalohofaa", sum := "a36cd01f46dcf38aabc6984faa69e78eca0dbbd1a15c68d60b6c22274cd5d33d", func := "chirograph/chirographlaw05.DiskDies", spec := "diskDies", unfollowed := true, recurses := true, apart := false, narrowed := true }
def DiskDiesUptoSaid : Prop := diskDiesUptoRow.holds Try.pinned (OpenSpec.upto diskDiesSpec)

/-- 'chirographlaw05.DiskApart', WHERE WHAT IT READS IS OF BULK AT MOST 1048576: true; the input reads as it did. -/
def diskApartUptoRow : OpenClaim := { program := "ytknkbioalohofaa", sum := "a36cd01f46dcf38aabc6984faa69e78eca0dbbd1a15c68d60b6c22274cd5d33d", func := "chirograph/chirographlaw05.DiskApart", spec := "diskApart", unfollowed := true, recurses := true, apart := false, narrowed := true }
def DiskApartUptoSaid : Prop := diskApartUptoRow.holds Try.pinned (OpenSpec.upto diskApartSpec)

/-- 'chirographlaw05.DiskPlays', WHERE WHAT IT READS IS OF BULK AT MOST 1048576: true; the input reads as it did. -/
def diskPlaysUptoRow : OpenClaim := { program := "ytknkbioalohofaa", sum := "a36cd01f46dcf38aabc6984faa69e78eca0dbbd1a15c68d60b6c22274cd5d33d", func := "chirograph/chirographlaw05.DiskPlays", spec := "diskPlays", unfollowed := true, recurses := true, apart := false, narrowed := true }
def DiskPlaysUptoSaid : Prop := diskPlaysUptoRow.holds Try.pinned (OpenSpec.upto diskPlaysSpec)

/-- 'chirographlaw07.JournalKeeps', WHERE WHAT IT READS IS OF BULK AT MOST 1048576: true; the input reads as it did. -/
def journalKeepsUptoRow : OpenClaim := { program := "ytknkbioalohofaa", sum := "a36cd01f46dcf38aabc6984faa69e78eca0dbbd1a15c68d60b6c22274cd5d33d", func := "chirograph/chirographlaw07.JournalKeeps", spec := "journalKeeps", unfollowed := true, recurses := true, apart := false, narrowed := true }
def JournalKeepsUptoSaid : Prop := journalKeepsUptoRow.holds Try.pinned (OpenSpec.upto journalKeepsSpec)

/-- 'chirographlaw07.JournalFull', WHERE WHAT IT READS IS OF BULK AT MOST 1048576: true; the input reads as it did. -/
def journalFullUptoRow : OpenClaim := { program := "ytknkbioalohofaa", sum := "a36cd01f46dcf38aabc6984faa69e78eca0dbbd1a15c68d60b6c22274cd5d33d", func := "chirograph/chirographlaw07.JournalFull", spec := "journalFull", unfollowed := true, recurses := true, apart := false, narrowed := true }
def JournalFullUptoSaid : Prop := journalFullUptoRow.holds Try.pinned (OpenSpec.upto journalFullSpec)

/-- 'chirographlaw07.JournalSpoilt', WHERE WHAT IT READS IS OF BULK AT MOST 1048576: true; the input reads as it did. -/
def journalSpoiltUptoRow : OpenClaim := { program := "ytknkbioalohofaa", sum := "a36cd01f46dcf38aabc6984faa69e78eca0dbbd1a15c68d60b6c22274cd5d33d", func := "chirograph/chirographlaw07.JournalSpoilt", spec := "journalSpoilt", unfollowed := true, recurses := true, apart := false, narrowed := true }
def JournalSpoiltUptoSaid : Prop := journalSpoiltUptoRow.holds Try.pinned (OpenSpec.upto journalSpoiltSpec)

/-- 'chirographlaw07.JournalPlays', WHERE WHAT IT READS IS OF BULK AT MOST 1048576: true; the input reads as it did. -/
def journalPlaysUptoRow : OpenClaim := { program := "ytknkbioalohofaa", sum := "a36cd01f46dcf38aabc6984faa69e78eca0dbbd1a15c68d60b6c22274cd5d33d", func := "chirograph/chirographlaw07.JournalPlays", spec := "journalPlays", unfollowed := true, recurses := true, apart := false, narrowed := true }
def JournalPlaysUptoSaid : Prop := journalPlaysUptoRow.holds Try.pinned (OpenSpec.upto journalPlaysSpec)

/-- 'chirographtop.ChirographKept', WHERE WHAT IT READS IS OF BULK AT MOST 1048576: true; the input reads as it did. -/
def chirographKeptUptoRow : OpenClaim := { program := "ytknkbioalohofaa", sum := "a36cd01f46dcf38aabc6984faa69e78eca0dbbd1a15c68d60b6c22274cd5d33d", func := "chirograph/chirographtop.ChirographKept", spec := "chirographKept", unfollowed := true, recurses := true, apart := false, narrowed := true }
def ChirographKeptUptoSaid : Prop := chirographKeptUptoRow.holds Try.pinned (OpenSpec.upto chirographKeptSpec)

end Rows
end Go.Proofs.Ytknkbioalohofaa
