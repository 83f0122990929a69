/-
  No cell of these rows narrows 'for every input' (looked for: loops, veiled, ifaces, maps, wideKeys, modest, calm, conditions, laid).
  DERIVED. THE GIVEN ROWS OF THIS SEAT. 12 by the template 'for every input the law returns true; each argument reads behind the call as it read before'; 0 by the template 'total and deterministic' (their statements: YtpneikbihcoaaaaTotals.lean).
  GIVEN WITH THE SEED: the statements are not yours to turn. If you find one false, say at which input.
  Laid BY PROGRAM, IN A SANDBOX (cutbox-rows.mjs): the forced cells as the released guide's own fill.sh prints them over the translation bbfffd63636f8c03… (all of the seat's roots in one cut). By AI agents, Wed Nov 11 2026. No macro, syntax, notation, axiom, sorry.
-/
import Derived.Test.YtpneikbihcoaaaaChecked
import GoSem.Claim
import GoSem.ClaimJoined
import GoSem.ClaimMapViews
import Derived.JoinedTies
import Derived.KernelRfl
namespace Go.Proofs.Ytpneikbihcoaaaa
/- THE CELL 'sum', in the pinned program and in every row, IS THE sha256 OF THE DUMP (.gsa) THAT YtpneikbihcoaaaaProg.lean LOADS. Nothing in Lean hashes anything: it is a label: what it is worth is what the hold of that sum in a sandbox is worth. -/
noncomputable def Try.pinned : Pinned := { name := "ytpneikbihcoaaaa", sum := "bbfffd63636f8c039a79b79790f03e913ef89aad3419cc4d06001beb62a2df44", checked := Try.checked }
namespace Rows
def none {H : Type} : Left H := { results := [], args := [] }

/-- 'tamislaw03.RecordTells': WHATEVER THE INPUT: true; the input reads as it did. -/
def recordTellsSpec : ChangeSpec := { name := "recordTells", fn := fun _ => fun
  | [d1, d2, d3, d4] => { results := [.lit (.bool true)], args := [d1, d2, d3, d4] }
  | _ => none }
def recordTellsRow : OpenClaim := { program := "ytpneikbihcoaaaa", sum := "bbfffd63636f8c039a79b79790f03e913ef89aad3419cc4d06001beb62a2df44", func := "tamis/tamislaw03.RecordTells", spec := "recordTells", apart := false }
def RecordTellsSaid : Prop := recordTellsRow.holds Try.pinned (OpenSpec.ofChange recordTellsSpec)

/-- ITS FALSE NEIGHBOUR: 'it returns false'. Refute it at one input. -/
def recordTellsWrong : ChangeSpec := { name := "recordTells", fn := fun _ => fun
  | [d1, d2, d3, d4] => { results := [.lit (.bool false)], args := [d1, d2, d3, d4] }
  | _ => none }
def RecordTellsWrongFalsely : Prop := recordTellsRow.holds Try.pinned (OpenSpec.ofChange recordTellsWrong)

/-- 'tamislaw03.RecordFields': WHATEVER THE INPUT: true; the input reads as it did. -/
def recordFieldsSpec : ChangeSpec := { name := "recordFields", fn := fun _ => fun
  | [d1, d2, d3] => { results := [.lit (.bool true)], args := [d1, d2, d3] }
  | _ => none }
def recordFieldsRow : OpenClaim := { program := "ytpneikbihcoaaaa", sum := "bbfffd63636f8c039a79b79790f03e913ef89aad3419cc4d06001beb62a2df44", func := "tamis/tamislaw03.RecordFields", spec := "recordFields", apart := false }
def RecordFieldsSaid : Prop := recordFieldsRow.holds Try.pinned (OpenSpec.ofChange recordFieldsSpec)

/-- ITS FALSE NEIGHBOUR: 'it returns false'. Refute it at one input. -/
def recordFieldsWrong : ChangeSpec := { name := "recordFields", fn := fun _ => fun
  | [d1, d2, d3] => { results := [.lit (.bool false)], args := [d1, d2, d3] }
  | _ => none }
def RecordFieldsWrongFalsely : Prop := recordFieldsRow.holds Try.pinned (OpenSpec.ofChange recordFieldsWrong)

/-- 'tamislaw03.RecordReads': WHATEVER THE INPUT: true; the input reads as it did. -/
def recordReadsSpec : ChangeSpec := { name := "recordReads", fn := fun _ => fun
  | [d1, d2] => { results := [.lit (.bool true)], args := [d1, d2] }
  | _ => none }
def recordReadsRow : OpenClaim := { program := "ytpneikbihcoaaaa", sum := "bbfffd63636f8c039a79b79790f03e913ef89aad3419cc4d06001beb62a2df44", func := "tamis/tamislaw03.RecordReads", spec := "recordReads", apart := false }
def RecordReadsSaid : Prop := recordReadsRow.holds Try.pinned (OpenSpec.ofChange recordReadsSpec)

/-- ITS FALSE NEIGHBOUR: 'it returns false'. Refute it at one input. -/
def recordReadsWrong : ChangeSpec := { name := "recordReads", fn := fun _ => fun
  | [d1, d2] => { results := [.lit (.bool false)], args := [d1, d2] }
  | _ => none }
def RecordReadsWrongFalsely : Prop := recordReadsRow.holds Try.pinned (OpenSpec.ofChange recordReadsWrong)

/-- 'tamislaw03.RecordWords': WHATEVER THE INPUT: true; the input reads as it did. -/
def recordWordsSpec : ChangeSpec := { name := "recordWords", fn := fun _ => fun
  | [d1, d2] => { results := [.lit (.bool true)], args := [d1, d2] }
  | _ => none }
def recordWordsRow : OpenClaim := { program := "ytpneikbihcoaaaa", sum := "bbfffd63636f8c039a79b79790f03e913ef89aad3419cc4d06001beb62a2df44", func := "tamis/tamislaw03.RecordWords", spec := "recordWords", apart := false }
def RecordWordsSaid : Prop := recordWordsRow.holds Try.pinned (OpenSpec.ofChange recordWordsSpec)

/-- ITS FALSE NEIGHBOUR: 'it returns false'. Refute it at one input. -/
def recordWordsWrong : ChangeSpec := { name := "recordWords", fn := fun _ => fun
  | [d1, d2] => { results := [.lit (.bool false)], args := [d1, d2] }
  | _ => none }
def RecordWordsWrongFalsely : Prop := recordWordsRow.holds Try.pinned (OpenSpec.ofChange recordWordsWrong)

/-- 'tamislaw03.RecordBytes': WHATEVER THE INPUT: true; the input reads as it did. -/
def recordBytesSpec : ChangeSpec := { name := "recordBytes", fn := fun _ => fun
  | [d1, d2] => { results := [.lit (.bool true)], args := [d1, d2] }
  | _ => none }
def recordBytesRow : OpenClaim := { program := "ytpneikbihcoaaaa", sum := "bbfffd63636f8c039a79b79790f03e913ef89aad3419cc4d06001beb62a2df44", func := "tamis/tamislaw03.RecordBytes", spec := "recordBytes", apart := false }
def RecordBytesSaid : Prop := recordBytesRow.holds Try.pinned (OpenSpec.ofChange recordBytesSpec)

/-- ITS FALSE NEIGHBOUR: 'it returns false'. Refute it at one input. -/
def recordBytesWrong : ChangeSpec := { name := "recordBytes", fn := fun _ => fun
  | [d1, d2] => { results := [.lit (.bool false)], args := [d1, d2] }
  | _ => none }
def RecordBytesWrongFalsely : Prop := recordBytesRow.holds Try.pinned (OpenSpec.ofChange recordBytesWrong)

/-- 'tamislaw03.RecordUndo': WHATEVER THE INPUT: true; the input reads as it did. -/
def recordUndoSpec : ChangeSpec := { name := "recordUndo", fn := fun _ => fun
  | [d] => { results := [.lit (.bool true)], args := [d] }
  | _ => none }
def recordUndoRow : OpenClaim := { program := "ytpneikbihcoaaaa", sum := "bbfffd63636f8c039a79b79790f03e913ef89aad3419cc4d06001beb62a2df44", func := "tamis/tamislaw03.RecordUndo", spec := "recordUndo", apart := false }
def RecordUndoSaid : Prop := recordUndoRow.holds Try.pinned (OpenSpec.ofChange recordUndoSpec)

/-- ITS FALSE NEIGHBOUR: 'it returns false'. Refute it at one input. -/
def recordUndoWrong : ChangeSpec := { name := "recordUndo", fn := fun _ => fun
  | [d] => { results := [.lit (.bool false)], args := [d] }
  | _ => none }
def RecordUndoWrongFalsely : Prop := recordUndoRow.holds Try.pinned (OpenSpec.ofChange recordUndoWrong)

/-- 'tamislaw15.IsetNorm': WHATEVER THE INPUT: true; the input reads as it did. -/
def isetNormSpec : ChangeSpec := { name := "isetNorm", fn := fun _ => fun
  | [d1, d2, d3] => { results := [.lit (.bool true)], args := [d1, d2, d3] }
  | _ => none }
def isetNormRow : OpenClaim := { program := "ytpneikbihcoaaaa", sum := "bbfffd63636f8c039a79b79790f03e913ef89aad3419cc4d06001beb62a2df44", func := "tamis/tamislaw15.IsetNorm", spec := "isetNorm", unfollowed := true, recurses := true, apart := false }
def IsetNormSaid : Prop := isetNormRow.holds Try.pinned (OpenSpec.ofChange isetNormSpec)

/-- ITS FALSE NEIGHBOUR: 'it returns false'. Refute it at one input. -/
def isetNormWrong : ChangeSpec := { name := "isetNorm", fn := fun _ => fun
  | [d1, d2, d3] => { results := [.lit (.bool false)], args := [d1, d2, d3] }
  | _ => none }
def IsetNormWrongFalsely : Prop := isetNormRow.holds Try.pinned (OpenSpec.ofChange isetNormWrong)

/-- 'tamislaw15.IsetOps': WHATEVER THE INPUT: true; the input reads as it did. -/
def isetOpsSpec : ChangeSpec := { name := "isetOps", fn := fun _ => fun
  | [d1, d2, d3] => { results := [.lit (.bool true)], args := [d1, d2, d3] }
  | _ => none }
def isetOpsRow : OpenClaim := { program := "ytpneikbihcoaaaa", sum := "bbfffd63636f8c039a79b79790f03e913ef89aad3419cc4d06001beb62a2df44", func := "tamis/tamislaw15.IsetOps", spec := "isetOps", unfollowed := true, recurses := true, apart := false }
def IsetOpsSaid : Prop := isetOpsRow.holds Try.pinned (OpenSpec.ofChange isetOpsSpec)

/-- ITS FALSE NEIGHBOUR: 'it returns false'. Refute it at one input. -/
def isetOpsWrong : ChangeSpec := { name := "isetOps", fn := fun _ => fun
  | [d1, d2, d3] => { results := [.lit (.bool false)], args := [d1, d2, d3] }
  | _ => none }
def IsetOpsWrongFalsely : Prop := isetOpsRow.holds Try.pinned (OpenSpec.ofChange isetOpsWrong)

/-- 'tamislaw15.IsetLaws': WHATEVER THE INPUT: true; the input reads as it did. -/
def isetLawsSpec : ChangeSpec := { name := "isetLaws", fn := fun _ => fun
  | [d1, d2, d3] => { results := [.lit (.bool true)], args := [d1, d2, d3] }
  | _ => none }
def isetLawsRow : OpenClaim := { program := "ytpneikbihcoaaaa", sum := "bbfffd63636f8c039a79b79790f03e913ef89aad3419cc4d06001beb62a2df44", func := "tamis/tamislaw15.IsetLaws", spec := "isetLaws", unfollowed := true, recurses := true, apart := false }
def IsetLawsSaid : Prop := isetLawsRow.holds Try.pinned (OpenSpec.ofChange isetLawsSpec)

/-- ITS FALSE NEIGHBOUR: 'it returns false'. Refute it at one input. -/
def isetLawsWrong : ChangeSpec := { name := "isetLaws", fn := fun _ => fun
  | [d1, d2, d3] => { results := [.lit (.bool false)], args := [d1, d2, d3] }
  | _ => none }
def IsetLawsWrongFalsely : Prop := isetLawsRow.holds Try.pinned (OpenSpec.ofChange isetLawsWrong)

/-- 'tamislaw15.IsetOf': WHATEVER THE INPUT: true; the input reads as it did. -/
def isetOfSpec : ChangeSpec := { name := "isetOf", fn := fun _ => fun
  | [d1, d2, d3] => { results := [.lit (.bool true)], args := [d1, d2, d3] }
  | _ => none }
def isetOfRow : OpenClaim := { program := "ytpneikbihcoaaaa", sum := "bbfffd63636f8c039a79b79790f03e913ef89aad3419cc4d06001beb62a2df44", func := "tamis/tamislaw15.IsetOf", spec := "isetOf", unfollowed := true, recurses := true, apart := false }
def IsetOfSaid : Prop := isetOfRow.holds Try.pinned (OpenSpec.ofChange isetOfSpec)

/-- ITS FALSE NEIGHBOUR: 'it returns false'. Refute it at one input. -/
def isetOfWrong : ChangeSpec := { name := "isetOf", fn := fun _ => fun
  | [d1, d2, d3] => { results := [.lit (.bool false)], args := [d1, d2, d3] }
  | _ => none }
def IsetOfWrongFalsely : Prop := isetOfRow.holds Try.pinned (OpenSpec.ofChange isetOfWrong)

/-- 'tamislaw15.IsetCount': WHATEVER THE INPUT: true; the input reads as it did. -/
def isetCountSpec : ChangeSpec := { name := "isetCount", fn := fun _ => fun
  | [d1, d2] => { results := [.lit (.bool true)], args := [d1, d2] }
  | _ => none }
def isetCountRow : OpenClaim := { program := "ytpneikbihcoaaaa", sum := "bbfffd63636f8c039a79b79790f03e913ef89aad3419cc4d06001beb62a2df44", func := "tamis/tamislaw15.IsetCount", spec := "isetCount", unfollowed := true, recurses := true, apart := false }
def IsetCountSaid : Prop := isetCountRow.holds Try.pinned (OpenSpec.ofChange isetCountSpec)

/-- ITS FALSE NEIGHBOUR: 'it returns false'. Refute it at one input. -/
def isetCountWrong : ChangeSpec := { name := "isetCount", fn := fun _ => fun
  | [d1, d2] => { results := [.lit (.bool false)], args := [d1, d2] }
  | _ => none }
def IsetCountWrongFalsely : Prop := isetCountRow.holds Try.pinned (OpenSpec.ofChange isetCountWrong)

/-- 'tamislaw15.IsetWords': WHATEVER THE INPUT: true; the input reads as it did. -/
def isetWordsSpec : ChangeSpec := { name := "isetWords", fn := fun _ => fun
  | [d1, d2, d3] => { results := [.lit (.bool true)], args := [d1, d2, d3] }
  | _ => none }
def isetWordsRow : OpenClaim := { program := "ytpneikbihcoaaaa", sum := "bbfffd63636f8c039a79b79790f03e913ef89aad3419cc4d06001beb62a2df44", func := "tamis/tamislaw15.IsetWords", spec := "isetWords", unfollowed := true, recurses := true, apart := false }
def IsetWordsSaid : Prop := isetWordsRow.holds Try.pinned (OpenSpec.ofChange isetWordsSpec)

/-- ITS FALSE NEIGHBOUR: 'it returns false'. Refute it at one input. -/
def isetWordsWrong : ChangeSpec := { name := "isetWords", fn := fun _ => fun
  | [d1, d2, d3] => { results := [.lit (.bool false)], args := [d1, d2, d3] }
  | _ => none }
def IsetWordsWrongFalsely : Prop := isetWordsRow.holds Try.pinned (OpenSpec.ofChange isetWordsWrong)

/- THE SECOND FORM. 'bulk': how many values and letters a reading holds, each counted each time it is reached (what is shared counts as often as it is met; a slice's spare places count too). A statement '..UptoSaid' is the law's where the arguments, and the package variables that the reading takes, are together of bulk at most 1048576: NARROWER than '..Said'. Prove '..Said' where nothing that the law and all that it calls make is longer than what came in: it says more and counts as full. Else prove '..UptoSaid'. A law counts once. -/
mutual
def uptoBulk {H : Type} : DataW H → Nat
  | .lit (.string bytes) => bytes.length + 1
  | .lit _ => 1
  | .nil => 1
  | .ptr d => uptoBulk d + 1
  | .slice elems spare => uptoBulkAll elems + uptoBulkAll spare + 1
  | .agg parts => uptoBulkAll parts + 1
  | .iface _ d => uptoBulk d + 1
  | .map entries => uptoBulkEntries entries + 1
  | .held _ => 1
def uptoBulkAll {H : Type} : List (DataW H) → Nat
  | [] => 0
  | d :: r => uptoBulk d + uptoBulkAll r
def uptoBulkEntries {H : Type} : List (Lit × DataW H) → Nat
  | [] => 0
  | x :: r => uptoBulkEntry x + uptoBulkEntries r
def uptoBulkEntry {H : Type} : Lit × DataW H → Nat
  | (.string bytes, d) => bytes.length + uptoBulk d + 1
  | (_, d) => uptoBulk d + 1
 end
def uptoSmall : (H : Type) → List (DataW H) → Bool := fun _ ds => decide (uptoBulkAll ds ≤ 1048576)
def OpenSpec.upto (s : _root_.Go.ChangeSpec) : _root_.Go.OpenSpec := { _root_.Go.OpenSpec.ofChange s with cond := some uptoSmall }

/-- 'tamislaw03.RecordTells', WHERE WHAT IT READS IS OF BULK AT MOST 1048576: true; the input reads as it did. -/
def recordTellsUptoRow : OpenClaim := { program := "ytpneikbihcoaaaa", sum := "bbfffd63636f8c039a79b79790f03e913ef89aad3419cc4d06001beb62a2df44", func := "tamis/tamislaw03.RecordTells", spec := "recordTells", apart := false, narrowed := true }
def RecordTellsUptoSaid : Prop := recordTellsUptoRow.holds Try.pinned (OpenSpec.upto recordTellsSpec)

/-- 'tamislaw03.RecordFields', WHERE WHAT IT READS IS OF BULK AT MOST 1048576: true; the input reads as it did. -/
def recordFieldsUptoRow : OpenClaim := { program := "ytpneikbihcoaaaa", sum := "bbfffd63636f8c039a79b79790f03e913ef89aad3419cc4d06001beb62a2df44", func := "tamis/tamislaw03.RecordFields", spec := "recordFields", apart := false, narrowed := true }
def RecordFieldsUptoSaid : Prop := recordFieldsUptoRow.holds Try.pinned (OpenSpec.upto recordFieldsSpec)

/-- 'tamislaw03.RecordReads', WHERE WHAT IT READS IS OF BULK AT MOST 1048576: true; the input reads as it did. -/
def recordReadsUptoRow : OpenClaim := { program := "ytpneikbihcoaaaa", sum := "bbfffd63636f8c039a79b79790f03e913ef89aad3419cc4d06001beb62a2df44", func := "tamis/tamislaw03.RecordReads", spec := "recordReads", apart := false, narrowed := true }
def RecordReadsUptoSaid : Prop := recordReadsUptoRow.holds Try.pinned (OpenSpec.upto recordReadsSpec)

/-- 'tamislaw03.RecordWords', WHERE WHAT IT READS IS OF BULK AT MOST 1048576: true; the input reads as it did. -/
def recordWordsUptoRow : OpenClaim := { program := "ytpneikbihcoaaaa", sum := "bbfffd63636f8c039a79b79790f03e913ef89aad3419cc4d06001beb62a2df44", func := "tamis/tamislaw03.RecordWords", spec := "recordWords", apart := false, narrowed := true }
def RecordWordsUptoSaid : Prop := recordWordsUptoRow.holds Try.pinned (OpenSpec.upto recordWordsSpec)

/-- 'tamislaw03.RecordBytes', WHERE WHAT IT READS IS OF BULK AT MOST 1048576: true; the input reads as it did. -/
def recordBytesUptoRow : OpenClaim := { program := "ytpneikbihcoaaaa", sum := "bbfffd63636f8c039a79b79790f03e913ef89aad3419cc4d06001beb62a2df44", func := "tamis/tamislaw03.RecordBytes", spec := "recordBytes", apart := false, narrowed := true }
def RecordBytesUptoSaid : Prop := recordBytesUptoRow.holds Try.pinned (OpenSpec.upto recordBytesSpec)

/-- 'tamislaw03.RecordUndo', WHERE WHAT IT READS IS OF BULK AT MOST 1048576: true; the input reads as it did. -/
def recordUndoUptoRow : OpenClaim := { program := "ytpneikbihcoaaaa", sum := "bbfffd63636f8c039a79b79790f03e913ef89aad3419cc4d06001beb62a2df44", func := "tamis/tamislaw03.RecordUndo", spec := "recordUndo", apart := false, narrowed := true }
def RecordUndoUptoSaid : Prop := recordUndoUptoRow.holds Try.pinned (OpenSpec.upto recordUndoSpec)

/-- 'tamislaw15.IsetNorm', WHERE WHAT IT READS IS OF BULK AT MOST 1048576: true; the input reads as it did. -/
def isetNormUptoRow : OpenClaim := { program := "ytpneikbihcoaaaa", sum := "bbfffd63636f8c039a79b79790f03e913ef89aad3419cc4d06001beb62a2df44", func := "tamis/tamislaw15.IsetNorm", spec := "isetNorm", unfollowed := true, recurses := true, apart := false, narrowed := true }
def IsetNormUptoSaid : Prop := isetNormUptoRow.holds Try.pinned (OpenSpec.upto isetNormSpec)

/-- 'tamislaw15.IsetOps', WHERE WHAT IT READS IS OF BULK AT MOST 1048576: true; the input reads as it did. -/
def isetOpsUptoRow : OpenClaim := { program := "ytpneikbihcoaaaa", sum := "bbfffd63636f8c039a79b79790f03e913ef89aad3419cc4d06001beb62a2df44", func := "tamis/tamislaw15.IsetOps", spec := "isetOps", unfollowed := true, recurses := true, apart := false, narrowed := true }
def IsetOpsUptoSaid : Prop := isetOpsUptoRow.holds Try.pinned (OpenSpec.upto isetOpsSpec)

/-- 'tamislaw15.IsetLaws', WHERE WHAT IT READS IS OF BULK AT MOST 1048576: true; the input reads as it did. -/
def isetLawsUptoRow : OpenClaim := { program := "ytpneikbihcoaaaa", sum := "bbfffd63636f8c039a79b79790f03e913ef89aad3419cc4d06001beb62a2df44", func := "tamis/tamislaw15.IsetLaws", spec := "isetLaws", unfollowed := true, recurses := true, apart := false, narrowed := true }
def IsetLawsUptoSaid : Prop := isetLawsUptoRow.holds Try.pinned (OpenSpec.upto isetLawsSpec)

/-- 'tamislaw15.IsetOf', WHERE WHAT IT READS IS OF BULK AT MOST 1048576: true; the input reads as it did. -/
def isetOfUptoRow : OpenClaim := { program := "ytpneikbihcoaaaa", sum := "bbfffd63636f8c039a79b79790f03e913ef89aad3419cc4d06001beb62a2df44", func := "tamis/tamislaw15.IsetOf", spec := "isetOf", unfollowed := true, recurses := true, apart := false, narrowed := true }
def IsetOfUptoSaid : Prop := isetOfUptoRow.holds Try.pinned (OpenSpec.upto isetOfSpec)

/-- 'tamislaw15.IsetCount', WHERE WHAT IT READS IS OF BULK AT MOST 1048576: true; the input reads as it did. -/
def isetCountUptoRow : OpenClaim := { program := "ytpneikbihcoaaaa", sum := "bbfffd63636f8c039a79b79790f03e913ef89aad3419cc4d06001beb62a2df44", func := "tamis/tamislaw15.IsetCount", spec := "isetCount", unfollowed := true, recurses := true, apart := false, narrowed := true }
def IsetCountUptoSaid : Prop := isetCountUptoRow.holds Try.pinned (OpenSpec.upto isetCountSpec)

/-- 'tamislaw15.IsetWords', WHERE WHAT IT READS IS OF BULK AT MOST 1048576: true; the input reads as it did. -/
def isetWordsUptoRow : OpenClaim := { program := "ytpneikbihcoaaaa", sum := "bbfffd63636f8c039a79b79790f03e913ef89aad3419cc4d06001beb62a2df44", func := "tamis/tamislaw15.IsetWords", spec := "isetWords", unfollowed := true, recurses := true, apart := false, narrowed := true }
def IsetWordsUptoSaid : Prop := isetWordsUptoRow.holds Try.pinned (OpenSpec.upto isetWordsSpec)

end Rows
end Go.Proofs.Ytpneikbihcoaaaa
