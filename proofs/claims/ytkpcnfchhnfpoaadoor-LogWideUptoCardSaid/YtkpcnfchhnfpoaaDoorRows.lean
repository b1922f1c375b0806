/-
  NARROWER THAN 'FOR EVERY INPUT', by the rows' own cells (each row's printed sentence says how): LogDeltas: laid · LogMerges: laid · LogBacks: laid · LogKeeps: laid · LogPlays: laid · LogWide: laid · LogEnds: laid.
  DERIVED. THE GIVEN ROWS OF THIS SEAT. 7 by the template 'for every input the law returns true; each argument reads behind the call as it read before'; 0 by the template 'total and deterministic' (their statements: YtkpcnfchhnfpoaaDoorTotals.lean).
  GIVEN WITH THE SEED: the statements are not yours to turn. If you find one false, say at which input.
  Laid BY PROGRAM, IN A SANDBOX (cutbox-rows.mjs): the forced cells as the released guide's own fill.sh prints them over the translation fc466af02697a616… (all of the seat's roots in one cut). By AI agents, Wed Nov 11 2026. No macro, syntax, notation, axiom, sorry.
-/
import Derived.Test.YtkpcnfchhnfpoaaDoorChecked
import GoSem.PinnedTables
import GoSem.Claim
import GoSem.ClaimJoined
import GoSem.ClaimMapViews
import Derived.JoinedTies
import Derived.KernelRfl
namespace Go.Proofs.YtkpcnfchhnfpoaaDoor
/- THE CELL 'sum', in the pinned program and in every row, IS THE sha256 OF THE DUMP (.gsa) THAT YtkpcnfchhnfpoaaDoorProg.lean LOADS. Nothing in Lean hashes anything: it is a label: what it is worth is what the hold of that sum in a sandbox is worth. -/
noncomputable def Tryd.pinned : Pinned := { name := "ytkpcnfchhnfpoaadoor", sum := "fc466af02697a6167230a55ad79d1f4008ad6b0497eaa813caf427c40c3ef134", checked := Tryd.checked }
namespace Rows
def none {H : Type} : Left H := { results := [], args := [] }

/- WHAT THE LISTED PACKAGE-LEVEL VARIABLES READ AS WHEN THE CALL BEGINS. Each datum BY PROGRAM (the guide's laid-datum.mjs) off the statement by which the dump's own 'gosem.cut.vars' lays the variable. In a bare row this is a premise. The card (YtkpcnfchhnfpoaaDoorCards.lean) ties it to the program's text. -/
def laid_unicode_utf8_acceptRanges {H : Type} : DataW H := .agg [.agg [.lit (.int .u8 128), .lit (.int .u8 191)], .agg [.lit (.int .u8 160), .lit (.int .u8 191)], .agg [.lit (.int .u8 128), .lit (.int .u8 159)], .agg [.lit (.int .u8 144), .lit (.int .u8 191)], .agg [.lit (.int .u8 128), .lit (.int .u8 143)], .agg [.lit (.int .u8 0), .lit (.int .u8 0)], .agg [.lit (.int .u8 0), .lit (.int .u8 0)], .agg [.lit (.int .u8 0), .lit (.int .u8 0)], .agg [.lit (.int .u8 0), .lit (.int .u8 0)], .agg [.lit (.int .u8 0), .lit (.int .u8 0)], .agg [.lit (.int .u8 0), .lit (.int .u8 0)], .agg [.lit (.int .u8 0), .lit (.int .u8 0)], .agg [.lit (.int .u8 0), .lit (.int .u8 0)], .agg [.lit (.int .u8 0), .lit (.int .u8 0)], .agg [.lit (.int .u8 0), .lit (.int .u8 0)], .agg [.lit (.int .u8 0), .lit (.int .u8 0)]]
/-- One of Go's own tables, pinned by name: the form's constant. -/
def laid_unicode_utf8_first : DataW Unit := Go.Pinned.utf8First

/-- 'bodkinlaw12.LogDeltas': WHATEVER THE INPUT: true; the input reads as it did. -/
def logDeltasSpec : ChangeSpec := { name := "logDeltas", fn := fun _ => fun
  | [d1, d2, d3, d4] => { results := [.lit (.bool true)], args := [d1, d2, d3, d4] }
  | _ => none }
def logDeltasRow : OpenClaim := { program := "ytkpcnfchhnfpoaadoor", sum := "fc466af02697a6167230a55ad79d1f4008ad6b0497eaa813caf427c40c3ef134", func := "bodkin/bodkinlaw12.LogDeltas", spec := "logDeltas", unfollowed := true, recurses := true, named := ["unicode/utf8.first", "unicode/utf8.acceptRanges"], apart := false, laid := [("unicode/utf8.acceptRanges", laid_unicode_utf8_acceptRanges), ("unicode/utf8.first", laid_unicode_utf8_first)] }
def LogDeltasSaid : Prop := logDeltasRow.holds Tryd.pinned (OpenSpec.ofChange logDeltasSpec)

/-- ITS FALSE NEIGHBOUR: 'it returns false'. Refute it at one input. -/
def logDeltasWrong : ChangeSpec := { name := "logDeltas", fn := fun _ => fun
  | [d1, d2, d3, d4] => { results := [.lit (.bool false)], args := [d1, d2, d3, d4] }
  | _ => none }
def LogDeltasWrongFalsely : Prop := logDeltasRow.holds Tryd.pinned (OpenSpec.ofChange logDeltasWrong)

/-- 'bodkinlaw12.LogMerges': WHATEVER THE INPUT: true; the input reads as it did. -/
def logMergesSpec : ChangeSpec := { name := "logMerges", fn := fun _ => fun
  | [d1, d2, d3] => { results := [.lit (.bool true)], args := [d1, d2, d3] }
  | _ => none }
def logMergesRow : OpenClaim := { program := "ytkpcnfchhnfpoaadoor", sum := "fc466af02697a6167230a55ad79d1f4008ad6b0497eaa813caf427c40c3ef134", func := "bodkin/bodkinlaw12.LogMerges", spec := "logMerges", unfollowed := true, recurses := true, named := ["unicode/utf8.first", "unicode/utf8.acceptRanges"], apart := false, laid := [("unicode/utf8.acceptRanges", laid_unicode_utf8_acceptRanges), ("unicode/utf8.first", laid_unicode_utf8_first)] }
def LogMergesSaid : Prop := logMergesRow.holds Tryd.pinned (OpenSpec.ofChange logMergesSpec)

/-- ITS FALSE NEIGHBOUR: 'it returns false'. Refute it at one input. -/
def logMergesWrong : ChangeSpec := { name := "logMerges", fn := fun _ => fun
  | [d1, d2, d3] => { results := [.lit (.bool false)], args := [d1, d2, d3] }
  | _ => none }
def LogMergesWrongFalsely : Prop := logMergesRow.holds Tryd.pinned (OpenSpec.ofChange logMergesWrong)

/-- 'bodkinlaw12.LogBacks': WHATEVER THE INPUT: true; the input reads as it did. -/
def logBacksSpec : ChangeSpec := { name := "logBacks", fn := fun _ => fun
  | [d1, d2, d3] => { results := [.lit (.bool true)], args := [d1, d2, d3] }
  | _ => none }
def logBacksRow : OpenClaim := { program := "ytkpcnfchhnfpoaadoor", sum := "fc466af02697a6167230a55ad79d1f4008ad6b0497eaa813caf427c40c3ef134", func := "bodkin/bodkinlaw12.LogBacks", spec := "logBacks", unfollowed := true, recurses := true, named := ["unicode/utf8.first", "unicode/utf8.acceptRanges"], apart := false, laid := [("unicode/utf8.acceptRanges", laid_unicode_utf8_acceptRanges), ("unicode/utf8.first", laid_unicode_utf8_first)] }
def LogBacksSaid : Prop := logBacksRow.holds Tryd.pinned (OpenSpec.ofChange logBacksSpec)

/-- ITS FALSE NEIGHBOUR: 'it returns false'. Refute it at one input. -/
def logBacksWrong : ChangeSpec := { name := "logBacks", fn := fun _ => fun
  | [d1, d2, d3] => { results := [.lit (.bool false)], args := [d1, d2, d3] }
  | _ => none }
def LogBacksWrongFalsely : Prop := logBacksRow.holds Tryd.pinned (OpenSpec.ofChange logBacksWrong)

/-- 'bodkinlaw12.LogKeeps': WHATEVER THE INPUT: true; the input reads as it did. -/
def logKeepsSpec : ChangeSpec := { name := "logKeeps", fn := fun _ => fun
  | [d1, d2] => { results := [.lit (.bool true)], args := [d1, d2] }
  | _ => none }
def logKeepsRow : OpenClaim := { program := "ytkpcnfchhnfpoaadoor", sum := "fc466af02697a6167230a55ad79d1f4008ad6b0497eaa813caf427c40c3ef134", func := "bodkin/bodkinlaw12.LogKeeps", spec := "logKeeps", unfollowed := true, recurses := true, named := ["unicode/utf8.first", "unicode/utf8.acceptRanges"], apart := false, laid := [("unicode/utf8.acceptRanges", laid_unicode_utf8_acceptRanges), ("unicode/utf8.first", laid_unicode_utf8_first)] }
def LogKeepsSaid : Prop := logKeepsRow.holds Tryd.pinned (OpenSpec.ofChange logKeepsSpec)

/-- ITS FALSE NEIGHBOUR: 'it returns false'. Refute it at one input. -/
def logKeepsWrong : ChangeSpec := { name := "logKeeps", fn := fun _ => fun
  | [d1, d2] => { results := [.lit (.bool false)], args := [d1, d2] }
  | _ => none }
def LogKeepsWrongFalsely : Prop := logKeepsRow.holds Tryd.pinned (OpenSpec.ofChange logKeepsWrong)

/-- 'bodkinlaw12.LogPlays': WHATEVER THE INPUT: true; the input reads as it did. -/
def logPlaysSpec : ChangeSpec := { name := "logPlays", fn := fun _ => fun
  | [d1, d2, d3] => { results := [.lit (.bool true)], args := [d1, d2, d3] }
  | _ => none }
def logPlaysRow : OpenClaim := { program := "ytkpcnfchhnfpoaadoor", sum := "fc466af02697a6167230a55ad79d1f4008ad6b0497eaa813caf427c40c3ef134", func := "bodkin/bodkinlaw12.LogPlays", spec := "logPlays", unfollowed := true, recurses := true, named := ["unicode/utf8.first", "unicode/utf8.acceptRanges"], apart := false, laid := [("unicode/utf8.acceptRanges", laid_unicode_utf8_acceptRanges), ("unicode/utf8.first", laid_unicode_utf8_first)] }
def LogPlaysSaid : Prop := logPlaysRow.holds Tryd.pinned (OpenSpec.ofChange logPlaysSpec)

/-- ITS FALSE NEIGHBOUR: 'it returns false'. Refute it at one input. -/
def logPlaysWrong : ChangeSpec := { name := "logPlays", fn := fun _ => fun
  | [d1, d2, d3] => { results := [.lit (.bool false)], args := [d1, d2, d3] }
  | _ => none }
def LogPlaysWrongFalsely : Prop := logPlaysRow.holds Tryd.pinned (OpenSpec.ofChange logPlaysWrong)

/-- 'bodkinlaw12.LogWide': WHATEVER THE INPUT: true; the input reads as it did. -/
def logWideSpec : ChangeSpec := { name := "logWide", fn := fun _ => fun
  | [d1, d2] => { results := [.lit (.bool true)], args := [d1, d2] }
  | _ => none }
def logWideRow : OpenClaim := { program := "ytkpcnfchhnfpoaadoor", sum := "fc466af02697a6167230a55ad79d1f4008ad6b0497eaa813caf427c40c3ef134", func := "bodkin/bodkinlaw12.LogWide", spec := "logWide", unfollowed := true, recurses := true, named := ["unicode/utf8.first", "unicode/utf8.acceptRanges"], apart := false, laid := [("unicode/utf8.acceptRanges", laid_unicode_utf8_acceptRanges), ("unicode/utf8.first", laid_unicode_utf8_first)] }
def LogWideSaid : Prop := logWideRow.holds Tryd.pinned (OpenSpec.ofChange logWideSpec)

/-- ITS FALSE NEIGHBOUR: 'it returns false'. Refute it at one input. -/
def logWideWrong : ChangeSpec := { name := "logWide", fn := fun _ => fun
  | [d1, d2] => { results := [.lit (.bool false)], args := [d1, d2] }
  | _ => none }
def LogWideWrongFalsely : Prop := logWideRow.holds Tryd.pinned (OpenSpec.ofChange logWideWrong)

/-- 'bodkinlaw12.LogEnds': WHATEVER THE INPUT: true; the input reads as it did. -/
def logEndsSpec : ChangeSpec := { name := "logEnds", fn := fun _ => fun
  | [d1, d2] => { results := [.lit (.bool true)], args := [d1, d2] }
  | _ => none }
def logEndsRow : OpenClaim := { program := "ytkpcnfchhnfpoaadoor", sum := "fc466af02697a6167230a55ad79d1f4008ad6b0497eaa813caf427c40c3ef134", func := "bodkin/bodkinlaw12.LogEnds", spec := "logEnds", unfollowed := true, recurses := true, named := ["unicode/utf8.first", "unicode/utf8.acceptRanges"], apart := false, laid := [("unicode/utf8.acceptRanges", laid_unicode_utf8_acceptRanges), ("unicode/utf8.first", laid_unicode_utf8_first)] }
def LogEndsSaid : Prop := logEndsRow.holds Tryd.pinned (OpenSpec.ofChange logEndsSpec)

/-- ITS FALSE NEIGHBOUR: 'it returns false'. Refute it at one input. -/
def logEndsWrong : ChangeSpec := { name := "logEnds", fn := fun _ => fun
  | [d1, d2] => { results := [.lit (.bool false)], args := [d1, d2] }
  | _ => none }
def LogEndsWrongFalsely : Prop := logEndsRow.holds Tryd.pinned (OpenSpec.ofChange logEndsWrong)

/- THE SECOND FORM. 'bulk': how many values and letters a reading holds, each counted each time it is reached (what is shared counts as often as it is met; a slice's spare places count too). A statement '..UptoSaid' is the law's where the arguments, and the package variables that the reading takes, are together of bulk at most 1048576: NARROWER than '..Said'. Prove '..Said' where nothing that the law and all that it calls make is longer than what came in: it says more and counts as full. Else prove '..UptoSaid'. A law counts once. -/
mutual
def uptoBulk {H : Type} : DataW H → Nat
  | .lit (.string bytes) => bytes.length + 1
  | .lit _ => 1
  | .nil => 1
  | .ptr d => uptoBulk d + 1
  | .slice elems spare => uptoBulkAll elems + uptoBulkAll spare + 1
  | .agg parts => uptoBulkAll parts + 1
  | .iface _ d => uptoBulk d + 1
  | .map entries => uptoBulkEntries entries + 1
  | .held _ => 1
def uptoBulkAll {H : Type} : List (DataW H) → Nat
  | [] => 0
  | d :: r => uptoBulk d + uptoBulkAll r
def uptoBulkEntries {H : Type} : List (Lit × DataW H) → Nat
  | [] => 0
  | x :: r => uptoBulkEntry x + uptoBulkEntries r
def uptoBulkEntry {H : Type} : Lit × DataW H → Nat
  | (.string bytes, d) => bytes.length + uptoBulk d + 1
  | (_, d) => uptoBulk d + 1
 end
def uptoSmall : (H : Type) → List (DataW H) → Bool := fun _ ds => decide (uptoBulkAll ds ≤ 1048576)
def OpenSpec.upto (s : _root_.Go.ChangeSpec) : _root_.Go.OpenSpec := { _root_.Go.OpenSpec.ofChange s with cond := some uptoSmall }

/-- 'bodkinlaw12.LogDeltas', WHERE WHAT IT READS IS OF BULK AT MOST 1048576: true; the input reads as it did. -/
def logDeltasUptoRow : OpenClaim := { program := "ytkpcnfchhnfpoaadoor", sum := "fc466af02697a6167230a55ad79d1f4008ad6b0497eaa813caf427c40c3ef134", func := "bodkin/bodkinlaw12.LogDeltas", spec := "logDeltas", unfollowed := true, recurses := true, named := ["unicode/utf8.first", "unicode/utf8.acceptRanges"], apart := false, laid := [("unicode/utf8.acceptRanges", laid_unicode_utf8_acceptRanges), ("unicode/utf8.first", laid_unicode_utf8_first)], narrowed := true }
def LogDeltasUptoSaid : Prop := logDeltasUptoRow.holds Tryd.pinned (OpenSpec.upto logDeltasSpec)

/-- 'bodkinlaw12.LogMerges', WHERE WHAT IT READS IS OF BULK AT MOST 1048576: true; the input reads as it did. -/
def logMergesUptoRow : OpenClaim := { program := "ytkpcnfchhnfpoaadoor", sum := "fc466af02697a6167230a55ad79d1f4008ad6b0497eaa813caf427c40c3ef134", func := "bodkin/bodkinlaw12.LogMerges", spec := "logMerges", unfollowed := true, recurses := true, named := ["unicode/utf8.first", "unicode/utf8.acceptRanges"], apart := false, laid := [("unicode/utf8.acceptRanges", laid_unicode_utf8_acceptRanges), ("unicode/utf8.first", laid_unicode_utf8_first)], narrowed := true }
def LogMergesUptoSaid : Prop := logMergesUptoRow.holds Tryd.pinned (OpenSpec.upto logMergesSpec)

/-- 'bodkinlaw12.LogBacks', WHERE WHAT IT READS IS OF BULK AT MOST 1048576: true; the input reads as it did. -/
def logBacksUptoRow : OpenClaim := { program := "ytkpcnfchhnfpoaadoor", sum := "fc466af02697a6167230a55ad79d1f4008ad6b0497eaa813caf427c40c3ef134", func := "bodkin/bodkinlaw12.LogBacks", spec := "logBacks", unfollowed := true, recurses := true, named := ["unicode/utf8.first", "unicode/utf8.acceptRanges"], apart := false, laid := [("unicode/utf8.acceptRanges", laid_unicode_utf8_acceptRanges), ("unicode/utf8.first", laid_unicode_utf8_first)], narrowed := true }
def LogBacksUptoSaid : Prop := logBacksUptoRow.holds Tryd.pinned (OpenSpec.upto logBacksSpec)

/-- 'bodkinlaw12.LogKeeps', WHERE WHAT IT READS IS OF BULK AT MOST 1048576: true; the input reads as it did. -/
def logKeepsUptoRow : OpenClaim := { program := "ytkpcnfchhnfpoaadoor", sum := "fc466af02697a6167230a55ad79d1f4008ad6b0497eaa813caf427c40c3ef134", func := "bodkin/bodkinlaw12.LogKeeps", spec := "logKeeps", unfollowed := true, recurses := true, named := ["unicode/utf8.first", "unicode/utf8.acceptRanges"], apart := false, laid := [("unicode/utf8.acceptRanges", laid_unicode_utf8_acceptRanges), ("unicode/utf8.first", laid_unicode_utf8_first)], narrowed := true }
def LogKeepsUptoSaid : Prop := logKeepsUptoRow.holds Tryd.pinned (OpenSpec.upto logKeepsSpec)

/-- 'bodkinlaw12.LogPlays', WHERE WHAT IT READS IS OF BULK AT MOST 1048576: true; the input reads as it did. -/
def logPlaysUptoRow : OpenClaim := { program := "ytkpcnfchhnfpoaadoor", sum := "fc466af02697a6167230a55ad79d1f4008ad6b0497eaa813caf427c40c3ef134", func := "bodkin/bodkinlaw12.LogPlays", spec := "logPlays", unfollowed := true, recurses := true, named := ["unicode/utf8.first", "unicode/utf8.acceptRanges"], apart := false, laid := [("unicode/utf8.acceptRanges", laid_unicode_utf8_acceptRanges), ("unicode/utf8.first", laid_unicode_utf8_first)], narrowed := true }
def LogPlaysUptoSaid : Prop := logPlaysUptoRow.holds Tryd.pinned (OpenSpec.upto logPlaysSpec)

/-- 'bodkinlaw12.LogWide', WHERE WHAT IT READS IS OF BULK AT MOST 1048576: true; the input reads as it did. -/
def logWideUptoRow : OpenClaim := { program := "ytkpcnfchhnfpoaadoor", sum := "fc466af02697a6167230a55ad79d1f4008ad6b0497eaa813caf427c40c3ef134", func := "bodkin/bodkinlaw12.LogWide", spec := "logWide", unfollowed := true, recurses := true, named := ["unicode/utf8.first", "unicode/utf8.acceptRanges"], apart := false, laid := [("unicode/utf8.acceptRanges", laid_unicode_utf8_acceptRanges), ("unicode/utf8.first", laid_unicode_utf8_first)], narrowed := true }
def LogWideUptoSaid : Prop := logWideUptoRow.holds Tryd.pinned (OpenSpec.upto logWideSpec)

/-- 'bodkinlaw12.LogEnds', WHERE WHAT IT READS IS OF BULK AT MOST 1048576: true; the input reads as it did. -/
def logEndsUptoRow : OpenClaim := { program := "ytkpcnfchhnfpoaadoor", sum := "fc466af02697a6167230a55ad79d1f4008ad6b0497eaa813caf427c40c3ef134", func := "bodkin/bodkinlaw12.LogEnds", spec := "logEnds", unfollowed := true, recurses := true, named := ["unicode/utf8.first", "unicode/utf8.acceptRanges"], apart := false, laid := [("unicode/utf8.acceptRanges", laid_unicode_utf8_acceptRanges), ("unicode/utf8.first", laid_unicode_utf8_first)], narrowed := true }
def LogEndsUptoSaid : Prop := logEndsUptoRow.holds Tryd.pinned (OpenSpec.upto logEndsSpec)

end Rows
end Go.Proofs.YtkpcnfchhnfpoaaDoor
