/-
  NARROWER THAN 'FOR EVERY INPUT', by the rows' own cells (each row's printed sentence says how): HistWalks: laid · HistGoes: laid · HistKeeps: laid · HistBounds: laid · HistFinds: laid · HistPlays: laid · HistNil: laid.
  DERIVED. THE GIVEN ROWS OF THIS SEAT. 7 by the template 'for every input the law returns true; each argument reads behind the call as it read before'; 0 by the template 'total and deterministic' (their statements: YtjghfdhahkokhaaDoorTotals.lean).
  GIVEN WITH THE SEED: the statements are not yours to turn. If you find one false, say at which input.
  Laid BY PROGRAM, IN A SANDBOX (cutbox-rows.mjs): the forced cells as the released guide's own fill.sh prints them over the translation 38c9867d1896d9e4… (all of the seat's roots in one cut). By AI agents, Wed Nov 11 2026. No macro, syntax, notation, axiom, sorry.
-/
import Derived.Test.YtjghfdhahkokhaaDoorChecked
import GoSem.PinnedTables
import GoSem.Claim
import GoSem.ClaimJoined
import GoSem.ClaimMapViews
import Derived.JoinedTies
import Derived.KernelRfl
namespace Go.Proofs.YtjghfdhahkokhaaDoor
/- THE CELL 'sum', in the pinned program and in every row, IS THE sha256 OF THE DUMP (.gsa) THAT YtjghfdhahkokhaaDoorProg.lean LOADS. Nothing in Lean hashes anything: it is a label: what it is worth is what the hold of that sum in a sandbox is worth. -/
noncomputable def Tryd.pinned : Pinned := { name := "ytjghfdhahkokhaadoor", sum := "38c9867d1896d9e44d8915358889bda91793881cf1e1c62081c1197168b32393", checked := Tryd.checked }
namespace Rows
def none {H : Type} : Left H := { results := [], args := [] }

/- WHAT THE LISTED PACKAGE-LEVEL VARIABLES READ AS WHEN THE CALL BEGINS. Each datum BY PROGRAM (the guide's laid-datum.mjs) off the statement by which the dump's own 'gosem.cut.vars' lays the variable. In a bare row this is a premise. The card (YtjghfdhahkokhaaDoorCards.lean) ties it to the program's text. -/
def laid_unicode_utf8_acceptRanges {H : Type} : DataW H := .agg [.agg [.lit (.int .u8 128), .lit (.int .u8 191)], .agg [.lit (.int .u8 160), .lit (.int .u8 191)], .agg [.lit (.int .u8 128), .lit (.int .u8 159)], .agg [.lit (.int .u8 144), .lit (.int .u8 191)], .agg [.lit (.int .u8 128), .lit (.int .u8 143)], .agg [.lit (.int .u8 0), .lit (.int .u8 0)], .agg [.lit (.int .u8 0), .lit (.int .u8 0)], .agg [.lit (.int .u8 0), .lit (.int .u8 0)], .agg [.lit (.int .u8 0), .lit (.int .u8 0)], .agg [.lit (.int .u8 0), .lit (.int .u8 0)], .agg [.lit (.int .u8 0), .lit (.int .u8 0)], .agg [.lit (.int .u8 0), .lit (.int .u8 0)], .agg [.lit (.int .u8 0), .lit (.int .u8 0)], .agg [.lit (.int .u8 0), .lit (.int .u8 0)], .agg [.lit (.int .u8 0), .lit (.int .u8 0)], .agg [.lit (.int .u8 0), .lit (.int .u8 0)]]
/-- One of Go's own tables, pinned by name: the form's constant. -/
def laid_unicode_utf8_first : DataW Unit := Go.Pinned.utf8First

/-- 'bodkinlaw14.HistWalks': WHATEVER THE INPUT: true; the input reads as it did. -/
def histWalksSpec : ChangeSpec := { name := "histWalks", fn := fun _ => fun
  | [d1, d2, d3] => { results := [.lit (.bool true)], args := [d1, d2, d3] }
  | _ => none }
def histWalksRow : OpenClaim := { program := "ytjghfdhahkokhaadoor", sum := "38c9867d1896d9e44d8915358889bda91793881cf1e1c62081c1197168b32393", func := "bodkin/bodkinlaw14.HistWalks", spec := "histWalks", unfollowed := true, recurses := true, named := ["unicode/utf8.first", "unicode/utf8.acceptRanges"], apart := false, laid := [("unicode/utf8.acceptRanges", laid_unicode_utf8_acceptRanges), ("unicode/utf8.first", laid_unicode_utf8_first)] }
def HistWalksSaid : Prop := histWalksRow.holds Tryd.pinned (OpenSpec.ofChange histWalksSpec)

/-- ITS FALSE NEIGHBOUR: 'it returns false'. Refute it at one input. -/
def histWalksWrong : ChangeSpec := { name := "histWalks", fn := fun _ => fun
  | [d1, d2, d3] => { results := [.lit (.bool false)], args := [d1, d2, d3] }
  | _ => none }
def HistWalksWrongFalsely : Prop := histWalksRow.holds Tryd.pinned (OpenSpec.ofChange histWalksWrong)

/-- 'bodkinlaw14.HistGoes': WHATEVER THE INPUT: true; the input reads as it did. -/
def histGoesSpec : ChangeSpec := { name := "histGoes", fn := fun _ => fun
  | [d1, d2, d3, d4] => { results := [.lit (.bool true)], args := [d1, d2, d3, d4] }
  | _ => none }
def histGoesRow : OpenClaim := { program := "ytjghfdhahkokhaadoor", sum := "38c9867d1896d9e44d8915358889bda91793881cf1e1c62081c1197168b32393", func := "bodkin/bodkinlaw14.HistGoes", spec := "histGoes", unfollowed := true, recurses := true, named := ["unicode/utf8.first", "unicode/utf8.acceptRanges"], apart := false, laid := [("unicode/utf8.acceptRanges", laid_unicode_utf8_acceptRanges), ("unicode/utf8.first", laid_unicode_utf8_first)] }
def HistGoesSaid : Prop := histGoesRow.holds Tryd.pinned (OpenSpec.ofChange histGoesSpec)

/-- ITS FALSE NEIGHBOUR: 'it returns false'. Refute it at one input. -/
def histGoesWrong : ChangeSpec := { name := "histGoes", fn := fun _ => fun
  | [d1, d2, d3, d4] => { results := [.lit (.bool false)], args := [d1, d2, d3, d4] }
  | _ => none }
def HistGoesWrongFalsely : Prop := histGoesRow.holds Tryd.pinned (OpenSpec.ofChange histGoesWrong)

/-- 'bodkinlaw14.HistKeeps': WHATEVER THE INPUT: true; the input reads as it did. -/
def histKeepsSpec : ChangeSpec := { name := "histKeeps", fn := fun _ => fun
  | [d1, d2] => { results := [.lit (.bool true)], args := [d1, d2] }
  | _ => none }
def histKeepsRow : OpenClaim := { program := "ytjghfdhahkokhaadoor", sum := "38c9867d1896d9e44d8915358889bda91793881cf1e1c62081c1197168b32393", func := "bodkin/bodkinlaw14.HistKeeps", spec := "histKeeps", unfollowed := true, recurses := true, named := ["unicode/utf8.first", "unicode/utf8.acceptRanges"], apart := false, laid := [("unicode/utf8.acceptRanges", laid_unicode_utf8_acceptRanges), ("unicode/utf8.first", laid_unicode_utf8_first)] }
def HistKeepsSaid : Prop := histKeepsRow.holds Tryd.pinned (OpenSpec.ofChange histKeepsSpec)

/-- ITS FALSE NEIGHBOUR: 'it returns false'. Refute it at one input. -/
def histKeepsWrong : ChangeSpec := { name := "histKeeps", fn := fun _ => fun
  | [d1, d2] => { results := [.lit (.bool false)], args := [d1, d2] }
  | _ => none }
def HistKeepsWrongFalsely : Prop := histKeepsRow.holds Tryd.pinned (OpenSpec.ofChange histKeepsWrong)

/-- 'bodkinlaw14.HistBounds': WHATEVER THE INPUT: true; the input reads as it did. -/
def histBoundsSpec : ChangeSpec := { name := "histBounds", fn := fun _ => fun
  | [d1, d2] => { results := [.lit (.bool true)], args := [d1, d2] }
  | _ => none }
def histBoundsRow : OpenClaim := { program := "ytjghfdhahkokhaadoor", sum := "38c9867d1896d9e44d8915358889bda91793881cf1e1c62081c1197168b32393", func := "bodkin/bodkinlaw14.HistBounds", spec := "histBounds", unfollowed := true, recurses := true, named := ["unicode/utf8.first", "unicode/utf8.acceptRanges"], apart := false, laid := [("unicode/utf8.acceptRanges", laid_unicode_utf8_acceptRanges), ("unicode/utf8.first", laid_unicode_utf8_first)] }
def HistBoundsSaid : Prop := histBoundsRow.holds Tryd.pinned (OpenSpec.ofChange histBoundsSpec)

/-- ITS FALSE NEIGHBOUR: 'it returns false'. Refute it at one input. -/
def histBoundsWrong : ChangeSpec := { name := "histBounds", fn := fun _ => fun
  | [d1, d2] => { results := [.lit (.bool false)], args := [d1, d2] }
  | _ => none }
def HistBoundsWrongFalsely : Prop := histBoundsRow.holds Tryd.pinned (OpenSpec.ofChange histBoundsWrong)

/-- 'bodkinlaw14.HistFinds': WHATEVER THE INPUT: true; the input reads as it did. -/
def histFindsSpec : ChangeSpec := { name := "histFinds", fn := fun _ => fun
  | [d1, d2, d3, d4] => { results := [.lit (.bool true)], args := [d1, d2, d3, d4] }
  | _ => none }
def histFindsRow : OpenClaim := { program := "ytjghfdhahkokhaadoor", sum := "38c9867d1896d9e44d8915358889bda91793881cf1e1c62081c1197168b32393", func := "bodkin/bodkinlaw14.HistFinds", spec := "histFinds", unfollowed := true, recurses := true, named := ["unicode/utf8.first", "unicode/utf8.acceptRanges"], apart := false, laid := [("unicode/utf8.acceptRanges", laid_unicode_utf8_acceptRanges), ("unicode/utf8.first", laid_unicode_utf8_first)] }
def HistFindsSaid : Prop := histFindsRow.holds Tryd.pinned (OpenSpec.ofChange histFindsSpec)

/-- ITS FALSE NEIGHBOUR: 'it returns false'. Refute it at one input. -/
def histFindsWrong : ChangeSpec := { name := "histFinds", fn := fun _ => fun
  | [d1, d2, d3, d4] => { results := [.lit (.bool false)], args := [d1, d2, d3, d4] }
  | _ => none }
def HistFindsWrongFalsely : Prop := histFindsRow.holds Tryd.pinned (OpenSpec.ofChange histFindsWrong)

/-- 'bodkinlaw14.HistPlays': WHATEVER THE INPUT: true; the input reads as it did. -/
def histPlaysSpec : ChangeSpec := { name := "histPlays", fn := fun _ => fun
  | [d1, d2] => { results := [.lit (.bool true)], args := [d1, d2] }
  | _ => none }
def histPlaysRow : OpenClaim := { program := "ytjghfdhahkokhaadoor", sum := "38c9867d1896d9e44d8915358889bda91793881cf1e1c62081c1197168b32393", func := "bodkin/bodkinlaw14.HistPlays", spec := "histPlays", unfollowed := true, recurses := true, named := ["unicode/utf8.first", "unicode/utf8.acceptRanges"], apart := false, laid := [("unicode/utf8.acceptRanges", laid_unicode_utf8_acceptRanges), ("unicode/utf8.first", laid_unicode_utf8_first)] }
def HistPlaysSaid : Prop := histPlaysRow.holds Tryd.pinned (OpenSpec.ofChange histPlaysSpec)

/-- ITS FALSE NEIGHBOUR: 'it returns false'. Refute it at one input. -/
def histPlaysWrong : ChangeSpec := { name := "histPlays", fn := fun _ => fun
  | [d1, d2] => { results := [.lit (.bool false)], args := [d1, d2] }
  | _ => none }
def HistPlaysWrongFalsely : Prop := histPlaysRow.holds Tryd.pinned (OpenSpec.ofChange histPlaysWrong)

/-- 'bodkinlaw14.HistNil': WHATEVER THE INPUT: true; the input reads as it did. -/
def histNilSpec : ChangeSpec := { name := "histNil", fn := fun _ => fun
  | [d] => { results := [.lit (.bool true)], args := [d] }
  | _ => none }
def histNilRow : OpenClaim := { program := "ytjghfdhahkokhaadoor", sum := "38c9867d1896d9e44d8915358889bda91793881cf1e1c62081c1197168b32393", func := "bodkin/bodkinlaw14.HistNil", spec := "histNil", unfollowed := true, recurses := true, named := ["unicode/utf8.first", "unicode/utf8.acceptRanges"], apart := false, laid := [("unicode/utf8.acceptRanges", laid_unicode_utf8_acceptRanges), ("unicode/utf8.first", laid_unicode_utf8_first)] }
def HistNilSaid : Prop := histNilRow.holds Tryd.pinned (OpenSpec.ofChange histNilSpec)

/-- ITS FALSE NEIGHBOUR: 'it returns false'. Refute it at one input. -/
def histNilWrong : ChangeSpec := { name := "histNil", fn := fun _ => fun
  | [d] => { results := [.lit (.bool false)], args := [d] }
  | _ => none }
def HistNilWrongFalsely : Prop := histNilRow.holds Tryd.pinned (OpenSpec.ofChange histNilWrong)

/- THE SECOND FORM. 'bulk': how many values and letters a reading holds, each counted each time it is reached (what is shared counts as often as it is met; a slice's spare places count too). A statement '..UptoSaid' is the law's where the arguments, and the package variables that the reading takes, are together of bulk at most 1048576: NARROWER than '..Said'. Prove '..Said' where nothing that the law and all that it calls make is longer than what came in: it says more and counts as full. Else prove '..UptoSaid'. A law counts once. -/
mutual
def uptoBulk {H : Type} : DataW H → Nat
  | .lit (.string bytes) => bytes.length + 1
  | .lit _ => 1
  | .nil => 1
  | .ptr d => uptoBulk d + 1
  | .slice elems spare => uptoBulkAll elems + uptoBulkAll spare + 1
  | .agg parts => uptoBulkAll parts + 1
  | .iface _ d => uptoBulk d + 1
  | .map entries => uptoBulkEntries entries + 1
  | .held _ => 1
def uptoBulkAll {H : Type} : List (DataW H) → Nat
  | [] => 0
  | d :: r => uptoBulk d + uptoBulkAll r
def uptoBulkEntries {H : Type} : List (Lit × DataW H) → Nat
  | [] => 0
  | x :: r => uptoBulkEntry x + uptoBulkEntries r
def uptoBulkEntry {H : Type} : Lit × DataW H → Nat
  | (.string bytes, d) => bytes.length + uptoBulk d + 1
  | (_, d) => uptoBulk d + 1
 end
def uptoSmall : (H : Type) → List (DataW H) → Bool := fun _ ds => decide (uptoBulkAll ds ≤ 1048576)
def OpenSpec.upto (s : _root_.Go.ChangeSpec) : _root_.Go.OpenSpec := { _root_.Go.OpenSpec.ofChange s with cond := some uptoSmall }

/-- 'bodkinlaw14.HistWalks', WHERE WHAT IT READS IS OF BULK AT MOST 1048576: true; the input reads as it did. -/
def histWalksUptoRow : OpenClaim := { program := "ytjghfdhahkokhaadoor", sum := "38c9867d1896d9e44d8915358889bda91793881cf1e1c62081c1197168b32393", func := "bodkin/bodkinlaw14.HistWalks", spec := "histWalks", unfollowed := true, recurses := true, named := ["unicode/utf8.first", "unicode/utf8.acceptRanges"], apart := false, laid := [("unicode/utf8.acceptRanges", laid_unicode_utf8_acceptRanges), ("unicode/utf8.first", laid_unicode_utf8_first)], narrowed := true }
def HistWalksUptoSaid : Prop := histWalksUptoRow.holds Tryd.pinned (OpenSpec.upto histWalksSpec)

/-- 'bodkinlaw14.HistGoes', WHERE WHAT IT READS IS OF BULK AT MOST 1048576: true; the input reads as it did. -/
def histGoesUptoRow : OpenClaim := { program := "ytjghfdhahkokhaadoor", sum := "38c9867d1896d9e44d8915358889bda91793881cf1e1c62081c1197168b32393", func := "bodkin/bodkinlaw14.HistGoes", spec := "histGoes", unfollowed := true, recurses := true, named := ["unicode/utf8.first", "unicode/utf8.acceptRanges"], apart := false, laid := [("unicode/utf8.acceptRanges", laid_unicode_utf8_acceptRanges), ("unicode/utf8.first", laid_unicode_utf8_first)], narrowed := true }
def HistGoesUptoSaid : Prop := histGoesUptoRow.holds Tryd.pinned (OpenSpec.upto histGoesSpec)

/-- 'bodkinlaw14.HistKeeps', WHERE WHAT IT READS IS OF BULK AT MOST 1048576: true; the input reads as it did. -/
def histKeepsUptoRow : OpenClaim := { program := "ytjghfdhahkokhaadoor", sum := "38c9867d1896d9e44d8915358889bda91793881cf1e1c62081c1197168b32393", func := "bodkin/bodkinlaw14.HistKeeps", spec := "histKeeps", unfollowed := true, recurses := true, named := ["unicode/utf8.first", "unicode/utf8.acceptRanges"], apart := false, laid := [("unicode/utf8.acceptRanges", laid_unicode_utf8_acceptRanges), ("unicode/utf8.first", laid_unicode_utf8_first)], narrowed := true }
def HistKeepsUptoSaid : Prop := histKeepsUptoRow.holds Tryd.pinned (OpenSpec.upto histKeepsSpec)

/-- 'bodkinlaw14.HistBounds', WHERE WHAT IT READS IS OF BULK AT MOST 1048576: true; the input reads as it did. -/
def histBoundsUptoRow : OpenClaim := { program := "ytjghfdhahkokhaadoor", sum := "38c9867d1896d9e44d8915358889bda91793881cf1e1c62081c1197168b32393", func := "bodkin/bodkinlaw14.HistBounds", spec := "histBounds", unfollowed := true, recurses := true, named := ["unicode/utf8.first", "unicode/utf8.acceptRanges"], apart := false, laid := [("unicode/utf8.acceptRanges", laid_unicode_utf8_acceptRanges), ("unicode/utf8.first", laid_unicode_utf8_first)], narrowed := true }
def HistBoundsUptoSaid : Prop := histBoundsUptoRow.holds Tryd.pinned (OpenSpec.upto histBoundsSpec)

/-- 'bodkinlaw14.HistFinds', WHERE WHAT IT READS IS OF BULK AT MOST 1048576: true; the input reads as it did. -/
def histFindsUptoRow : OpenClaim := { program := "ytjghfdhahkokhaadoor", sum := "38c9867d1896d9e44d8915358889bda91793881cf1e1c62081c1197168b32393", func := "bodkin/bodkinlaw14.HistFinds", spec := "histFinds", unfollowed := true, recurses := true, named := ["unicode/utf8.first", "unicode/utf8.acceptRanges"], apart := false, laid := [("unicode/utf8.acceptRanges", laid_unicode_utf8_acceptRanges), ("unicode/utf8.first", laid_unicode_utf8_first)], narrowed := true }
def HistFindsUptoSaid : Prop := histFindsUptoRow.holds Tryd.pinned (OpenSpec.upto histFindsSpec)

/-- 'bodkinlaw14.HistPlays', WHERE WHAT IT READS IS OF BULK AT MOST 1048576: true; the input reads as it did. -/
def histPlaysUptoRow : OpenClaim := { program := "ytjghfdhahkokhaadoor", sum := "38c9867d1896d9e44d8915358889bda91793881cf1e1c62081c1197168b32393", func := "bodkin/bodkinlaw14.HistPlays", spec := "histPlays", unfollowed := true, recurses := true, named := ["unicode/utf8.first", "unicode/utf8.acceptRanges"], apart := false, laid := [("unicode/utf8.acceptRanges", laid_unicode_utf8_acceptRanges), ("unicode/utf8.first", laid_unicode_utf8_first)], narrowed := true }
def HistPlaysUptoSaid : Prop := histPlaysUptoRow.holds Tryd.pinned (OpenSpec.upto histPlaysSpec)

/-- 'bodkinlaw14.HistNil', WHERE WHAT IT READS IS OF BULK AT MOST 1048576: true; the input reads as it did. -/
def histNilUptoRow : OpenClaim := { program := "ytjghfdhahkokhaadoor", sum := "38c9867d1896d9e44d8915358889bda91793881cf1e1c62081c1197168b32393", func := "bodkin/bodkinlaw14.HistNil", spec := "histNil", unfollowed := true, recurses := true, named := ["unicode/utf8.first", "unicode/utf8.acceptRanges"], apart := false, laid := [("unicode/utf8.acceptRanges", laid_unicode_utf8_acceptRanges), ("unicode/utf8.first", laid_unicode_utf8_first)], narrowed := true }
def HistNilUptoSaid : Prop := histNilUptoRow.holds Tryd.pinned (OpenSpec.upto histNilSpec)

end Rows
end Go.Proofs.YtjghfdhahkokhaaDoor
