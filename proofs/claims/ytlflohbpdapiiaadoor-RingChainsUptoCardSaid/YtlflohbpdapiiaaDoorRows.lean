/-
  NARROWER THAN 'FOR EVERY INPUT', by the rows' own cells (each row's printed sentence says how): RingChains: laid · RingRounds: laid · RingBounds: laid · RingFresh: laid · RingPlays: laid · RingNone: laid.
  DERIVED. THE GIVEN ROWS OF THIS SEAT. 6 by the template 'for every input the law returns true; each argument reads behind the call as it read before'; 0 by the template 'total and deterministic' (their statements: YtlflohbpdapiiaaDoorTotals.lean).
  GIVEN WITH THE SEED: the statements are not yours to turn. If you find one false, say at which input.
  Laid BY PROGRAM, IN A SANDBOX (cutbox-rows.mjs): the forced cells as the released guide's own fill.sh prints them over the translation 2032038a45c4deca… (all of the seat's roots in one cut). By AI agents, Wed Nov 11 2026. No macro, syntax, notation, axiom, sorry.
-/
import Derived.Test.YtlflohbpdapiiaaDoorChecked
import GoSem.PinnedTables
import GoSem.Claim
import GoSem.ClaimJoined
import GoSem.ClaimMapViews
import Derived.JoinedTies
import Derived.KernelRfl
namespace Go.Proofs.YtlflohbpdapiiaaDoor
/- THE CELL 'sum', in the pinned program and in every row, IS THE sha256 OF THE DUMP (.gsa) THAT YtlflohbpdapiiaaDoorProg.lean LOADS. Nothing in Lean hashes anything: it is a label: what it is worth is what the hold of that sum in a sandbox is worth. -/
noncomputable def Tryd.pinned : Pinned := { name := "ytlflohbpdapiiaadoor", sum := "2032038a45c4decaaf62719b53ba81e699160af8ad75dabef211cb9b033b7cfe", checked := Tryd.checked }
namespace Rows
def none {H : Type} : Left H := { results := [], args := [] }

/- WHAT THE LISTED PACKAGE-LEVEL VARIABLES READ AS WHEN THE CALL BEGINS. Each datum BY PROGRAM (the guide's laid-datum.mjs) off the statement by which the dump's own 'gosem.cut.vars' lays the variable. In a bare row this is a premise. The card (YtlflohbpdapiiaaDoorCards.lean) ties it to the program's text. -/
def laid_unicode_utf8_acceptRanges {H : Type} : DataW H := .agg [.agg [.lit (.int .u8 128), .lit (.int .u8 191)], .agg [.lit (.int .u8 160), .lit (.int .u8 191)], .agg [.lit (.int .u8 128), .lit (.int .u8 159)], .agg [.lit (.int .u8 144), .lit (.int .u8 191)], .agg [.lit (.int .u8 128), .lit (.int .u8 143)], .agg [.lit (.int .u8 0), .lit (.int .u8 0)], .agg [.lit (.int .u8 0), .lit (.int .u8 0)], .agg [.lit (.int .u8 0), .lit (.int .u8 0)], .agg [.lit (.int .u8 0), .lit (.int .u8 0)], .agg [.lit (.int .u8 0), .lit (.int .u8 0)], .agg [.lit (.int .u8 0), .lit (.int .u8 0)], .agg [.lit (.int .u8 0), .lit (.int .u8 0)], .agg [.lit (.int .u8 0), .lit (.int .u8 0)], .agg [.lit (.int .u8 0), .lit (.int .u8 0)], .agg [.lit (.int .u8 0), .lit (.int .u8 0)], .agg [.lit (.int .u8 0), .lit (.int .u8 0)]]
/-- One of Go's own tables, pinned by name: the form's constant. -/
def laid_unicode_utf8_first : DataW Unit := Go.Pinned.utf8First

/-- 'bodkinlaw13.RingChains': WHATEVER THE INPUT: true; the input reads as it did. -/
def ringChainsSpec : ChangeSpec := { name := "ringChains", fn := fun _ => fun
  | [d1, d2, d3] => { results := [.lit (.bool true)], args := [d1, d2, d3] }
  | _ => none }
def ringChainsRow : OpenClaim := { program := "ytlflohbpdapiiaadoor", sum := "2032038a45c4decaaf62719b53ba81e699160af8ad75dabef211cb9b033b7cfe", func := "bodkin/bodkinlaw13.RingChains", spec := "ringChains", inPlace := ["slices.overlaps[string]"], unfollowed := true, recurses := true, named := ["unicode/utf8.first", "unicode/utf8.acceptRanges"], apart := false, laid := [("unicode/utf8.acceptRanges", laid_unicode_utf8_acceptRanges), ("unicode/utf8.first", laid_unicode_utf8_first)] }
def RingChainsSaid : Prop := ringChainsRow.holds Tryd.pinned (OpenSpec.ofChange ringChainsSpec)

/-- ITS FALSE NEIGHBOUR: 'it returns false'. Refute it at one input. -/
def ringChainsWrong : ChangeSpec := { name := "ringChains", fn := fun _ => fun
  | [d1, d2, d3] => { results := [.lit (.bool false)], args := [d1, d2, d3] }
  | _ => none }
def RingChainsWrongFalsely : Prop := ringChainsRow.holds Tryd.pinned (OpenSpec.ofChange ringChainsWrong)

/-- 'bodkinlaw13.RingRounds': WHATEVER THE INPUT: true; the input reads as it did. -/
def ringRoundsSpec : ChangeSpec := { name := "ringRounds", fn := fun _ => fun
  | [d1, d2, d3] => { results := [.lit (.bool true)], args := [d1, d2, d3] }
  | _ => none }
def ringRoundsRow : OpenClaim := { program := "ytlflohbpdapiiaadoor", sum := "2032038a45c4decaaf62719b53ba81e699160af8ad75dabef211cb9b033b7cfe", func := "bodkin/bodkinlaw13.RingRounds", spec := "ringRounds", inPlace := ["slices.overlaps[string]"], unfollowed := true, recurses := true, named := ["unicode/utf8.first", "unicode/utf8.acceptRanges"], apart := false, laid := [("unicode/utf8.acceptRanges", laid_unicode_utf8_acceptRanges), ("unicode/utf8.first", laid_unicode_utf8_first)] }
def RingRoundsSaid : Prop := ringRoundsRow.holds Tryd.pinned (OpenSpec.ofChange ringRoundsSpec)

/-- ITS FALSE NEIGHBOUR: 'it returns false'. Refute it at one input. -/
def ringRoundsWrong : ChangeSpec := { name := "ringRounds", fn := fun _ => fun
  | [d1, d2, d3] => { results := [.lit (.bool false)], args := [d1, d2, d3] }
  | _ => none }
def RingRoundsWrongFalsely : Prop := ringRoundsRow.holds Tryd.pinned (OpenSpec.ofChange ringRoundsWrong)

/-- 'bodkinlaw13.RingBounds': WHATEVER THE INPUT: true; the input reads as it did. -/
def ringBoundsSpec : ChangeSpec := { name := "ringBounds", fn := fun _ => fun
  | [d1, d2, d3] => { results := [.lit (.bool true)], args := [d1, d2, d3] }
  | _ => none }
def ringBoundsRow : OpenClaim := { program := "ytlflohbpdapiiaadoor", sum := "2032038a45c4decaaf62719b53ba81e699160af8ad75dabef211cb9b033b7cfe", func := "bodkin/bodkinlaw13.RingBounds", spec := "ringBounds", inPlace := ["slices.overlaps[string]"], unfollowed := true, recurses := true, named := ["unicode/utf8.first", "unicode/utf8.acceptRanges"], apart := false, laid := [("unicode/utf8.acceptRanges", laid_unicode_utf8_acceptRanges), ("unicode/utf8.first", laid_unicode_utf8_first)] }
def RingBoundsSaid : Prop := ringBoundsRow.holds Tryd.pinned (OpenSpec.ofChange ringBoundsSpec)

/-- ITS FALSE NEIGHBOUR: 'it returns false'. Refute it at one input. -/
def ringBoundsWrong : ChangeSpec := { name := "ringBounds", fn := fun _ => fun
  | [d1, d2, d3] => { results := [.lit (.bool false)], args := [d1, d2, d3] }
  | _ => none }
def RingBoundsWrongFalsely : Prop := ringBoundsRow.holds Tryd.pinned (OpenSpec.ofChange ringBoundsWrong)

/-- 'bodkinlaw13.RingFresh': WHATEVER THE INPUT: true; the input reads as it did. -/
def ringFreshSpec : ChangeSpec := { name := "ringFresh", fn := fun _ => fun
  | [d1, d2] => { results := [.lit (.bool true)], args := [d1, d2] }
  | _ => none }
def ringFreshRow : OpenClaim := { program := "ytlflohbpdapiiaadoor", sum := "2032038a45c4decaaf62719b53ba81e699160af8ad75dabef211cb9b033b7cfe", func := "bodkin/bodkinlaw13.RingFresh", spec := "ringFresh", inPlace := ["slices.overlaps[string]"], unfollowed := true, recurses := true, named := ["unicode/utf8.first", "unicode/utf8.acceptRanges"], apart := false, laid := [("unicode/utf8.acceptRanges", laid_unicode_utf8_acceptRanges), ("unicode/utf8.first", laid_unicode_utf8_first)] }
def RingFreshSaid : Prop := ringFreshRow.holds Tryd.pinned (OpenSpec.ofChange ringFreshSpec)

/-- ITS FALSE NEIGHBOUR: 'it returns false'. Refute it at one input. -/
def ringFreshWrong : ChangeSpec := { name := "ringFresh", fn := fun _ => fun
  | [d1, d2] => { results := [.lit (.bool false)], args := [d1, d2] }
  | _ => none }
def RingFreshWrongFalsely : Prop := ringFreshRow.holds Tryd.pinned (OpenSpec.ofChange ringFreshWrong)

/-- 'bodkinlaw13.RingPlays': WHATEVER THE INPUT: true; the input reads as it did. -/
def ringPlaysSpec : ChangeSpec := { name := "ringPlays", fn := fun _ => fun
  | [d1, d2] => { results := [.lit (.bool true)], args := [d1, d2] }
  | _ => none }
def ringPlaysRow : OpenClaim := { program := "ytlflohbpdapiiaadoor", sum := "2032038a45c4decaaf62719b53ba81e699160af8ad75dabef211cb9b033b7cfe", func := "bodkin/bodkinlaw13.RingPlays", spec := "ringPlays", inPlace := ["slices.overlaps[string]"], unfollowed := true, recurses := true, named := ["unicode/utf8.first", "unicode/utf8.acceptRanges"], apart := false, laid := [("unicode/utf8.acceptRanges", laid_unicode_utf8_acceptRanges), ("unicode/utf8.first", laid_unicode_utf8_first)] }
def RingPlaysSaid : Prop := ringPlaysRow.holds Tryd.pinned (OpenSpec.ofChange ringPlaysSpec)

/-- ITS FALSE NEIGHBOUR: 'it returns false'. Refute it at one input. -/
def ringPlaysWrong : ChangeSpec := { name := "ringPlays", fn := fun _ => fun
  | [d1, d2] => { results := [.lit (.bool false)], args := [d1, d2] }
  | _ => none }
def RingPlaysWrongFalsely : Prop := ringPlaysRow.holds Tryd.pinned (OpenSpec.ofChange ringPlaysWrong)

/-- 'bodkinlaw13.RingNone': WHATEVER THE INPUT: true; the input reads as it did. -/
def ringNoneSpec : ChangeSpec := { name := "ringNone", fn := fun _ => fun
  | [d] => { results := [.lit (.bool true)], args := [d] }
  | _ => none }
def ringNoneRow : OpenClaim := { program := "ytlflohbpdapiiaadoor", sum := "2032038a45c4decaaf62719b53ba81e699160af8ad75dabef211cb9b033b7cfe", func := "bodkin/bodkinlaw13.RingNone", spec := "ringNone", inPlace := ["slices.overlaps[string]"], unfollowed := true, recurses := true, named := ["unicode/utf8.first", "unicode/utf8.acceptRanges"], apart := false, laid := [("unicode/utf8.acceptRanges", laid_unicode_utf8_acceptRanges), ("unicode/utf8.first", laid_unicode_utf8_first)] }
def RingNoneSaid : Prop := ringNoneRow.holds Tryd.pinned (OpenSpec.ofChange ringNoneSpec)

/-- ITS FALSE NEIGHBOUR: 'it returns false'. Refute it at one input. -/
def ringNoneWrong : ChangeSpec := { name := "ringNone", fn := fun _ => fun
  | [d] => { results := [.lit (.bool false)], args := [d] }
  | _ => none }
def RingNoneWrongFalsely : Prop := ringNoneRow.holds Tryd.pinned (OpenSpec.ofChange ringNoneWrong)

/- THE SECOND FORM. 'bulk': how many values and letters a reading holds, each counted each time it is reached (what is shared counts as often as it is met; a slice's spare places count too). A statement '..UptoSaid' is the law's where the arguments, and the package variables that the reading takes, are together of bulk at most 1048576: NARROWER than '..Said'. Prove '..Said' where nothing that the law and all that it calls make is longer than what came in: it says more and counts as full. Else prove '..UptoSaid'. A law counts once. -/
mutual
def uptoBulk {H : Type} : DataW H → Nat
  | .lit (.string bytes) => bytes.length + 1
  | .lit _ => 1
  | .nil => 1
  | .ptr d => uptoBulk d + 1
  | .slice elems spare => uptoBulkAll elems + uptoBulkAll spare + 1
  | .agg parts => uptoBulkAll parts + 1
  | .iface _ d => uptoBulk d + 1
  | .map entries => uptoBulkEntries entries + 1
  | .held _ => 1
def uptoBulkAll {H : Type} : List (DataW H) → Nat
  | [] => 0
  | d :: r => uptoBulk d + uptoBulkAll r
def uptoBulkEntries {H : Type} : List (Lit × DataW H) → Nat
  | [] => 0
  | x :: r => uptoBulkEntry x + uptoBulkEntries r
def uptoBulkEntry {H : Type} : Lit × DataW H → Nat
  | (.string bytes, d) => bytes.length + uptoBulk d + 1
  | (_, d) => uptoBulk d + 1
 end
def uptoSmall : (H : Type) → List (DataW H) → Bool := fun _ ds => decide (uptoBulkAll ds ≤ 1048576)
def OpenSpec.upto (s : _root_.Go.ChangeSpec) : _root_.Go.OpenSpec := { _root_.Go.OpenSpec.ofChange s with cond := some uptoSmall }

/-- 'bodkinlaw13.RingChains', WHERE WHAT IT READS IS OF BULK AT MOST 1048576: true; the input reads as it did. -/
def ringChainsUptoRow : OpenClaim := { program := "ytlflohbpdapiiaadoor", sum := "2032038a45c4decaaf62719b53ba81e699160af8ad75dabef211cb9b033b7cfe", func := "bodkin/bodkinlaw13.RingChains", spec := "ringChains", inPlace := ["slices.overlaps[string]"], unfollowed := true, recurses := true, named := ["unicode/utf8.first", "unicode/utf8.acceptRanges"], apart := false, laid := [("unicode/utf8.acceptRanges", laid_unicode_utf8_acceptRanges), ("unicode/utf8.first", laid_unicode_utf8_first)], narrowed := true }
def RingChainsUptoSaid : Prop := ringChainsUptoRow.holds Tryd.pinned (OpenSpec.upto ringChainsSpec)

/-- 'bodkinlaw13.RingRounds', WHERE WHAT IT READS IS OF BULK AT MOST 1048576: true; the input reads as it did. -/
def ringRoundsUptoRow : OpenClaim := { program := "ytlflohbpdapiiaadoor", sum := "2032038a45c4decaaf62719b53ba81e699160af8ad75dabef211cb9b033b7cfe", func := "bodkin/bodkinlaw13.RingRounds", spec := "ringRounds", inPlace := ["slices.overlaps[string]"], unfollowed := true, recurses := true, named := ["unicode/utf8.first", "unicode/utf8.acceptRanges"], apart := false, laid := [("unicode/utf8.acceptRanges", laid_unicode_utf8_acceptRanges), ("unicode/utf8.first", laid_unicode_utf8_first)], narrowed := true }
def RingRoundsUptoSaid : Prop := ringRoundsUptoRow.holds Tryd.pinned (OpenSpec.upto ringRoundsSpec)

/-- 'bodkinlaw13.RingBounds', WHERE WHAT IT READS IS OF BULK AT MOST 1048576: true; the input reads as it did. -/
def ringBoundsUptoRow : OpenClaim := { program := "ytlflohbpdapiiaadoor", sum := "2032038a45c4decaaf62719b53ba81e699160af8ad75dabef211cb9b033b7cfe", func := "bodkin/bodkinlaw13.RingBounds", spec := "ringBounds", inPlace := ["slices.overlaps[string]"], unfollowed := true, recurses := true, named := ["unicode/utf8.first", "unicode/utf8.acceptRanges"], apart := false, laid := [("unicode/utf8.acceptRanges", laid_unicode_utf8_acceptRanges), ("unicode/utf8.first", laid_unicode_utf8_first)], narrowed := true }
def RingBoundsUptoSaid : Prop := ringBoundsUptoRow.holds Tryd.pinned (OpenSpec.upto ringBoundsSpec)

/-- 'bodkinlaw13.RingFresh', WHERE WHAT IT READS IS OF BULK AT MOST 1048576: true; the input reads as it did. -/
def ringFreshUptoRow : OpenClaim := { program := "ytlflohbpdapiiaadoor", sum := "2032038a45c4decaaf62719b53ba81e699160af8ad75dabef211cb9b033b7cfe", func := "bodkin/bodkinlaw13.RingFresh", spec := "ringFresh", inPlace := ["slices.overlaps[string]"], unfollowed := true, recurses := true, named := ["unicode/utf8.first", "unicode/utf8.acceptRanges"], apart := false, laid := [("unicode/utf8.acceptRanges", laid_unicode_utf8_acceptRanges), ("unicode/utf8.first", laid_unicode_utf8_first)], narrowed := true }
def RingFreshUptoSaid : Prop := ringFreshUptoRow.holds Tryd.pinned (OpenSpec.upto ringFreshSpec)

/-- 'bodkinlaw13.RingPlays', WHERE WHAT IT READS IS OF BULK AT MOST 1048576: true; the input reads as it did. -/
def ringPlaysUptoRow : OpenClaim := { program := "ytlflohbpdapiiaadoor", sum := "2032038a45c4decaaf62719b53ba81e699160af8ad75dabef211cb9b033b7cfe", func := "bodkin/bodkinlaw13.RingPlays", spec := "ringPlays", inPlace := ["slices.overlaps[string]"], unfollowed := true, recurses := true, named := ["unicode/utf8.first", "unicode/utf8.acceptRanges"], apart := false, laid := [("unicode/utf8.acceptRanges", laid_unicode_utf8_acceptRanges), ("unicode/utf8.first", laid_unicode_utf8_first)], narrowed := true }
def RingPlaysUptoSaid : Prop := ringPlaysUptoRow.holds Tryd.pinned (OpenSpec.upto ringPlaysSpec)

/-- 'bodkinlaw13.RingNone', WHERE WHAT IT READS IS OF BULK AT MOST 1048576: true; the input reads as it did. -/
def ringNoneUptoRow : OpenClaim := { program := "ytlflohbpdapiiaadoor", sum := "2032038a45c4decaaf62719b53ba81e699160af8ad75dabef211cb9b033b7cfe", func := "bodkin/bodkinlaw13.RingNone", spec := "ringNone", inPlace := ["slices.overlaps[string]"], unfollowed := true, recurses := true, named := ["unicode/utf8.first", "unicode/utf8.acceptRanges"], apart := false, laid := [("unicode/utf8.acceptRanges", laid_unicode_utf8_acceptRanges), ("unicode/utf8.first", laid_unicode_utf8_first)], narrowed := true }
def RingNoneUptoSaid : Prop := ringNoneUptoRow.holds Tryd.pinned (OpenSpec.upto ringNoneSpec)

end Rows
end Go.Proofs.YtlflohbpdapiiaaDoor
