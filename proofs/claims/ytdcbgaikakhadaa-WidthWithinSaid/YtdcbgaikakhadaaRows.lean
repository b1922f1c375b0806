/-
  No cell of these rows narrows 'for every input' (looked for: loops, veiled, ifaces, maps, wideKeys, modest, calm, conditions, laid).
  DERIVED. THE GIVEN ROWS OF THIS SEAT. 6 by the template 'for every input the law returns true; each argument reads behind the call as it read before'; 0 by the template 'total and deterministic' (their statements: YtdcbgaikakhadaaTotals.lean).
  GIVEN WITH THE SEED: the statements are not yours to turn. If you find one false, say at which input.
  Laid BY PROGRAM, IN A SANDBOX (cutbox-rows.mjs): the forced cells as the released guide's own fill.sh prints them over the translation 41753b7f2c4306dc… (all of the seat's roots in one cut). By AI agents, Wed Nov 11 2026. No macro, syntax, notation, axiom, sorry.
-/
import Derived.Test.YtdcbgaikakhadaaChecked
import GoSem.Claim
import GoSem.ClaimJoined
import GoSem.ClaimMapViews
import Derived.JoinedTies
import Derived.KernelRfl
namespace Go.Proofs.Ytdcbgaikakhadaa
/- THE CELL 'sum', in the pinned program and in every row, IS THE sha256 OF THE DUMP (.gsa) THAT YtdcbgaikakhadaaProg.lean LOADS. Nothing in Lean hashes anything: it is a label: what it is worth is what the hold of that sum in a sandbox is worth. -/
noncomputable def Try.pinned : Pinned := { name := "ytdcbgaikakhadaa", sum := "41753b7f2c4306dc7e510a1edb65634db8ca269365d08ca8741808ed1aa1d789", checked := Try.checked }
namespace Rows
def none {H : Type} : Left H := { results := [], args := [] }

/-- 'bodkinlaw02.WidthNumbers': WHATEVER THE INPUT: true; the input reads as it did. -/
def widthNumbersSpec : ChangeSpec := { name := "widthNumbers", fn := fun _ => fun
  | [] => { results := [.lit (.bool true)], args := [] }
  | _ => none }
def widthNumbersRow : OpenClaim := { program := "ytdcbgaikakhadaa", sum := "41753b7f2c4306dc7e510a1edb65634db8ca269365d08ca8741808ed1aa1d789", func := "bodkin/bodkinlaw02.WidthNumbers", spec := "widthNumbers", apart := false }
def WidthNumbersSaid : Prop := widthNumbersRow.holds Try.pinned (OpenSpec.ofChange widthNumbersSpec)

/-- ITS FALSE NEIGHBOUR: 'it returns false'. Refute it at one input. -/
def widthNumbersWrong : ChangeSpec := { name := "widthNumbers", fn := fun _ => fun
  | [] => { results := [.lit (.bool false)], args := [] }
  | _ => none }
def WidthNumbersWrongFalsely : Prop := widthNumbersRow.holds Try.pinned (OpenSpec.ofChange widthNumbersWrong)

/-- 'bodkinlaw12.LogNames': WHATEVER THE INPUT: true; the input reads as it did. -/
def logNamesSpec : ChangeSpec := { name := "logNames", fn := fun _ => fun
  | [] => { results := [.lit (.bool true)], args := [] }
  | _ => none }
def logNamesRow : OpenClaim := { program := "ytdcbgaikakhadaa", sum := "41753b7f2c4306dc7e510a1edb65634db8ca269365d08ca8741808ed1aa1d789", func := "bodkin/bodkinlaw12.LogNames", spec := "logNames", apart := false }
def LogNamesSaid : Prop := logNamesRow.holds Try.pinned (OpenSpec.ofChange logNamesSpec)

/-- ITS FALSE NEIGHBOUR: 'it returns false'. Refute it at one input. -/
def logNamesWrong : ChangeSpec := { name := "logNames", fn := fun _ => fun
  | [] => { results := [.lit (.bool false)], args := [] }
  | _ => none }
def LogNamesWrongFalsely : Prop := logNamesRow.holds Try.pinned (OpenSpec.ofChange logNamesWrong)

/-- 'bodkinlaw02.WidthClasses': WHATEVER THE INPUT: true; the input reads as it did. -/
def widthClassesSpec : ChangeSpec := { name := "widthClasses", fn := fun _ => fun
  | [d] => { results := [.lit (.bool true)], args := [d] }
  | _ => none }
def widthClassesRow : OpenClaim := { program := "ytdcbgaikakhadaa", sum := "41753b7f2c4306dc7e510a1edb65634db8ca269365d08ca8741808ed1aa1d789", func := "bodkin/bodkinlaw02.WidthClasses", spec := "widthClasses", unfollowed := true, recurses := true, apart := false }
def WidthClassesSaid : Prop := widthClassesRow.holds Try.pinned (OpenSpec.ofChange widthClassesSpec)

/-- ITS FALSE NEIGHBOUR: 'it returns false'. Refute it at one input. -/
def widthClassesWrong : ChangeSpec := { name := "widthClasses", fn := fun _ => fun
  | [d] => { results := [.lit (.bool false)], args := [d] }
  | _ => none }
def WidthClassesWrongFalsely : Prop := widthClassesRow.holds Try.pinned (OpenSpec.ofChange widthClassesWrong)

/-- 'bodkinlaw02.WidthRanges': WHATEVER THE INPUT: true; the input reads as it did. -/
def widthRangesSpec : ChangeSpec := { name := "widthRanges", fn := fun _ => fun
  | [d] => { results := [.lit (.bool true)], args := [d] }
  | _ => none }
def widthRangesRow : OpenClaim := { program := "ytdcbgaikakhadaa", sum := "41753b7f2c4306dc7e510a1edb65634db8ca269365d08ca8741808ed1aa1d789", func := "bodkin/bodkinlaw02.WidthRanges", spec := "widthRanges", unfollowed := true, recurses := true, apart := false }
def WidthRangesSaid : Prop := widthRangesRow.holds Try.pinned (OpenSpec.ofChange widthRangesSpec)

/-- ITS FALSE NEIGHBOUR: 'it returns false'. Refute it at one input. -/
def widthRangesWrong : ChangeSpec := { name := "widthRanges", fn := fun _ => fun
  | [d] => { results := [.lit (.bool false)], args := [d] }
  | _ => none }
def WidthRangesWrongFalsely : Prop := widthRangesRow.holds Try.pinned (OpenSpec.ofChange widthRangesWrong)

/-- 'bodkinlaw02.WidthWithin': WHATEVER THE INPUT: true; the input reads as it did. -/
def widthWithinSpec : ChangeSpec := { name := "widthWithin", fn := fun _ => fun
  | [d] => { results := [.lit (.bool true)], args := [d] }
  | _ => none }
def widthWithinRow : OpenClaim := { program := "ytdcbgaikakhadaa", sum := "41753b7f2c4306dc7e510a1edb65634db8ca269365d08ca8741808ed1aa1d789", func := "bodkin/bodkinlaw02.WidthWithin", spec := "widthWithin", unfollowed := true, recurses := true, apart := false }
def WidthWithinSaid : Prop := widthWithinRow.holds Try.pinned (OpenSpec.ofChange widthWithinSpec)

/-- ITS FALSE NEIGHBOUR: 'it returns false'. Refute it at one input. -/
def widthWithinWrong : ChangeSpec := { name := "widthWithin", fn := fun _ => fun
  | [d] => { results := [.lit (.bool false)], args := [d] }
  | _ => none }
def WidthWithinWrongFalsely : Prop := widthWithinRow.holds Try.pinned (OpenSpec.ofChange widthWithinWrong)

/-- 'bodkinlaw02.WidthTables': WHATEVER THE INPUT: true; the input reads as it did. -/
def widthTablesSpec : ChangeSpec := { name := "widthTables", fn := fun _ => fun
  | [] => { results := [.lit (.bool true)], args := [] }
  | _ => none }
def widthTablesRow : OpenClaim := { program := "ytdcbgaikakhadaa", sum := "41753b7f2c4306dc7e510a1edb65634db8ca269365d08ca8741808ed1aa1d789", func := "bodkin/bodkinlaw02.WidthTables", spec := "widthTables", unfollowed := true, recurses := true, apart := false }
def WidthTablesSaid : Prop := widthTablesRow.holds Try.pinned (OpenSpec.ofChange widthTablesSpec)

/-- ITS FALSE NEIGHBOUR: 'it returns false'. Refute it at one input. -/
def widthTablesWrong : ChangeSpec := { name := "widthTables", fn := fun _ => fun
  | [] => { results := [.lit (.bool false)], args := [] }
  | _ => none }
def WidthTablesWrongFalsely : Prop := widthTablesRow.holds Try.pinned (OpenSpec.ofChange widthTablesWrong)

/- THE SECOND FORM. 'bulk': how many values and letters a reading holds, each counted each time it is reached (what is shared counts as often as it is met; a slice's spare places count too). A statement '..UptoSaid' is the law's where the arguments, and the package variables that the reading takes, are together of bulk at most 1048576: NARROWER than '..Said'. Prove '..Said' where nothing that the law and all that it calls make is longer than what came in: it says more and counts as full. Else prove '..UptoSaid'. A law counts once. -/
mutual
def uptoBulk {H : Type} : DataW H → Nat
  | .lit (.string bytes) => bytes.length + 1
  | .lit _ => 1
  | .nil => 1
  | .ptr d => uptoBulk d + 1
  | .slice elems spare => uptoBulkAll elems + uptoBulkAll spare + 1
  | .agg parts => uptoBulkAll parts + 1
  | .iface _ d => uptoBulk d + 1
  | .map entries => uptoBulkEntries entries + 1
  | .held _ => 1
def uptoBulkAll {H : Type} : List (DataW H) → Nat
  | [] => 0
  | d :: r => uptoBulk d + uptoBulkAll r
def uptoBulkEntries {H : Type} : List (Lit × DataW H) → Nat
  | [] => 0
  | x :: r => uptoBulkEntry x + uptoBulkEntries r
def uptoBulkEntry {H : Type} : Lit × DataW H → Nat
  | (.string bytes, d) => bytes.length + uptoBulk d + 1
  | (_, d) => uptoBulk d + 1
 end
def uptoSmall : (H : Type) → List (DataW H) → Bool := fun _ ds => decide (uptoBulkAll ds ≤ 1048576)
def OpenSpec.upto (s : _root_.Go.ChangeSpec) : _root_.Go.OpenSpec := { _root_.Go.OpenSpec.ofChange s with cond := some uptoSmall }

/-- 'bodkinlaw02.WidthNumbers', WHERE WHAT IT READS IS OF BULK AT MOST 1048576: true; the input reads as it did. -/
def widthNumbersUptoRow : OpenClaim := { program := "ytdcbgaikakhadaa", sum := "41753b7f2c4306dc7e510a1edb65634db8ca269365d08ca8741808ed1aa1d789", func := "bodkin/bodkinlaw02.WidthNumbers", spec := "widthNumbers", apart := false, narrowed := true }
def WidthNumbersUptoSaid : Prop := widthNumbersUptoRow.holds Try.pinned (OpenSpec.upto widthNumbersSpec)

/-- 'bodkinlaw12.LogNames', WHERE WHAT IT READS IS OF BULK AT MOST 1048576: true; the input reads as it did. -/
def logNamesUptoRow : OpenClaim := { program := "ytdcbgaikakhadaa", sum := "41753b7f2c4306dc7e510a1edb65634db8ca269365d08ca8741808ed1aa1d789", func := "bodkin/bodkinlaw12.LogNames", spec := "logNames", apart := false, narrowed := true }
def LogNamesUptoSaid : Prop := logNamesUptoRow.holds Try.pinned (OpenSpec.upto logNamesSpec)

/-- 'bodkinlaw02.WidthClasses', WHERE WHAT IT READS IS OF BULK AT MOST 1048576: true; the input reads as it did. -/
def widthClassesUptoRow : OpenClaim := { program := "ytdcbgaikakhadaa", sum := "41753b7f2c4306dc7e510a1edb65634db8ca269365d08ca8741808ed1aa1d789", func := "bodkin/bodkinlaw02.WidthClasses", spec := "widthClasses", unfollowed := true, recurses := true, apart := false, narrowed := true }
def WidthClassesUptoSaid : Prop := widthClassesUptoRow.holds Try.pinned (OpenSpec.upto widthClassesSpec)

/-- 'bodkinlaw02.WidthRanges', WHERE WHAT IT READS IS OF BULK AT MOST 1048576: true; the input reads as it did. -/
def widthRangesUptoRow : OpenClaim := { program := "ytdcbgaikakhadaa", sum := "41753b7f2c4306dc7e510a1edb65634db8ca269365d08ca8741808ed1aa1d789", func := "bodkin/bodkinlaw02.WidthRanges", spec := "widthRanges", unfollowed := true, recurses := true, apart := false, narrowed := true }
def WidthRangesUptoSaid : Prop := widthRangesUptoRow.holds Try.pinned (OpenSpec.upto widthRangesSpec)

/-- 'bodkinlaw02.WidthWithin', WHERE WHAT IT READS IS OF BULK AT MOST 1048576: true; the input reads as it did. -/
def widthWithinUptoRow : OpenClaim := { program := "ytdcbgaikakhadaa", sum := "41753b7f2c4306dc7e510a1edb65634db8ca269365d08ca8741808ed1aa1d789", func := "bodkin/bodkinlaw02.WidthWithin", spec := "widthWithin", unfollowed := true, recurses := true, apart := false, narrowed := true }
def WidthWithinUptoSaid : Prop := widthWithinUptoRow.holds Try.pinned (OpenSpec.upto widthWithinSpec)

/-- 'bodkinlaw02.WidthTables', WHERE WHAT IT READS IS OF BULK AT MOST 1048576: true; the input reads as it did. -/
def widthTablesUptoRow : OpenClaim := { program := "ytdcbgaikakhadaa", sum := "41753b7f2c4306dc7e510a1edb65634db8ca269365d08ca8741808ed1aa1d789", func := "bodkin/bodkinlaw02.WidthTables", spec := "widthTables", unfollowed := true, recurses := true, apart := false, narrowed := true }
def WidthTablesUptoSaid : Prop := widthTablesUptoRow.holds Try.pinned (OpenSpec.upto widthTablesSpec)

end Rows
end Go.Proofs.Ytdcbgaikakhadaa
