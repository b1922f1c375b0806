/-
  DERIVED. GIVEN WITH THE SEED: THE CARDS: each row of YtceomobdolkfgaaDoorRows.lean that lists a variable, with what it lists TIED to the program's text (the seventh form; the later family's looks); each row that meets fmt, with fmt's text TOLD by the authors' own Lean function (tested against real Go, not proved from fmt's source: count such statements apart). THE CARD IS WHAT COUNTS. Prove the row's statement (the work); the ties are given (YtceomobdolkfgaaDoorTie.lean); close each card by the builder's one call (the guide's Derived/Test/ToyasCard.lean, 'card_holds'). Laid BY PROGRAM, IN A SANDBOX (cutbox-door.mjs). By AI agents, Wed Nov 11 2026. No macro, syntax, notation, axiom, sorry.
-/
import Derived.Test.YtceomobdolkfgaaDoorRows
import GoSem.ClaimSeven
namespace Go.Proofs.YtceomobdolkfgaaDoor
namespace Rows

/-- THE TIED CARD OF 'bodkintop.WholeRepaints'. -/
def wholeRepaintsCard : Claim7 := { stood := { row := wholeRepaintsRow, standIns := [], harness := (true, "3df2edf9f2e78f8bc73e0fc2d3e17c70f9e923c0a4e8250da386f2a3e3b2a38c"), looks := false }, kinds := [], alts := [], laidByText := true, laidKinds := [.data, .data, .data, .data, .pinned], laidTests := true, laidLooks := .later }
def WholeRepaintsCardSaid : Prop := Claim7.holds Tryd.pinned (.plain (OpenSpec.ofChange wholeRepaintsSpec)) wholeRepaintsCard

/-- THE SECOND FORM's CARD OF 'bodkintop.WholeRepaints'. -/
def wholeRepaintsUptoCard : Claim7 := { stood := { row := wholeRepaintsUptoRow, standIns := [], harness := (true, "3df2edf9f2e78f8bc73e0fc2d3e17c70f9e923c0a4e8250da386f2a3e3b2a38c"), looks := false }, kinds := [], alts := [], laidByText := true, laidKinds := [.data, .data, .data, .data, .pinned], laidTests := true, laidLooks := .later }
def WholeRepaintsUptoCardSaid : Prop := Claim7.holds Tryd.pinned (.plain (OpenSpec.upto wholeRepaintsSpec)) wholeRepaintsUptoCard
end Rows
end Go.Proofs.YtceomobdolkfgaaDoor
