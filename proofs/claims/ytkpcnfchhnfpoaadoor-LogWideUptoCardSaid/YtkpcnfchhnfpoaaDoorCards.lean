/-
  DERIVED. GIVEN WITH THE SEED: THE CARDS: each row of YtkpcnfchhnfpoaaDoorRows.lean that lists a variable, with what it lists TIED to the program's text (the seventh form; the later family's looks); each row that meets fmt, with fmt's text TOLD by the authors' own Lean function (tested against real Go, not proved from fmt's source: count such statements apart). THE CARD IS WHAT COUNTS. Prove the row's statement (the work); the ties are given (YtkpcnfchhnfpoaaDoorTie.lean); close each card by the builder's one call (the guide's Derived/Test/ToyasCard.lean, 'card_holds'). Laid BY PROGRAM, IN A SANDBOX (cutbox-door.mjs). By AI agents, Wed Nov 11 2026. No macro, syntax, notation, axiom, sorry.
-/
import Derived.Test.YtkpcnfchhnfpoaaDoorRows
import GoSem.ClaimSeven
namespace Go.Proofs.YtkpcnfchhnfpoaaDoor
namespace Rows

/-- THE TIED CARD OF 'bodkinlaw12.LogDeltas'. -/
def logDeltasCard : Claim7 := { stood := { row := logDeltasRow, standIns := [], harness := (true, "48f0ec7b53fae749a00dab7ddf5c8dce5a5b2f037408a79203459d8e5d59659b"), looks := false }, kinds := [], alts := [], laidByText := true, laidKinds := [.data, .pinned], laidTests := true, laidLooks := .later }
def LogDeltasCardSaid : Prop := Claim7.holds Tryd.pinned (.plain (OpenSpec.ofChange logDeltasSpec)) logDeltasCard

/-- THE TIED CARD OF 'bodkinlaw12.LogMerges'. -/
def logMergesCard : Claim7 := { stood := { row := logMergesRow, standIns := [], harness := (true, "48f0ec7b53fae749a00dab7ddf5c8dce5a5b2f037408a79203459d8e5d59659b"), looks := false }, kinds := [], alts := [], laidByText := true, laidKinds := [.data, .pinned], laidTests := true, laidLooks := .later }
def LogMergesCardSaid : Prop := Claim7.holds Tryd.pinned (.plain (OpenSpec.ofChange logMergesSpec)) logMergesCard

/-- THE TIED CARD OF 'bodkinlaw12.LogBacks'. -/
def logBacksCard : Claim7 := { stood := { row := logBacksRow, standIns := [], harness := (true, "48f0ec7b53fae749a00dab7ddf5c8dce5a5b2f037408a79203459d8e5d59659b"), looks := false }, kinds := [], alts := [], laidByText := true, laidKinds := [.data, .pinned], laidTests := true, laidLooks := .later }
def LogBacksCardSaid : Prop := Claim7.holds Tryd.pinned (.plain (OpenSpec.ofChange logBacksSpec)) logBacksCard

/-- THE TIED CARD OF 'bodkinlaw12.LogKeeps'. -/
def logKeepsCard : Claim7 := { stood := { row := logKeepsRow, standIns := [], harness := (true, "48f0ec7b53fae749a00dab7ddf5c8dce5a5b2f037408a79203459d8e5d59659b"), looks := false }, kinds := [], alts := [], laidByText := true, laidKinds := [.data, .pinned], laidTests := true, laidLooks := .later }
def LogKeepsCardSaid : Prop := Claim7.holds Tryd.pinned (.plain (OpenSpec.ofChange logKeepsSpec)) logKeepsCard

/-- THE TIED CARD OF 'bodkinlaw12.LogPlays'. -/
def logPlaysCard : Claim7 := { stood := { row := logPlaysRow, standIns := [], harness := (true, "48f0ec7b53fae749a00dab7ddf5c8dce5a5b2f037408a79203459d8e5d59659b"), looks := false }, kinds := [], alts := [], laidByText := true, laidKinds := [.data, .pinned], laidTests := true, laidLooks := .later }
def LogPlaysCardSaid : Prop := Claim7.holds Tryd.pinned (.plain (OpenSpec.ofChange logPlaysSpec)) logPlaysCard

/-- THE TIED CARD OF 'bodkinlaw12.LogWide'. -/
def logWideCard : Claim7 := { stood := { row := logWideRow, standIns := [], harness := (true, "48f0ec7b53fae749a00dab7ddf5c8dce5a5b2f037408a79203459d8e5d59659b"), looks := false }, kinds := [], alts := [], laidByText := true, laidKinds := [.data, .pinned], laidTests := true, laidLooks := .later }
def LogWideCardSaid : Prop := Claim7.holds Tryd.pinned (.plain (OpenSpec.ofChange logWideSpec)) logWideCard

/-- THE TIED CARD OF 'bodkinlaw12.LogEnds'. -/
def logEndsCard : Claim7 := { stood := { row := logEndsRow, standIns := [], harness := (true, "48f0ec7b53fae749a00dab7ddf5c8dce5a5b2f037408a79203459d8e5d59659b"), looks := false }, kinds := [], alts := [], laidByText := true, laidKinds := [.data, .pinned], laidTests := true, laidLooks := .later }
def LogEndsCardSaid : Prop := Claim7.holds Tryd.pinned (.plain (OpenSpec.ofChange logEndsSpec)) logEndsCard

/-- THE SECOND FORM's CARD OF 'bodkinlaw12.LogDeltas'. -/
def logDeltasUptoCard : Claim7 := { stood := { row := logDeltasUptoRow, standIns := [], harness := (true, "48f0ec7b53fae749a00dab7ddf5c8dce5a5b2f037408a79203459d8e5d59659b"), looks := false }, kinds := [], alts := [], laidByText := true, laidKinds := [.data, .pinned], laidTests := true, laidLooks := .later }
def LogDeltasUptoCardSaid : Prop := Claim7.holds Tryd.pinned (.plain (OpenSpec.upto logDeltasSpec)) logDeltasUptoCard

/-- THE SECOND FORM's CARD OF 'bodkinlaw12.LogMerges'. -/
def logMergesUptoCard : Claim7 := { stood := { row := logMergesUptoRow, standIns := [], harness := (true, "48f0ec7b53fae749a00dab7ddf5c8dce5a5b2f037408a79203459d8e5d59659b"), looks := false }, kinds := [], alts := [], laidByText := true, laidKinds := [.data, .pinned], laidTests := true, laidLooks := .later }
def LogMergesUptoCardSaid : Prop := Claim7.holds Tryd.pinned (.plain (OpenSpec.upto logMergesSpec)) logMergesUptoCard

/-- THE SECOND FORM's CARD OF 'bodkinlaw12.LogBacks'. -/
def logBacksUptoCard : Claim7 := { stood := { row := logBacksUptoRow, standIns := [], harness := (true, "48f0ec7b53fae749a00dab7ddf5c8dce5a5b2f037408a79203459d8e5d59659b"), looks := false }, kinds := [], alts := [], laidByText := true, laidKinds := [.data, .pinned], laidTests := true, laidLooks := .later }
def LogBacksUptoCardSaid : Prop := Claim7.holds Tryd.pinned (.plain (OpenSpec.upto logBacksSpec)) logBacksUptoCard

/-- THE SECOND FORM's CARD OF 'bodkinlaw12.LogKeeps'. -/
def logKeepsUptoCard : Claim7 := { stood := { row := logKeepsUptoRow, standIns := [], harness := (true, "48f0ec7b53fae749a00dab7ddf5c8dce5a5b2f037408a79203459d8e5d59659b"), looks := false }, kinds := [], alts := [], laidByText := true, laidKinds := [.data, .pinned], laidTests := true, laidLooks := .later }
def LogKeepsUptoCardSaid : Prop := Claim7.holds Tryd.pinned (.plain (OpenSpec.upto logKeepsSpec)) logKeepsUptoCard

/-- THE SECOND FORM's CARD OF 'bodkinlaw12.LogPlays'. -/
def logPlaysUptoCard : Claim7 := { stood := { row := logPlaysUptoRow, standIns := [], harness := (true, "48f0ec7b53fae749a00dab7ddf5c8dce5a5b2f037408a79203459d8e5d59659b"), looks := false }, kinds := [], alts := [], laidByText := true, laidKinds := [.data, .pinned], laidTests := true, laidLooks := .later }
def LogPlaysUptoCardSaid : Prop := Claim7.holds Tryd.pinned (.plain (OpenSpec.upto logPlaysSpec)) logPlaysUptoCard

/-- THE SECOND FORM's CARD OF 'bodkinlaw12.LogWide'. -/
def logWideUptoCard : Claim7 := { stood := { row := logWideUptoRow, standIns := [], harness := (true, "48f0ec7b53fae749a00dab7ddf5c8dce5a5b2f037408a79203459d8e5d59659b"), looks := false }, kinds := [], alts := [], laidByText := true, laidKinds := [.data, .pinned], laidTests := true, laidLooks := .later }
def LogWideUptoCardSaid : Prop := Claim7.holds Tryd.pinned (.plain (OpenSpec.upto logWideSpec)) logWideUptoCard

/-- THE SECOND FORM's CARD OF 'bodkinlaw12.LogEnds'. -/
def logEndsUptoCard : Claim7 := { stood := { row := logEndsUptoRow, standIns := [], harness := (true, "48f0ec7b53fae749a00dab7ddf5c8dce5a5b2f037408a79203459d8e5d59659b"), looks := false }, kinds := [], alts := [], laidByText := true, laidKinds := [.data, .pinned], laidTests := true, laidLooks := .later }
def LogEndsUptoCardSaid : Prop := Claim7.holds Tryd.pinned (.plain (OpenSpec.upto logEndsSpec)) logEndsUptoCard
end Rows
end Go.Proofs.YtkpcnfchhnfpoaaDoor
