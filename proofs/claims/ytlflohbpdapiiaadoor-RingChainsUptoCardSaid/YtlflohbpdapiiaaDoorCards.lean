/-
  DERIVED. GIVEN WITH THE SEED: THE CARDS: each row of YtlflohbpdapiiaaDoorRows.lean that lists a variable, with what it lists TIED to the program's text (the seventh form; the later family's looks); each row that meets fmt, with fmt's text TOLD by the authors' own Lean function (tested against real Go, not proved from fmt's source: count such statements apart). THE CARD IS WHAT COUNTS. Prove the row's statement (the work); the ties are given (YtlflohbpdapiiaaDoorTie.lean); close each card by the builder's one call (the guide's Derived/Test/ToyasCard.lean, 'card_holds'). Laid BY PROGRAM, IN A SANDBOX (cutbox-door.mjs). By AI agents, Wed Nov 11 2026. No macro, syntax, notation, axiom, sorry.
-/
import Derived.Test.YtlflohbpdapiiaaDoorRows
import GoSem.ClaimSeven
namespace Go.Proofs.YtlflohbpdapiiaaDoor
namespace Rows

/-- THE TIED CARD OF 'bodkinlaw13.RingChains'. -/
def ringChainsCard : Claim7 := { stood := { row := ringChainsRow, standIns := [], harness := (true, "a90d405df262c09bee25070d5203bb39448a8536f5d3e8c3cd58c473ecb0d294"), looks := false }, kinds := [], alts := [], laidByText := true, laidKinds := [.data, .pinned], laidTests := true, laidLooks := .later }
def RingChainsCardSaid : Prop := Claim7.holds Tryd.pinned (.plain (OpenSpec.ofChange ringChainsSpec)) ringChainsCard

/-- THE TIED CARD OF 'bodkinlaw13.RingRounds'. -/
def ringRoundsCard : Claim7 := { stood := { row := ringRoundsRow, standIns := [], harness := (true, "a90d405df262c09bee25070d5203bb39448a8536f5d3e8c3cd58c473ecb0d294"), looks := false }, kinds := [], alts := [], laidByText := true, laidKinds := [.data, .pinned], laidTests := true, laidLooks := .later }
def RingRoundsCardSaid : Prop := Claim7.holds Tryd.pinned (.plain (OpenSpec.ofChange ringRoundsSpec)) ringRoundsCard

/-- THE TIED CARD OF 'bodkinlaw13.RingBounds'. -/
def ringBoundsCard : Claim7 := { stood := { row := ringBoundsRow, standIns := [], harness := (true, "a90d405df262c09bee25070d5203bb39448a8536f5d3e8c3cd58c473ecb0d294"), looks := false }, kinds := [], alts := [], laidByText := true, laidKinds := [.data, .pinned], laidTests := true, laidLooks := .later }
def RingBoundsCardSaid : Prop := Claim7.holds Tryd.pinned (.plain (OpenSpec.ofChange ringBoundsSpec)) ringBoundsCard

/-- THE TIED CARD OF 'bodkinlaw13.RingFresh'. -/
def ringFreshCard : Claim7 := { stood := { row := ringFreshRow, standIns := [], harness := (true, "a90d405df262c09bee25070d5203bb39448a8536f5d3e8c3cd58c473ecb0d294"), looks := false }, kinds := [], alts := [], laidByText := true, laidKinds := [.data, .pinned], laidTests := true, laidLooks := .later }
def RingFreshCardSaid : Prop := Claim7.holds Tryd.pinned (.plain (OpenSpec.ofChange ringFreshSpec)) ringFreshCard

/-- THE TIED CARD OF 'bodkinlaw13.RingPlays'. -/
def ringPlaysCard : Claim7 := { stood := { row := ringPlaysRow, standIns := [], harness := (true, "a90d405df262c09bee25070d5203bb39448a8536f5d3e8c3cd58c473ecb0d294"), looks := false }, kinds := [], alts := [], laidByText := true, laidKinds := [.data, .pinned], laidTests := true, laidLooks := .later }
def RingPlaysCardSaid : Prop := Claim7.holds Tryd.pinned (.plain (OpenSpec.ofChange ringPlaysSpec)) ringPlaysCard

/-- THE TIED CARD OF 'bodkinlaw13.RingNone'. -/
def ringNoneCard : Claim7 := { stood := { row := ringNoneRow, standIns := [], harness := (true, "a90d405df262c09bee25070d5203bb39448a8536f5d3e8c3cd58c473ecb0d294"), looks := false }, kinds := [], alts := [], laidByText := true, laidKinds := [.data, .pinned], laidTests := true, laidLooks := .later }
def RingNoneCardSaid : Prop := Claim7.holds Tryd.pinned (.plain (OpenSpec.ofChange ringNoneSpec)) ringNoneCard

/-- THE SECOND FORM's CARD OF 'bodkinlaw13.RingChains'. -/
def ringChainsUptoCard : Claim7 := { stood := { row := ringChainsUptoRow, standIns := [], harness := (true, "a90d405df262c09bee25070d5203bb39448a8536f5d3e8c3cd58c473ecb0d294"), looks := false }, kinds := [], alts := [], laidByText := true, laidKinds := [.data, .pinned], laidTests := true, laidLooks := .later }
def RingChainsUptoCardSaid : Prop := Claim7.holds Tryd.pinned (.plain (OpenSpec.upto ringChainsSpec)) ringChainsUptoCard

/-- THE SECOND FORM's CARD OF 'bodkinlaw13.RingRounds'. -/
def ringRoundsUptoCard : Claim7 := { stood := { row := ringRoundsUptoRow, standIns := [], harness := (true, "a90d405df262c09bee25070d5203bb39448a8536f5d3e8c3cd58c473ecb0d294"), looks := false }, kinds := [], alts := [], laidByText := true, laidKinds := [.data, .pinned], laidTests := true, laidLooks := .later }
def RingRoundsUptoCardSaid : Prop := Claim7.holds Tryd.pinned (.plain (OpenSpec.upto ringRoundsSpec)) ringRoundsUptoCard

/-- THE SECOND FORM's CARD OF 'bodkinlaw13.RingBounds'. -/
def ringBoundsUptoCard : Claim7 := { stood := { row := ringBoundsUptoRow, standIns := [], harness := (true, "a90d405df262c09bee25070d5203bb39448a8536f5d3e8c3cd58c473ecb0d294"), looks := false }, kinds := [], alts := [], laidByText := true, laidKinds := [.data, .pinned], laidTests := true, laidLooks := .later }
def RingBoundsUptoCardSaid : Prop := Claim7.holds Tryd.pinned (.plain (OpenSpec.upto ringBoundsSpec)) ringBoundsUptoCard

/-- THE SECOND FORM's CARD OF 'bodkinlaw13.RingFresh'. -/
def ringFreshUptoCard : Claim7 := { stood := { row := ringFreshUptoRow, standIns := [], harness := (true, "a90d405df262c09bee25070d5203bb39448a8536f5d3e8c3cd58c473ecb0d294"), looks := false }, kinds := [], alts := [], laidByText := true, laidKinds := [.data, .pinned], laidTests := true, laidLooks := .later }
def RingFreshUptoCardSaid : Prop := Claim7.holds Tryd.pinned (.plain (OpenSpec.upto ringFreshSpec)) ringFreshUptoCard

/-- THE SECOND FORM's CARD OF 'bodkinlaw13.RingPlays'. -/
def ringPlaysUptoCard : Claim7 := { stood := { row := ringPlaysUptoRow, standIns := [], harness := (true, "a90d405df262c09bee25070d5203bb39448a8536f5d3e8c3cd58c473ecb0d294"), looks := false }, kinds := [], alts := [], laidByText := true, laidKinds := [.data, .pinned], laidTests := true, laidLooks := .later }
def RingPlaysUptoCardSaid : Prop := Claim7.holds Tryd.pinned (.plain (OpenSpec.upto ringPlaysSpec)) ringPlaysUptoCard

/-- THE SECOND FORM's CARD OF 'bodkinlaw13.RingNone'. -/
def ringNoneUptoCard : Claim7 := { stood := { row := ringNoneUptoRow, standIns := [], harness := (true, "a90d405df262c09bee25070d5203bb39448a8536f5d3e8c3cd58c473ecb0d294"), looks := false }, kinds := [], alts := [], laidByText := true, laidKinds := [.data, .pinned], laidTests := true, laidLooks := .later }
def RingNoneUptoCardSaid : Prop := Claim7.holds Tryd.pinned (.plain (OpenSpec.upto ringNoneSpec)) ringNoneUptoCard
end Rows
end Go.Proofs.YtlflohbpdapiiaaDoor
