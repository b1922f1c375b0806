/-
  DERIVED. GIVEN WITH THE SEED: THE CARDS: each row of YtjghfdhahkokhaaDoorRows.lean that lists a variable, with what it lists TIED to the program's text (the seventh form; the later family's looks); each row that meets fmt, with fmt's text TOLD by the authors' own Lean function (tested against real Go, not proved from fmt's source: count such statements apart). THE CARD IS WHAT COUNTS. Prove the row's statement (the work); the ties are given (YtjghfdhahkokhaaDoorTie.lean); close each card by the builder's one call (the guide's Derived/Test/ToyasCard.lean, 'card_holds'). Laid BY PROGRAM, IN A SANDBOX (cutbox-door.mjs). By AI agents, Wed Nov 11 2026. No macro, syntax, notation, axiom, sorry.
-/
import Derived.Test.YtjghfdhahkokhaaDoorRows
import GoSem.ClaimSeven
namespace Go.Proofs.YtjghfdhahkokhaaDoor
namespace Rows

/-- THE TIED CARD OF 'bodkinlaw14.HistWalks'. -/
def histWalksCard : Claim7 := { stood := { row := histWalksRow, standIns := [], harness := (true, "88e24d2faaa12d39ea7a714ef871f780637bccd311354142ca67e4c539100d30"), looks := false }, kinds := [], alts := [], laidByText := true, laidKinds := [.data, .pinned], laidTests := true, laidLooks := .later }
def HistWalksCardSaid : Prop := Claim7.holds Tryd.pinned (.plain (OpenSpec.ofChange histWalksSpec)) histWalksCard

/-- THE TIED CARD OF 'bodkinlaw14.HistGoes'. -/
def histGoesCard : Claim7 := { stood := { row := histGoesRow, standIns := [], harness := (true, "88e24d2faaa12d39ea7a714ef871f780637bccd311354142ca67e4c539100d30"), looks := false }, kinds := [], alts := [], laidByText := true, laidKinds := [.data, .pinned], laidTests := true, laidLooks := .later }
def HistGoesCardSaid : Prop := Claim7.holds Tryd.pinned (.plain (OpenSpec.ofChange histGoesSpec)) histGoesCard

/-- THE TIED CARD OF 'bodkinlaw14.HistKeeps'. -/
def histKeepsCard : Claim7 := { stood := { row := histKeepsRow, standIns := [], harness := (true, "88e24d2faaa12d39ea7a714ef871f780637bccd311354142ca67e4c539100d30"), looks := false }, kinds := [], alts := [], laidByText := true, laidKinds := [.data, .pinned], laidTests := true, laidLooks := .later }
def HistKeepsCardSaid : Prop := Claim7.holds Tryd.pinned (.plain (OpenSpec.ofChange histKeepsSpec)) histKeepsCard

/-- THE TIED CARD OF 'bodkinlaw14.HistBounds'. -/
def histBoundsCard : Claim7 := { stood := { row := histBoundsRow, standIns := [], harness := (true, "88e24d2faaa12d39ea7a714ef871f780637bccd311354142ca67e4c539100d30"), looks := false }, kinds := [], alts := [], laidByText := true, laidKinds := [.data, .pinned], laidTests := true, laidLooks := .later }
def HistBoundsCardSaid : Prop := Claim7.holds Tryd.pinned (.plain (OpenSpec.ofChange histBoundsSpec)) histBoundsCard

/-- THE TIED CARD OF 'bodkinlaw14.HistFinds'. -/
def histFindsCard : Claim7 := { stood := { row := histFindsRow, standIns := [], harness := (true, "88e24d2faaa12d39ea7a714ef871f780637bccd311354142ca67e4c539100d30"), looks := false }, kinds := [], alts := [], laidByText := true, laidKinds := [.data, .pinned], laidTests := true, laidLooks := .later }
def HistFindsCardSaid : Prop := Claim7.holds Tryd.pinned (.plain (OpenSpec.ofChange histFindsSpec)) histFindsCard

/-- THE TIED CARD OF 'bodkinlaw14.HistPlays'. -/
def histPlaysCard : Claim7 := { stood := { row := histPlaysRow, standIns := [], harness := (true, "88e24d2faaa12d39ea7a714ef871f780637bccd311354142ca67e4c539100d30"), looks := false }, kinds := [], alts := [], laidByText := true, laidKinds := [.data, .pinned], laidTests := true, laidLooks := .later }
def HistPlaysCardSaid : Prop := Claim7.holds Tryd.pinned (.plain (OpenSpec.ofChange histPlaysSpec)) histPlaysCard

/-- THE TIED CARD OF 'bodkinlaw14.HistNil'. -/
def histNilCard : Claim7 := { stood := { row := histNilRow, standIns := [], harness := (true, "88e24d2faaa12d39ea7a714ef871f780637bccd311354142ca67e4c539100d30"), looks := false }, kinds := [], alts := [], laidByText := true, laidKinds := [.data, .pinned], laidTests := true, laidLooks := .later }
def HistNilCardSaid : Prop := Claim7.holds Tryd.pinned (.plain (OpenSpec.ofChange histNilSpec)) histNilCard

/-- THE SECOND FORM's CARD OF 'bodkinlaw14.HistWalks'. -/
def histWalksUptoCard : Claim7 := { stood := { row := histWalksUptoRow, standIns := [], harness := (true, "88e24d2faaa12d39ea7a714ef871f780637bccd311354142ca67e4c539100d30"), looks := false }, kinds := [], alts := [], laidByText := true, laidKinds := [.data, .pinned], laidTests := true, laidLooks := .later }
def HistWalksUptoCardSaid : Prop := Claim7.holds Tryd.pinned (.plain (OpenSpec.upto histWalksSpec)) histWalksUptoCard

/-- THE SECOND FORM's CARD OF 'bodkinlaw14.HistGoes'. -/
def histGoesUptoCard : Claim7 := { stood := { row := histGoesUptoRow, standIns := [], harness := (true, "88e24d2faaa12d39ea7a714ef871f780637bccd311354142ca67e4c539100d30"), looks := false }, kinds := [], alts := [], laidByText := true, laidKinds := [.data, .pinned], laidTests := true, laidLooks := .later }
def HistGoesUptoCardSaid : Prop := Claim7.holds Tryd.pinned (.plain (OpenSpec.upto histGoesSpec)) histGoesUptoCard

/-- THE SECOND FORM's CARD OF 'bodkinlaw14.HistKeeps'. -/
def histKeepsUptoCard : Claim7 := { stood := { row := histKeepsUptoRow, standIns := [], harness := (true, "88e24d2faaa12d39ea7a714ef871f780637bccd311354142ca67e4c539100d30"), looks := false }, kinds := [], alts := [], laidByText := true, laidKinds := [.data, .pinned], laidTests := true, laidLooks := .later }
def HistKeepsUptoCardSaid : Prop := Claim7.holds Tryd.pinned (.plain (OpenSpec.upto histKeepsSpec)) histKeepsUptoCard

/-- THE SECOND FORM's CARD OF 'bodkinlaw14.HistBounds'. -/
def histBoundsUptoCard : Claim7 := { stood := { row := histBoundsUptoRow, standIns := [], harness := (true, "88e24d2faaa12d39ea7a714ef871f780637bccd311354142ca67e4c539100d30"), looks := false }, kinds := [], alts := [], laidByText := true, laidKinds := [.data, .pinned], laidTests := true, laidLooks := .later }
def HistBoundsUptoCardSaid : Prop := Claim7.holds Tryd.pinned (.plain (OpenSpec.upto histBoundsSpec)) histBoundsUptoCard

/-- THE SECOND FORM's CARD OF 'bodkinlaw14.HistFinds'. -/
def histFindsUptoCard : Claim7 := { stood := { row := histFindsUptoRow, standIns := [], harness := (true, "88e24d2faaa12d39ea7a714ef871f780637bccd311354142ca67e4c539100d30"), looks := false }, kinds := [], alts := [], laidByText := true, laidKinds := [.data, .pinned], laidTests := true, laidLooks := .later }
def HistFindsUptoCardSaid : Prop := Claim7.holds Tryd.pinned (.plain (OpenSpec.upto histFindsSpec)) histFindsUptoCard

/-- THE SECOND FORM's CARD OF 'bodkinlaw14.HistPlays'. -/
def histPlaysUptoCard : Claim7 := { stood := { row := histPlaysUptoRow, standIns := [], harness := (true, "88e24d2faaa12d39ea7a714ef871f780637bccd311354142ca67e4c539100d30"), looks := false }, kinds := [], alts := [], laidByText := true, laidKinds := [.data, .pinned], laidTests := true, laidLooks := .later }
def HistPlaysUptoCardSaid : Prop := Claim7.holds Tryd.pinned (.plain (OpenSpec.upto histPlaysSpec)) histPlaysUptoCard

/-- THE SECOND FORM's CARD OF 'bodkinlaw14.HistNil'. -/
def histNilUptoCard : Claim7 := { stood := { row := histNilUptoRow, standIns := [], harness := (true, "88e24d2faaa12d39ea7a714ef871f780637bccd311354142ca67e4c539100d30"), looks := false }, kinds := [], alts := [], laidByText := true, laidKinds := [.data, .pinned], laidTests := true, laidLooks := .later }
def HistNilUptoCardSaid : Prop := Claim7.holds Tryd.pinned (.plain (OpenSpec.upto histNilSpec)) histNilUptoCard
end Rows
end Go.Proofs.YtjghfdhahkokhaaDoor
