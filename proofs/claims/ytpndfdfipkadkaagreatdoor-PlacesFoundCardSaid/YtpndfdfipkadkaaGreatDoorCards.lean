/-
  DERIVED. GIVEN WITH THE SEED: THE CARDS: each row of YtpndfdfipkadkaaGreatDoorRows.lean that lists a variable, with what it lists TIED to the program's text (the seventh form; the later family's looks); each row that meets fmt, with fmt's text TOLD by the authors' own Lean function (tested against real Go, not proved from fmt's source: count such statements apart). THE CARD IS WHAT COUNTS. Prove the row's statement (the work); the ties are given (YtpndfdfipkadkaaGreatDoorTie.lean); close each card by the builder's one call (the guide's Derived/Test/ToyasCard.lean, 'card_holds'). Laid BY PROGRAM, IN A SANDBOX (cutbox-door.mjs). By AI agents, Wed Nov 11 2026. No macro, syntax, notation, axiom, sorry.
-/
import Derived.Test.YtpndfdfipkadkaaGreatDoorRows
import GoSem.ClaimSeven
namespace Go.Proofs.YtpndfdfipkadkaaGreatDoor
namespace Rows

/-- THE TIED CARD OF 'restantelaw02.PlacesLines'. -/
def placesLinesCard : Claim7 := { stood := { row := placesLinesRow, standIns := [], harness := (true, "9af05cec4574c33293f5f8d228ddeba93bc34e2d9c1ecf95482ff0c8e33f14d6"), looks := true }, kinds := [], alts := [], laidByText := true, laidKinds := [.data, .data, .data, .sentinel, .sentinel], laidTests := true, laidLooks := .later }
def PlacesLinesCardSaid : Prop := Claim7.holds Tryz.pinned (.plain (OpenSpec.ofChange placesLinesSpec)) placesLinesCard

/-- THE TIED CARD OF 'restantelaw02.PlacesSpells'. -/
def placesSpellsCard : Claim7 := { stood := { row := placesSpellsRow, standIns := [], harness := (true, "9af05cec4574c33293f5f8d228ddeba93bc34e2d9c1ecf95482ff0c8e33f14d6"), looks := true }, kinds := [], alts := [], laidByText := true, laidKinds := [.data, .data, .data, .sentinel, .sentinel], laidTests := true, laidLooks := .later }
def PlacesSpellsCardSaid : Prop := Claim7.holds Tryz.pinned (.plain (OpenSpec.ofChange placesSpellsSpec)) placesSpellsCard

/-- THE TIED CARD OF 'restantelaw02.PlacesGoOn'. -/
def placesGoOnCard : Claim7 := { stood := { row := placesGoOnRow, standIns := [], harness := (true, "9af05cec4574c33293f5f8d228ddeba93bc34e2d9c1ecf95482ff0c8e33f14d6"), looks := true }, kinds := [], alts := [], laidByText := true, laidKinds := [.data, .data, .data, .sentinel, .sentinel], laidTests := true, laidLooks := .later }
def PlacesGoOnCardSaid : Prop := Claim7.holds Tryz.pinned (.plain (OpenSpec.ofChange placesGoOnSpec)) placesGoOnCard

/-- THE TIED CARD OF 'restantelaw02.PlacesOpens'. -/
def placesOpensCard : Claim7 := { stood := { row := placesOpensRow, standIns := [], harness := (true, "9af05cec4574c33293f5f8d228ddeba93bc34e2d9c1ecf95482ff0c8e33f14d6"), looks := true }, kinds := [], alts := [], laidByText := true, laidKinds := [.data, .data, .data, .sentinel, .sentinel], laidTests := true, laidLooks := .later }
def PlacesOpensCardSaid : Prop := Claim7.holds Tryz.pinned (.plain (OpenSpec.ofChange placesOpensSpec)) placesOpensCard

/-- THE TIED CARD OF 'restantelaw02.PlacesLimit'. -/
def placesLimitCard : Claim7 := { stood := { row := placesLimitRow, standIns := [], harness := (true, "9af05cec4574c33293f5f8d228ddeba93bc34e2d9c1ecf95482ff0c8e33f14d6"), looks := true }, kinds := [], alts := [], laidByText := true, laidKinds := [.data, .data, .data, .sentinel, .sentinel], laidTests := true, laidLooks := .later }
def PlacesLimitCardSaid : Prop := Claim7.holds Tryz.pinned (.plain (OpenSpec.ofChange placesLimitSpec)) placesLimitCard

/-- THE TIED CARD OF 'restantelaw02.PlacesTwins'. -/
def placesTwinsCard : Claim7 := { stood := { row := placesTwinsRow, standIns := [], harness := (true, "9af05cec4574c33293f5f8d228ddeba93bc34e2d9c1ecf95482ff0c8e33f14d6"), looks := true }, kinds := [], alts := [], laidByText := true, laidKinds := [.data, .data, .data, .sentinel, .sentinel], laidTests := true, laidLooks := .later }
def PlacesTwinsCardSaid : Prop := Claim7.holds Tryz.pinned (.plain (OpenSpec.ofChange placesTwinsSpec)) placesTwinsCard

/-- THE TIED CARD OF 'restantelaw02.PlacesDays'. -/
def placesDaysCard : Claim7 := { stood := { row := placesDaysRow, standIns := [], harness := (true, "9af05cec4574c33293f5f8d228ddeba93bc34e2d9c1ecf95482ff0c8e33f14d6"), looks := true }, kinds := [], alts := [], laidByText := true, laidKinds := [.data, .data, .data, .sentinel, .sentinel], laidTests := true, laidLooks := .later }
def PlacesDaysCardSaid : Prop := Claim7.holds Tryz.pinned (.plain (OpenSpec.ofChange placesDaysSpec)) placesDaysCard

/-- THE TIED CARD OF 'restantelaw02.PlacesTree'. -/
def placesTreeCard : Claim7 := { stood := { row := placesTreeRow, standIns := [], harness := (true, "9af05cec4574c33293f5f8d228ddeba93bc34e2d9c1ecf95482ff0c8e33f14d6"), looks := true }, kinds := [], alts := [], laidByText := true, laidKinds := [.data, .data, .data, .sentinel, .sentinel], laidTests := true, laidLooks := .later }
def PlacesTreeCardSaid : Prop := Claim7.holds Tryz.pinned (.plain (OpenSpec.ofChange placesTreeSpec)) placesTreeCard

/-- THE TIED CARD OF 'restantelaw02.PlacesChanges'. -/
def placesChangesCard : Claim7 := { stood := { row := placesChangesRow, standIns := [], harness := (true, "9af05cec4574c33293f5f8d228ddeba93bc34e2d9c1ecf95482ff0c8e33f14d6"), looks := true }, kinds := [], alts := [], laidByText := true, laidKinds := [.data, .data, .data, .sentinel, .sentinel], laidTests := true, laidLooks := .later }
def PlacesChangesCardSaid : Prop := Claim7.holds Tryz.pinned (.plain (OpenSpec.ofChange placesChangesSpec)) placesChangesCard

/-- THE TIED CARD OF 'restantelaw02.PlacesAnswers'. -/
def placesAnswersCard : Claim7 := { stood := { row := placesAnswersRow, standIns := [], harness := (true, "9af05cec4574c33293f5f8d228ddeba93bc34e2d9c1ecf95482ff0c8e33f14d6"), looks := true }, kinds := [], alts := [], laidByText := true, laidKinds := [.data, .data, .data, .sentinel, .sentinel], laidTests := true, laidLooks := .later }
def PlacesAnswersCardSaid : Prop := Claim7.holds Tryz.pinned (.plain (OpenSpec.ofChange placesAnswersSpec)) placesAnswersCard

/-- THE TIED CARD OF 'restantelaw02.PlacesFits'. -/
def placesFitsCard : Claim7 := { stood := { row := placesFitsRow, standIns := [], harness := (true, "9af05cec4574c33293f5f8d228ddeba93bc34e2d9c1ecf95482ff0c8e33f14d6"), looks := true }, kinds := [], alts := [], laidByText := true, laidKinds := [.data, .data, .data, .sentinel, .sentinel], laidTests := true, laidLooks := .later }
def PlacesFitsCardSaid : Prop := Claim7.holds Tryz.pinned (.plain (OpenSpec.ofChange placesFitsSpec)) placesFitsCard

/-- THE TIED CARD OF 'restantelaw02.PlacesFinds'. -/
def placesFindsCard : Claim7 := { stood := { row := placesFindsRow, standIns := [], harness := (true, "9af05cec4574c33293f5f8d228ddeba93bc34e2d9c1ecf95482ff0c8e33f14d6"), looks := true }, kinds := [], alts := [], laidByText := true, laidKinds := [.data, .data, .data, .sentinel, .sentinel], laidTests := true, laidLooks := .later }
def PlacesFindsCardSaid : Prop := Claim7.holds Tryz.pinned (.plain (OpenSpec.ofChange placesFindsSpec)) placesFindsCard

/-- THE TIED CARD OF 'restantelaw02.PlacesFound'. -/
def placesFoundCard : Claim7 := { stood := { row := placesFoundRow, standIns := [], harness := (true, "9af05cec4574c33293f5f8d228ddeba93bc34e2d9c1ecf95482ff0c8e33f14d6"), looks := true }, kinds := [], alts := [], laidByText := true, laidKinds := [.data, .data, .data, .sentinel, .sentinel], laidTests := true, laidLooks := .later }
def PlacesFoundCardSaid : Prop := Claim7.holds Tryz.pinned (.plain (OpenSpec.ofChange placesFoundSpec)) placesFoundCard

/-- THE TIED CARD OF 'restantelaw02.PlacesNil'. -/
def placesNilCard : Claim7 := { stood := { row := placesNilRow, standIns := [], harness := (true, "9af05cec4574c33293f5f8d228ddeba93bc34e2d9c1ecf95482ff0c8e33f14d6"), looks := true }, kinds := [], alts := [], laidByText := true, laidKinds := [.data, .data, .data, .sentinel, .sentinel], laidTests := true, laidLooks := .later }
def PlacesNilCardSaid : Prop := Claim7.holds Tryz.pinned (.plain (OpenSpec.ofChange placesNilSpec)) placesNilCard

/-- THE SECOND FORM's CARD OF 'restantelaw02.PlacesLines'. -/
def placesLinesUptoCard : Claim7 := { stood := { row := placesLinesUptoRow, standIns := [], harness := (true, "9af05cec4574c33293f5f8d228ddeba93bc34e2d9c1ecf95482ff0c8e33f14d6"), looks := true }, kinds := [], alts := [], laidByText := true, laidKinds := [.data, .data, .data, .sentinel, .sentinel], laidTests := true, laidLooks := .later }
def PlacesLinesUptoCardSaid : Prop := Claim7.holds Tryz.pinned (.plain (OpenSpec.upto placesLinesSpec)) placesLinesUptoCard

/-- THE SECOND FORM's CARD OF 'restantelaw02.PlacesSpells'. -/
def placesSpellsUptoCard : Claim7 := { stood := { row := placesSpellsUptoRow, standIns := [], harness := (true, "9af05cec4574c33293f5f8d228ddeba93bc34e2d9c1ecf95482ff0c8e33f14d6"), looks := true }, kinds := [], alts := [], laidByText := true, laidKinds := [.data, .data, .data, .sentinel, .sentinel], laidTests := true, laidLooks := .later }
def PlacesSpellsUptoCardSaid : Prop := Claim7.holds Tryz.pinned (.plain (OpenSpec.upto placesSpellsSpec)) placesSpellsUptoCard

/-- THE SECOND FORM's CARD OF 'restantelaw02.PlacesGoOn'. -/
def placesGoOnUptoCard : Claim7 := { stood := { row := placesGoOnUptoRow, standIns := [], harness := (true, "9af05cec4574c33293f5f8d228ddeba93bc34e2d9c1ecf95482ff0c8e33f14d6"), looks := true }, kinds := [], alts := [], laidByText := true, laidKinds := [.data, .data, .data, .sentinel, .sentinel], laidTests := true, laidLooks := .later }
def PlacesGoOnUptoCardSaid : Prop := Claim7.holds Tryz.pinned (.plain (OpenSpec.upto placesGoOnSpec)) placesGoOnUptoCard

/-- THE SECOND FORM's CARD OF 'restantelaw02.PlacesOpens'. -/
def placesOpensUptoCard : Claim7 := { stood := { row := placesOpensUptoRow, standIns := [], harness := (true, "9af05cec4574c33293f5f8d228ddeba93bc34e2d9c1ecf95482ff0c8e33f14d6"), looks := true }, kinds := [], alts := [], laidByText := true, laidKinds := [.data, .data, .data, .sentinel, .sentinel], laidTests := true, laidLooks := .later }
def PlacesOpensUptoCardSaid : Prop := Claim7.holds Tryz.pinned (.plain (OpenSpec.upto placesOpensSpec)) placesOpensUptoCard

/-- THE SECOND FORM's CARD OF 'restantelaw02.PlacesLimit'. -/
def placesLimitUptoCard : Claim7 := { stood := { row := placesLimitUptoRow, standIns := [], harness := (true, "9af05cec4574c33293f5f8d228ddeba93bc34e2d9c1ecf95482ff0c8e33f14d6"), looks := true }, kinds := [], alts := [], laidByText := true, laidKinds := [.data, .data, .data, .sentinel, .sentinel], laidTests := true, laidLooks := .later }
def PlacesLimitUptoCardSaid : Prop := Claim7.holds Tryz.pinned (.plain (OpenSpec.upto placesLimitSpec)) placesLimitUptoCard

/-- THE SECOND FORM's CARD OF 'restantelaw02.PlacesTwins'. -/
def placesTwinsUptoCard : Claim7 := { stood := { row := placesTwinsUptoRow, standIns := [], harness := (true, "9af05cec4574c33293f5f8d228ddeba93bc34e2d9c1ecf95482ff0c8e33f14d6"), looks := true }, kinds := [], alts := [], laidByText := true, laidKinds := [.data, .data, .data, .sentinel, .sentinel], laidTests := true, laidLooks := .later }
def PlacesTwinsUptoCardSaid : Prop := Claim7.holds Tryz.pinned (.plain (OpenSpec.upto placesTwinsSpec)) placesTwinsUptoCard

/-- THE SECOND FORM's CARD OF 'restantelaw02.PlacesDays'. -/
def placesDaysUptoCard : Claim7 := { stood := { row := placesDaysUptoRow, standIns := [], harness := (true, "9af05cec4574c33293f5f8d228ddeba93bc34e2d9c1ecf95482ff0c8e33f14d6"), looks := true }, kinds := [], alts := [], laidByText := true, laidKinds := [.data, .data, .data, .sentinel, .sentinel], laidTests := true, laidLooks := .later }
def PlacesDaysUptoCardSaid : Prop := Claim7.holds Tryz.pinned (.plain (OpenSpec.upto placesDaysSpec)) placesDaysUptoCard

/-- THE SECOND FORM's CARD OF 'restantelaw02.PlacesTree'. -/
def placesTreeUptoCard : Claim7 := { stood := { row := placesTreeUptoRow, standIns := [], harness := (true, "9af05cec4574c33293f5f8d228ddeba93bc34e2d9c1ecf95482ff0c8e33f14d6"), looks := true }, kinds := [], alts := [], laidByText := true, laidKinds := [.data, .data, .data, .sentinel, .sentinel], laidTests := true, laidLooks := .later }
def PlacesTreeUptoCardSaid : Prop := Claim7.holds Tryz.pinned (.plain (OpenSpec.upto placesTreeSpec)) placesTreeUptoCard

/-- THE SECOND FORM's CARD OF 'restantelaw02.PlacesChanges'. -/
def placesChangesUptoCard : Claim7 := { stood := { row := placesChangesUptoRow, standIns := [], harness := (true, "9af05cec4574c33293f5f8d228ddeba93bc34e2d9c1ecf95482ff0c8e33f14d6"), looks := true }, kinds := [], alts := [], laidByText := true, laidKinds := [.data, .data, .data, .sentinel, .sentinel], laidTests := true, laidLooks := .later }
def PlacesChangesUptoCardSaid : Prop := Claim7.holds Tryz.pinned (.plain (OpenSpec.upto placesChangesSpec)) placesChangesUptoCard

/-- THE SECOND FORM's CARD OF 'restantelaw02.PlacesAnswers'. -/
def placesAnswersUptoCard : Claim7 := { stood := { row := placesAnswersUptoRow, standIns := [], harness := (true, "9af05cec4574c33293f5f8d228ddeba93bc34e2d9c1ecf95482ff0c8e33f14d6"), looks := true }, kinds := [], alts := [], laidByText := true, laidKinds := [.data, .data, .data, .sentinel, .sentinel], laidTests := true, laidLooks := .later }
def PlacesAnswersUptoCardSaid : Prop := Claim7.holds Tryz.pinned (.plain (OpenSpec.upto placesAnswersSpec)) placesAnswersUptoCard

/-- THE SECOND FORM's CARD OF 'restantelaw02.PlacesFits'. -/
def placesFitsUptoCard : Claim7 := { stood := { row := placesFitsUptoRow, standIns := [], harness := (true, "9af05cec4574c33293f5f8d228ddeba93bc34e2d9c1ecf95482ff0c8e33f14d6"), looks := true }, kinds := [], alts := [], laidByText := true, laidKinds := [.data, .data, .data, .sentinel, .sentinel], laidTests := true, laidLooks := .later }
def PlacesFitsUptoCardSaid : Prop := Claim7.holds Tryz.pinned (.plain (OpenSpec.upto placesFitsSpec)) placesFitsUptoCard

/-- THE SECOND FORM's CARD OF 'restantelaw02.PlacesFinds'. -/
def placesFindsUptoCard : Claim7 := { stood := { row := placesFindsUptoRow, standIns := [], harness := (true, "9af05cec4574c33293f5f8d228ddeba93bc34e2d9c1ecf95482ff0c8e33f14d6"), looks := true }, kinds := [], alts := [], laidByText := true, laidKinds := [.data, .data, .data, .sentinel, .sentinel], laidTests := true, laidLooks := .later }
def PlacesFindsUptoCardSaid : Prop := Claim7.holds Tryz.pinned (.plain (OpenSpec.upto placesFindsSpec)) placesFindsUptoCard

/-- THE SECOND FORM's CARD OF 'restantelaw02.PlacesFound'. -/
def placesFoundUptoCard : Claim7 := { stood := { row := placesFoundUptoRow, standIns := [], harness := (true, "9af05cec4574c33293f5f8d228ddeba93bc34e2d9c1ecf95482ff0c8e33f14d6"), looks := true }, kinds := [], alts := [], laidByText := true, laidKinds := [.data, .data, .data, .sentinel, .sentinel], laidTests := true, laidLooks := .later }
def PlacesFoundUptoCardSaid : Prop := Claim7.holds Tryz.pinned (.plain (OpenSpec.upto placesFoundSpec)) placesFoundUptoCard

/-- THE SECOND FORM's CARD OF 'restantelaw02.PlacesNil'. -/
def placesNilUptoCard : Claim7 := { stood := { row := placesNilUptoRow, standIns := [], harness := (true, "9af05cec4574c33293f5f8d228ddeba93bc34e2d9c1ecf95482ff0c8e33f14d6"), looks := true }, kinds := [], alts := [], laidByText := true, laidKinds := [.data, .data, .data, .sentinel, .sentinel], laidTests := true, laidLooks := .later }
def PlacesNilUptoCardSaid : Prop := Claim7.holds Tryz.pinned (.plain (OpenSpec.upto placesNilSpec)) placesNilUptoCard
end Rows
end Go.Proofs.YtpndfdfipkadkaaGreatDoor
