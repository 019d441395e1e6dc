/-
  DERIVED. GIVEN WITH THE SEED: THE CARDS: each row of YtciolppoanfiaaaDoorRows.lean that lists a variable, with what it lists TIED to the program's text (the seventh form; the later family's looks); each row that meets fmt, with fmt's text TOLD by the authors' own Lean function (tested against real Go, not proved from fmt's source: count such statements apart). THE CARD IS WHAT COUNTS. Prove the row's statement (the work); the ties are given (YtciolppoanfiaaaDoorTie.lean); close each card by the builder's one call (the guide's Derived/Test/ToyasCard.lean, 'card_holds'). Laid BY PROGRAM, IN A SANDBOX (cutbox-door.mjs). By AI agents, Wed Nov 11 2026. No macro, syntax, notation, axiom, sorry.
-/
import Derived.Test.YtciolppoanfiaaaDoorRows
import GoSem.ClaimSeven
namespace Go.Proofs.YtciolppoanfiaaaDoor
namespace Rows

/-- THE TIED CARD OF 'pursuivantlaw02.CheckSums'. -/
def checkSumsCard : Claim7 := { stood := { row := checkSumsRow, standIns := [], harness := (true, "19d15a4f4de89abeb1680bf9da8f24635540d19565303da13c658a6a171f7f59"), looks := false }, kinds := [], alts := [], laidByText := true, laidKinds := [.data], laidTests := true, laidLooks := .later }
def CheckSumsCardSaid : Prop := Claim7.holds Tryd.pinned (.plain (OpenSpec.ofChange checkSumsSpec)) checkSumsCard

/-- THE TIED CARD OF 'pursuivantlaw02.CheckMixed'. -/
def checkMixedCard : Claim7 := { stood := { row := checkMixedRow, standIns := [], harness := (true, "19d15a4f4de89abeb1680bf9da8f24635540d19565303da13c658a6a171f7f59"), looks := false }, kinds := [], alts := [], laidByText := true, laidKinds := [.data], laidTests := true, laidLooks := .later }
def CheckMixedCardSaid : Prop := Claim7.holds Tryd.pinned (.plain (OpenSpec.ofChange checkMixedSpec)) checkMixedCard

/-- THE TIED CARD OF 'pursuivantlaw02.CheckTakes'. -/
def checkTakesCard : Claim7 := { stood := { row := checkTakesRow, standIns := [], harness := (true, "19d15a4f4de89abeb1680bf9da8f24635540d19565303da13c658a6a171f7f59"), looks := false }, kinds := [], alts := [], laidByText := true, laidKinds := [.data], laidTests := true, laidLooks := .later }
def CheckTakesCardSaid : Prop := Claim7.holds Tryd.pinned (.plain (OpenSpec.ofChange checkTakesSpec)) checkTakesCard

/-- THE TIED CARD OF 'pursuivantlaw02.CheckBack'. -/
def checkBackCard : Claim7 := { stood := { row := checkBackRow, standIns := [], harness := (true, "19d15a4f4de89abeb1680bf9da8f24635540d19565303da13c658a6a171f7f59"), looks := false }, kinds := [], alts := [], laidByText := true, laidKinds := [.data], laidTests := true, laidLooks := .later }
def CheckBackCardSaid : Prop := Claim7.holds Tryd.pinned (.plain (OpenSpec.ofChange checkBackSpec)) checkBackCard

/-- THE TIED CARD OF 'pursuivantlaw03.WireEncodes'. -/
def wireEncodesCard : Claim7 := { stood := { row := wireEncodesRow, standIns := [], harness := (true, "19d15a4f4de89abeb1680bf9da8f24635540d19565303da13c658a6a171f7f59"), looks := false }, kinds := [], alts := [], laidByText := true, laidKinds := [.data], laidTests := true, laidLooks := .later }
def WireEncodesCardSaid : Prop := Claim7.holds Tryd.pinned (.plain (OpenSpec.ofChange wireEncodesSpec)) wireEncodesCard

/-- THE TIED CARD OF 'pursuivantlaw03.WireUnpacks'. -/
def wireUnpacksCard : Claim7 := { stood := { row := wireUnpacksRow, standIns := [], harness := (true, "19d15a4f4de89abeb1680bf9da8f24635540d19565303da13c658a6a171f7f59"), looks := false }, kinds := [], alts := [], laidByText := true, laidKinds := [.data], laidTests := true, laidLooks := .later }
def WireUnpacksCardSaid : Prop := Claim7.holds Tryd.pinned (.plain (OpenSpec.ofChange wireUnpacksSpec)) wireUnpacksCard

/-- THE TIED CARD OF 'pursuivantlaw07.BagCut'. -/
def bagCutCard : Claim7 := { stood := { row := bagCutRow, standIns := [], harness := (true, "19d15a4f4de89abeb1680bf9da8f24635540d19565303da13c658a6a171f7f59"), looks := false }, kinds := [], alts := [], laidByText := true, laidKinds := [.data], laidTests := true, laidLooks := .later }
def BagCutCardSaid : Prop := Claim7.holds Tryd.pinned (.plain (OpenSpec.ofChange bagCutSpec)) bagCutCard

/-- THE TIED CARD OF 'pursuivantlaw07.BagPlays'. -/
def bagPlaysCard : Claim7 := { stood := { row := bagPlaysRow, standIns := [], harness := (true, "19d15a4f4de89abeb1680bf9da8f24635540d19565303da13c658a6a171f7f59"), looks := false }, kinds := [], alts := [], laidByText := true, laidKinds := [.data], laidTests := true, laidLooks := .later }
def BagPlaysCardSaid : Prop := Claim7.holds Tryd.pinned (.plain (OpenSpec.ofChange bagPlaysSpec)) bagPlaysCard

/-- THE TIED CARD OF 'pursuivantlaw07.BagSent'. -/
def bagSentCard : Claim7 := { stood := { row := bagSentRow, standIns := [], harness := (true, "19d15a4f4de89abeb1680bf9da8f24635540d19565303da13c658a6a171f7f59"), looks := false }, kinds := [], alts := [], laidByText := true, laidKinds := [.data], laidTests := true, laidLooks := .later }
def BagSentCardSaid : Prop := Claim7.holds Tryd.pinned (.plain (OpenSpec.ofChange bagSentSpec)) bagSentCard

/-- THE SECOND FORM's CARD OF 'pursuivantlaw02.CheckSums'. -/
def checkSumsUptoCard : Claim7 := { stood := { row := checkSumsUptoRow, standIns := [], harness := (true, "19d15a4f4de89abeb1680bf9da8f24635540d19565303da13c658a6a171f7f59"), looks := false }, kinds := [], alts := [], laidByText := true, laidKinds := [.data], laidTests := true, laidLooks := .later }
def CheckSumsUptoCardSaid : Prop := Claim7.holds Tryd.pinned (.plain (OpenSpec.upto checkSumsSpec)) checkSumsUptoCard

/-- THE SECOND FORM's CARD OF 'pursuivantlaw02.CheckMixed'. -/
def checkMixedUptoCard : Claim7 := { stood := { row := checkMixedUptoRow, standIns := [], harness := (true, "19d15a4f4de89abeb1680bf9da8f24635540d19565303da13c658a6a171f7f59"), looks := false }, kinds := [], alts := [], laidByText := true, laidKinds := [.data], laidTests := true, laidLooks := .later }
def CheckMixedUptoCardSaid : Prop := Claim7.holds Tryd.pinned (.plain (OpenSpec.upto checkMixedSpec)) checkMixedUptoCard

/-- THE SECOND FORM's CARD OF 'pursuivantlaw02.CheckTakes'. -/
def checkTakesUptoCard : Claim7 := { stood := { row := checkTakesUptoRow, standIns := [], harness := (true, "19d15a4f4de89abeb1680bf9da8f24635540d19565303da13c658a6a171f7f59"), looks := false }, kinds := [], alts := [], laidByText := true, laidKinds := [.data], laidTests := true, laidLooks := .later }
def CheckTakesUptoCardSaid : Prop := Claim7.holds Tryd.pinned (.plain (OpenSpec.upto checkTakesSpec)) checkTakesUptoCard

/-- THE SECOND FORM's CARD OF 'pursuivantlaw02.CheckBack'. -/
def checkBackUptoCard : Claim7 := { stood := { row := checkBackUptoRow, standIns := [], harness := (true, "19d15a4f4de89abeb1680bf9da8f24635540d19565303da13c658a6a171f7f59"), looks := false }, kinds := [], alts := [], laidByText := true, laidKinds := [.data], laidTests := true, laidLooks := .later }
def CheckBackUptoCardSaid : Prop := Claim7.holds Tryd.pinned (.plain (OpenSpec.upto checkBackSpec)) checkBackUptoCard

/-- THE SECOND FORM's CARD OF 'pursuivantlaw03.WireEncodes'. -/
def wireEncodesUptoCard : Claim7 := { stood := { row := wireEncodesUptoRow, standIns := [], harness := (true, "19d15a4f4de89abeb1680bf9da8f24635540d19565303da13c658a6a171f7f59"), looks := false }, kinds := [], alts := [], laidByText := true, laidKinds := [.data], laidTests := true, laidLooks := .later }
def WireEncodesUptoCardSaid : Prop := Claim7.holds Tryd.pinned (.plain (OpenSpec.upto wireEncodesSpec)) wireEncodesUptoCard

/-- THE SECOND FORM's CARD OF 'pursuivantlaw03.WireUnpacks'. -/
def wireUnpacksUptoCard : Claim7 := { stood := { row := wireUnpacksUptoRow, standIns := [], harness := (true, "19d15a4f4de89abeb1680bf9da8f24635540d19565303da13c658a6a171f7f59"), looks := false }, kinds := [], alts := [], laidByText := true, laidKinds := [.data], laidTests := true, laidLooks := .later }
def WireUnpacksUptoCardSaid : Prop := Claim7.holds Tryd.pinned (.plain (OpenSpec.upto wireUnpacksSpec)) wireUnpacksUptoCard

/-- THE SECOND FORM's CARD OF 'pursuivantlaw07.BagCut'. -/
def bagCutUptoCard : Claim7 := { stood := { row := bagCutUptoRow, standIns := [], harness := (true, "19d15a4f4de89abeb1680bf9da8f24635540d19565303da13c658a6a171f7f59"), looks := false }, kinds := [], alts := [], laidByText := true, laidKinds := [.data], laidTests := true, laidLooks := .later }
def BagCutUptoCardSaid : Prop := Claim7.holds Tryd.pinned (.plain (OpenSpec.upto bagCutSpec)) bagCutUptoCard

/-- THE SECOND FORM's CARD OF 'pursuivantlaw07.BagPlays'. -/
def bagPlaysUptoCard : Claim7 := { stood := { row := bagPlaysUptoRow, standIns := [], harness := (true, "19d15a4f4de89abeb1680bf9da8f24635540d19565303da13c658a6a171f7f59"), looks := false }, kinds := [], alts := [], laidByText := true, laidKinds := [.data], laidTests := true, laidLooks := .later }
def BagPlaysUptoCardSaid : Prop := Claim7.holds Tryd.pinned (.plain (OpenSpec.upto bagPlaysSpec)) bagPlaysUptoCard

/-- THE SECOND FORM's CARD OF 'pursuivantlaw07.BagSent'. -/
def bagSentUptoCard : Claim7 := { stood := { row := bagSentUptoRow, standIns := [], harness := (true, "19d15a4f4de89abeb1680bf9da8f24635540d19565303da13c658a6a171f7f59"), looks := false }, kinds := [], alts := [], laidByText := true, laidKinds := [.data], laidTests := true, laidLooks := .later }
def BagSentUptoCardSaid : Prop := Claim7.holds Tryd.pinned (.plain (OpenSpec.upto bagSentSpec)) bagSentUptoCard
end Rows
end Go.Proofs.YtciolppoanfiaaaDoor
