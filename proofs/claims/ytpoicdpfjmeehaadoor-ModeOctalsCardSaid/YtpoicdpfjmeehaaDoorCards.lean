/-
  DERIVED. GIVEN WITH THE SEED: THE CARDS: each row of YtpoicdpfjmeehaaDoorRows.lean that lists a variable, with what it lists TIED to the program's text (the seventh form; the later family's looks); each row that meets fmt, with fmt's text TOLD by the authors' own Lean function (tested against real Go, not proved from fmt's source: count such statements apart). THE CARD IS WHAT COUNTS. Prove the row's statement (the work); the ties are given (YtpoicdpfjmeehaaDoorTie.lean); close each card by the builder's one call (the guide's Derived/Test/ToyasCard.lean, 'card_holds'). Laid BY PROGRAM, IN A SANDBOX (cutbox-door.mjs). By AI agents, Wed Nov 11 2026. No macro, syntax, notation, axiom, sorry.
-/
import Derived.Test.YtpoicdpfjmeehaaDoorRows
import GoSem.ClaimSeven
namespace Go.Proofs.YtpoicdpfjmeehaaDoor
namespace Rows

/-- THE TIED CARD OF 'almonerlaw01.ModeMays'. -/
def modeMaysCard : Claim7 := { stood := { row := modeMaysRow, standIns := [], harness := (true, "f9aefaac9f8b8cac83402440a55d7ac9f4adbcda9aa498280120d3623d9c1070"), looks := true }, kinds := [], alts := [], laidByText := true, laidKinds := [.data, .data, .data, .data, .sentinel, .sentinel, .pinned], laidTests := true, laidLooks := .later }
def ModeMaysCardSaid : Prop := Claim7.holds Tryd.pinned (.plain (OpenSpec.ofChange modeMaysSpec)) modeMaysCard

/-- THE TIED CARD OF 'almonerlaw01.ModeTexts'. -/
def modeTextsCard : Claim7 := { stood := { row := modeTextsRow, standIns := [], harness := (true, "f9aefaac9f8b8cac83402440a55d7ac9f4adbcda9aa498280120d3623d9c1070"), looks := true }, kinds := [], alts := [], laidByText := true, laidKinds := [.data, .data, .data, .data, .sentinel, .sentinel, .pinned], laidTests := true, laidLooks := .later }
def ModeTextsCardSaid : Prop := Claim7.holds Tryd.pinned (.plain (OpenSpec.ofChange modeTextsSpec)) modeTextsCard

/-- THE TIED CARD OF 'almonerlaw01.ModeChanges'. -/
def modeChangesCard : Claim7 := { stood := { row := modeChangesRow, standIns := [], harness := (true, "f9aefaac9f8b8cac83402440a55d7ac9f4adbcda9aa498280120d3623d9c1070"), looks := true }, kinds := [], alts := [], laidByText := true, laidKinds := [.data, .data, .data, .data, .sentinel, .sentinel, .pinned], laidTests := true, laidLooks := .later }
def ModeChangesCardSaid : Prop := Claim7.holds Tryd.pinned (.plain (OpenSpec.ofChange modeChangesSpec)) modeChangesCard

/-- THE TIED CARD OF 'almonerlaw01.ModeOne'. -/
def modeOneCard : Claim7 := { stood := { row := modeOneRow, standIns := [], harness := (true, "f9aefaac9f8b8cac83402440a55d7ac9f4adbcda9aa498280120d3623d9c1070"), looks := true }, kinds := [], alts := [], laidByText := true, laidKinds := [.data, .data, .data, .data, .sentinel, .sentinel, .pinned], laidTests := true, laidLooks := .later }
def ModeOneCardSaid : Prop := Claim7.holds Tryd.pinned (.plain (OpenSpec.ofChange modeOneSpec)) modeOneCard

/-- THE TIED CARD OF 'almonerlaw01.ModeTells'. -/
def modeTellsCard : Claim7 := { stood := { row := modeTellsRow, standIns := [], harness := (true, "f9aefaac9f8b8cac83402440a55d7ac9f4adbcda9aa498280120d3623d9c1070"), looks := true }, kinds := [], alts := [], laidByText := true, laidKinds := [.data, .data, .data, .data, .sentinel, .sentinel, .pinned], laidTests := true, laidLooks := .later }
def ModeTellsCardSaid : Prop := Claim7.holds Tryd.pinned (.plain (OpenSpec.ofChange modeTellsSpec)) modeTellsCard

/-- THE TIED CARD OF 'almonerlaw01.ModeSets'. -/
def modeSetsCard : Claim7 := { stood := { row := modeSetsRow, standIns := [], harness := (true, "f9aefaac9f8b8cac83402440a55d7ac9f4adbcda9aa498280120d3623d9c1070"), looks := true }, kinds := [], alts := [], laidByText := true, laidKinds := [.data, .data, .data, .data, .sentinel, .sentinel, .pinned], laidTests := true, laidLooks := .later }
def ModeSetsCardSaid : Prop := Claim7.holds Tryd.pinned (.plain (OpenSpec.ofChange modeSetsSpec)) modeSetsCard

/-- THE TIED CARD OF 'almonerlaw01.ModeOctals'. -/
def modeOctalsCard : Claim7 := { stood := { row := modeOctalsRow, standIns := [], harness := (true, "f9aefaac9f8b8cac83402440a55d7ac9f4adbcda9aa498280120d3623d9c1070"), looks := true }, kinds := [], alts := [], laidByText := true, laidKinds := [.data, .data, .data, .data, .sentinel, .sentinel, .pinned], laidTests := true, laidLooks := .later }
def ModeOctalsCardSaid : Prop := Claim7.holds Tryd.pinned (.plain (OpenSpec.ofChange modeOctalsSpec)) modeOctalsCard

/-- THE TIED CARD OF 'almonerlaw01.ModeRoot'. -/
def modeRootCard : Claim7 := { stood := { row := modeRootRow, standIns := [], harness := (true, "f9aefaac9f8b8cac83402440a55d7ac9f4adbcda9aa498280120d3623d9c1070"), looks := true }, kinds := [], alts := [], laidByText := true, laidKinds := [.data, .data, .data, .data, .sentinel, .sentinel, .pinned], laidTests := true, laidLooks := .later }
def ModeRootCardSaid : Prop := Claim7.holds Tryd.pinned (.plain (OpenSpec.ofChange modeRootSpec)) modeRootCard

/-- THE SECOND FORM's CARD OF 'almonerlaw01.ModeMays'. -/
def modeMaysUptoCard : Claim7 := { stood := { row := modeMaysUptoRow, standIns := [], harness := (true, "f9aefaac9f8b8cac83402440a55d7ac9f4adbcda9aa498280120d3623d9c1070"), looks := true }, kinds := [], alts := [], laidByText := true, laidKinds := [.data, .data, .data, .data, .sentinel, .sentinel, .pinned], laidTests := true, laidLooks := .later }
def ModeMaysUptoCardSaid : Prop := Claim7.holds Tryd.pinned (.plain (OpenSpec.upto modeMaysSpec)) modeMaysUptoCard

/-- THE SECOND FORM's CARD OF 'almonerlaw01.ModeTexts'. -/
def modeTextsUptoCard : Claim7 := { stood := { row := modeTextsUptoRow, standIns := [], harness := (true, "f9aefaac9f8b8cac83402440a55d7ac9f4adbcda9aa498280120d3623d9c1070"), looks := true }, kinds := [], alts := [], laidByText := true, laidKinds := [.data, .data, .data, .data, .sentinel, .sentinel, .pinned], laidTests := true, laidLooks := .later }
def ModeTextsUptoCardSaid : Prop := Claim7.holds Tryd.pinned (.plain (OpenSpec.upto modeTextsSpec)) modeTextsUptoCard

/-- THE SECOND FORM's CARD OF 'almonerlaw01.ModeChanges'. -/
def modeChangesUptoCard : Claim7 := { stood := { row := modeChangesUptoRow, standIns := [], harness := (true, "f9aefaac9f8b8cac83402440a55d7ac9f4adbcda9aa498280120d3623d9c1070"), looks := true }, kinds := [], alts := [], laidByText := true, laidKinds := [.data, .data, .data, .data, .sentinel, .sentinel, .pinned], laidTests := true, laidLooks := .later }
def ModeChangesUptoCardSaid : Prop := Claim7.holds Tryd.pinned (.plain (OpenSpec.upto modeChangesSpec)) modeChangesUptoCard

/-- THE SECOND FORM's CARD OF 'almonerlaw01.ModeOne'. -/
def modeOneUptoCard : Claim7 := { stood := { row := modeOneUptoRow, standIns := [], harness := (true, "f9aefaac9f8b8cac83402440a55d7ac9f4adbcda9aa498280120d3623d9c1070"), looks := true }, kinds := [], alts := [], laidByText := true, laidKinds := [.data, .data, .data, .data, .sentinel, .sentinel, .pinned], laidTests := true, laidLooks := .later }
def ModeOneUptoCardSaid : Prop := Claim7.holds Tryd.pinned (.plain (OpenSpec.upto modeOneSpec)) modeOneUptoCard

/-- THE SECOND FORM's CARD OF 'almonerlaw01.ModeTells'. -/
def modeTellsUptoCard : Claim7 := { stood := { row := modeTellsUptoRow, standIns := [], harness := (true, "f9aefaac9f8b8cac83402440a55d7ac9f4adbcda9aa498280120d3623d9c1070"), looks := true }, kinds := [], alts := [], laidByText := true, laidKinds := [.data, .data, .data, .data, .sentinel, .sentinel, .pinned], laidTests := true, laidLooks := .later }
def ModeTellsUptoCardSaid : Prop := Claim7.holds Tryd.pinned (.plain (OpenSpec.upto modeTellsSpec)) modeTellsUptoCard

/-- THE SECOND FORM's CARD OF 'almonerlaw01.ModeSets'. -/
def modeSetsUptoCard : Claim7 := { stood := { row := modeSetsUptoRow, standIns := [], harness := (true, "f9aefaac9f8b8cac83402440a55d7ac9f4adbcda9aa498280120d3623d9c1070"), looks := true }, kinds := [], alts := [], laidByText := true, laidKinds := [.data, .data, .data, .data, .sentinel, .sentinel, .pinned], laidTests := true, laidLooks := .later }
def ModeSetsUptoCardSaid : Prop := Claim7.holds Tryd.pinned (.plain (OpenSpec.upto modeSetsSpec)) modeSetsUptoCard

/-- THE SECOND FORM's CARD OF 'almonerlaw01.ModeOctals'. -/
def modeOctalsUptoCard : Claim7 := { stood := { row := modeOctalsUptoRow, standIns := [], harness := (true, "f9aefaac9f8b8cac83402440a55d7ac9f4adbcda9aa498280120d3623d9c1070"), looks := true }, kinds := [], alts := [], laidByText := true, laidKinds := [.data, .data, .data, .data, .sentinel, .sentinel, .pinned], laidTests := true, laidLooks := .later }
def ModeOctalsUptoCardSaid : Prop := Claim7.holds Tryd.pinned (.plain (OpenSpec.upto modeOctalsSpec)) modeOctalsUptoCard

/-- THE SECOND FORM's CARD OF 'almonerlaw01.ModeRoot'. -/
def modeRootUptoCard : Claim7 := { stood := { row := modeRootUptoRow, standIns := [], harness := (true, "f9aefaac9f8b8cac83402440a55d7ac9f4adbcda9aa498280120d3623d9c1070"), looks := true }, kinds := [], alts := [], laidByText := true, laidKinds := [.data, .data, .data, .data, .sentinel, .sentinel, .pinned], laidTests := true, laidLooks := .later }
def ModeRootUptoCardSaid : Prop := Claim7.holds Tryd.pinned (.plain (OpenSpec.upto modeRootSpec)) modeRootUptoCard
end Rows
end Go.Proofs.YtpoicdpfjmeehaaDoor
