/-
  DERIVED. GIVEN WITH THE SEED: THE CARDS: each row of YthomdgejbkcljaaDoorRows.lean that lists a variable, with what it lists TIED to the program's text (the seventh form; the later family's looks); each row that meets fmt, with fmt's text TOLD by the authors' own Lean function (tested against real Go, not proved from fmt's source: count such statements apart). THE CARD IS WHAT COUNTS. Prove the row's statement (the work); the ties are given (YthomdgejbkcljaaDoorTie.lean); close each card by the builder's one call (the guide's Derived/Test/ToyasCard.lean, 'card_holds'). Laid BY PROGRAM, IN A SANDBOX (cutbox-door.mjs). By AI agents, Wed Nov 11 2026. No macro, syntax, notation, axiom, sorry.
-/
import Derived.Test.YthomdgejbkcljaaDoorRows
import GoSem.ClaimSeven
namespace Go.Proofs.YthomdgejbkcljaaDoor
namespace Rows

/-- THE TIED CARD OF 'almonerlaw19.CheckTells'. -/
def checkTellsCard : Claim7 := { stood := { row := checkTellsRow, standIns := [], harness := (true, "df995690a04c9c5d4f84f48d2e06e48ea8b2f1746b473abe610a611418abf540"), looks := true }, kinds := [], alts := [], laidByText := true, laidKinds := [.data, .data, .data, .data, .sentinel, .sentinel, .pinned], laidTests := true, laidLooks := .later }
def CheckTellsCardSaid : Prop := Claim7.holds Tryd.pinned (.plain (OpenSpec.ofChange checkTellsSpec)) checkTellsCard

/-- THE TIED CARD OF 'almonerlaw19.CheckNumbers'. -/
def checkNumbersCard : Claim7 := { stood := { row := checkNumbersRow, standIns := [], harness := (true, "df995690a04c9c5d4f84f48d2e06e48ea8b2f1746b473abe610a611418abf540"), looks := true }, kinds := [], alts := [], laidByText := true, laidKinds := [.data, .data, .data, .data, .sentinel, .sentinel, .pinned], laidTests := true, laidLooks := .later }
def CheckNumbersCardSaid : Prop := Claim7.holds Tryd.pinned (.plain (OpenSpec.ofChange checkNumbersSpec)) checkNumbersCard

/-- THE TIED CARD OF 'almonerlaw19.CheckNot'. -/
def checkNotCard : Claim7 := { stood := { row := checkNotRow, standIns := [], harness := (true, "df995690a04c9c5d4f84f48d2e06e48ea8b2f1746b473abe610a611418abf540"), looks := true }, kinds := [], alts := [], laidByText := true, laidKinds := [.data, .data, .data, .data, .sentinel, .sentinel, .pinned], laidTests := true, laidLooks := .later }
def CheckNotCardSaid : Prop := Claim7.holds Tryd.pinned (.plain (OpenSpec.ofChange checkNotSpec)) checkNotCard

/-- THE TIED CARD OF 'almonerlaw19.CheckAsks'. -/
def checkAsksCard : Claim7 := { stood := { row := checkAsksRow, standIns := [], harness := (true, "df995690a04c9c5d4f84f48d2e06e48ea8b2f1746b473abe610a611418abf540"), looks := true }, kinds := [], alts := [], laidByText := true, laidKinds := [.data, .data, .data, .data, .sentinel, .sentinel, .pinned], laidTests := true, laidLooks := .later }
def CheckAsksCardSaid : Prop := Claim7.holds Tryd.pinned (.plain (OpenSpec.ofChange checkAsksSpec)) checkAsksCard

/-- THE TIED CARD OF 'almonerlaw19.CheckKinds'. -/
def checkKindsCard : Claim7 := { stood := { row := checkKindsRow, standIns := [], harness := (true, "df995690a04c9c5d4f84f48d2e06e48ea8b2f1746b473abe610a611418abf540"), looks := true }, kinds := [], alts := [], laidByText := true, laidKinds := [.data, .data, .data, .data, .sentinel, .sentinel, .pinned], laidTests := true, laidLooks := .later }
def CheckKindsCardSaid : Prop := Claim7.holds Tryd.pinned (.plain (OpenSpec.ofChange checkKindsSpec)) checkKindsCard

/-- THE SECOND FORM's CARD OF 'almonerlaw19.CheckTells'. -/
def checkTellsUptoCard : Claim7 := { stood := { row := checkTellsUptoRow, standIns := [], harness := (true, "df995690a04c9c5d4f84f48d2e06e48ea8b2f1746b473abe610a611418abf540"), looks := true }, kinds := [], alts := [], laidByText := true, laidKinds := [.data, .data, .data, .data, .sentinel, .sentinel, .pinned], laidTests := true, laidLooks := .later }
def CheckTellsUptoCardSaid : Prop := Claim7.holds Tryd.pinned (.plain (OpenSpec.upto checkTellsSpec)) checkTellsUptoCard

/-- THE SECOND FORM's CARD OF 'almonerlaw19.CheckNumbers'. -/
def checkNumbersUptoCard : Claim7 := { stood := { row := checkNumbersUptoRow, standIns := [], harness := (true, "df995690a04c9c5d4f84f48d2e06e48ea8b2f1746b473abe610a611418abf540"), looks := true }, kinds := [], alts := [], laidByText := true, laidKinds := [.data, .data, .data, .data, .sentinel, .sentinel, .pinned], laidTests := true, laidLooks := .later }
def CheckNumbersUptoCardSaid : Prop := Claim7.holds Tryd.pinned (.plain (OpenSpec.upto checkNumbersSpec)) checkNumbersUptoCard

/-- THE SECOND FORM's CARD OF 'almonerlaw19.CheckNot'. -/
def checkNotUptoCard : Claim7 := { stood := { row := checkNotUptoRow, standIns := [], harness := (true, "df995690a04c9c5d4f84f48d2e06e48ea8b2f1746b473abe610a611418abf540"), looks := true }, kinds := [], alts := [], laidByText := true, laidKinds := [.data, .data, .data, .data, .sentinel, .sentinel, .pinned], laidTests := true, laidLooks := .later }
def CheckNotUptoCardSaid : Prop := Claim7.holds Tryd.pinned (.plain (OpenSpec.upto checkNotSpec)) checkNotUptoCard

/-- THE SECOND FORM's CARD OF 'almonerlaw19.CheckAsks'. -/
def checkAsksUptoCard : Claim7 := { stood := { row := checkAsksUptoRow, standIns := [], harness := (true, "df995690a04c9c5d4f84f48d2e06e48ea8b2f1746b473abe610a611418abf540"), looks := true }, kinds := [], alts := [], laidByText := true, laidKinds := [.data, .data, .data, .data, .sentinel, .sentinel, .pinned], laidTests := true, laidLooks := .later }
def CheckAsksUptoCardSaid : Prop := Claim7.holds Tryd.pinned (.plain (OpenSpec.upto checkAsksSpec)) checkAsksUptoCard

/-- THE SECOND FORM's CARD OF 'almonerlaw19.CheckKinds'. -/
def checkKindsUptoCard : Claim7 := { stood := { row := checkKindsUptoRow, standIns := [], harness := (true, "df995690a04c9c5d4f84f48d2e06e48ea8b2f1746b473abe610a611418abf540"), looks := true }, kinds := [], alts := [], laidByText := true, laidKinds := [.data, .data, .data, .data, .sentinel, .sentinel, .pinned], laidTests := true, laidLooks := .later }
def CheckKindsUptoCardSaid : Prop := Claim7.holds Tryd.pinned (.plain (OpenSpec.upto checkKindsSpec)) checkKindsUptoCard
end Rows
end Go.Proofs.YthomdgejbkcljaaDoor
