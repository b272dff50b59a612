/-
  DERIVED. GIVEN WITH THE SEED: THE CARDS: each row of YtmfbmjnoepcigaaGreatDoorRows.lean that lists a variable, with what it lists TIED to the program's text (the seventh form; the later family's looks); each row that meets fmt, with fmt's text TOLD by the authors' own Lean function (tested against real Go, not proved from fmt's source: count such statements apart). THE CARD IS WHAT COUNTS. Prove the row's statement (the work); the ties are given (YtmfbmjnoepcigaaGreatDoorTie.lean); close each card by the builder's one call (the guide's Derived/Test/ToyasCard.lean, 'card_holds'). Laid BY PROGRAM, IN A SANDBOX (cutbox-door.mjs). By AI agents, Wed Nov 11 2026. No macro, syntax, notation, axiom, sorry.
-/
import Derived.Test.YtmfbmjnoepcigaaGreatDoorRows
import GoSem.ClaimSeven
namespace Go.Proofs.YtmfbmjnoepcigaaGreatDoor
namespace Rows

/-- THE TIED CARD OF 'almonerlaw04.PwfileParses'. -/
def pwfileParsesCard : Claim7 := { stood := { row := pwfileParsesRow, standIns := [], harness := (true, "cd5d743b0baa4c823d21043cfa6e254c9be632a3ceba70a0eef2289c74f11f0c"), looks := true }, kinds := [], alts := [], laidByText := true, laidKinds := [.data, .data, .data, .data, .sentinel, .sentinel, .pinned], laidTests := true, laidLooks := .later }
def PwfileParsesCardSaid : Prop := Claim7.holds Tryz.pinned (.plain (OpenSpec.ofChange pwfileParsesSpec)) pwfileParsesCard

/-- THE TIED CARD OF 'almonerlaw04.PwfilePrints'. -/
def pwfilePrintsCard : Claim7 := { stood := { row := pwfilePrintsRow, standIns := [], harness := (true, "cd5d743b0baa4c823d21043cfa6e254c9be632a3ceba70a0eef2289c74f11f0c"), looks := true }, kinds := [], alts := [], laidByText := true, laidKinds := [.data, .data, .data, .data, .sentinel, .sentinel, .pinned], laidTests := true, laidLooks := .later }
def PwfilePrintsCardSaid : Prop := Claim7.holds Tryz.pinned (.plain (OpenSpec.ofChange pwfilePrintsSpec)) pwfilePrintsCard

/-- THE TIED CARD OF 'almonerlaw04.PwfileFinds'. -/
def pwfileFindsCard : Claim7 := { stood := { row := pwfileFindsRow, standIns := [], harness := (true, "cd5d743b0baa4c823d21043cfa6e254c9be632a3ceba70a0eef2289c74f11f0c"), looks := true }, kinds := [], alts := [], laidByText := true, laidKinds := [.data, .data, .data, .data, .sentinel, .sentinel, .pinned], laidTests := true, laidLooks := .later }
def PwfileFindsCardSaid : Prop := Claim7.holds Tryz.pinned (.plain (OpenSpec.ofChange pwfileFindsSpec)) pwfileFindsCard

/-- THE SECOND FORM's CARD OF 'almonerlaw04.PwfileParses'. -/
def pwfileParsesUptoCard : Claim7 := { stood := { row := pwfileParsesUptoRow, standIns := [], harness := (true, "cd5d743b0baa4c823d21043cfa6e254c9be632a3ceba70a0eef2289c74f11f0c"), looks := true }, kinds := [], alts := [], laidByText := true, laidKinds := [.data, .data, .data, .data, .sentinel, .sentinel, .pinned], laidTests := true, laidLooks := .later }
def PwfileParsesUptoCardSaid : Prop := Claim7.holds Tryz.pinned (.plain (OpenSpec.upto pwfileParsesSpec)) pwfileParsesUptoCard

/-- THE SECOND FORM's CARD OF 'almonerlaw04.PwfilePrints'. -/
def pwfilePrintsUptoCard : Claim7 := { stood := { row := pwfilePrintsUptoRow, standIns := [], harness := (true, "cd5d743b0baa4c823d21043cfa6e254c9be632a3ceba70a0eef2289c74f11f0c"), looks := true }, kinds := [], alts := [], laidByText := true, laidKinds := [.data, .data, .data, .data, .sentinel, .sentinel, .pinned], laidTests := true, laidLooks := .later }
def PwfilePrintsUptoCardSaid : Prop := Claim7.holds Tryz.pinned (.plain (OpenSpec.upto pwfilePrintsSpec)) pwfilePrintsUptoCard

/-- THE SECOND FORM's CARD OF 'almonerlaw04.PwfileFinds'. -/
def pwfileFindsUptoCard : Claim7 := { stood := { row := pwfileFindsUptoRow, standIns := [], harness := (true, "cd5d743b0baa4c823d21043cfa6e254c9be632a3ceba70a0eef2289c74f11f0c"), looks := true }, kinds := [], alts := [], laidByText := true, laidKinds := [.data, .data, .data, .data, .sentinel, .sentinel, .pinned], laidTests := true, laidLooks := .later }
def PwfileFindsUptoCardSaid : Prop := Claim7.holds Tryz.pinned (.plain (OpenSpec.upto pwfileFindsSpec)) pwfileFindsUptoCard
end Rows
end Go.Proofs.YtmfbmjnoepcigaaGreatDoor
