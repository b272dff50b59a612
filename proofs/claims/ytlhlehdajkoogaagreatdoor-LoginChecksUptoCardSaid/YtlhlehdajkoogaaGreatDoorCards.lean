/-
  DERIVED. GIVEN WITH THE SEED: THE CARDS: each row of YtlhlehdajkoogaaGreatDoorRows.lean that lists a variable, with what it lists TIED to the program's text (the seventh form; the later family's looks); each row that meets fmt, with fmt's text TOLD by the authors' own Lean function (tested against real Go, not proved from fmt's source: count such statements apart). THE CARD IS WHAT COUNTS. Prove the row's statement (the work); the ties are given (YtlhlehdajkoogaaGreatDoorTie.lean); close each card by the builder's one call (the guide's Derived/Test/ToyasCard.lean, 'card_holds'). Laid BY PROGRAM, IN A SANDBOX (cutbox-door.mjs). By AI agents, Wed Nov 11 2026. No macro, syntax, notation, axiom, sorry.
-/
import Derived.Test.YtlhlehdajkoogaaGreatDoorRows
import GoSem.ClaimSeven
namespace Go.Proofs.YtlhlehdajkoogaaGreatDoor
namespace Rows

/-- THE TIED CARD OF 'almonerlaw22.LoginTells'. -/
def loginTellsCard : Claim7 := { stood := { row := loginTellsRow, standIns := [], harness := (true, "3b96815302ba2fc74ce4a273fb3adfe6a7dd1fc8d037c3b881d9045595da888b"), looks := true }, kinds := [], alts := [], laidByText := true, laidKinds := [.data, .data, .data, .data, .sentinel, .sentinel, .pinned], laidTests := true, laidLooks := .later }
def LoginTellsCardSaid : Prop := Claim7.holds Tryz.pinned (.plain (OpenSpec.ofChange loginTellsSpec)) loginTellsCard

/-- THE TIED CARD OF 'almonerlaw22.LoginChecks'. -/
def loginChecksCard : Claim7 := { stood := { row := loginChecksRow, standIns := [], harness := (true, "3b96815302ba2fc74ce4a273fb3adfe6a7dd1fc8d037c3b881d9045595da888b"), looks := true }, kinds := [], alts := [], laidByText := true, laidKinds := [.data, .data, .data, .data, .sentinel, .sentinel, .pinned], laidTests := true, laidLooks := .later }
def LoginChecksCardSaid : Prop := Claim7.holds Tryz.pinned (.plain (OpenSpec.ofChange loginChecksSpec)) loginChecksCard

/-- THE TIED CARD OF 'almonerlaw22.LoginSilent'. -/
def loginSilentCard : Claim7 := { stood := { row := loginSilentRow, standIns := [], harness := (true, "3b96815302ba2fc74ce4a273fb3adfe6a7dd1fc8d037c3b881d9045595da888b"), looks := true }, kinds := [], alts := [], laidByText := true, laidKinds := [.data, .data, .data, .data, .sentinel, .sentinel, .pinned], laidTests := true, laidLooks := .later }
def LoginSilentCardSaid : Prop := Claim7.holds Tryz.pinned (.plain (OpenSpec.ofChange loginSilentSpec)) loginSilentCard

/-- THE TIED CARD OF 'almonerlaw22.LoginRenews'. -/
def loginRenewsCard : Claim7 := { stood := { row := loginRenewsRow, standIns := [], harness := (true, "3b96815302ba2fc74ce4a273fb3adfe6a7dd1fc8d037c3b881d9045595da888b"), looks := true }, kinds := [], alts := [], laidByText := true, laidKinds := [.data, .data, .data, .data, .sentinel, .sentinel, .pinned], laidTests := true, laidLooks := .later }
def LoginRenewsCardSaid : Prop := Claim7.holds Tryz.pinned (.plain (OpenSpec.ofChange loginRenewsSpec)) loginRenewsCard

/-- THE TIED CARD OF 'almonerlaw22.LoginInit'. -/
def loginInitCard : Claim7 := { stood := { row := loginInitRow, standIns := [], harness := (true, "3b96815302ba2fc74ce4a273fb3adfe6a7dd1fc8d037c3b881d9045595da888b"), looks := true }, kinds := [], alts := [], laidByText := true, laidKinds := [.data, .data, .data, .data, .sentinel, .sentinel, .pinned], laidTests := true, laidLooks := .later }
def LoginInitCardSaid : Prop := Claim7.holds Tryz.pinned (.plain (OpenSpec.ofChange loginInitSpec)) loginInitCard

/-- THE TIED CARD OF 'almonerlaw22.LoginSwitches'. -/
def loginSwitchesCard : Claim7 := { stood := { row := loginSwitchesRow, standIns := [], harness := (true, "3b96815302ba2fc74ce4a273fb3adfe6a7dd1fc8d037c3b881d9045595da888b"), looks := true }, kinds := [], alts := [], laidByText := true, laidKinds := [.data, .data, .data, .data, .sentinel, .sentinel, .pinned], laidTests := true, laidLooks := .later }
def LoginSwitchesCardSaid : Prop := Claim7.holds Tryz.pinned (.plain (OpenSpec.ofChange loginSwitchesSpec)) loginSwitchesCard

/-- THE TIED CARD OF 'almonerlaw22.LoginClones'. -/
def loginClonesCard : Claim7 := { stood := { row := loginClonesRow, standIns := [], harness := (true, "3b96815302ba2fc74ce4a273fb3adfe6a7dd1fc8d037c3b881d9045595da888b"), looks := true }, kinds := [], alts := [], laidByText := true, laidKinds := [.data, .data, .data, .data, .sentinel, .sentinel, .pinned], laidTests := true, laidLooks := .later }
def LoginClonesCardSaid : Prop := Claim7.holds Tryz.pinned (.plain (OpenSpec.ofChange loginClonesSpec)) loginClonesCard

/-- THE SECOND FORM's CARD OF 'almonerlaw22.LoginTells'. -/
def loginTellsUptoCard : Claim7 := { stood := { row := loginTellsUptoRow, standIns := [], harness := (true, "3b96815302ba2fc74ce4a273fb3adfe6a7dd1fc8d037c3b881d9045595da888b"), looks := true }, kinds := [], alts := [], laidByText := true, laidKinds := [.data, .data, .data, .data, .sentinel, .sentinel, .pinned], laidTests := true, laidLooks := .later }
def LoginTellsUptoCardSaid : Prop := Claim7.holds Tryz.pinned (.plain (OpenSpec.upto loginTellsSpec)) loginTellsUptoCard

/-- THE SECOND FORM's CARD OF 'almonerlaw22.LoginChecks'. -/
def loginChecksUptoCard : Claim7 := { stood := { row := loginChecksUptoRow, standIns := [], harness := (true, "3b96815302ba2fc74ce4a273fb3adfe6a7dd1fc8d037c3b881d9045595da888b"), looks := true }, kinds := [], alts := [], laidByText := true, laidKinds := [.data, .data, .data, .data, .sentinel, .sentinel, .pinned], laidTests := true, laidLooks := .later }
def LoginChecksUptoCardSaid : Prop := Claim7.holds Tryz.pinned (.plain (OpenSpec.upto loginChecksSpec)) loginChecksUptoCard

/-- THE SECOND FORM's CARD OF 'almonerlaw22.LoginSilent'. -/
def loginSilentUptoCard : Claim7 := { stood := { row := loginSilentUptoRow, standIns := [], harness := (true, "3b96815302ba2fc74ce4a273fb3adfe6a7dd1fc8d037c3b881d9045595da888b"), looks := true }, kinds := [], alts := [], laidByText := true, laidKinds := [.data, .data, .data, .data, .sentinel, .sentinel, .pinned], laidTests := true, laidLooks := .later }
def LoginSilentUptoCardSaid : Prop := Claim7.holds Tryz.pinned (.plain (OpenSpec.upto loginSilentSpec)) loginSilentUptoCard

/-- THE SECOND FORM's CARD OF 'almonerlaw22.LoginRenews'. -/
def loginRenewsUptoCard : Claim7 := { stood := { row := loginRenewsUptoRow, standIns := [], harness := (true, "3b96815302ba2fc74ce4a273fb3adfe6a7dd1fc8d037c3b881d9045595da888b"), looks := true }, kinds := [], alts := [], laidByText := true, laidKinds := [.data, .data, .data, .data, .sentinel, .sentinel, .pinned], laidTests := true, laidLooks := .later }
def LoginRenewsUptoCardSaid : Prop := Claim7.holds Tryz.pinned (.plain (OpenSpec.upto loginRenewsSpec)) loginRenewsUptoCard

/-- THE SECOND FORM's CARD OF 'almonerlaw22.LoginInit'. -/
def loginInitUptoCard : Claim7 := { stood := { row := loginInitUptoRow, standIns := [], harness := (true, "3b96815302ba2fc74ce4a273fb3adfe6a7dd1fc8d037c3b881d9045595da888b"), looks := true }, kinds := [], alts := [], laidByText := true, laidKinds := [.data, .data, .data, .data, .sentinel, .sentinel, .pinned], laidTests := true, laidLooks := .later }
def LoginInitUptoCardSaid : Prop := Claim7.holds Tryz.pinned (.plain (OpenSpec.upto loginInitSpec)) loginInitUptoCard

/-- THE SECOND FORM's CARD OF 'almonerlaw22.LoginSwitches'. -/
def loginSwitchesUptoCard : Claim7 := { stood := { row := loginSwitchesUptoRow, standIns := [], harness := (true, "3b96815302ba2fc74ce4a273fb3adfe6a7dd1fc8d037c3b881d9045595da888b"), looks := true }, kinds := [], alts := [], laidByText := true, laidKinds := [.data, .data, .data, .data, .sentinel, .sentinel, .pinned], laidTests := true, laidLooks := .later }
def LoginSwitchesUptoCardSaid : Prop := Claim7.holds Tryz.pinned (.plain (OpenSpec.upto loginSwitchesSpec)) loginSwitchesUptoCard

/-- THE SECOND FORM's CARD OF 'almonerlaw22.LoginClones'. -/
def loginClonesUptoCard : Claim7 := { stood := { row := loginClonesUptoRow, standIns := [], harness := (true, "3b96815302ba2fc74ce4a273fb3adfe6a7dd1fc8d037c3b881d9045595da888b"), looks := true }, kinds := [], alts := [], laidByText := true, laidKinds := [.data, .data, .data, .data, .sentinel, .sentinel, .pinned], laidTests := true, laidLooks := .later }
def LoginClonesUptoCardSaid : Prop := Claim7.holds Tryz.pinned (.plain (OpenSpec.upto loginClonesSpec)) loginClonesUptoCard
end Rows
end Go.Proofs.YtlhlehdajkoogaaGreatDoor
