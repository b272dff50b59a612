/-
  DERIVED. GIVEN WITH THE SEED: THE CARDS: each row of YtkdjddmjcbdhgaaDoorRows.lean that lists a variable, with what it lists TIED to the program's text (the seventh form; the later family's looks); each row that meets fmt, with fmt's text TOLD by the authors' own Lean function (tested against real Go, not proved from fmt's source: count such statements apart). THE CARD IS WHAT COUNTS. Prove the row's statement (the work); the ties are given (YtkdjddmjcbdhgaaDoorTie.lean); close each card by the builder's one call (the guide's Derived/Test/ToyasCard.lean, 'card_holds'). Laid BY PROGRAM, IN A SANDBOX (cutbox-door.mjs). By AI agents, Wed Nov 11 2026. No macro, syntax, notation, axiom, sorry.
-/
import Derived.Test.YtkdjddmjcbdhgaaDoorRows
import GoSem.ClaimSeven
namespace Go.Proofs.YtkdjddmjcbdhgaaDoor
namespace Rows

/-- THE TIED CARD OF 'almonerlaw03.MixTells'. -/
def mixTellsCard : Claim7 := { stood := { row := mixTellsRow, standIns := [], harness := (true, "8d73b157db8a690fcb086432c93926fe84bf995bb6219198e6181f7b33a7e7aa"), looks := true }, kinds := [], alts := [], laidByText := true, laidKinds := [.data, .data, .data, .data, .sentinel, .sentinel, .pinned], laidTests := true, laidLooks := .later }
def MixTellsCardSaid : Prop := Claim7.holds Tryd.pinned (.plain (OpenSpec.ofChange mixTellsSpec)) mixTellsCard

/-- THE TIED CARD OF 'almonerlaw03.MixMatches'. -/
def mixMatchesCard : Claim7 := { stood := { row := mixMatchesRow, standIns := [], harness := (true, "8d73b157db8a690fcb086432c93926fe84bf995bb6219198e6181f7b33a7e7aa"), looks := true }, kinds := [], alts := [], laidByText := true, laidKinds := [.data, .data, .data, .data, .sentinel, .sentinel, .pinned], laidTests := true, laidLooks := .later }
def MixMatchesCardSaid : Prop := Claim7.holds Tryd.pinned (.plain (OpenSpec.ofChange mixMatchesSpec)) mixMatchesCard

/-- THE TIED CARD OF 'almonerlaw03.MixBack'. -/
def mixBackCard : Claim7 := { stood := { row := mixBackRow, standIns := [], harness := (true, "8d73b157db8a690fcb086432c93926fe84bf995bb6219198e6181f7b33a7e7aa"), looks := true }, kinds := [], alts := [], laidByText := true, laidKinds := [.data, .data, .data, .data, .sentinel, .sentinel, .pinned], laidTests := true, laidLooks := .later }
def MixBackCardSaid : Prop := Claim7.holds Tryd.pinned (.plain (OpenSpec.ofChange mixBackSpec)) mixBackCard

/-- THE TIED CARD OF 'almonerlaw03.MixSpoils'. -/
def mixSpoilsCard : Claim7 := { stood := { row := mixSpoilsRow, standIns := [], harness := (true, "8d73b157db8a690fcb086432c93926fe84bf995bb6219198e6181f7b33a7e7aa"), looks := true }, kinds := [], alts := [], laidByText := true, laidKinds := [.data, .data, .data, .data, .sentinel, .sentinel, .pinned], laidTests := true, laidLooks := .later }
def MixSpoilsCardSaid : Prop := Claim7.holds Tryd.pinned (.plain (OpenSpec.ofChange mixSpoilsSpec)) mixSpoilsCard

/-- THE TIED CARD OF 'almonerlaw03.MixEmpty'. -/
def mixEmptyCard : Claim7 := { stood := { row := mixEmptyRow, standIns := [], harness := (true, "8d73b157db8a690fcb086432c93926fe84bf995bb6219198e6181f7b33a7e7aa"), looks := true }, kinds := [], alts := [], laidByText := true, laidKinds := [.data, .data, .data, .data, .sentinel, .sentinel, .pinned], laidTests := true, laidLooks := .later }
def MixEmptyCardSaid : Prop := Claim7.holds Tryd.pinned (.plain (OpenSpec.ofChange mixEmptySpec)) mixEmptyCard

/-- THE TIED CARD OF 'almonerlaw03.MixSalts'. -/
def mixSaltsCard : Claim7 := { stood := { row := mixSaltsRow, standIns := [], harness := (true, "8d73b157db8a690fcb086432c93926fe84bf995bb6219198e6181f7b33a7e7aa"), looks := true }, kinds := [], alts := [], laidByText := true, laidKinds := [.data, .data, .data, .data, .sentinel, .sentinel, .pinned], laidTests := true, laidLooks := .later }
def MixSaltsCardSaid : Prop := Claim7.holds Tryd.pinned (.plain (OpenSpec.ofChange mixSaltsSpec)) mixSaltsCard

/-- THE SECOND FORM's CARD OF 'almonerlaw03.MixTells'. -/
def mixTellsUptoCard : Claim7 := { stood := { row := mixTellsUptoRow, standIns := [], harness := (true, "8d73b157db8a690fcb086432c93926fe84bf995bb6219198e6181f7b33a7e7aa"), looks := true }, kinds := [], alts := [], laidByText := true, laidKinds := [.data, .data, .data, .data, .sentinel, .sentinel, .pinned], laidTests := true, laidLooks := .later }
def MixTellsUptoCardSaid : Prop := Claim7.holds Tryd.pinned (.plain (OpenSpec.upto mixTellsSpec)) mixTellsUptoCard

/-- THE SECOND FORM's CARD OF 'almonerlaw03.MixMatches'. -/
def mixMatchesUptoCard : Claim7 := { stood := { row := mixMatchesUptoRow, standIns := [], harness := (true, "8d73b157db8a690fcb086432c93926fe84bf995bb6219198e6181f7b33a7e7aa"), looks := true }, kinds := [], alts := [], laidByText := true, laidKinds := [.data, .data, .data, .data, .sentinel, .sentinel, .pinned], laidTests := true, laidLooks := .later }
def MixMatchesUptoCardSaid : Prop := Claim7.holds Tryd.pinned (.plain (OpenSpec.upto mixMatchesSpec)) mixMatchesUptoCard

/-- THE SECOND FORM's CARD OF 'almonerlaw03.MixBack'. -/
def mixBackUptoCard : Claim7 := { stood := { row := mixBackUptoRow, standIns := [], harness := (true, "8d73b157db8a690fcb086432c93926fe84bf995bb6219198e6181f7b33a7e7aa"), looks := true }, kinds := [], alts := [], laidByText := true, laidKinds := [.data, .data, .data, .data, .sentinel, .sentinel, .pinned], laidTests := true, laidLooks := .later }
def MixBackUptoCardSaid : Prop := Claim7.holds Tryd.pinned (.plain (OpenSpec.upto mixBackSpec)) mixBackUptoCard

/-- THE SECOND FORM's CARD OF 'almonerlaw03.MixSpoils'. -/
def mixSpoilsUptoCard : Claim7 := { stood := { row := mixSpoilsUptoRow, standIns := [], harness := (true, "8d73b157db8a690fcb086432c93926fe84bf995bb6219198e6181f7b33a7e7aa"), looks := true }, kinds := [], alts := [], laidByText := true, laidKinds := [.data, .data, .data, .data, .sentinel, .sentinel, .pinned], laidTests := true, laidLooks := .later }
def MixSpoilsUptoCardSaid : Prop := Claim7.holds Tryd.pinned (.plain (OpenSpec.upto mixSpoilsSpec)) mixSpoilsUptoCard

/-- THE SECOND FORM's CARD OF 'almonerlaw03.MixEmpty'. -/
def mixEmptyUptoCard : Claim7 := { stood := { row := mixEmptyUptoRow, standIns := [], harness := (true, "8d73b157db8a690fcb086432c93926fe84bf995bb6219198e6181f7b33a7e7aa"), looks := true }, kinds := [], alts := [], laidByText := true, laidKinds := [.data, .data, .data, .data, .sentinel, .sentinel, .pinned], laidTests := true, laidLooks := .later }
def MixEmptyUptoCardSaid : Prop := Claim7.holds Tryd.pinned (.plain (OpenSpec.upto mixEmptySpec)) mixEmptyUptoCard

/-- THE SECOND FORM's CARD OF 'almonerlaw03.MixSalts'. -/
def mixSaltsUptoCard : Claim7 := { stood := { row := mixSaltsUptoRow, standIns := [], harness := (true, "8d73b157db8a690fcb086432c93926fe84bf995bb6219198e6181f7b33a7e7aa"), looks := true }, kinds := [], alts := [], laidByText := true, laidKinds := [.data, .data, .data, .data, .sentinel, .sentinel, .pinned], laidTests := true, laidLooks := .later }
def MixSaltsUptoCardSaid : Prop := Claim7.holds Tryd.pinned (.plain (OpenSpec.upto mixSaltsSpec)) mixSaltsUptoCard
end Rows
end Go.Proofs.YtkdjddmjcbdhgaaDoor
