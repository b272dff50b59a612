/-
  DERIVED. GIVEN WITH THE SEED: THE CARDS: each row of YtpjjdaenckedbaaDoorRows.lean that lists a variable, with what it lists TIED to the program's text (the seventh form; the later family's looks); each row that meets fmt, with fmt's text TOLD by the authors' own Lean function (tested against real Go, not proved from fmt's source: count such statements apart). THE CARD IS WHAT COUNTS. Prove the row's statement (the work); the ties are given (YtpjjdaenckedbaaDoorTie.lean); close each card by the builder's one call (the guide's Derived/Test/ToyasCard.lean, 'card_holds'). Laid BY PROGRAM, IN A SANDBOX (cutbox-door.mjs). By AI agents, Wed Nov 11 2026. No macro, syntax, notation, axiom, sorry.
-/
import Derived.Test.YtpjjdaenckedbaaDoorRows
import GoSem.ClaimSeven
namespace Go.Proofs.YtpjjdaenckedbaaDoor
namespace Rows

/-- THE TIED CARD OF 'almonerlaw13.ArithTwo'. -/
def arithTwoCard : Claim7 := { stood := { row := arithTwoRow, standIns := [], harness := (true, "4ea21bc5b9e4277288ce833ee1c3e92c0db5d4b828dd77f4683a3519bb91ebd5"), looks := true }, kinds := [], alts := [], laidByText := true, laidKinds := [.data, .data, .data, .data, .pinned], laidTests := true, laidLooks := .later }
def ArithTwoCardSaid : Prop := Claim7.holds Tryd.pinned (.plain (OpenSpec.ofChange arithTwoSpec)) arithTwoCard

/-- THE TIED CARD OF 'almonerlaw13.ArithSets'. -/
def arithSetsCard : Claim7 := { stood := { row := arithSetsRow, standIns := [], harness := (true, "4ea21bc5b9e4277288ce833ee1c3e92c0db5d4b828dd77f4683a3519bb91ebd5"), looks := true }, kinds := [], alts := [], laidByText := true, laidKinds := [.data, .data, .data, .data, .pinned], laidTests := true, laidLooks := .later }
def ArithSetsCardSaid : Prop := Claim7.holds Tryd.pinned (.plain (OpenSpec.ofChange arithSetsSpec)) arithSetsCard

/-- THE TIED CARD OF 'almonerlaw13.ArithSkips'. -/
def arithSkipsCard : Claim7 := { stood := { row := arithSkipsRow, standIns := [], harness := (true, "4ea21bc5b9e4277288ce833ee1c3e92c0db5d4b828dd77f4683a3519bb91ebd5"), looks := true }, kinds := [], alts := [], laidByText := true, laidKinds := [.data, .data, .data, .data, .pinned], laidTests := true, laidLooks := .later }
def ArithSkipsCardSaid : Prop := Claim7.holds Tryd.pinned (.plain (OpenSpec.ofChange arithSkipsSpec)) arithSkipsCard

/-- THE TIED CARD OF 'almonerlaw13.ArithBits'. -/
def arithBitsCard : Claim7 := { stood := { row := arithBitsRow, standIns := [], harness := (true, "4ea21bc5b9e4277288ce833ee1c3e92c0db5d4b828dd77f4683a3519bb91ebd5"), looks := true }, kinds := [], alts := [], laidByText := true, laidKinds := [.data, .data, .data, .data, .pinned], laidTests := true, laidLooks := .later }
def ArithBitsCardSaid : Prop := Claim7.holds Tryd.pinned (.plain (OpenSpec.ofChange arithBitsSpec)) arithBitsCard

/-- THE TIED CARD OF 'almonerlaw13.ArithBases'. -/
def arithBasesCard : Claim7 := { stood := { row := arithBasesRow, standIns := [], harness := (true, "4ea21bc5b9e4277288ce833ee1c3e92c0db5d4b828dd77f4683a3519bb91ebd5"), looks := true }, kinds := [], alts := [], laidByText := true, laidKinds := [.data, .data, .data, .data, .pinned], laidTests := true, laidLooks := .later }
def ArithBasesCardSaid : Prop := Claim7.holds Tryd.pinned (.plain (OpenSpec.ofChange arithBasesSpec)) arithBasesCard

/-- THE SECOND FORM's CARD OF 'almonerlaw13.ArithTwo'. -/
def arithTwoUptoCard : Claim7 := { stood := { row := arithTwoUptoRow, standIns := [], harness := (true, "4ea21bc5b9e4277288ce833ee1c3e92c0db5d4b828dd77f4683a3519bb91ebd5"), looks := true }, kinds := [], alts := [], laidByText := true, laidKinds := [.data, .data, .data, .data, .pinned], laidTests := true, laidLooks := .later }
def ArithTwoUptoCardSaid : Prop := Claim7.holds Tryd.pinned (.plain (OpenSpec.upto arithTwoSpec)) arithTwoUptoCard

/-- THE SECOND FORM's CARD OF 'almonerlaw13.ArithSets'. -/
def arithSetsUptoCard : Claim7 := { stood := { row := arithSetsUptoRow, standIns := [], harness := (true, "4ea21bc5b9e4277288ce833ee1c3e92c0db5d4b828dd77f4683a3519bb91ebd5"), looks := true }, kinds := [], alts := [], laidByText := true, laidKinds := [.data, .data, .data, .data, .pinned], laidTests := true, laidLooks := .later }
def ArithSetsUptoCardSaid : Prop := Claim7.holds Tryd.pinned (.plain (OpenSpec.upto arithSetsSpec)) arithSetsUptoCard

/-- THE SECOND FORM's CARD OF 'almonerlaw13.ArithSkips'. -/
def arithSkipsUptoCard : Claim7 := { stood := { row := arithSkipsUptoRow, standIns := [], harness := (true, "4ea21bc5b9e4277288ce833ee1c3e92c0db5d4b828dd77f4683a3519bb91ebd5"), looks := true }, kinds := [], alts := [], laidByText := true, laidKinds := [.data, .data, .data, .data, .pinned], laidTests := true, laidLooks := .later }
def ArithSkipsUptoCardSaid : Prop := Claim7.holds Tryd.pinned (.plain (OpenSpec.upto arithSkipsSpec)) arithSkipsUptoCard

/-- THE SECOND FORM's CARD OF 'almonerlaw13.ArithBits'. -/
def arithBitsUptoCard : Claim7 := { stood := { row := arithBitsUptoRow, standIns := [], harness := (true, "4ea21bc5b9e4277288ce833ee1c3e92c0db5d4b828dd77f4683a3519bb91ebd5"), looks := true }, kinds := [], alts := [], laidByText := true, laidKinds := [.data, .data, .data, .data, .pinned], laidTests := true, laidLooks := .later }
def ArithBitsUptoCardSaid : Prop := Claim7.holds Tryd.pinned (.plain (OpenSpec.upto arithBitsSpec)) arithBitsUptoCard

/-- THE SECOND FORM's CARD OF 'almonerlaw13.ArithBases'. -/
def arithBasesUptoCard : Claim7 := { stood := { row := arithBasesUptoRow, standIns := [], harness := (true, "4ea21bc5b9e4277288ce833ee1c3e92c0db5d4b828dd77f4683a3519bb91ebd5"), looks := true }, kinds := [], alts := [], laidByText := true, laidKinds := [.data, .data, .data, .data, .pinned], laidTests := true, laidLooks := .later }
def ArithBasesUptoCardSaid : Prop := Claim7.holds Tryd.pinned (.plain (OpenSpec.upto arithBasesSpec)) arithBasesUptoCard
end Rows
end Go.Proofs.YtpjjdaenckedbaaDoor
