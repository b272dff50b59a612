/-
  DERIVED. GIVEN WITH THE SEED: THE CARDS: each row of YtmfbmjnoepcigaaDoorRows.lean that lists a variable, with what it lists TIED to the program's text (the seventh form; the later family's looks); each row that meets fmt, with fmt's text TOLD by the authors' own Lean function (tested against real Go, not proved from fmt's source: count such statements apart). THE CARD IS WHAT COUNTS. Prove the row's statement (the work); the ties are given (YtmfbmjnoepcigaaDoorTie.lean); close each card by the builder's one call (the guide's Derived/Test/ToyasCard.lean, 'card_holds'). Laid BY PROGRAM, IN A SANDBOX (cutbox-door.mjs). By AI agents, Wed Nov 11 2026. No macro, syntax, notation, axiom, sorry.
-/
import Derived.Test.YtmfbmjnoepcigaaDoorRows
import GoSem.ClaimSeven
namespace Go.Proofs.YtmfbmjnoepcigaaDoor
namespace Rows

/-- THE TIED CARD OF 'almonerlaw04.PwfileWhole'. -/
def pwfileWholeCard : Claim7 := { stood := { row := pwfileWholeRow, standIns := [], harness := (true, "1807ab032508faafe079dff7828216cbadeeac0c4c2deadd9c6827dd663354b1"), looks := true }, kinds := [], alts := [], laidByText := true, laidKinds := [.data, .data, .data, .data, .sentinel, .sentinel, .pinned], laidTests := true, laidLooks := .later }
def PwfileWholeCardSaid : Prop := Claim7.holds Tryd.pinned (.plain (OpenSpec.ofChange pwfileWholeSpec)) pwfileWholeCard

/-- THE TIED CARD OF 'almonerlaw04.PwfileMany'. -/
def pwfileManyCard : Claim7 := { stood := { row := pwfileManyRow, standIns := [], harness := (true, "1807ab032508faafe079dff7828216cbadeeac0c4c2deadd9c6827dd663354b1"), looks := true }, kinds := [], alts := [], laidByText := true, laidKinds := [.data, .data, .data, .data, .sentinel, .sentinel, .pinned], laidTests := true, laidLooks := .later }
def PwfileManyCardSaid : Prop := Claim7.holds Tryd.pinned (.plain (OpenSpec.ofChange pwfileManySpec)) pwfileManyCard

/-- THE TIED CARD OF 'almonerlaw04.PwfileFirst'. -/
def pwfileFirstCard : Claim7 := { stood := { row := pwfileFirstRow, standIns := [], harness := (true, "1807ab032508faafe079dff7828216cbadeeac0c4c2deadd9c6827dd663354b1"), looks := true }, kinds := [], alts := [], laidByText := true, laidKinds := [.data, .data, .data, .data, .sentinel, .sentinel, .pinned], laidTests := true, laidLooks := .later }
def PwfileFirstCardSaid : Prop := Claim7.holds Tryd.pinned (.plain (OpenSpec.ofChange pwfileFirstSpec)) pwfileFirstCard

/-- THE TIED CARD OF 'almonerlaw04.PwfileBack'. -/
def pwfileBackCard : Claim7 := { stood := { row := pwfileBackRow, standIns := [], harness := (true, "1807ab032508faafe079dff7828216cbadeeac0c4c2deadd9c6827dd663354b1"), looks := true }, kinds := [], alts := [], laidByText := true, laidKinds := [.data, .data, .data, .data, .sentinel, .sentinel, .pinned], laidTests := true, laidLooks := .later }
def PwfileBackCardSaid : Prop := Claim7.holds Tryd.pinned (.plain (OpenSpec.ofChange pwfileBackSpec)) pwfileBackCard

/-- THE SECOND FORM's CARD OF 'almonerlaw04.PwfileWhole'. -/
def pwfileWholeUptoCard : Claim7 := { stood := { row := pwfileWholeUptoRow, standIns := [], harness := (true, "1807ab032508faafe079dff7828216cbadeeac0c4c2deadd9c6827dd663354b1"), looks := true }, kinds := [], alts := [], laidByText := true, laidKinds := [.data, .data, .data, .data, .sentinel, .sentinel, .pinned], laidTests := true, laidLooks := .later }
def PwfileWholeUptoCardSaid : Prop := Claim7.holds Tryd.pinned (.plain (OpenSpec.upto pwfileWholeSpec)) pwfileWholeUptoCard

/-- THE SECOND FORM's CARD OF 'almonerlaw04.PwfileMany'. -/
def pwfileManyUptoCard : Claim7 := { stood := { row := pwfileManyUptoRow, standIns := [], harness := (true, "1807ab032508faafe079dff7828216cbadeeac0c4c2deadd9c6827dd663354b1"), looks := true }, kinds := [], alts := [], laidByText := true, laidKinds := [.data, .data, .data, .data, .sentinel, .sentinel, .pinned], laidTests := true, laidLooks := .later }
def PwfileManyUptoCardSaid : Prop := Claim7.holds Tryd.pinned (.plain (OpenSpec.upto pwfileManySpec)) pwfileManyUptoCard

/-- THE SECOND FORM's CARD OF 'almonerlaw04.PwfileFirst'. -/
def pwfileFirstUptoCard : Claim7 := { stood := { row := pwfileFirstUptoRow, standIns := [], harness := (true, "1807ab032508faafe079dff7828216cbadeeac0c4c2deadd9c6827dd663354b1"), looks := true }, kinds := [], alts := [], laidByText := true, laidKinds := [.data, .data, .data, .data, .sentinel, .sentinel, .pinned], laidTests := true, laidLooks := .later }
def PwfileFirstUptoCardSaid : Prop := Claim7.holds Tryd.pinned (.plain (OpenSpec.upto pwfileFirstSpec)) pwfileFirstUptoCard

/-- THE SECOND FORM's CARD OF 'almonerlaw04.PwfileBack'. -/
def pwfileBackUptoCard : Claim7 := { stood := { row := pwfileBackUptoRow, standIns := [], harness := (true, "1807ab032508faafe079dff7828216cbadeeac0c4c2deadd9c6827dd663354b1"), looks := true }, kinds := [], alts := [], laidByText := true, laidKinds := [.data, .data, .data, .data, .sentinel, .sentinel, .pinned], laidTests := true, laidLooks := .later }
def PwfileBackUptoCardSaid : Prop := Claim7.holds Tryd.pinned (.plain (OpenSpec.upto pwfileBackSpec)) pwfileBackUptoCard
end Rows
end Go.Proofs.YtmfbmjnoepcigaaDoor
