/-
  DERIVED. GIVEN WITH THE SEED: THE CARDS: each row of YtinmdegmnepheaaDoorRows.lean that lists a variable, with what it lists TIED to the program's text (the seventh form; the later family's looks); each row that meets fmt, with fmt's text TOLD by the authors' own Lean function (tested against real Go, not proved from fmt's source: count such statements apart). THE CARD IS WHAT COUNTS. Prove the row's statement (the work); the ties are given (YtinmdegmnepheaaDoorTie.lean); close each card by the builder's one call (the guide's Derived/Test/ToyasCard.lean, 'card_holds'). Laid BY PROGRAM, IN A SANDBOX (cutbox-door.mjs). By AI agents, Wed Nov 11 2026. No macro, syntax, notation, axiom, sorry.
-/
import Derived.Test.YtinmdegmnepheaaDoorRows
import GoSem.ClaimSeven
namespace Go.Proofs.YtinmdegmnepheaaDoor
namespace Rows

/-- THE TIED CARD OF 'almonerlaw02.PathSplits'. -/
def pathSplitsCard : Claim7 := { stood := { row := pathSplitsRow, standIns := [], harness := (true, "f831531ade48fffcd2d44652d048eeb1a52e93438e52d96d8f261be25aee1ef7"), looks := false }, kinds := [], alts := [], laidByText := true, laidKinds := [.data, .pinned], laidTests := true, laidLooks := .later }
def PathSplitsCardSaid : Prop := Claim7.holds Tryd.pinned (.plain (OpenSpec.ofChange pathSplitsSpec)) pathSplitsCard

/-- THE TIED CARD OF 'almonerlaw02.PathNames'. -/
def pathNamesCard : Claim7 := { stood := { row := pathNamesRow, standIns := [], harness := (true, "f831531ade48fffcd2d44652d048eeb1a52e93438e52d96d8f261be25aee1ef7"), looks := false }, kinds := [], alts := [], laidByText := true, laidKinds := [.data, .pinned], laidTests := true, laidLooks := .later }
def PathNamesCardSaid : Prop := Claim7.holds Tryd.pinned (.plain (OpenSpec.ofChange pathNamesSpec)) pathNamesCard

/-- THE TIED CARD OF 'almonerlaw02.PathJoins'. -/
def pathJoinsCard : Claim7 := { stood := { row := pathJoinsRow, standIns := [], harness := (true, "f831531ade48fffcd2d44652d048eeb1a52e93438e52d96d8f261be25aee1ef7"), looks := false }, kinds := [], alts := [], laidByText := true, laidKinds := [.data, .pinned], laidTests := true, laidLooks := .later }
def PathJoinsCardSaid : Prop := Claim7.holds Tryd.pinned (.plain (OpenSpec.ofChange pathJoinsSpec)) pathJoinsCard

/-- THE TIED CARD OF 'almonerlaw02.PathBases'. -/
def pathBasesCard : Claim7 := { stood := { row := pathBasesRow, standIns := [], harness := (true, "f831531ade48fffcd2d44652d048eeb1a52e93438e52d96d8f261be25aee1ef7"), looks := false }, kinds := [], alts := [], laidByText := true, laidKinds := [.data, .pinned], laidTests := true, laidLooks := .later }
def PathBasesCardSaid : Prop := Claim7.holds Tryd.pinned (.plain (OpenSpec.ofChange pathBasesSpec)) pathBasesCard

/-- THE TIED CARD OF 'almonerlaw02.PathStrokes'. -/
def pathStrokesCard : Claim7 := { stood := { row := pathStrokesRow, standIns := [], harness := (true, "f831531ade48fffcd2d44652d048eeb1a52e93438e52d96d8f261be25aee1ef7"), looks := false }, kinds := [], alts := [], laidByText := true, laidKinds := [.data, .pinned], laidTests := true, laidLooks := .later }
def PathStrokesCardSaid : Prop := Claim7.holds Tryd.pinned (.plain (OpenSpec.ofChange pathStrokesSpec)) pathStrokesCard

/-- THE TIED CARD OF 'almonerlaw02.PathOne'. -/
def pathOneCard : Claim7 := { stood := { row := pathOneRow, standIns := [], harness := (true, "f831531ade48fffcd2d44652d048eeb1a52e93438e52d96d8f261be25aee1ef7"), looks := false }, kinds := [], alts := [], laidByText := true, laidKinds := [.data, .pinned], laidTests := true, laidLooks := .later }
def PathOneCardSaid : Prop := Claim7.holds Tryd.pinned (.plain (OpenSpec.ofChange pathOneSpec)) pathOneCard

/-- THE TIED CARD OF 'almonerlaw02.PathLong'. -/
def pathLongCard : Claim7 := { stood := { row := pathLongRow, standIns := [], harness := (true, "f831531ade48fffcd2d44652d048eeb1a52e93438e52d96d8f261be25aee1ef7"), looks := false }, kinds := [], alts := [], laidByText := true, laidKinds := [.data, .pinned], laidTests := true, laidLooks := .later }
def PathLongCardSaid : Prop := Claim7.holds Tryd.pinned (.plain (OpenSpec.ofChange pathLongSpec)) pathLongCard

/-- THE SECOND FORM's CARD OF 'almonerlaw02.PathSplits'. -/
def pathSplitsUptoCard : Claim7 := { stood := { row := pathSplitsUptoRow, standIns := [], harness := (true, "f831531ade48fffcd2d44652d048eeb1a52e93438e52d96d8f261be25aee1ef7"), looks := false }, kinds := [], alts := [], laidByText := true, laidKinds := [.data, .pinned], laidTests := true, laidLooks := .later }
def PathSplitsUptoCardSaid : Prop := Claim7.holds Tryd.pinned (.plain (OpenSpec.upto pathSplitsSpec)) pathSplitsUptoCard

/-- THE SECOND FORM's CARD OF 'almonerlaw02.PathNames'. -/
def pathNamesUptoCard : Claim7 := { stood := { row := pathNamesUptoRow, standIns := [], harness := (true, "f831531ade48fffcd2d44652d048eeb1a52e93438e52d96d8f261be25aee1ef7"), looks := false }, kinds := [], alts := [], laidByText := true, laidKinds := [.data, .pinned], laidTests := true, laidLooks := .later }
def PathNamesUptoCardSaid : Prop := Claim7.holds Tryd.pinned (.plain (OpenSpec.upto pathNamesSpec)) pathNamesUptoCard

/-- THE SECOND FORM's CARD OF 'almonerlaw02.PathJoins'. -/
def pathJoinsUptoCard : Claim7 := { stood := { row := pathJoinsUptoRow, standIns := [], harness := (true, "f831531ade48fffcd2d44652d048eeb1a52e93438e52d96d8f261be25aee1ef7"), looks := false }, kinds := [], alts := [], laidByText := true, laidKinds := [.data, .pinned], laidTests := true, laidLooks := .later }
def PathJoinsUptoCardSaid : Prop := Claim7.holds Tryd.pinned (.plain (OpenSpec.upto pathJoinsSpec)) pathJoinsUptoCard

/-- THE SECOND FORM's CARD OF 'almonerlaw02.PathBases'. -/
def pathBasesUptoCard : Claim7 := { stood := { row := pathBasesUptoRow, standIns := [], harness := (true, "f831531ade48fffcd2d44652d048eeb1a52e93438e52d96d8f261be25aee1ef7"), looks := false }, kinds := [], alts := [], laidByText := true, laidKinds := [.data, .pinned], laidTests := true, laidLooks := .later }
def PathBasesUptoCardSaid : Prop := Claim7.holds Tryd.pinned (.plain (OpenSpec.upto pathBasesSpec)) pathBasesUptoCard

/-- THE SECOND FORM's CARD OF 'almonerlaw02.PathStrokes'. -/
def pathStrokesUptoCard : Claim7 := { stood := { row := pathStrokesUptoRow, standIns := [], harness := (true, "f831531ade48fffcd2d44652d048eeb1a52e93438e52d96d8f261be25aee1ef7"), looks := false }, kinds := [], alts := [], laidByText := true, laidKinds := [.data, .pinned], laidTests := true, laidLooks := .later }
def PathStrokesUptoCardSaid : Prop := Claim7.holds Tryd.pinned (.plain (OpenSpec.upto pathStrokesSpec)) pathStrokesUptoCard

/-- THE SECOND FORM's CARD OF 'almonerlaw02.PathOne'. -/
def pathOneUptoCard : Claim7 := { stood := { row := pathOneUptoRow, standIns := [], harness := (true, "f831531ade48fffcd2d44652d048eeb1a52e93438e52d96d8f261be25aee1ef7"), looks := false }, kinds := [], alts := [], laidByText := true, laidKinds := [.data, .pinned], laidTests := true, laidLooks := .later }
def PathOneUptoCardSaid : Prop := Claim7.holds Tryd.pinned (.plain (OpenSpec.upto pathOneSpec)) pathOneUptoCard

/-- THE SECOND FORM's CARD OF 'almonerlaw02.PathLong'. -/
def pathLongUptoCard : Claim7 := { stood := { row := pathLongUptoRow, standIns := [], harness := (true, "f831531ade48fffcd2d44652d048eeb1a52e93438e52d96d8f261be25aee1ef7"), looks := false }, kinds := [], alts := [], laidByText := true, laidKinds := [.data, .pinned], laidTests := true, laidLooks := .later }
def PathLongUptoCardSaid : Prop := Claim7.holds Tryd.pinned (.plain (OpenSpec.upto pathLongSpec)) pathLongUptoCard
end Rows
end Go.Proofs.YtinmdegmnepheaaDoor
