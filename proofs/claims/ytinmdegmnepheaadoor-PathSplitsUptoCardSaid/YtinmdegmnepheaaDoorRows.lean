/-
  NARROWER THAN 'FOR EVERY INPUT', by the rows' own cells (each row's printed sentence says how): PathSplits: laid · PathNames: laid · PathJoins: laid · PathBases: laid · PathStrokes: laid · PathOne: laid · PathLong: laid.
  DERIVED. THE GIVEN ROWS OF THIS SEAT. 7 by the template 'for every input the law returns true; each argument reads behind the call as it read before'; 0 by the template 'total and deterministic' (their statements: YtinmdegmnepheaaDoorTotals.lean).
  GIVEN WITH THE SEED: the statements are not yours to turn. If you find one false, say at which input.
  Laid BY PROGRAM, IN A SANDBOX (cutbox-rows.mjs): the forced cells as the released guide's own fill.sh prints them over the translation a885c2b1d51cbf7c… (all of the seat's roots in one cut). By AI agents, Wed Nov 11 2026. No macro, syntax, notation, axiom, sorry.
-/
import Derived.Test.YtinmdegmnepheaaDoorChecked
import GoSem.PinnedTables
import GoSem.Claim
import GoSem.ClaimJoined
import GoSem.ClaimMapViews
import Derived.JoinedTies
import Derived.KernelRfl
namespace Go.Proofs.YtinmdegmnepheaaDoor
/- THE CELL 'sum', in the pinned program and in every row, IS THE sha256 OF THE DUMP (.gsa) THAT YtinmdegmnepheaaDoorProg.lean LOADS. Nothing in Lean hashes anything: it is a label: what it is worth is what the hold of that sum in a sandbox is worth. -/
noncomputable def Tryd.pinned : Pinned := { name := "ytinmdegmnepheaadoor", sum := "a885c2b1d51cbf7cb5dfa88b6939d66cd9c4f6ebd0bdb77424afaeece7a14bc9", checked := Tryd.checked }
namespace Rows
def none {H : Type} : Left H := { results := [], args := [] }

/- WHAT THE LISTED PACKAGE-LEVEL VARIABLES READ AS WHEN THE CALL BEGINS. Each datum BY PROGRAM (the guide's laid-datum.mjs) off the statement by which the dump's own 'gosem.cut.vars' lays the variable. In a bare row this is a premise. The card (YtinmdegmnepheaaDoorCards.lean) ties it to the program's text. -/
def laid_unicode_utf8_acceptRanges {H : Type} : DataW H := .agg [.agg [.lit (.int .u8 128), .lit (.int .u8 191)], .agg [.lit (.int .u8 160), .lit (.int .u8 191)], .agg [.lit (.int .u8 128), .lit (.int .u8 159)], .agg [.lit (.int .u8 144), .lit (.int .u8 191)], .agg [.lit (.int .u8 128), .lit (.int .u8 143)], .agg [.lit (.int .u8 0), .lit (.int .u8 0)], .agg [.lit (.int .u8 0), .lit (.int .u8 0)], .agg [.lit (.int .u8 0), .lit (.int .u8 0)], .agg [.lit (.int .u8 0), .lit (.int .u8 0)], .agg [.lit (.int .u8 0), .lit (.int .u8 0)], .agg [.lit (.int .u8 0), .lit (.int .u8 0)], .agg [.lit (.int .u8 0), .lit (.int .u8 0)], .agg [.lit (.int .u8 0), .lit (.int .u8 0)], .agg [.lit (.int .u8 0), .lit (.int .u8 0)], .agg [.lit (.int .u8 0), .lit (.int .u8 0)], .agg [.lit (.int .u8 0), .lit (.int .u8 0)]]
/-- One of Go's own tables, pinned by name: the form's constant. -/
def laid_unicode_utf8_first : DataW Unit := Go.Pinned.utf8First

/-- 'almonerlaw02.PathSplits': WHATEVER THE INPUT: true; the input reads as it did. -/
def pathSplitsSpec : ChangeSpec := { name := "pathSplits", fn := fun _ => fun
  | [d] => { results := [.lit (.bool true)], args := [d] }
  | _ => none }
def pathSplitsRow : OpenClaim := { program := "ytinmdegmnepheaadoor", sum := "a885c2b1d51cbf7cb5dfa88b6939d66cd9c4f6ebd0bdb77424afaeece7a14bc9", func := "almoner/almonerlaw02.PathSplits", spec := "pathSplits", inPlace := ["internal/bytealg.IndexByteString", "internal/bytealg.IndexString"], unfollowed := true, recurses := true, named := ["internal/bytealg.MaxLen", "unicode/utf8.first", "unicode/utf8.acceptRanges"], apart := false, laid := [("unicode/utf8.acceptRanges", laid_unicode_utf8_acceptRanges), ("unicode/utf8.first", laid_unicode_utf8_first)] }
def PathSplitsSaid : Prop := pathSplitsRow.holds Tryd.pinned (OpenSpec.ofChange pathSplitsSpec)

/-- ITS FALSE NEIGHBOUR: 'it returns false'. Refute it at one input. -/
def pathSplitsWrong : ChangeSpec := { name := "pathSplits", fn := fun _ => fun
  | [d] => { results := [.lit (.bool false)], args := [d] }
  | _ => none }
def PathSplitsWrongFalsely : Prop := pathSplitsRow.holds Tryd.pinned (OpenSpec.ofChange pathSplitsWrong)

/-- 'almonerlaw02.PathNames': WHATEVER THE INPUT: true; the input reads as it did. -/
def pathNamesSpec : ChangeSpec := { name := "pathNames", fn := fun _ => fun
  | [d1, d2] => { results := [.lit (.bool true)], args := [d1, d2] }
  | _ => none }
def pathNamesRow : OpenClaim := { program := "ytinmdegmnepheaadoor", sum := "a885c2b1d51cbf7cb5dfa88b6939d66cd9c4f6ebd0bdb77424afaeece7a14bc9", func := "almoner/almonerlaw02.PathNames", spec := "pathNames", inPlace := ["internal/bytealg.IndexByteString", "internal/bytealg.IndexString"], unfollowed := true, recurses := true, named := ["internal/bytealg.MaxLen", "unicode/utf8.first", "unicode/utf8.acceptRanges"], apart := false, laid := [("unicode/utf8.acceptRanges", laid_unicode_utf8_acceptRanges), ("unicode/utf8.first", laid_unicode_utf8_first)] }
def PathNamesSaid : Prop := pathNamesRow.holds Tryd.pinned (OpenSpec.ofChange pathNamesSpec)

/-- ITS FALSE NEIGHBOUR: 'it returns false'. Refute it at one input. -/
def pathNamesWrong : ChangeSpec := { name := "pathNames", fn := fun _ => fun
  | [d1, d2] => { results := [.lit (.bool false)], args := [d1, d2] }
  | _ => none }
def PathNamesWrongFalsely : Prop := pathNamesRow.holds Tryd.pinned (OpenSpec.ofChange pathNamesWrong)

/-- 'almonerlaw02.PathJoins': WHATEVER THE INPUT: true; the input reads as it did. -/
def pathJoinsSpec : ChangeSpec := { name := "pathJoins", fn := fun _ => fun
  | [d1, d2] => { results := [.lit (.bool true)], args := [d1, d2] }
  | _ => none }
def pathJoinsRow : OpenClaim := { program := "ytinmdegmnepheaadoor", sum := "a885c2b1d51cbf7cb5dfa88b6939d66cd9c4f6ebd0bdb77424afaeece7a14bc9", func := "almoner/almonerlaw02.PathJoins", spec := "pathJoins", inPlace := ["internal/bytealg.IndexByteString", "internal/bytealg.IndexString"], unfollowed := true, recurses := true, named := ["internal/bytealg.MaxLen", "unicode/utf8.first", "unicode/utf8.acceptRanges"], apart := false, laid := [("unicode/utf8.acceptRanges", laid_unicode_utf8_acceptRanges), ("unicode/utf8.first", laid_unicode_utf8_first)] }
def PathJoinsSaid : Prop := pathJoinsRow.holds Tryd.pinned (OpenSpec.ofChange pathJoinsSpec)

/-- ITS FALSE NEIGHBOUR: 'it returns false'. Refute it at one input. -/
def pathJoinsWrong : ChangeSpec := { name := "pathJoins", fn := fun _ => fun
  | [d1, d2] => { results := [.lit (.bool false)], args := [d1, d2] }
  | _ => none }
def PathJoinsWrongFalsely : Prop := pathJoinsRow.holds Tryd.pinned (OpenSpec.ofChange pathJoinsWrong)

/-- 'almonerlaw02.PathBases': WHATEVER THE INPUT: true; the input reads as it did. -/
def pathBasesSpec : ChangeSpec := { name := "pathBases", fn := fun _ => fun
  | [d] => { results := [.lit (.bool true)], args := [d] }
  | _ => none }
def pathBasesRow : OpenClaim := { program := "ytinmdegmnepheaadoor", sum := "a885c2b1d51cbf7cb5dfa88b6939d66cd9c4f6ebd0bdb77424afaeece7a14bc9", func := "almoner/almonerlaw02.PathBases", spec := "pathBases", inPlace := ["internal/bytealg.IndexByteString", "internal/bytealg.IndexString"], unfollowed := true, recurses := true, named := ["internal/bytealg.MaxLen", "unicode/utf8.first", "unicode/utf8.acceptRanges"], apart := false, laid := [("unicode/utf8.acceptRanges", laid_unicode_utf8_acceptRanges), ("unicode/utf8.first", laid_unicode_utf8_first)] }
def PathBasesSaid : Prop := pathBasesRow.holds Tryd.pinned (OpenSpec.ofChange pathBasesSpec)

/-- ITS FALSE NEIGHBOUR: 'it returns false'. Refute it at one input. -/
def pathBasesWrong : ChangeSpec := { name := "pathBases", fn := fun _ => fun
  | [d] => { results := [.lit (.bool false)], args := [d] }
  | _ => none }
def PathBasesWrongFalsely : Prop := pathBasesRow.holds Tryd.pinned (OpenSpec.ofChange pathBasesWrong)

/-- 'almonerlaw02.PathStrokes': WHATEVER THE INPUT: true; the input reads as it did. -/
def pathStrokesSpec : ChangeSpec := { name := "pathStrokes", fn := fun _ => fun
  | [d1, d2, d3] => { results := [.lit (.bool true)], args := [d1, d2, d3] }
  | _ => none }
def pathStrokesRow : OpenClaim := { program := "ytinmdegmnepheaadoor", sum := "a885c2b1d51cbf7cb5dfa88b6939d66cd9c4f6ebd0bdb77424afaeece7a14bc9", func := "almoner/almonerlaw02.PathStrokes", spec := "pathStrokes", inPlace := ["internal/bytealg.IndexByteString", "internal/bytealg.IndexString"], unfollowed := true, recurses := true, named := ["internal/bytealg.MaxLen", "unicode/utf8.first", "unicode/utf8.acceptRanges"], apart := false, laid := [("unicode/utf8.acceptRanges", laid_unicode_utf8_acceptRanges), ("unicode/utf8.first", laid_unicode_utf8_first)] }
def PathStrokesSaid : Prop := pathStrokesRow.holds Tryd.pinned (OpenSpec.ofChange pathStrokesSpec)

/-- ITS FALSE NEIGHBOUR: 'it returns false'. Refute it at one input. -/
def pathStrokesWrong : ChangeSpec := { name := "pathStrokes", fn := fun _ => fun
  | [d1, d2, d3] => { results := [.lit (.bool false)], args := [d1, d2, d3] }
  | _ => none }
def PathStrokesWrongFalsely : Prop := pathStrokesRow.holds Tryd.pinned (OpenSpec.ofChange pathStrokesWrong)

/-- 'almonerlaw02.PathOne': WHATEVER THE INPUT: true; the input reads as it did. -/
def pathOneSpec : ChangeSpec := { name := "pathOne", fn := fun _ => fun
  | [d] => { results := [.lit (.bool true)], args := [d] }
  | _ => none }
def pathOneRow : OpenClaim := { program := "ytinmdegmnepheaadoor", sum := "a885c2b1d51cbf7cb5dfa88b6939d66cd9c4f6ebd0bdb77424afaeece7a14bc9", func := "almoner/almonerlaw02.PathOne", spec := "pathOne", inPlace := ["internal/bytealg.IndexByteString", "internal/bytealg.IndexString"], unfollowed := true, recurses := true, named := ["internal/bytealg.MaxLen", "unicode/utf8.first", "unicode/utf8.acceptRanges"], apart := false, laid := [("unicode/utf8.acceptRanges", laid_unicode_utf8_acceptRanges), ("unicode/utf8.first", laid_unicode_utf8_first)] }
def PathOneSaid : Prop := pathOneRow.holds Tryd.pinned (OpenSpec.ofChange pathOneSpec)

/-- ITS FALSE NEIGHBOUR: 'it returns false'. Refute it at one input. -/
def pathOneWrong : ChangeSpec := { name := "pathOne", fn := fun _ => fun
  | [d] => { results := [.lit (.bool false)], args := [d] }
  | _ => none }
def PathOneWrongFalsely : Prop := pathOneRow.holds Tryd.pinned (OpenSpec.ofChange pathOneWrong)

/-- 'almonerlaw02.PathLong': WHATEVER THE INPUT: true; the input reads as it did. -/
def pathLongSpec : ChangeSpec := { name := "pathLong", fn := fun _ => fun
  | [d1, d2] => { results := [.lit (.bool true)], args := [d1, d2] }
  | _ => none }
def pathLongRow : OpenClaim := { program := "ytinmdegmnepheaadoor", sum := "a885c2b1d51cbf7cb5dfa88b6939d66cd9c4f6ebd0bdb77424afaeece7a14bc9", func := "almoner/almonerlaw02.PathLong", spec := "pathLong", inPlace := ["internal/bytealg.IndexByteString", "internal/bytealg.IndexString"], unfollowed := true, recurses := true, named := ["internal/bytealg.MaxLen", "unicode/utf8.first", "unicode/utf8.acceptRanges"], apart := false, laid := [("unicode/utf8.acceptRanges", laid_unicode_utf8_acceptRanges), ("unicode/utf8.first", laid_unicode_utf8_first)] }
def PathLongSaid : Prop := pathLongRow.holds Tryd.pinned (OpenSpec.ofChange pathLongSpec)

/-- ITS FALSE NEIGHBOUR: 'it returns false'. Refute it at one input. -/
def pathLongWrong : ChangeSpec := { name := "pathLong", fn := fun _ => fun
  | [d1, d2] => { results := [.lit (.bool false)], args := [d1, d2] }
  | _ => none }
def PathLongWrongFalsely : Prop := pathLongRow.holds Tryd.pinned (OpenSpec.ofChange pathLongWrong)

/- THE SECOND FORM. 'bulk': how many values and letters a reading holds, each counted each time it is reached (what is shared counts as often as it is met; a slice's spare places count too). A statement '..UptoSaid' is the law's where the arguments, and the package variables that the reading takes, are together of bulk at most 1048576: NARROWER than '..Said'. Prove '..Said' where nothing that the law and all that it calls make is longer than what came in: it says more and counts as full. Else prove '..UptoSaid'. A law counts once. -/
mutual
def uptoBulk {H : Type} : DataW H → Nat
  | .lit (.string bytes) => bytes.length + 1
  | .lit _ => 1
  | .nil => 1
  | .ptr d => uptoBulk d + 1
  | .slice elems spare => uptoBulkAll elems + uptoBulkAll spare + 1
  | .agg parts => uptoBulkAll parts + 1
  | .iface _ d => uptoBulk d + 1
  | .map entries => uptoBulkEntries entries + 1
  | .held _ => 1
def uptoBulkAll {H : Type} : List (DataW H) → Nat
  | [] => 0
  | d :: r => uptoBulk d + uptoBulkAll r
def uptoBulkEntries {H : Type} : List (Lit × DataW H) → Nat
  | [] => 0
  | x :: r => uptoBulkEntry x + uptoBulkEntries r
def uptoBulkEntry {H : Type} : Lit × DataW H → Nat
  | (.string bytes, d) => bytes.length + uptoBulk d + 1
  | (_, d) => uptoBulk d + 1
 end
def uptoSmall : (H : Type) → List (DataW H) → Bool := fun _ ds => decide (uptoBulkAll ds ≤ 1048576)
def OpenSpec.upto (s : _root_.Go.ChangeSpec) : _root_.Go.OpenSpec := { _root_.Go.OpenSpec.ofChange s with cond := some uptoSmall }

/-- 'almonerlaw02.PathSplits', WHERE WHAT IT READS IS OF BULK AT MOST 1048576: true; the input reads as it did. -/
def pathSplitsUptoRow : OpenClaim := { program := "ytinmdegmnepheaadoor", sum := "a885c2b1d51cbf7cb5dfa88b6939d66cd9c4f6ebd0bdb77424afaeece7a14bc9", func := "almoner/almonerlaw02.PathSplits", spec := "pathSplits", inPlace := ["internal/bytealg.IndexByteString", "internal/bytealg.IndexString"], unfollowed := true, recurses := true, named := ["internal/bytealg.MaxLen", "unicode/utf8.first", "unicode/utf8.acceptRanges"], apart := false, laid := [("unicode/utf8.acceptRanges", laid_unicode_utf8_acceptRanges), ("unicode/utf8.first", laid_unicode_utf8_first)], narrowed := true }
def PathSplitsUptoSaid : Prop := pathSplitsUptoRow.holds Tryd.pinned (OpenSpec.upto pathSplitsSpec)

/-- 'almonerlaw02.PathNames', WHERE WHAT IT READS IS OF BULK AT MOST 1048576: true; the input reads as it did. -/
def pathNamesUptoRow : OpenClaim := { program := "ytinmdegmnepheaadoor", sum := "a885c2b1d51cbf7cb5dfa88b6939d66cd9c4f6ebd0bdb77424afaeece7a14bc9", func := "almoner/almonerlaw02.PathNames", spec := "pathNames", inPlace := ["internal/bytealg.IndexByteString", "internal/bytealg.IndexString"], unfollowed := true, recurses := true, named := ["internal/bytealg.MaxLen", "unicode/utf8.first", "unicode/utf8.acceptRanges"], apart := false, laid := [("unicode/utf8.acceptRanges", laid_unicode_utf8_acceptRanges), ("unicode/utf8.first", laid_unicode_utf8_first)], narrowed := true }
def PathNamesUptoSaid : Prop := pathNamesUptoRow.holds Tryd.pinned (OpenSpec.upto pathNamesSpec)

/-- 'almonerlaw02.PathJoins', WHERE WHAT IT READS IS OF BULK AT MOST 1048576: true; the input reads as it did. -/
def pathJoinsUptoRow : OpenClaim := { program := "ytinmdegmnepheaadoor", sum := "a885c2b1d51cbf7cb5dfa88b6939d66cd9c4f6ebd0bdb77424afaeece7a14bc9", func := "almoner/almonerlaw02.PathJoins", spec := "pathJoins", inPlace := ["internal/bytealg.IndexByteString", "internal/bytealg.IndexString"], unfollowed := true, recurses := true, named := ["internal/bytealg.MaxLen", "unicode/utf8.first", "unicode/utf8.acceptRanges"], apart := false, laid := [("unicode/utf8.acceptRanges", laid_unicode_utf8_acceptRanges), ("unicode/utf8.first", laid_unicode_utf8_first)], narrowed := true }
def PathJoinsUptoSaid : Prop := pathJoinsUptoRow.holds Tryd.pinned (OpenSpec.upto pathJoinsSpec)

/-- 'almonerlaw02.PathBases', WHERE WHAT IT READS IS OF BULK AT MOST 1048576: true; the input reads as it did. -/
def pathBasesUptoRow : OpenClaim := { program := "ytinmdegmnepheaadoor", sum := "a885c2b1d51cbf7cb5dfa88b6939d66cd9c4f6ebd0bdb77424afaeece7a14bc9", func := "almoner/almonerlaw02.PathBases", spec := "pathBases", inPlace := ["internal/bytealg.IndexByteString", "internal/bytealg.IndexString"], unfollowed := true, recurses := true, named := ["internal/bytealg.MaxLen", "unicode/utf8.first", "unicode/utf8.acceptRanges"], apart := false, laid := [("unicode/utf8.acceptRanges", laid_unicode_utf8_acceptRanges), ("unicode/utf8.first", laid_unicode_utf8_first)], narrowed := true }
def PathBasesUptoSaid : Prop := pathBasesUptoRow.holds Tryd.pinned (OpenSpec.upto pathBasesSpec)

/-- 'almonerlaw02.PathStrokes', WHERE WHAT IT READS IS OF BULK AT MOST 1048576: true; the input reads as it did. -/
def pathStrokesUptoRow : OpenClaim := { program := "ytinmdegmnepheaadoor", sum := "a885c2b1d51cbf7cb5dfa88b6939d66cd9c4f6ebd0bdb77424afaeece7a14bc9", func := "almoner/almonerlaw02.PathStrokes", spec := "pathStrokes", inPlace := ["internal/bytealg.IndexByteString", "internal/bytealg.IndexString"], unfollowed := true, recurses := true, named := ["internal/bytealg.MaxLen", "unicode/utf8.first", "unicode/utf8.acceptRanges"], apart := false, laid := [("unicode/utf8.acceptRanges", laid_unicode_utf8_acceptRanges), ("unicode/utf8.first", laid_unicode_utf8_first)], narrowed := true }
def PathStrokesUptoSaid : Prop := pathStrokesUptoRow.holds Tryd.pinned (OpenSpec.upto pathStrokesSpec)

/-- 'almonerlaw02.PathOne', WHERE WHAT IT READS IS OF BULK AT MOST 1048576: true; the input reads as it did. -/
def pathOneUptoRow : OpenClaim := { program := "ytinmdegmnepheaadoor", sum := "a885c2b1d51cbf7cb5dfa88b6939d66cd9c4f6ebd0bdb77424afaeece7a14bc9", func := "almoner/almonerlaw02.PathOne", spec := "pathOne", inPlace := ["internal/bytealg.IndexByteString", "internal/bytealg.IndexString"], unfollowed := true, recurses := true, named := ["internal/bytealg.MaxLen", "unicode/utf8.first", "unicode/utf8.acceptRanges"], apart := false, laid := [("unicode/utf8.acceptRanges", laid_unicode_utf8_acceptRanges), ("unicode/utf8.first", laid_unicode_utf8_first)], narrowed := true }
def PathOneUptoSaid : Prop := pathOneUptoRow.holds Tryd.pinned (OpenSpec.upto pathOneSpec)

/-- 'almonerlaw02.PathLong', WHERE WHAT IT READS IS OF BULK AT MOST 1048576: true; the input reads as it did. -/
def pathLongUptoRow : OpenClaim := { program := "ytinmdegmnepheaadoor", sum := "a885c2b1d51cbf7cb5dfa88b6939d66cd9c4f6ebd0bdb77424afaeece7a14bc9", func := "almoner/almonerlaw02.PathLong", spec := "pathLong", inPlace := ["internal/bytealg.IndexByteString", "internal/bytealg.IndexString"], unfollowed := true, recurses := true, named := ["internal/bytealg.MaxLen", "unicode/utf8.first", "unicode/utf8.acceptRanges"], apart := false, laid := [("unicode/utf8.acceptRanges", laid_unicode_utf8_acceptRanges), ("unicode/utf8.first", laid_unicode_utf8_first)], narrowed := true }
def PathLongUptoSaid : Prop := pathLongUptoRow.holds Tryd.pinned (OpenSpec.upto pathLongSpec)

end Rows
end Go.Proofs.YtinmdegmnepheaaDoor
