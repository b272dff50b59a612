/-
  No cell of these rows narrows 'for every input' (looked for: loops, veiled, ifaces, maps, wideKeys, modest, calm, conditions, laid).
  DERIVED. THE GIVEN ROWS OF THIS SEAT. 3 by the template 'for every input the law returns true; each argument reads behind the call as it read before'; 0 by the template 'total and deterministic' (their statements: YtinmdegmnepheaaTotals.lean).
  GIVEN WITH THE SEED: the statements are not yours to turn. If you find one false, say at which input.
  Laid BY PROGRAM, IN A SANDBOX (cutbox-rows.mjs): the forced cells as the released guide's own fill.sh prints them over the translation af309dc77b42d24f… (all of the seat's roots in one cut). By AI agents, Wed Nov 11 2026. No macro, syntax, notation, axiom, sorry.
-/
import Derived.Test.YtinmdegmnepheaaChecked
import GoSem.Claim
import GoSem.ClaimJoined
import GoSem.ClaimMapViews
import Derived.JoinedTies
import Derived.KernelRfl
namespace Go.Proofs.Ytinmdegmnepheaa
/- THE CELL 'sum', in the pinned program and in every row, IS THE sha256 OF THE DUMP (.gsa) THAT YtinmdegmnepheaaProg.lean LOADS. Nothing in Lean hashes anything: it is a label: what it is worth is what the hold of that sum in a sandbox is worth. -/
noncomputable def Try.pinned : Pinned := { name := "ytinmdegmnepheaa", sum := "af309dc77b42d24f1b56656146e0810dc1514c722d36dc6200339dcaf226ab0a", checked := Try.checked }
namespace Rows
def none {H : Type} : Left H := { results := [], args := [] }

/-- 'almonerlaw06.InodeFull': WHATEVER THE INPUT: true; the input reads as it did. -/
def inodeFullSpec : ChangeSpec := { name := "inodeFull", fn := fun _ => fun
  | [d] => { results := [.lit (.bool true)], args := [d] }
  | _ => none }
def inodeFullRow : OpenClaim := { program := "ytinmdegmnepheaa", sum := "af309dc77b42d24f1b56656146e0810dc1514c722d36dc6200339dcaf226ab0a", func := "almoner/almonerlaw06.InodeFull", spec := "inodeFull", inPlace := ["internal/bytealg.IndexByteString", "internal/bytealg.IndexString"], recurses := true, named := ["internal/bytealg.MaxLen"], apart := false }
def InodeFullSaid : Prop := inodeFullRow.holds Try.pinned (OpenSpec.ofChange inodeFullSpec)

/-- ITS FALSE NEIGHBOUR: 'it returns false'. Refute it at one input. -/
def inodeFullWrong : ChangeSpec := { name := "inodeFull", fn := fun _ => fun
  | [d] => { results := [.lit (.bool false)], args := [d] }
  | _ => none }
def InodeFullWrongFalsely : Prop := inodeFullRow.holds Try.pinned (OpenSpec.ofChange inodeFullWrong)

/-- 'almonerlaw06.InodeFiles': WHATEVER THE INPUT: true; the input reads as it did. -/
def inodeFilesSpec : ChangeSpec := { name := "inodeFiles", fn := fun _ => fun
  | [d1, d2] => { results := [.lit (.bool true)], args := [d1, d2] }
  | _ => none }
def inodeFilesRow : OpenClaim := { program := "ytinmdegmnepheaa", sum := "af309dc77b42d24f1b56656146e0810dc1514c722d36dc6200339dcaf226ab0a", func := "almoner/almonerlaw06.InodeFiles", spec := "inodeFiles", inPlace := ["internal/bytealg.IndexByteString", "internal/bytealg.IndexString"], recurses := true, named := ["internal/bytealg.MaxLen"], apart := false }
def InodeFilesSaid : Prop := inodeFilesRow.holds Try.pinned (OpenSpec.ofChange inodeFilesSpec)

/-- ITS FALSE NEIGHBOUR: 'it returns false'. Refute it at one input. -/
def inodeFilesWrong : ChangeSpec := { name := "inodeFiles", fn := fun _ => fun
  | [d1, d2] => { results := [.lit (.bool false)], args := [d1, d2] }
  | _ => none }
def InodeFilesWrongFalsely : Prop := inodeFilesRow.holds Try.pinned (OpenSpec.ofChange inodeFilesWrong)

/-- 'almonerlaw06.InodeHeld': WHATEVER THE INPUT: true; the input reads as it did. -/
def inodeHeldSpec : ChangeSpec := { name := "inodeHeld", fn := fun _ => fun
  | [d1, d2, d3] => { results := [.lit (.bool true)], args := [d1, d2, d3] }
  | _ => none }
def inodeHeldRow : OpenClaim := { program := "ytinmdegmnepheaa", sum := "af309dc77b42d24f1b56656146e0810dc1514c722d36dc6200339dcaf226ab0a", func := "almoner/almonerlaw06.InodeHeld", spec := "inodeHeld", inPlace := ["internal/bytealg.IndexByteString", "internal/bytealg.IndexString"], recurses := true, named := ["internal/bytealg.MaxLen"], apart := false }
def InodeHeldSaid : Prop := inodeHeldRow.holds Try.pinned (OpenSpec.ofChange inodeHeldSpec)

/-- ITS FALSE NEIGHBOUR: 'it returns false'. Refute it at one input. -/
def inodeHeldWrong : ChangeSpec := { name := "inodeHeld", fn := fun _ => fun
  | [d1, d2, d3] => { results := [.lit (.bool false)], args := [d1, d2, d3] }
  | _ => none }
def InodeHeldWrongFalsely : Prop := inodeHeldRow.holds Try.pinned (OpenSpec.ofChange inodeHeldWrong)

/- THE SECOND FORM. 'bulk': how many values and letters a reading holds, each counted each time it is reached (what is shared counts as often as it is met; a slice's spare places count too). A statement '..UptoSaid' is the law's where the arguments, and the package variables that the reading takes, are together of bulk at most 1048576: NARROWER than '..Said'. Prove '..Said' where nothing that the law and all that it calls make is longer than what came in: it says more and counts as full. Else prove '..UptoSaid'. A law counts once. -/
mutual
def uptoBulk {H : Type} : DataW H → Nat
  | .lit (.string bytes) => bytes.length + 1
  | .lit _ => 1
  | .nil => 1
  | .ptr d => uptoBulk d + 1
  | .slice elems spare => uptoBulkAll elems + uptoBulkAll spare + 1
  | .agg parts => uptoBulkAll parts + 1
  | .iface _ d => uptoBulk d + 1
  | .map entries => uptoBulkEntries entries + 1
  | .held _ => 1
def uptoBulkAll {H : Type} : List (DataW H) → Nat
  | [] => 0
  | d :: r => uptoBulk d + uptoBulkAll r
def uptoBulkEntries {H : Type} : List (Lit × DataW H) → Nat
  | [] => 0
  | x :: r => uptoBulkEntry x + uptoBulkEntries r
def uptoBulkEntry {H : Type} : Lit × DataW H → Nat
  | (.string bytes, d) => bytes.length + uptoBulk d + 1
  | (_, d) => uptoBulk d + 1
 end
def uptoSmall : (H : Type) → List (DataW H) → Bool := fun _ ds => decide (uptoBulkAll ds ≤ 1048576)
def OpenSpec.upto (s : _root_.Go.ChangeSpec) : _root_.Go.OpenSpec := { _root_.Go.OpenSpec.ofChange s with cond := some uptoSmall }

/-- 'almonerlaw06.InodeFull', WHERE WHAT IT READS IS OF BULK AT MOST 1048576: true; the input reads as it did. -/
def inodeFullUptoRow : OpenClaim := { program := "ytinmdegmnepheaa", sum := "af309dc77b42d24f1b56656146e0810dc1514c722d36dc6200339dcaf226ab0a", func := "almoner/almonerlaw06.InodeFull", spec := "inodeFull", inPlace := ["internal/bytealg.IndexByteString", "internal/bytealg.IndexString"], recurses := true, named := ["internal/bytealg.MaxLen"], apart := false, narrowed := true }
def InodeFullUptoSaid : Prop := inodeFullUptoRow.holds Try.pinned (OpenSpec.upto inodeFullSpec)

/-- 'almonerlaw06.InodeFiles', WHERE WHAT IT READS IS OF BULK AT MOST 1048576: true; the input reads as it did. -/
def inodeFilesUptoRow : OpenClaim := { program := "ytinmdegmnepheaa", sum := "af309dc77b42d24f1b56656146e0810dc1514c722d36dc6200339dcaf226ab0a", func := "almoner/almonerlaw06.InodeFiles", spec := "inodeFiles", inPlace := ["internal/bytealg.IndexByteString", "internal/bytealg.IndexString"], recurses := true, named := ["internal/bytealg.MaxLen"], apart := false, narrowed := true }
def InodeFilesUptoSaid : Prop := inodeFilesUptoRow.holds Try.pinned (OpenSpec.upto inodeFilesSpec)

/-- 'almonerlaw06.InodeHeld', WHERE WHAT IT READS IS OF BULK AT MOST 1048576: true; the input reads as it did. -/
def inodeHeldUptoRow : OpenClaim := { program := "ytinmdegmnepheaa", sum := "af309dc77b42d24f1b56656146e0810dc1514c722d36dc6200339dcaf226ab0a", func := "almoner/almonerlaw06.InodeHeld", spec := "inodeHeld", inPlace := ["internal/bytealg.IndexByteString", "internal/bytealg.IndexString"], recurses := true, named := ["internal/bytealg.MaxLen"], apart := false, narrowed := true }
def InodeHeldUptoSaid : Prop := inodeHeldUptoRow.holds Try.pinned (OpenSpec.upto inodeHeldSpec)

end Rows
end Go.Proofs.Ytinmdegmnepheaa
