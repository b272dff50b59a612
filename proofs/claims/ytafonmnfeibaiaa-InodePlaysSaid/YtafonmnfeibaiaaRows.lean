/-
  No cell of these rows narrows 'for every input' (looked for: loops, veiled, ifaces, maps, wideKeys, modest, calm, conditions, laid).
  DERIVED. THE GIVEN ROWS OF THIS SEAT. 5 by the template 'for every input the law returns true; each argument reads behind the call as it read before'; 0 by the template 'total and deterministic' (their statements: YtafonmnfeibaiaaTotals.lean).
  GIVEN WITH THE SEED: the statements are not yours to turn. If you find one false, say at which input.
  Laid BY PROGRAM, IN A SANDBOX (cutbox-rows.mjs): the forced cells as the released guide's own fill.sh prints them over the translation b68c928f119599ef… (all of the seat's roots in one cut). By AI agents, Wed Nov 11 2026. No macro, syntax, notation, axiom, sorry.
-/
import Derived.Test.YtafonmnfeibaiaaChecked
import GoSem.Claim
import GoSem.ClaimJoined
import GoSem.ClaimMapViews
import Derived.JoinedTies
import Derived.KernelRfl
namespace Go.Proofs.Ytafonmnfeibaiaa
/- THE CELL 'sum', in the pinned program and in every row, IS THE sha256 OF THE DUMP (.gsa) THAT YtafonmnfeibaiaaProg.lean LOADS. Nothing in Lean hashes anything: it is a label: what it is worth is what the hold of that sum in a sandbox is worth. -/
noncomputable def Try.pinned : Pinned := { name := "ytafonmnfeibaiaa", sum := "b68c928f119599ef82887c97cf12f35d7aac9c20326fb85a285a2688c563da63", checked := Try.checked }
namespace Rows
def none {H : Type} : Left H := { results := [], args := [] }

/-- 'almonerlaw07.WalkMakes': WHATEVER THE INPUT: true; the input reads as it did. -/
def walkMakesSpec : ChangeSpec := { name := "walkMakes", fn := fun _ => fun
  | [d1, d2, d3] => { results := [.lit (.bool true)], args := [d1, d2, d3] }
  | _ => none }
def walkMakesRow : OpenClaim := { program := "ytafonmnfeibaiaa", sum := "b68c928f119599ef82887c97cf12f35d7aac9c20326fb85a285a2688c563da63", func := "almoner/almonerlaw07.WalkMakes", spec := "walkMakes", inPlace := ["internal/bytealg.IndexByteString", "internal/bytealg.IndexString"], unfollowed := true, recurses := true, named := ["internal/bytealg.MaxLen"], apart := false }
def WalkMakesSaid : Prop := walkMakesRow.holds Try.pinned (OpenSpec.ofChange walkMakesSpec)

/-- ITS FALSE NEIGHBOUR: 'it returns false'. Refute it at one input. -/
def walkMakesWrong : ChangeSpec := { name := "walkMakes", fn := fun _ => fun
  | [d1, d2, d3] => { results := [.lit (.bool false)], args := [d1, d2, d3] }
  | _ => none }
def WalkMakesWrongFalsely : Prop := walkMakesRow.holds Try.pinned (OpenSpec.ofChange walkMakesWrong)

/-- 'almonerlaw07.WalkLinks': WHATEVER THE INPUT: true; the input reads as it did. -/
def walkLinksSpec : ChangeSpec := { name := "walkLinks", fn := fun _ => fun
  | [d1, d2] => { results := [.lit (.bool true)], args := [d1, d2] }
  | _ => none }
def walkLinksRow : OpenClaim := { program := "ytafonmnfeibaiaa", sum := "b68c928f119599ef82887c97cf12f35d7aac9c20326fb85a285a2688c563da63", func := "almoner/almonerlaw07.WalkLinks", spec := "walkLinks", inPlace := ["internal/bytealg.IndexByteString", "internal/bytealg.IndexString"], unfollowed := true, recurses := true, named := ["internal/bytealg.MaxLen"], apart := false }
def WalkLinksSaid : Prop := walkLinksRow.holds Try.pinned (OpenSpec.ofChange walkLinksSpec)

/-- ITS FALSE NEIGHBOUR: 'it returns false'. Refute it at one input. -/
def walkLinksWrong : ChangeSpec := { name := "walkLinks", fn := fun _ => fun
  | [d1, d2] => { results := [.lit (.bool false)], args := [d1, d2] }
  | _ => none }
def WalkLinksWrongFalsely : Prop := walkLinksRow.holds Try.pinned (OpenSpec.ofChange walkLinksWrong)

/-- 'almonerlaw06.InodeMoves': WHATEVER THE INPUT: true; the input reads as it did. -/
def inodeMovesSpec : ChangeSpec := { name := "inodeMoves", fn := fun _ => fun
  | [d1, d2] => { results := [.lit (.bool true)], args := [d1, d2] }
  | _ => none }
def inodeMovesRow : OpenClaim := { program := "ytafonmnfeibaiaa", sum := "b68c928f119599ef82887c97cf12f35d7aac9c20326fb85a285a2688c563da63", func := "almoner/almonerlaw06.InodeMoves", spec := "inodeMoves", inPlace := ["internal/bytealg.IndexByteString", "internal/bytealg.IndexString"], unfollowed := true, recurses := true, named := ["internal/bytealg.MaxLen"], apart := false }
def InodeMovesSaid : Prop := inodeMovesRow.holds Try.pinned (OpenSpec.ofChange inodeMovesSpec)

/-- ITS FALSE NEIGHBOUR: 'it returns false'. Refute it at one input. -/
def inodeMovesWrong : ChangeSpec := { name := "inodeMoves", fn := fun _ => fun
  | [d1, d2] => { results := [.lit (.bool false)], args := [d1, d2] }
  | _ => none }
def InodeMovesWrongFalsely : Prop := inodeMovesRow.holds Try.pinned (OpenSpec.ofChange inodeMovesWrong)

/-- 'almonerlaw06.InodeSound': WHATEVER THE INPUT: true; the input reads as it did. -/
def inodeSoundSpec : ChangeSpec := { name := "inodeSound", fn := fun _ => fun
  | [d] => { results := [.lit (.bool true)], args := [d] }
  | _ => none }
def inodeSoundRow : OpenClaim := { program := "ytafonmnfeibaiaa", sum := "b68c928f119599ef82887c97cf12f35d7aac9c20326fb85a285a2688c563da63", func := "almoner/almonerlaw06.InodeSound", spec := "inodeSound", inPlace := ["internal/bytealg.IndexByteString", "internal/bytealg.IndexString"], unfollowed := true, recurses := true, named := ["internal/bytealg.MaxLen"], apart := false }
def InodeSoundSaid : Prop := inodeSoundRow.holds Try.pinned (OpenSpec.ofChange inodeSoundSpec)

/-- ITS FALSE NEIGHBOUR: 'it returns false'. Refute it at one input. -/
def inodeSoundWrong : ChangeSpec := { name := "inodeSound", fn := fun _ => fun
  | [d] => { results := [.lit (.bool false)], args := [d] }
  | _ => none }
def InodeSoundWrongFalsely : Prop := inodeSoundRow.holds Try.pinned (OpenSpec.ofChange inodeSoundWrong)

/-- 'almonerlaw06.InodePlays': WHATEVER THE INPUT: true; the input reads as it did. -/
def inodePlaysSpec : ChangeSpec := { name := "inodePlays", fn := fun _ => fun
  | [d1, d2, d3] => { results := [.lit (.bool true)], args := [d1, d2, d3] }
  | _ => none }
def inodePlaysRow : OpenClaim := { program := "ytafonmnfeibaiaa", sum := "b68c928f119599ef82887c97cf12f35d7aac9c20326fb85a285a2688c563da63", func := "almoner/almonerlaw06.InodePlays", spec := "inodePlays", inPlace := ["internal/bytealg.IndexByteString", "internal/bytealg.IndexString"], unfollowed := true, recurses := true, named := ["internal/bytealg.MaxLen"], apart := false }
def InodePlaysSaid : Prop := inodePlaysRow.holds Try.pinned (OpenSpec.ofChange inodePlaysSpec)

/-- ITS FALSE NEIGHBOUR: 'it returns false'. Refute it at one input. -/
def inodePlaysWrong : ChangeSpec := { name := "inodePlays", fn := fun _ => fun
  | [d1, d2, d3] => { results := [.lit (.bool false)], args := [d1, d2, d3] }
  | _ => none }
def InodePlaysWrongFalsely : Prop := inodePlaysRow.holds Try.pinned (OpenSpec.ofChange inodePlaysWrong)

/- THE SECOND FORM. 'bulk': how many values and letters a reading holds, each counted each time it is reached (what is shared counts as often as it is met; a slice's spare places count too). A statement '..UptoSaid' is the law's where the arguments, and the package variables that the reading takes, are together of bulk at most 1048576: NARROWER than '..Said'. Prove '..Said' where nothing that the law and all that it calls make is longer than what came in: it says more and counts as full. Else prove '..UptoSaid'. A law counts once. -/
mutual
def uptoBulk {H : Type} : DataW H → Nat
  | .lit (.string bytes) => bytes.length + 1
  | .lit _ => 1
  | .nil => 1
  | .ptr d => uptoBulk d + 1
  | .slice elems spare => uptoBulkAll elems + uptoBulkAll spare + 1
  | .agg parts => uptoBulkAll parts + 1
  | .iface _ d => uptoBulk d + 1
  | .map entries => uptoBulkEntries entries + 1
  | .held _ => 1
def uptoBulkAll {H : Type} : List (DataW H) → Nat
  | [] => 0
  | d :: r => uptoBulk d + uptoBulkAll r
def uptoBulkEntries {H : Type} : List (Lit × DataW H) → Nat
  | [] => 0
  | x :: r => uptoBulkEntry x + uptoBulkEntries r
def uptoBulkEntry {H : Type} : Lit × DataW H → Nat
  | (.string bytes, d) => bytes.length + uptoBulk d + 1
  | (_, d) => uptoBulk d + 1
 end
def uptoSmall : (H : Type) → List (DataW H) → Bool := fun _ ds => decide (uptoBulkAll ds ≤ 1048576)
def OpenSpec.upto (s : _root_.Go.ChangeSpec) : _root_.Go.OpenSpec := { _root_.Go.OpenSpec.ofChange s with cond := some uptoSmall }

/-- 'almonerlaw07.WalkMakes', WHERE WHAT IT READS IS OF BULK AT MOST 1048576: true; the input reads as it did. -/
def walkMakesUptoRow : OpenClaim := { program := "ytafonmnfeibaiaa", sum := "b68c928f119599ef82887c97cf12f35d7aac9c20326fb85a285a2688c563da63", func := "almoner/almonerlaw07.WalkMakes", spec := "walkMakes", inPlace := ["internal/bytealg.IndexByteString", "internal/bytealg.IndexString"], unfollowed := true, recurses := true, named := ["internal/bytealg.MaxLen"], apart := false, narrowed := true }
def WalkMakesUptoSaid : Prop := walkMakesUptoRow.holds Try.pinned (OpenSpec.upto walkMakesSpec)

/-- 'almonerlaw07.WalkLinks', WHERE WHAT IT READS IS OF BULK AT MOST 1048576: true; the input reads as it did. -/
def walkLinksUptoRow : OpenClaim := { program := "ytafonmnfeibaiaa", sum := "b68c928f119599ef82887c97cf12f35d7aac9c20326fb85a285a2688c563da63", func := "almoner/almonerlaw07.WalkLinks", spec := "walkLinks", inPlace := ["internal/bytealg.IndexByteString", "internal/bytealg.IndexString"], unfollowed := true, recurses := true, named := ["internal/bytealg.MaxLen"], apart := false, narrowed := true }
def WalkLinksUptoSaid : Prop := walkLinksUptoRow.holds Try.pinned (OpenSpec.upto walkLinksSpec)

/-- 'almonerlaw06.InodeMoves', WHERE WHAT IT READS IS OF BULK AT MOST 1048576: true; the input reads as it did. -/
def inodeMovesUptoRow : OpenClaim := { program := "ytafonmnfeibaiaa", sum := "b68c928f119599ef82887c97cf12f35d7aac9c20326fb85a285a2688c563da63", func := "almoner/almonerlaw06.InodeMoves", spec := "inodeMoves", inPlace := ["internal/bytealg.IndexByteString", "internal/bytealg.IndexString"], unfollowed := true, recurses := true, named := ["internal/bytealg.MaxLen"], apart := false, narrowed := true }
def InodeMovesUptoSaid : Prop := inodeMovesUptoRow.holds Try.pinned (OpenSpec.upto inodeMovesSpec)

/-- 'almonerlaw06.InodeSound', WHERE WHAT IT READS IS OF BULK AT MOST 1048576: true; the input reads as it did. -/
def inodeSoundUptoRow : OpenClaim := { program := "ytafonmnfeibaiaa", sum := "b68c928f119599ef82887c97cf12f35d7aac9c20326fb85a285a2688c563da63", func := "almoner/almonerlaw06.InodeSound", spec := "inodeSound", inPlace := ["internal/bytealg.IndexByteString", "internal/bytealg.IndexString"], unfollowed := true, recurses := true, named := ["internal/bytealg.MaxLen"], apart := false, narrowed := true }
def InodeSoundUptoSaid : Prop := inodeSoundUptoRow.holds Try.pinned (OpenSpec.upto inodeSoundSpec)

/-- 'almonerlaw06.InodePlays', WHERE WHAT IT READS IS OF BULK AT MOST 1048576: true; the input reads as it did. -/
def inodePlaysUptoRow : OpenClaim := { program := "ytafonmnfeibaiaa", sum := "b68c928f119599ef82887c97cf12f35d7aac9c20326fb85a285a2688c563da63", func := "almoner/almonerlaw06.InodePlays", spec := "inodePlays", inPlace := ["internal/bytealg.IndexByteString", "internal/bytealg.IndexString"], unfollowed := true, recurses := true, named := ["internal/bytealg.MaxLen"], apart := false, narrowed := true }
def InodePlaysUptoSaid : Prop := inodePlaysUptoRow.holds Try.pinned (OpenSpec.upto inodePlaysSpec)

end Rows
end Go.Proofs.Ytafonmnfeibaiaa
