/-
  No cell of these rows narrows 'for every input' (looked for: loops, veiled, ifaces, maps, wideKeys, modest, calm, conditions, laid).
  DERIVED. THE GIVEN ROWS OF THIS SEAT. 5 by the template 'for every input the law returns true; each argument reads behind the call as it read before'; 0 by the template 'total and deterministic' (their statements: YtafonmnfeibaiaaGreatTotals.lean).
  GIVEN WITH THE SEED: the statements are not yours to turn. If you find one false, say at which input.
  Laid BY PROGRAM, IN A SANDBOX (cutbox-rows.mjs): the forced cells as the released guide's own fill.sh prints them over the translation f0f84aaaec105d53… (all of the seat's roots in one cut). By AI agents, Wed Nov 11 2026. No macro, syntax, notation, axiom, sorry.
-/
import Derived.Test.YtafonmnfeibaiaaGreatChecked
import GoSem.Claim
import GoSem.ClaimJoined
import GoSem.ClaimMapViews
import Derived.JoinedTies
import Derived.KernelRfl
namespace Go.Proofs.YtafonmnfeibaiaaGreat
/- THE CELL 'sum', in the pinned program and in every row, IS THE sha256 OF THE DUMP (.gsa) THAT YtafonmnfeibaiaaGreatProg.lean LOADS. Nothing in Lean hashes anything: it is a label: what it is worth is what the hold of that sum in a sandbox is worth. -/
noncomputable def Tryz.pinned : Pinned := { name := "ytafonmnfeibaiaagreat", sum := "f0f84aaaec105d532f80c70198584b2531af14bd8478eee6ffbef7a0236e9d28", checked := Tryz.checked }
namespace Rows
def none {H : Type} : Left H := { results := [], args := [] }

/-- 'almonerlaw07.WalkOpens': WHATEVER THE INPUT: true; the input reads as it did. -/
def walkOpensSpec : ChangeSpec := { name := "walkOpens", fn := fun _ => fun
  | [d1, d2] => { results := [.lit (.bool true)], args := [d1, d2] }
  | _ => none }
def walkOpensRow : OpenClaim := { program := "ytafonmnfeibaiaagreat", sum := "f0f84aaaec105d532f80c70198584b2531af14bd8478eee6ffbef7a0236e9d28", func := "almoner/almonerlaw07.WalkOpens", spec := "walkOpens", inPlace := ["internal/bytealg.IndexByteString", "internal/bytealg.IndexString"], unfollowed := true, recurses := true, named := ["internal/bytealg.MaxLen"], apart := false }
def WalkOpensSaid : Prop := walkOpensRow.holds Tryz.pinned (OpenSpec.ofChange walkOpensSpec)

/-- ITS FALSE NEIGHBOUR: 'it returns false'. Refute it at one input. -/
def walkOpensWrong : ChangeSpec := { name := "walkOpens", fn := fun _ => fun
  | [d1, d2] => { results := [.lit (.bool false)], args := [d1, d2] }
  | _ => none }
def WalkOpensWrongFalsely : Prop := walkOpensRow.holds Tryz.pinned (OpenSpec.ofChange walkOpensWrong)

/-- 'almonerlaw07.WalkOwners': WHATEVER THE INPUT: true; the input reads as it did. -/
def walkOwnersSpec : ChangeSpec := { name := "walkOwners", fn := fun _ => fun
  | [d1, d2] => { results := [.lit (.bool true)], args := [d1, d2] }
  | _ => none }
def walkOwnersRow : OpenClaim := { program := "ytafonmnfeibaiaagreat", sum := "f0f84aaaec105d532f80c70198584b2531af14bd8478eee6ffbef7a0236e9d28", func := "almoner/almonerlaw07.WalkOwners", spec := "walkOwners", inPlace := ["internal/bytealg.IndexByteString", "internal/bytealg.IndexString"], unfollowed := true, recurses := true, named := ["internal/bytealg.MaxLen"], apart := false }
def WalkOwnersSaid : Prop := walkOwnersRow.holds Tryz.pinned (OpenSpec.ofChange walkOwnersSpec)

/-- ITS FALSE NEIGHBOUR: 'it returns false'. Refute it at one input. -/
def walkOwnersWrong : ChangeSpec := { name := "walkOwners", fn := fun _ => fun
  | [d1, d2] => { results := [.lit (.bool false)], args := [d1, d2] }
  | _ => none }
def WalkOwnersWrongFalsely : Prop := walkOwnersRow.holds Tryz.pinned (OpenSpec.ofChange walkOwnersWrong)

/-- 'almonerlaw07.WalkShut': WHATEVER THE INPUT: true; the input reads as it did. -/
def walkShutSpec : ChangeSpec := { name := "walkShut", fn := fun _ => fun
  | [d1, d2, d3, d4, d5] => { results := [.lit (.bool true)], args := [d1, d2, d3, d4, d5] }
  | _ => none }
def walkShutRow : OpenClaim := { program := "ytafonmnfeibaiaagreat", sum := "f0f84aaaec105d532f80c70198584b2531af14bd8478eee6ffbef7a0236e9d28", func := "almoner/almonerlaw07.WalkShut", spec := "walkShut", inPlace := ["internal/bytealg.IndexByteString", "internal/bytealg.IndexString"], unfollowed := true, recurses := true, named := ["internal/bytealg.MaxLen"], apart := false }
def WalkShutSaid : Prop := walkShutRow.holds Tryz.pinned (OpenSpec.ofChange walkShutSpec)

/-- ITS FALSE NEIGHBOUR: 'it returns false'. Refute it at one input. -/
def walkShutWrong : ChangeSpec := { name := "walkShut", fn := fun _ => fun
  | [d1, d2, d3, d4, d5] => { results := [.lit (.bool false)], args := [d1, d2, d3, d4, d5] }
  | _ => none }
def WalkShutWrongFalsely : Prop := walkShutRow.holds Tryz.pinned (OpenSpec.ofChange walkShutWrong)

/-- 'almonerlaw07.WalkEntries': WHATEVER THE INPUT: true; the input reads as it did. -/
def walkEntriesSpec : ChangeSpec := { name := "walkEntries", fn := fun _ => fun
  | [d1, d2] => { results := [.lit (.bool true)], args := [d1, d2] }
  | _ => none }
def walkEntriesRow : OpenClaim := { program := "ytafonmnfeibaiaagreat", sum := "f0f84aaaec105d532f80c70198584b2531af14bd8478eee6ffbef7a0236e9d28", func := "almoner/almonerlaw07.WalkEntries", spec := "walkEntries", inPlace := ["internal/bytealg.IndexByteString", "internal/bytealg.IndexString"], unfollowed := true, recurses := true, named := ["internal/bytealg.MaxLen"], apart := false }
def WalkEntriesSaid : Prop := walkEntriesRow.holds Tryz.pinned (OpenSpec.ofChange walkEntriesSpec)

/-- ITS FALSE NEIGHBOUR: 'it returns false'. Refute it at one input. -/
def walkEntriesWrong : ChangeSpec := { name := "walkEntries", fn := fun _ => fun
  | [d1, d2] => { results := [.lit (.bool false)], args := [d1, d2] }
  | _ => none }
def WalkEntriesWrongFalsely : Prop := walkEntriesRow.holds Tryz.pinned (OpenSpec.ofChange walkEntriesWrong)

/-- 'almonerlaw07.WalkPlays': WHATEVER THE INPUT: true; the input reads as it did. -/
def walkPlaysSpec : ChangeSpec := { name := "walkPlays", fn := fun _ => fun
  | [d1, d2] => { results := [.lit (.bool true)], args := [d1, d2] }
  | _ => none }
def walkPlaysRow : OpenClaim := { program := "ytafonmnfeibaiaagreat", sum := "f0f84aaaec105d532f80c70198584b2531af14bd8478eee6ffbef7a0236e9d28", func := "almoner/almonerlaw07.WalkPlays", spec := "walkPlays", inPlace := ["internal/bytealg.IndexByteString", "internal/bytealg.IndexString"], unfollowed := true, recurses := true, named := ["internal/bytealg.MaxLen"], apart := false }
def WalkPlaysSaid : Prop := walkPlaysRow.holds Tryz.pinned (OpenSpec.ofChange walkPlaysSpec)

/-- ITS FALSE NEIGHBOUR: 'it returns false'. Refute it at one input. -/
def walkPlaysWrong : ChangeSpec := { name := "walkPlays", fn := fun _ => fun
  | [d1, d2] => { results := [.lit (.bool false)], args := [d1, d2] }
  | _ => none }
def WalkPlaysWrongFalsely : Prop := walkPlaysRow.holds Tryz.pinned (OpenSpec.ofChange walkPlaysWrong)

/- THE SECOND FORM. 'bulk': how many values and letters a reading holds, each counted each time it is reached (what is shared counts as often as it is met; a slice's spare places count too). A statement '..UptoSaid' is the law's where the arguments, and the package variables that the reading takes, are together of bulk at most 1048576: NARROWER than '..Said'. Prove '..Said' where nothing that the law and all that it calls make is longer than what came in: it says more and counts as full. Else prove '..UptoSaid'. A law counts once. -/
mutual
def uptoBulk {H : Type} : DataW H → Nat
  | .lit (.string bytes) => bytes.length + 1
  | .lit _ => 1
  | .nil => 1
  | .ptr d => uptoBulk d + 1
  | .slice elems spare => uptoBulkAll elems + uptoBulkAll spare + 1
  | .agg parts => uptoBulkAll parts + 1
  | .iface _ d => uptoBulk d + 1
  | .map entries => uptoBulkEntries entries + 1
  | .held _ => 1
def uptoBulkAll {H : Type} : List (DataW H) → Nat
  | [] => 0
  | d :: r => uptoBulk d + uptoBulkAll r
def uptoBulkEntries {H : Type} : List (Lit × DataW H) → Nat
  | [] => 0
  | x :: r => uptoBulkEntry x + uptoBulkEntries r
def uptoBulkEntry {H : Type} : Lit × DataW H → Nat
  | (.string bytes, d) => bytes.length + uptoBulk d + 1
  | (_, d) => uptoBulk d + 1
 end
def uptoSmall : (H : Type) → List (DataW H) → Bool := fun _ ds => decide (uptoBulkAll ds ≤ 1048576)
def OpenSpec.upto (s : _root_.Go.ChangeSpec) : _root_.Go.OpenSpec := { _root_.Go.OpenSpec.ofChange s with cond := some uptoSmall }

/-- 'almonerlaw07.WalkOpens', WHERE WHAT IT READS IS OF BULK AT MOST 1048576: true; the input reads as it did. -/
def walkOpensUptoRow : OpenClaim := { program := "ytafonmnfeibaiaagreat", sum := "f0f84aaaec105d532f80c70198584b2531af14bd8478eee6ffbef7a0236e9d28", func := "almoner/almonerlaw07.WalkOpens", spec := "walkOpens", inPlace := ["internal/bytealg.IndexByteString", "internal/bytealg.IndexString"], unfollowed := true, recurses := true, named := ["internal/bytealg.MaxLen"], apart := false, narrowed := true }
def WalkOpensUptoSaid : Prop := walkOpensUptoRow.holds Tryz.pinned (OpenSpec.upto walkOpensSpec)

/-- 'almonerlaw07.WalkOwners', WHERE WHAT IT READS IS OF BULK AT MOST 1048576: true; the input reads as it did. -/
def walkOwnersUptoRow : OpenClaim := { program := "ytafonmnfeibaiaagreat", sum := "f0f84aaaec105d532f80c70198584b2531af14bd8478eee6ffbef7a0236e9d28", func := "almoner/almonerlaw07.WalkOwners", spec := "walkOwners", inPlace := ["internal/bytealg.IndexByteString", "internal/bytealg.IndexString"], unfollowed := true, recurses := true, named := ["internal/bytealg.MaxLen"], apart := false, narrowed := true }
def WalkOwnersUptoSaid : Prop := walkOwnersUptoRow.holds Tryz.pinned (OpenSpec.upto walkOwnersSpec)

/-- 'almonerlaw07.WalkShut', WHERE WHAT IT READS IS OF BULK AT MOST 1048576: true; the input reads as it did. -/
def walkShutUptoRow : OpenClaim := { program := "ytafonmnfeibaiaagreat", sum := "f0f84aaaec105d532f80c70198584b2531af14bd8478eee6ffbef7a0236e9d28", func := "almoner/almonerlaw07.WalkShut", spec := "walkShut", inPlace := ["internal/bytealg.IndexByteString", "internal/bytealg.IndexString"], unfollowed := true, recurses := true, named := ["internal/bytealg.MaxLen"], apart := false, narrowed := true }
def WalkShutUptoSaid : Prop := walkShutUptoRow.holds Tryz.pinned (OpenSpec.upto walkShutSpec)

/-- 'almonerlaw07.WalkEntries', WHERE WHAT IT READS IS OF BULK AT MOST 1048576: true; the input reads as it did. -/
def walkEntriesUptoRow : OpenClaim := { program := "ytafonmnfeibaiaagreat", sum := "f0f84aaaec105d532f80c70198584b2531af14bd8478eee6ffbef7a0236e9d28", func := "almoner/almonerlaw07.WalkEntries", spec := "walkEntries", inPlace := ["internal/bytealg.IndexByteString", "internal/bytealg.IndexString"], unfollowed := true, recurses := true, named := ["internal/bytealg.MaxLen"], apart := false, narrowed := true }
def WalkEntriesUptoSaid : Prop := walkEntriesUptoRow.holds Tryz.pinned (OpenSpec.upto walkEntriesSpec)

/-- 'almonerlaw07.WalkPlays', WHERE WHAT IT READS IS OF BULK AT MOST 1048576: true; the input reads as it did. -/
def walkPlaysUptoRow : OpenClaim := { program := "ytafonmnfeibaiaagreat", sum := "f0f84aaaec105d532f80c70198584b2531af14bd8478eee6ffbef7a0236e9d28", func := "almoner/almonerlaw07.WalkPlays", spec := "walkPlays", inPlace := ["internal/bytealg.IndexByteString", "internal/bytealg.IndexString"], unfollowed := true, recurses := true, named := ["internal/bytealg.MaxLen"], apart := false, narrowed := true }
def WalkPlaysUptoSaid : Prop := walkPlaysUptoRow.holds Tryz.pinned (OpenSpec.upto walkPlaysSpec)

end Rows
end Go.Proofs.YtafonmnfeibaiaaGreat
