/- The document's Text. -/
import Derived.Test.YtpoicdpfjmeehaaDoorO
import Derived.Laws.OwnMore
namespace Go.Proofs.YtpoicdpfjmeehaaDoor
open Go.RowKit

/-- A byte of the document's text, by its bit. -/
def rb (m i : Nat) : UInt8 := if (m / 2 ^ i) &&& 1 = 1 then (if i % 3 = 0 then 120 else if i % 3 = 1 then 119 else 114) else 45
def rbs (m : Nat) : Nat → Bytes
  | 0 => []
  | i + 1 => rbs m i ++ [rb m (8 - i)]
def rset3 (m : Nat) (l : Bytes) : Bytes := if m &&& 2048 = 0 then l else l.set 3 (if m &&& 64 = 0 then 83 else 115)
def rset9 (m : Nat) (l : Bytes) : Bytes := if m &&& 512 = 0 then l else l.set 9 (if m &&& 1 = 0 then 84 else 116)
theorem rtext0 : ∀ hi : Fin 48, ∀ lo : Fin 64, rset9 (hi.val * 64 + lo.val) (rset3 (hi.val * 64 + lo.val) (45 :: rbs (hi.val * 64 + lo.val) 9)) = 45 :: tbs (hi.val * 64 + lo.val) 9 := by decide +kernel
theorem rset3_head (m : Nat) (c : UInt8) (l : Bytes) : rset3 m (c :: l) = c :: (rset3 m (45 :: l)).tail := by
  unfold rset3; split <;> rfl
theorem rset9_head (m : Nat) (c : UInt8) (l : Bytes) : rset9 m (c :: l) = c :: (rset9 m (45 :: l)).tail := by
  unfold rset9; split <;> rfl
theorem rtext_eq (k m : Nat) (hm : m ≤ 3071) : rset9 m (rset3 m (khead k :: rbs m 9)) = textS k m := by
  have h := rtext0 ⟨m / 64, by omega⟩ ⟨m % 64, by omega⟩
  simp only [show m / 64 * 64 + m % 64 = m by omega] at h
  rw [rset3_head, rset9_head]
  rw [rset3_head m 45, rset9_head m 45] at h
  have h2 := congrArg List.tail h
  simp only [List.tail_cons] at h2
  unfold textS
  rw [h2]
end Go.Proofs.YtpoicdpfjmeehaaDoor
