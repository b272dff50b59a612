/- A nil slice has no room. -/
import Derived.Test.YthomdgejbkcljaaDoorN
import Derived.Test.YthomdgejbkcljaaDoorT
namespace Go.Proofs.YthomdgejbkcljaaDoor
open Go.ChangeShapes Go.WideShapes Go.ChangeAt Go.RowKit

theorem nil_cap {H : Type} {enc : TypeId × Value → H} {W : World} {A : Option Addr} {n c : Nat} {d : DataW H} {p : List MemPlace} (h : DataW.Trod enc Tryd.prog W 0 (fun _ => true) true 22 (.slice A n c) d p) (m : Nat) :
    ∀ c', Value.slice A n c = .slice none m c' → c' = 0 := by
  intro c' hv
  simp only [Value.slice.injEq] at hv
  obtain ⟨rfl, rfl, rfl⟩ := hv
  obtain ⟨fuel, hf⟩ := h
  rcases open_strings Tryd.underlying22 Tryd.underlying9 cells9 hf with ⟨hcs, _⟩ | ⟨a, len, cap, ss, hcs, _⟩
  · simp [Value.cells] at hcs
    exact hcs.2
  · simp [Value.cells] at hcs
end Go.Proofs.YthomdgejbkcljaaDoor
