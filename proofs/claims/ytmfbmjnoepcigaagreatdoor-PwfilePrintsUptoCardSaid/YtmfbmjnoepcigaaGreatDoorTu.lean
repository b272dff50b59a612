/- What the bulk of users says of their texts. -/
import Derived.Test.YtmfbmjnoepcigaaGreatDoorT
import Derived.Test.YtmfbmjnoepcigaaGreatDoorRf
import Derived.Test.YtmfbmjnoepcigaaGreatDoorRows
namespace Go.Proofs.YtmfbmjnoepcigaaGreatDoor
open Go.ChangeShapes Go.WideShapes Go.ChangeAt Go.RowKit

theorem bulk_str {H : Type} {d : DataW H} {t : TypeId} (ht : t = 9 ∨ t = 3) {k : Nat} (h : k ∈ d.weights Tryz.prog t) : k ≤ Rows.uptoBulk d := by
  rcases ht with rfl | rfl
  · cases d with
    | lit l => cases l <;> simp [DataW.weights, Rows.uptoBulk] at h ⊢ <;> omega
    | _ => simp [DataW.weights, Tryz.underlying9] at h
  · cases d with
    | lit l => cases l <;> simp [DataW.weights, Rows.uptoBulk] at h ⊢ <;> omega
    | _ => simp [DataW.weights, Tryz.underlying3] at h
theorem bulk_each {H : Type} : ∀ {ts : List TypeId} {ds : List (DataW H)} {k : Nat}, (∀ t ∈ ts, t = 9 ∨ t = 3) → k ∈ DataW.weightsEach Tryz.prog ts ds → k ≤ Rows.uptoBulkAll ds
  | [], _, _, _, h => by simp [DataW.weightsEach] at h
  | _ :: _, [], _, _, h => by simp [DataW.weightsEach] at h
  | t :: ts, d :: ds, k, ht, h => by
    simp only [DataW.weightsEach, List.mem_append] at h
    simp only [Rows.uptoBulkAll]
    rcases h with h | h
    · have := bulk_str (ht t (by simp)) h; omega
    · have := bulk_each (fun t' h' => ht t' (by simp [h'])) h; omega
theorem bulk_user {H : Type} {d : DataW H} {k : Nat} (h : k ∈ d.weights Tryz.prog 29) : k ≤ Rows.uptoBulk d := by
  cases d with
  | lit l => cases l <;> simp [DataW.weights, Rows.uptoBulk] at h ⊢ <;> omega
  | agg parts =>
    simp only [DataW.weights, Tryz.underlying29] at h
    simp only [Rows.uptoBulk]
    have := bulk_each (ts := _) (by decide) h
    omega
  | _ => simp [DataW.weights, Tryz.underlying29] at h
theorem bulk_mem {H : Type} {x : DataW H} : ∀ {l : List (DataW H)}, x ∈ l → Rows.uptoBulk x ≤ Rows.uptoBulkAll l
  | [], h => by cases h
  | y :: l, h => by
    simp only [Rows.uptoBulkAll]
    rcases List.mem_cons.1 h with rfl | h
    · omega
    · have := bulk_mem h; omega
theorem users_bulk {H : Type} {d : DataW H} {fs : List UserS} (hd : UserD d fs) (h : Rows.uptoBulk d ≤ 1048576) : ∀ f ∈ fs, SzV f := by
  intro f hf
  rcases hd with ⟨_, rfl⟩ | ⟨el, sp, rfl, _, hm⟩
  · cases hf
  · obtain ⟨x, hx, hw⟩ := hm f hf
    have key : ∀ k, k ∈ x.weights Tryz.prog 29 → k ≤ 1048576 := fun k hk => by
      have h1 := bulk_user hk
      have h2 := bulk_mem hx
      simp only [Rows.uptoBulk] at h
      omega
    refine ⟨?_, ?_, ?_, ?_⟩
    · rw [← sz]; have := key _ hw.name; omega
    · rw [← sz]; have := key _ hw.pass; omega
    · rw [← sz]; exact key _ hw.home
    · rw [← sz]; exact key _ hw.shell
end Go.Proofs.YtmfbmjnoepcigaaGreatDoor
