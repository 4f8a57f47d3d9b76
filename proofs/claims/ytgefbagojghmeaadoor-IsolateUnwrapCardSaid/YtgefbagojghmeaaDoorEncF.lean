/-
  What the encoding of numbers is: valid, and read back as the numbers.
-/
import Derived.Test.YtgefbagojghmeaaDoorU8W8
import Derived.Test.YtgefbagojghmeaaDoorU8N
namespace Go.Proofs.YtgefbagojghmeaaDoor
open Go.RowKit

theorem encS_valid (xs : List Int) : Lib.validD (encS xs).data.toList = true := by
  unfold encS
  exact U8.valid_encN _ (fun n hn => by obtain ⟨x, _, rfl⟩ := List.mem_map.1 hn; exact norm_pt x)
theorem encS_dec (xs : List Int) (h : ∀ x ∈ xs, pointB x = true) : ints (U8.els (encS xs).data.toList) = xs := by
  unfold encS
  have e : U8.els (U8.encN (xs.map norm)).toArray.toList = xs.map norm := U8.els_encN _ (fun n hn => by obtain ⟨x, _, rfl⟩ := List.mem_map.1 hn; exact norm_pt x)
  rw [e]
  unfold ints
  rw [List.map_map]
  refine (List.map_congr_left (g := id) (fun x hx => ?_)).trans (List.map_id _)
  have hp := h x hx
  show ((norm x : Nat) : Int) = x
  unfold norm
  rw [if_pos hp]
  simp [pointB] at hp
  omega
theorem els_points (s : ByteArray) : ∀ x ∈ ints (U8.els s.data.toList), pointB x = true := by
  intro x hx
  unfold ints at hx
  obtain ⟨n, hn, rfl⟩ := List.mem_map.1 hx
  have := U8.els_pt _ _ (Nat.le_refl _) n hn
  obtain ⟨h1, h2⟩ := this
  simp [pointB]
  omega
end Go.Proofs.YtgefbagojghmeaaDoor
