/- That the variable MaxLen lies stays so. No condition. -/
import Derived.Test.YtgdneoajmaeckaaGreatDoorSl
namespace Go.Proofs.YtgdneoajmaeckaaGreatDoor
open Go.RowKit

theorem SomeMax.lt {w : World} (h : SomeMax w) : 0 < w.heap.size := by
  obtain ⟨m, h⟩ := h
  exact World.block_lt_of_cell? w _ h
theorem SomeMax.past {w w' : World} {L : List Nat} (h : SomeMax w) (f : Fr L w w') (hL : 0 ∉ L) : SomeMax w' := by
  obtain ⟨m, h⟩ := h
  exact ⟨m, f.cell h hL⟩
end Go.Proofs.YtgdneoajmaeckaaGreatDoor
