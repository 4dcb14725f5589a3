/- SessionPlays: the walk. Conditions: the sizes; the listed tables lie as their text lays them. -/
import Derived.Test.YtgdneoajmaeckaaGreatDoorPlw
namespace Go.Proofs.YtgdneoajmaeckaaGreatDoor
open Go.RowKit

set_option maxRecDepth 100000
set_option maxHeartbeats 3200000 in
theorem plays_no {w : World} (room : Int) (hr : room < 1 ∨ 1048576 < room) {v : Value} {ops : List Opn} (ho : OpsAt w v ops) :
    Calls Tryz.prog 3 #[.int .i64 room, v] w fun e w' => e = .returned (.bool true) ∧ Fr [] w w' := by
  obtain ⟨oa, oc, rfl, -, -⟩ := ho.shape
  clear ho
  have hnew := new_no room w hr
  have hrnew := fun w1 => rnew_no room w1 hr
  go_enter Tryz.func3, Tryz.ntmps3
  go_wp2_with (first
    | (go_at_call 4; refine hnew.mono ?_; rintro e w1 ⟨rfl, f1⟩)
    | (go_at_call 5; refine (hrnew _).mono ?_; rintro e w2 ⟨⟨q, rfl⟩, f2⟩))
  go_ret
  exact ⟨rfl, f1.trans f2⟩

theorem plays_any {w : World} (room : Int) {v : Value} {ops : List Opn} (ho : OpsAt w v ops) (hT : Tabs w) :
    Calls Tryz.prog 3 #[.int .i64 room, v] w fun e w' => e = .returned (.bool true) ∧ Fr [] w w' := by
  by_cases h1 : room < 1
  · exact plays_no room (Or.inl h1) ho
  · by_cases h2 : 1048576 < room
    · exact plays_no room (Or.inr h2) ho
    · exact plays_yes room ho hT (by omega) (by omega)
end Go.Proofs.YtgdneoajmaeckaaGreatDoor
