/- SessionRoom: the walk. Conditions: the sizes; the listed tables lie as their text lays them. -/
import Derived.Test.YtgdneoajmaeckaaDoorRoa
import Derived.Test.YtgdneoajmaeckaaDoorRob
import Derived.Test.YtgdneoajmaeckaaDoorRoc
namespace Go.Proofs.YtgdneoajmaeckaaDoor
open Go.RowKit

theorem sroom_any {w : World} (room : Int) {v v' : Value} {notes : List Nt} {takes : List Int} (hn : NotesAt w v notes) (ht : IntsAt w v' takes) (hT : Tabs w) :
    Calls Tryd.prog 6 #[.int .i64 room, v, v'] w fun e w' => e = .returned (.bool true) ∧ Fr [] w w' := by
  by_cases h1 : room < 20
  · exact sroom_a room h1 hn ht hT
  · by_cases h2 : 400 < room
    · exact sroom_b room (by omega) h2 hn ht hT
    · exact sroom_c room (by omega) (by omega) hn ht hT
end Go.Proofs.YtgdneoajmaeckaaDoor
