/- The walk of RowBytes. No condition but the size that can be read, and that the tables of package utf8 and the variable MaxLen lie as their text lays them. -/
import Derived.Test.YtpcmibimglkocaaDoorEncode
namespace Go.Proofs.YtpcmibimglkocaaDoor
open Go.RowKit

set_option maxRecDepth 100000
set_option maxHeartbeats 1600000 in
theorem bytes_walk {w : World} {v : Value} {ds : List Dt} (h : RowAt w v ds) (hok : ∀ d ∈ ds, DtOk d) (hm : ds.length ≤ 140737488351232) (hT : Lib.Utf8Tabs 0 1 w) (hM : SomeMax w) :
    Calls Tryd.prog 5 #[v] w fun e w' => e = .returned (.bool true) ∧ Below w.heap.size w w' := by
  have h1 := encode_any h hok hm hT hM
  have H := Lib.hid h
  have h2 : ∀ wi, Fr [] w wi → Calls Tryd.prog 13 #[v] wi fun e w' => e = .returned (.tuple #[.string ⟨(encE ds).1.toArray⟩, .int .i64 (encE ds).2]) ∧ Fr [] wi w' := fun wi f => rencode_any (H.out.fr f) hok hm
  obtain ⟨l, c⟩ := encE ds
  clear h hok hT hM
  go_enter Tryd.func5, Tryd.ntmps5
  go_wp2_with (first | (go_at_call 14; refine h1.mono ?_; rintro e w1 ⟨rfl, f1⟩) | (go_at_call 13; refine (h2 _ f1).mono ?_; rintro e w2 ⟨rfl, f2⟩))
  all_goals go_ret
  all_goals exact ⟨rfl, (f1.trans f2).below (Nat.le_refl _) (by simp)⟩
end Go.Proofs.YtpcmibimglkocaaDoor
