/- datum.Right. No condition but that the tables of package utf8 lie as its text lays them. -/
import Derived.Test.YtgdneoajmaeckaaGreatDoorSh2
import Derived.Test.YtgdneoajmaeckaaGreatDoorPlain
import Derived.Test.YtgdneoajmaeckaaGreatDoorFr
import Derived.Lib.Hide
namespace Go.Proofs.YtgdneoajmaeckaaGreatDoor
open Go.RowKit

theorem tabs_fr {w w' : World} {S : List Nat} (h : Lib.Utf8Tabs 1 2 w) (f : Fr S w w') (h0 : 1 ∉ S) (h1 : 2 ∉ S) : Lib.Utf8Tabs 1 2 w' :=
  ⟨fun c hc => f.cell (h.1 c hc) h0, fun i hi => ⟨f.cell (h.2 i hi).1 h1, f.cell (h.2 i hi).2 h1⟩⟩

theorem isEmpty_data (s : ByteArray) : s.toList.isEmpty = s.data.isEmpty := by
  rw [ByteArray.toList_eq]; simp

set_option maxHeartbeats 1600000 in
theorem dright_any (k i : Int) (s : ByteArray) (w : World) (hs : s.size ≤ 9223372036854775807) (hT : Lib.Utf8Tabs 1 2 w) :
    Calls Tryz.prog 89 #[.agg #[.int .i64 k, .int .i64 i, .string s]] w fun e w' => e = .returned (.bool (rightB ⟨k, i, s.data.toList⟩)) ∧ Fr [] w w' := by
  have HT := Lib.hid hT
  have HE := Lib.hid (isEmpty_data s)
  clear hT
  by_cases k0 : k = 0
  · subst k0
    go_enter Tryz.func89, Tryz.ntmps89
    go_wp2_with (go_at_call 102; refine (Tryz.utf8_ValidString s _ hs (tabs_fr HT.out ((Fr.refl [] w).alloc _) (by simp) (by simp))).mono ?_; rintro e w1 ⟨rfl, hb1⟩)
    all_goals go_ret
    all_goals refine ⟨?_, ?_⟩
    all_goals (first | exact (Fr.refl _ _).alloc _ | exact ((Fr.refl [] w).alloc _).trans (Fr.ofBelow hb1) | skip)
    all_goals (simp [rightB, HE.out, *])
    all_goals (first | omega | (intro _; omega))
  by_cases k1 : k = 1
  · subst k1
    go_enter Tryz.func89, Tryz.ntmps89
    go_wp2_with (go_at_call 102; refine (Tryz.utf8_ValidString s _ hs (tabs_fr HT.out ((Fr.refl [] w).alloc _) (by simp) (by simp))).mono ?_; rintro e w1 ⟨rfl, hb1⟩)
    all_goals go_ret
    all_goals refine ⟨?_, ?_⟩
    all_goals (first | exact (Fr.refl _ _).alloc _ | exact ((Fr.refl [] w).alloc _).trans (Fr.ofBelow hb1) | skip)
    all_goals (simp [rightB, HE.out, *])
    all_goals (first | omega | (intro _; omega))
  by_cases k2 : k = 2
  · subst k2
    go_enter Tryz.func89, Tryz.ntmps89
    go_wp2_with (go_at_call 102; refine (Tryz.utf8_ValidString s _ hs (tabs_fr HT.out ((Fr.refl [] w).alloc _) (by simp) (by simp))).mono ?_; rintro e w1 ⟨rfl, hb1⟩)
    all_goals go_ret
    all_goals refine ⟨?_, ?_⟩
    all_goals (first | exact (Fr.refl _ _).alloc _ | exact ((Fr.refl [] w).alloc _).trans (Fr.ofBelow hb1) | skip)
    all_goals (simp [rightB, HE.out, *])
    all_goals (first | omega | (intro _; omega))
  by_cases k3 : k = 3
  · subst k3
    go_enter Tryz.func89, Tryz.ntmps89
    go_wp2_with (go_at_call 102; refine (Tryz.utf8_ValidString s _ hs (tabs_fr HT.out ((Fr.refl [] w).alloc _) (by simp) (by simp))).mono ?_; rintro e w1 ⟨rfl, hb1⟩)
    all_goals go_ret
    all_goals refine ⟨?_, ?_⟩
    all_goals (first | exact (Fr.refl _ _).alloc _ | exact ((Fr.refl [] w).alloc _).trans (Fr.ofBelow hb1) | skip)
    all_goals (simp [rightB, HE.out, *])
    all_goals (first | omega | (intro _; omega))
  by_cases k4 : k = 4
  · subst k4
    go_enter Tryz.func89, Tryz.ntmps89
    go_wp2_with (go_at_call 102; refine (Tryz.utf8_ValidString s _ hs (tabs_fr HT.out ((Fr.refl [] w).alloc _) (by simp) (by simp))).mono ?_; rintro e w1 ⟨rfl, hb1⟩)
    all_goals go_ret
    all_goals refine ⟨?_, ?_⟩
    all_goals (first | exact (Fr.refl _ _).alloc _ | exact ((Fr.refl [] w).alloc _).trans (Fr.ofBelow hb1) | skip)
    all_goals (simp [rightB, *])
    all_goals (first | omega | (intro _; omega))
  by_cases k5 : k = 5
  · subst k5
    go_enter Tryz.func89, Tryz.ntmps89
    go_wp2_with (go_at_call 102; refine (Tryz.utf8_ValidString s _ hs (tabs_fr HT.out ((Fr.refl [] w).alloc _) (by simp) (by simp))).mono ?_; rintro e w1 ⟨rfl, hb1⟩)
    all_goals go_ret
    all_goals refine ⟨?_, ?_⟩
    all_goals (first | exact (Fr.refl _ _).alloc _ | exact ((Fr.refl [] w).alloc _).trans (Fr.ofBelow hb1) | skip)
    all_goals (simp [rightB, *])
    all_goals (first | omega | (intro _; omega))
  have h0 : (k == 0) = false := by simpa using k0
  have h1 : (k == 1) = false := by simpa using k1
  have h2 : (k == 2) = false := by simpa using k2
  have h3 : (k == 3) = false := by simpa using k3
  have h4 : (k == 4) = false := by simpa using k4
  have h5 : (k == 5) = false := by simpa using k5
  have HK : Hid (k ≠ 0 ∧ k ≠ 1 ∧ k ≠ 2 ∧ k ≠ 3 ∧ k ≠ 4 ∧ k ≠ 5) := ⟨k0, k1, k2, k3, k4, k5⟩
  clear k0 k1 k2 k3 k4 k5
  go_enter Tryz.func89, Tryz.ntmps89
  go_wp2_with (go_at_call 102; refine (Tryz.utf8_ValidString s _ hs (tabs_fr HT.out ((Fr.refl [] w).alloc _) (by simp) (by simp))).mono ?_; rintro e w1 ⟨rfl, hb1⟩)
  all_goals go_ret
  all_goals refine ⟨?_, ?_⟩
  all_goals (first | exact (Fr.refl _ _).alloc _ | exact ((Fr.refl [] w).alloc _).trans (Fr.ofBelow hb1) | skip)
  all_goals (simp [rightB, HK.out, *])
  all_goals (first | omega | (intro _; omega))

end Go.Proofs.YtgdneoajmaeckaaGreatDoor
