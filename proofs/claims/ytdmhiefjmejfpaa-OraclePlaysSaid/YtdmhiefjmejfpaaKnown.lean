/- 'known' of the oracle's statements answers true. No condition. -/
import Derived.Test.YtdmhiefjmejfpaaMeth
namespace Go.Proofs.Ytdmhiefjmejfpaa
open Go.RowKit Go.Maps

theorem known_any (w : World) : Calls Try.prog 6 #[] w fun e w' => e = .returned (.bool true) ∧ Fr [] w w' := by
  go_enter Try.func6, Try.ntmps6
  go_wp2_with fail
  refine (new_yes 5 (by decide) (by decide)).mono ?_
  rintro e w1 ⟨bx, bm, rfl, hx, hm, o1, f1⟩
  go_wp2_with fail
  refine (write_some o1 (by decide) (by decide)).mono ?_
  rintro e w2 ⟨rfl, o2, f2⟩
  replace o2 : Own w2 bx bm ⟨6, 5, [], 0⟩ := o2
  go_wp2_with fail
  refine (write_some o2 (by decide) (by decide)).mono ?_
  rintro e w3 ⟨rfl, o3, f3⟩
  replace o3 : Own w3 bx bm ⟨7, 5, [], 0⟩ := o3
  go_wp2_with fail
  refine (read_any o3).mono ?_
  rintro e w' ⟨rfl, rfl⟩
  go_wp2_with fail
  refine (settle_yes o3 6 (by decide) (by decide)).mono ?_
  rintro e w4 ⟨rfl, o4, f4⟩
  replace o4 : Own w4 bx bm ⟨7, 6, [], 0⟩ := o4
  have g4 : Good ⟨7, 6, [], 0⟩ := ⟨by simp, by simp, by simp, by simp, by simp, List.Pairwise.nil, by simp, by simp⟩
  go_wp2_with fail
  refine (settle_no o4 8 (by decide)).mono ?_
  rintro e w' ⟨rfl, rfl⟩
  go_wp2_with fail
  refine (least_any o4 g4).mono ?_
  rintro e w5 ⟨rfl, f5⟩
  have o5 := o4.fr f5 (by simp) (by simp)
  go_wp2_with fail
  refine (hold_yes o5 g4 6 (by decide) (by decide) (by decide) (by decide)).mono ?_
  rintro e w6 ⟨rfl, o6, f6⟩
  replace o6 : Own w6 bx bm ⟨7, 6, [(1, 6)], 1⟩ := o6
  go_wp2_with fail
  refine (free_yes o6 1 6 (by decide) (by decide)).mono ?_
  rintro e w7 ⟨rfl, o7, f7⟩
  replace o7 : Own w7 bx bm ⟨7, 6, [], 1⟩ := o7
  go_wp2_with fail
  refine (free_no o7 1 (by decide) (by decide)).mono ?_
  rintro e w8 ⟨rfl, f8⟩
  go_wp2
  go_ret
  have hb1 : ∀ x ∈ [bx], w.heap.size ≤ x ∨ x ∈ [] := by simp; omega
  have hb2 : ∀ x ∈ [bm], w.heap.size ≤ x ∨ x ∈ [] := by simp; omega
  have hb3 : ∀ x ∈ [bx, bm], w.heap.size ≤ x ∨ x ∈ [] := by simp; omega
  exact ⟨rfl, ((((((f1.past f2 hb1).past f3 hb1).past f4 hb1).trans f5).past f6 hb3).past f7 hb2).trans f8⟩

end Go.Proofs.Ytdmhiefjmejfpaa
