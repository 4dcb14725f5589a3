/- freshetref01.Right. No condition but the size that can be read. -/
import Derived.Test.YtgdneoajmaeckaaGreatDoorRun
import Derived.Test.YtgdneoajmaeckaaGreatDoorMm
namespace Go.Proofs.YtgdneoajmaeckaaGreatDoor
open Go.RowKit

theorem ret_bool {a b : Bool} (h : a = b) : Ending.returned (.bool a) = .returned (.bool b) := by rw [h]
theorem right_small {k i : Int} {l : List UInt8} (hk : k = 0 ∨ k = 1 ∨ k = 2 ∨ k = 3) (h : l ≠ []) : rightB ⟨k, i, l⟩ = false := by
  rcases hk with rfl | rfl | rfl | rfl <;> simp [rightB, h]
theorem right_none {k i : Int} {l : List UInt8} (h : k < 0 ∨ 5 < k) : rightB ⟨k, i, l⟩ = false := by
  have h0 : k ≠ 0 := by omega
  have h1 : k ≠ 1 := by omega
  have h2 : k ≠ 2 := by omega
  have h3 : k ≠ 3 := by omega
  have h4 : k ≠ 4 := by omega
  have h5 : k ≠ 5 := by omega
  simp [rightB, h0, h1, h2, h3, h4, h5]

set_option maxRecDepth 100000
set_option maxHeartbeats 1600000 in
theorem rright_any (k i : Int) (s : ByteArray) (w : World) (hs : s.size ≤ 140737488351232) :
    Calls Tryz.prog 94 #[.agg #[.int .i64 k, .int .i64 i, .string s]] w fun e w' => e = .returned (.bool (rightB ⟨k, i, s.data.toList⟩)) ∧ Fr [] w w' := by
  have hlen : s.data.toList.length = s.size := by rw [Array.length_toList]; rfl
  have HLen := Lib.hid hlen
  clear hlen
  by_cases hk : k < 0 ∨ 5 < k
  · have HB := Lib.hid (right_none (i := i) (l := s.data.toList) hk)
    rcases hk with hk | hk
    all_goals
      go_enter Tryz.func94, Tryz.ntmps94
      go_wp2_with fail
      go_ret
      exact ⟨ret_bool HB.out.symm, (Fr.refl _ _).alloc _⟩
  · by_cases h4 : k < 4
    · have hk4 : k = 0 ∨ k = 1 ∨ k = 2 ∨ k = 3 := by omega
      by_cases hz : s.size = 0
      · have hnil : s.data.toList = [] := List.length_eq_zero_iff.1 (by rw [HLen.out]; exact hz)
        have hE : s.toList = [] := by rw [ByteArray.toList_eq]; exact hnil
        have HNil := Lib.hid hnil
        have hval : Lib.validD s.data.toList = true := by rw [hnil]; rfl
        have HVal := Lib.hid hval
        have hr : ∀ wi, Calls Tryz.prog 106 #[.string s] wi fun e w' => (∃ n : Int, e = .returned (.tuple #[.int .i64 n, .bool true])) ∧ Fr [] wi w' := fun wi => (runes_any s wi hs).mono fun e w' ⟨⟨n, he⟩, f⟩ => ⟨⟨n, by rw [he, hval]⟩, f⟩
        clear hnil hval
        rcases hk4 with rfl | rfl | rfl | rfl
        all_goals
          go_enter Tryz.func94, Tryz.ntmps94
          go_wp2_with (go_at_call 106; refine (hr _).mono ?_; rintro e w1 ⟨⟨n, rfl⟩, f1⟩)
          all_goals go_ret
          all_goals refine ⟨?_, ?_⟩
          all_goals first | exact (Fr.refl _ _).alloc _ | exact ((Fr.refl [] w).alloc _).trans f1 | skip
          all_goals rw [HNil.out]
          all_goals simp [rightB]
          all_goals first | rfl | omega | skip
      · have hne : s.data.toList ≠ [] := fun e => hz (by have := HLen.out; rw [e] at this; exact this.symm)
        have hE : ¬ s.toList = [] := by rw [ByteArray.toList_eq]; exact hne
        have HB := Lib.hid (right_small (i := i) hk4 hne)
        clear hne
        rcases hk4 with rfl | rfl | rfl | rfl
        all_goals
          go_enter Tryz.func94, Tryz.ntmps94
          go_wp2_with fail
          go_ret
          exact ⟨ret_bool HB.out.symm, (Fr.refl _ _).alloc _⟩
    · have hk5 : k = 4 ∨ k = 5 := by omega
      by_cases hi : i = 0
      · by_cases hl : s.size ≤ 1000
        · subst hi
          cases hv : Lib.validD s.data.toList
          all_goals
            have HV := Lib.hid hv
            have hr : ∀ wi, Calls Tryz.prog 106 #[.string s] wi fun e w' => (∃ n : Int, e = .returned (.tuple #[.int .i64 n, .bool (Lib.validD s.data.toList)])) ∧ Fr [] wi w' := fun wi => (runes_any s wi hs).mono fun e w' ⟨⟨n, he⟩, f⟩ => ⟨⟨n, he⟩, f⟩
            rw [hv] at hr
            clear hv
            rcases hk5 with rfl | rfl
            all_goals
              go_enter Tryz.func94, Tryz.ntmps94
              go_wp2_with (go_at_call 106; refine (hr _).mono ?_; rintro e w1 ⟨⟨n, rfl⟩, f1⟩; have c0 := f1.cell (cell_blk (heap_alloc_new w (.cells #[.int .i64 _, .int .i64 0, .string s] 103)) 0 _ rfl) (by simp))
              go_ret
              refine ⟨?_, ((Fr.refl [] w).alloc _).trans f1⟩
              have := HLen.out
              simp [rightB, HV.out]
              try omega
        · have hl1 : 1000 < s.size := by omega
          have HB := Lib.hid (show rightB ⟨k, i, s.data.toList⟩ = false by
            have h2 : ¬ s.data.toList.length ≤ 1000 := by have := HLen.out; omega
            rcases hk5 with rfl | rfl <;> (simp only [rightB, decide_eq_false h2]; simp))
          subst hi
          rcases hk5 with rfl | rfl
          all_goals
            go_enter Tryz.func94, Tryz.ntmps94
            go_wp2_with fail
            go_ret
            exact ⟨ret_bool HB.out.symm, (Fr.refl _ _).alloc _⟩
      · have HB := Lib.hid (show rightB ⟨k, i, s.data.toList⟩ = false by
            rcases hk5 with rfl | rfl <;> simp [rightB, hi])
        rcases hk5 with rfl | rfl
        all_goals
          go_enter Tryz.func94, Tryz.ntmps94
          go_wp2_with fail
          go_ret
          exact ⟨ret_bool HB.out.symm, (Fr.refl _ _).alloc _⟩
end Go.Proofs.YtgdneoajmaeckaaGreatDoor
