/- freshetref01.Compare: how two values stand. No condition. -/
import Derived.Test.YtgdneoajmaeckaaDoorRows
import Derived.Test.YtgdneoajmaeckaaDoorOrd
import Derived.Test.YtgdneoajmaeckaaDoorFr
import Derived.Lib.Hide
import Derived.Lib.Strings
import Derived.WalkKit
namespace Go.Proofs.YtgdneoajmaeckaaDoor
open Go.RowKit Go.Lib

theorem ret_int {k : IntKind} {a b : Int} (h : a = b) : Ending.returned (.int k a) = .returned (.int k b) := by rw [h]

theorem alloc_two (w : World) (a b : Obj) : Fr [] w ((w.alloc a).alloc b) := ((Fr.refl [] w).alloc a).alloc b

set_option maxRecDepth 100000
set_option maxHeartbeats 1600000 in
theorem rcmp_any (k i k' i' : Int) (s s' : ByteArray) (w : World) :
    Calls Tryd.prog 54 #[.agg #[.int .i64 k, .int .i64 i, .string s], .agg #[.int .i64 k', .int .i64 i', .string s']] w
      fun e w' => e = .returned (.int .i64 (cmpD ⟨k, i, s.data.toList⟩ ⟨k', i', s'.data.toList⟩)) ∧ Fr [] w w' := by
  rcases Int.lt_trichotomy k k' with hk | hk | hk
  · have HR := Lib.hid (show cmpD ⟨k, i, s.data.toList⟩ ⟨k', i', s'.data.toList⟩ = -1 by simp [cmpD, cmpI, hk])
    go_enter Tryd.func54, Tryd.ntmps54
    go_wp2
    go_ret
    exact ⟨ret_int HR.out.symm, alloc_two _ _ _⟩
  · subst hk
    rcases Int.lt_trichotomy i i' with hi | hi | hi
    · have HR := Lib.hid (show cmpD ⟨k, i, s.data.toList⟩ ⟨k, i', s'.data.toList⟩ = -1 by simp [cmpD, cmpI, hi])
      have hk0 : ¬ k < k := by omega
      go_enter Tryd.func54, Tryd.ntmps54
      go_wp2
      go_ret
      exact ⟨ret_int HR.out.symm, alloc_two _ _ _⟩
    · subst hi
      have hk0 : ¬ k < k := by omega
      have hi0 : ¬ i < i := by omega
      have HR := Lib.hid (show cmpD ⟨k, i, s.data.toList⟩ ⟨k, i, s'.data.toList⟩ = compareBytes s.data.toList s'.data.toList by simp [cmpD, cmpI])
      have hb : Op.bytesLess s.toList s'.toList = decide (compareBytes s.data.toList s'.data.toList < 0) := by
        rw [ByteArray.toList_eq, ByteArray.toList_eq]; exact less_cmpS _ _
      rcases cmpS_range s.data.toList s'.data.toList with hc | hc | hc
      · have hL : Op.bytesLess s.toList s'.toList = true := by rw [hb, hc]; rfl
        have HC := Lib.hid hc
        clear hb hc
        go_enter Tryd.func54, Tryd.ntmps54
        go_wp2
        go_ret
        exact ⟨ret_int (HR.out.trans HC.out).symm, alloc_two _ _ _⟩
      · have hL : Op.bytesLess s.toList s'.toList = false := by rw [hb, hc]; rfl
        have hE : (s.toList == s'.toList) = true := by rw [ByteArray.toList_eq, ByteArray.toList_eq, cmpS_eq hc]; simp
        have HC := Lib.hid hc
        clear hb hc
        go_enter Tryd.func54, Tryd.ntmps54
        go_wp2
        go_ret
        exact ⟨ret_int (HR.out.trans HC.out).symm, alloc_two _ _ _⟩
      · have hL : Op.bytesLess s.toList s'.toList = false := by rw [hb, hc]; rfl
        have hE : (s.toList == s'.toList) = false := by
          rw [ByteArray.toList_eq, ByteArray.toList_eq]
          refine Bool.eq_false_iff.2 fun e => ?_
          rw [eq_of_beq e, cmpS_self] at hc
          cases hc
        have HC := Lib.hid hc
        clear hb hc
        go_enter Tryd.func54, Tryd.ntmps54
        go_wp2
        go_ret
        exact ⟨ret_int (HR.out.trans HC.out).symm, alloc_two _ _ _⟩
    · have HR := Lib.hid (show cmpD ⟨k, i, s.data.toList⟩ ⟨k, i', s'.data.toList⟩ = 1 by
        have : ¬ i < i' := by omega
        simp [cmpD, cmpI, hi, this])
      have hk0 : ¬ k < k := by omega
      have hi1 : ¬ i < i' := by omega
      have hi2 : (i == i') = false := by simp; omega
      go_enter Tryd.func54, Tryd.ntmps54
      go_wp2
      go_ret
      exact ⟨ret_int HR.out.symm, alloc_two _ _ _⟩
  · have HR := Lib.hid (show cmpD ⟨k, i, s.data.toList⟩ ⟨k', i', s'.data.toList⟩ = 1 by
      have : ¬ k < k' := by omega
      simp [cmpD, cmpI, hk, this])
    have hk1 : ¬ k < k' := by omega
    have hk2 : (k == k') = false := by simp; omega
    go_enter Tryd.func54, Tryd.ntmps54
    go_wp2
    go_ret
    exact ⟨ret_int HR.out.symm, alloc_two _ _ _⟩

end Go.Proofs.YtgdneoajmaeckaaDoor
