/- datum.Compare: how two values stand, by the program. No condition. -/
import Derived.Test.YtjchlfblbmiceaaGreatRow
import Derived.Test.YtjchlfblbmiceaaGreatShelf
import Derived.StillTailTactics
import Derived.LoopN
import Derived.Deep.RegionWith
namespace Go.Proofs.YtjchlfblbmiceaaGreat
open Go.RowKit
open Go.Lib (compareBytes)

set_option maxRecDepth 100000
theorem cmpInt_any (x y : Int) (w : World) : Calls Tryz.prog 112 #[.int .i64 x, .int .i64 y] w fun e w' => e = .returned (.int .i64 (cmpI x y)) ∧ w' = w := by
  rcases Int.lt_trichotomy x y with h | h | h
  · have HR := Lib.hid (show cmpI x y = -1 by simp [cmpI, h])
    go_enter Tryz.func112, Tryz.ntmps112
    go_wp2
    go_ret
    exact ⟨ret_int HR.out.symm, rfl⟩
  · subst h
    have HR := Lib.hid (cmpI_self x)
    have h0 : ¬ x < x := by omega
    go_enter Tryz.func112, Tryz.ntmps112
    go_wp2
    go_ret
    exact ⟨ret_int HR.out.symm, rfl⟩
  · have h0 : ¬ x < y := by omega
    have HR := Lib.hid (show cmpI x y = 1 by simp [cmpI, h, h0])
    go_enter Tryz.func112, Tryz.ntmps112
    go_wp2
    go_ret
    exact ⟨ret_int HR.out.symm, rfl⟩

theorem cmpInt64_any (x y : Int) (w : World) : Calls Tryz.prog 67 #[.int .i64 x, .int .i64 y] w fun e w' => e = .returned (.int .i64 (cmpI x y)) ∧ w' = w := by
  rcases Int.lt_trichotomy x y with h | h | h
  · have HR := Lib.hid (show cmpI x y = -1 by simp [cmpI, h])
    go_enter Tryz.func67, Tryz.ntmps67
    go_wp2
    go_ret
    exact ⟨ret_int HR.out.symm, rfl⟩
  · subst h
    have HR := Lib.hid (cmpI_self x)
    have h0 : ¬ x < x := by omega
    go_enter Tryz.func67, Tryz.ntmps67
    go_wp2
    go_ret
    exact ⟨ret_int HR.out.symm, rfl⟩
  · have h0 : ¬ x < y := by omega
    have HR := Lib.hid (show cmpI x y = 1 by simp [cmpI, h, h0])
    go_enter Tryz.func67, Tryz.ntmps67
    go_wp2
    go_ret
    exact ⟨ret_int HR.out.symm, rfl⟩

theorem cellB {w : World} {b : Nat} {vs : Array Value} {t : Nat} (h : w.heap[b]? = some (.cells vs t)) (i : Nat) (v : Value) (hv : vs[i]? = some v) : w.cell? ⟨b, i, none⟩ = some v := by
  simp [World.cell?, h, hv]

/-- The first of the numbers that is not 0; 0: there is none. -/
def orI : List Int → Int
  | [] => 0
  | x :: l => if x ≠ 0 then x else orI l
theorem orI_zero (l : List Int) (k : Nat) (h : k < l.length) (hz : l[k] = 0) : orI (l.drop k) = orI (l.drop (k + 1)) := by
  rw [List.drop_eq_getElem_cons h, orI, if_neg (by simp [hz])]
theorem orI_some (l : List Int) (k : Nat) (h : k < l.length) (hz : l[k] ≠ 0) : orI (l.drop k) = l[k] := by
  rw [List.drop_eq_getElem_cons h, orI, if_pos hz]

set_option maxHeartbeats 800000 in
theorem or_any (g : Nat) (c : Nat) (l : List Int) (w : World) (hl : l.length ≤ 1000) (hcell : ∀ i (h : i < l.length), w.cell? ⟨g, i, none⟩ = some (.int .i64 l[i])) :
    Calls Tryz.prog 66 #[.slice (some ⟨g, 0, none⟩) l.length c] w fun e w' => e = .returned (.int .i64 (orI l)) ∧ w' = w := by
  have HC := Lib.hid hcell
  clear hcell
  go_enter Tryz.func66, Tryz.ntmps66
  go_wp2
  go_loop [8] (fun i => ∃ k : Nat, k ≤ l.length ∧ i = .int .i64 k ∧ Hid (orI l = orI (l.drop k))) (fun i => l.length - (intOf i).toNat)
  case atStart => exact ⟨0, Nat.zero_le _, rfl, Lib.hid rfl⟩
  case round =>
    obtain ⟨k, hk, rfl, HR⟩ := hrel
    by_cases hlt : k < l.length
    · have c0 := HC.out k hlt
      by_cases hz : l[k] = 0
      · have HN := Lib.hid (HR.out.trans (orI_zero l k hlt hz))
        rw [hz] at c0
        clear hz
        go_wp2
        go_round
        case rel => exact ⟨k + 1, by omega, by go_num, HN⟩
        case measure => simp [intOf]; omega
      · have HN := Lib.hid (HR.out.trans (orI_some l k hlt hz))
        generalize l[k] = x at *
        have hb : (x == 0) = false := by simpa using hz
        go_wp2
        go_ret
        exact ⟨ret_int HN.out.symm, rfl⟩
    · have hge : l.length ≤ k := by omega
      have HN := Lib.hid (show orI l = 0 by rw [HR.out, List.drop_eq_nil_of_le hge]; rfl)
      go_wp2
      go_ret
      exact ⟨ret_int HN.out.symm, rfl⟩

theorem cmpD_or (a b : Dt) : orI [cmpI a.kind b.kind, cmpI a.i b.i, compareBytes a.s b.s] = cmpD a b := by
  simp only [orI, cmpD]
  by_cases h : cmpI a.kind b.kind = 0
  · by_cases h2 : cmpI a.i b.i = 0
    · by_cases h3 : compareBytes a.s b.s = 0 <;> simp [h, h2, h3]
    · simp [h, h2]
  · simp [h]

set_option maxHeartbeats 1600000 in
theorem dcmp_any (k i k' i' : Int) (s s' : ByteArray) (w : World) :
    Calls Tryz.prog 94 #[.agg #[.int .i64 k, .int .i64 i, .string s], .agg #[.int .i64 k', .int .i64 i', .string s']] w
      fun e w' => e = .returned (.int .i64 (cmpD ⟨k, i, s.data.toList⟩ ⟨k', i', s'.data.toList⟩)) ∧ Fr [] w w' := by
  have HD := Lib.hid (cmpD_or ⟨k, i, s.data.toList⟩ ⟨k', i', s'.data.toList⟩)
  go_enter Tryz.func94, Tryz.ntmps94
  go_wp2_with fail
  have fa := alloc_two w (.cells #[.int .i64 k, .int .i64 i, .string s] 94) (.cells #[.int .i64 k', .int .i64 i', .string s'] 94)
  have hb1 := ((Fr.refl [] (w.alloc (.cells #[.int .i64 k, .int .i64 i, .string s] 94))).alloc (.cells #[.int .i64 k', .int .i64 i', .string s'] 94)).heap (heap_alloc_new w _) (by simp)
  have hb2 := heap_alloc_new (w.alloc (.cells #[.int .i64 k, .int .i64 i, .string s] 94)) (.cells #[.int .i64 k', .int .i64 i', .string s'] 94)
  rw [show (w.alloc (.cells #[.int .i64 k, .int .i64 i, .string s] 94)).heap.size = w.heap.size + 1 by simp] at hb2
  generalize (w.alloc (.cells #[.int .i64 k, .int .i64 i, .string s] 94)).alloc (.cells #[.int .i64 k', .int .i64 i', .string s'] 94) = w2 at *
  have x0 : w2.drew.cell? ⟨w.heap.size, 0, none⟩ = some (.int .i64 k) := cellB hb1 0 _ rfl
  have x1 : w2.drew.cell? ⟨w.heap.size, 1, none⟩ = some (.int .i64 i) := cellB hb1 1 _ rfl
  have x2 : w2.drew.cell? ⟨w.heap.size, 2, none⟩ = some (.string s) := cellB hb1 2 _ rfl
  have y0 : w2.drew.cell? ⟨w.heap.size + 1, 0, none⟩ = some (.int .i64 k') := cellB hb2 0 _ rfl
  have y1 : w2.drew.cell? ⟨w.heap.size + 1, 1, none⟩ = some (.int .i64 i') := cellB hb2 1 _ rfl
  have y2 : w2.drew.cell? ⟨w.heap.size + 1, 2, none⟩ = some (.string s') := cellB hb2 2 _ rfl
  have f2 : Fr [] w w2.drew := fa.drew
  clear hb1 hb2 fa
  refine wp_region_still_tail 15 (by kernel_rfl) (by kernel_rfl) ?_
  simp only [List.take_succ_cons, List.take_zero, List.drop_succ_cons, List.drop_zero]
  change wpStill _ _ w2.drew (fun a' => wpList _ _ _ _ a' w2.drew) _ _
  generalize w2.drew = w3 at *
  repeat still_step
  still_call (cmpInt_any k k' w3)
  repeat still_step
  still_call (cmpInt64_any i i' w3)
  repeat still_step
  still_call (Tryz.strings_Compare s s' w3)
  have hor : Calls Tryz.prog 66 #[.slice (some ⟨w3.heap.size, 0, none⟩) 3 3] (w3.alloc (.cells #[.int .i64 (cmpI k k'), .int .i64 (cmpI i i'), .int .i64 (compareBytes s.data.toList s'.data.toList)] 3))
      fun e w' => e = .returned (.int .i64 (cmpD ⟨k, i, s.data.toList⟩ ⟨k', i', s'.data.toList⟩)) ∧ w' = w3.alloc (.cells #[.int .i64 (cmpI k k'), .int .i64 (cmpI i i'), .int .i64 (compareBytes s.data.toList s'.data.toList)] 3) := by
    have := or_any w3.heap.size 3 [cmpI k k', cmpI i i', compareBytes s.data.toList s'.data.toList] (w3.alloc (.cells #[.int .i64 (cmpI k k'), .int .i64 (cmpI i i'), .int .i64 (compareBytes s.data.toList s'.data.toList)] 3)) (by simp) (by
      intro j hj
      refine cellB (heap_alloc_new w3 _) j _ ?_
      match j, hj with
      | 0, _ => rfl
      | 1, _ => rfl
      | 2, _ => rfl)
    rw [HD.out] at this
    exact this
  refine wpStill_nil ?_
  show wpList _ _ _ _ _ _
  go_wp2_with (go_at_call 66; refine hor.mono ?_; rintro e w4 ⟨rfl, rfl⟩)
  go_ret
  exact ⟨rfl, f2.alloc _⟩

end Go.Proofs.YtjchlfblbmiceaaGreat
