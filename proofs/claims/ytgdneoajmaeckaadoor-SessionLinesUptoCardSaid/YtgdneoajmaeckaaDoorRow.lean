/- freshetref02.Compare and Same: how two rows stand. No condition. -/
import Derived.Test.YtgdneoajmaeckaaDoorCmp
import Derived.Test.YtgdneoajmaeckaaDoorRwa
import Derived.Deep.RegionHeld3
import Derived.Deep.CutRange
import Derived.Laws.AppendOwn
namespace Go.Proofs.YtgdneoajmaeckaaDoor
open Go.RowKit Go.Lib

theorem cmpR_step {a b : List Dt} {k : Nat} (ha : k < a.length) (hb : k < b.length) : cmpR (a.drop k) (b.drop k) = if cmpD a[k] b[k] ≠ 0 then cmpD a[k] b[k] else cmpR (a.drop (k + 1)) (b.drop (k + 1)) := by
  rw [List.drop_eq_getElem_cons ha, List.drop_eq_getElem_cons hb]
  rfl

set_option maxRecDepth 100000
set_option maxHeartbeats 1600000 in
theorem rrow_cmp {w : World} {v v' : Value} {a b : List Dt} (h : RowAt w v a) (h' : RowAt w v' b) (hm : a.length ≤ 140737488351232) :
    Calls Tryd.prog 35 #[v, v'] w fun e w' => e = .returned (.int .i64 (cmpR a b)) ∧ Fr [] w w' := by
  obtain ⟨aa, ac, rfl, hac⟩ := h.shape
  obtain ⟨ba, bc, rfl, hbc⟩ := h'.shape
  have H := Lib.hid h
  have H' := Lib.hid h'
  clear h h'
  go_enter Tryd.func35, Tryd.ntmps35
  go_wp2_with fail
  go_loopw [9] (fun i wr => ∃ k : Nat, k ≤ a.length ∧ k ≤ b.length ∧ i = .int .i64 k ∧ Hid (cmpR a b = cmpR (a.drop k) (b.drop k)) ∧ Fr [] w wr) (fun i _ => a.length - (intOf i).toNat)
  case atStart => exact ⟨0, Nat.zero_le _, Nat.zero_le _, rfl, Lib.hid rfl, Fr.refl _ _⟩
  case round =>
    obtain ⟨k, hk, hk', rfl, HR, hf⟩ := hrel
    have HF := Lib.hid hf
    clear hf
    by_cases hlt : k < a.length
    · by_cases hlt' : k < b.length
      · obtain ⟨b1, o1, he1, x0, x1, x2⟩ := (H.out.fr HF.out.drew).at hlt
        obtain ⟨b2, o2, he2, y0, y1, y2⟩ := (H'.out.fr HF.out.drew).at hlt'
        subst he1
        subst he2
        have HS := Lib.hid (cmpR_step hlt hlt')
        generalize a[k] = da at *
        generalize b[k] = db at *
        obtain ⟨dk, di, ds⟩ := da
        obtain ⟨ek, ei, es⟩ := db
        go_upto_region 6 with fail
        go_region_held3 (fun W => W.cell? ⟨b1, o1 + k * 3, none⟩ = some (.int .i64 dk) ∧ W.cell? ⟨b1, o1 + k * 3 + 1, none⟩ = some (.int .i64 di) ∧ W.cell? ⟨b1, o1 + k * 3 + 2, none⟩ = some (.string ⟨ds.toArray⟩) ∧ W.cell? ⟨b2, o2 + k * 3, none⟩ = some (.int .i64 ek) ∧ W.cell? ⟨b2, o2 + k * 3 + 1, none⟩ = some (.int .i64 ei) ∧ W.cell? ⟨b2, o2 + k * 3 + 2, none⟩ = some (.string ⟨es.toArray⟩)) (first | exact ⟨x0, x1, x2, y0, y1, y2⟩ | exact ⟨f5.cell x0 (by simp), f5.cell x1 (by simp), f5.cell x2 (by simp), f5.cell y0 (by simp), f5.cell y1 (by simp), f5.cell y2 (by simp)⟩ | go_keep) (first | (go_at_call 54; refine (rcmp_any dk di ek ei ⟨ds.toArray⟩ ⟨es.toArray⟩ _).mono ?_; rintro e w5 ⟨rfl, f5⟩))
        by_cases hz : cmpD ⟨dk, di, ds⟩ ⟨ek, ei, es⟩ = 0
        · have HN := Lib.hid (show cmpR a b = _ by rw [HR.out, HS.out, if_neg (by rw [hz]; simp)])
          go_wp2_with fail
          go_roundw
          case rel => exact ⟨k + 1, by omega, by omega, by go_num, HN, (HF.out.drew).trans f5⟩
          case measure => simp [intOf]; omega
        · have HN := Lib.hid (show cmpR a b = _ by rw [HR.out, HS.out, if_pos hz])
          go_wp2_with fail
          go_ret
          exact ⟨ret_int HN.out.symm, (HF.out.drew).trans f5⟩
      · have HN := Lib.hid (show cmpR a b = 1 by
          rw [HR.out, List.drop_eq_getElem_cons hlt, List.drop_eq_nil_of_le (show b.length ≤ k by omega)]; rfl)
        have hge : b.length ≤ k := by omega
        go_wp2_with fail
        go_ret
        exact ⟨ret_int HN.out.symm, HF.out⟩
    · have hka : a.length ≤ k := by omega
      by_cases hl : a.length < b.length
      · have HN := Lib.hid (show cmpR a b = -1 by
          rw [HR.out, List.drop_eq_nil_of_le hka, List.drop_eq_getElem_cons (by omega : k < b.length)]; rfl)
        go_wp2_with fail
        go_ret
        exact ⟨ret_int HN.out.symm, HF.out⟩
      · have HN := Lib.hid (show cmpR a b = 0 by
          rw [HR.out, List.drop_eq_nil_of_le hka, List.drop_eq_nil_of_le (show b.length ≤ k by omega)]; rfl)
        go_wp2_with fail
        go_ret
        exact ⟨ret_int HN.out.symm, HF.out⟩

theorem rsame_any {w : World} {v v' : Value} {a b : List Dt} (h : RowAt w v a) (h' : RowAt w v' b) (hm : a.length ≤ 140737488351232) :
    Calls Tryd.prog 17 #[v, v'] w fun e w' => e = .returned (.bool (decide (cmpR a b = 0))) ∧ Fr [] w w' := by
  by_cases hz : cmpR a b = 0
  · have hr := rrow_cmp h h' hm
    rw [hz] at hr
    have HZ := Lib.hid hz
    clear hz
    go_enter Tryd.func17, Tryd.ntmps17
    go_wp2_with (go_at_call 35; refine hr.mono ?_; rintro e w5 ⟨rfl, f5⟩)
    go_ret
    exact ⟨by simp [HZ.out], f5⟩
  · have hr := rrow_cmp h h' hm
    have hb : (cmpR a b == 0) = false := by simpa using hz
    have HZ := Lib.hid hz
    clear hz
    go_enter Tryd.func17, Tryd.ntmps17
    go_wp2_with (go_at_call 35; refine hr.mono ?_; rintro e w5 ⟨rfl, f5⟩)
    go_ret
    exact ⟨by simp [HZ.out], f5⟩

end Go.Proofs.YtgdneoajmaeckaaDoor
