/- row.Compare: how two rows stand, by the program. No condition but the size that can be read. -/
import Derived.Test.YtjchlfblbmiceaaGreatDcmp
namespace Go.Proofs.YtjchlfblbmiceaaGreat
open Go.RowKit

set_option maxRecDepth 100000
set_option maxHeartbeats 1600000 in
theorem cmpf_any {w : World} {v v' : Value} {a b : List Dt} (h : RowAt w v a) (h' : RowAt w v' b) (hm : a.length ≤ 140737488351232) :
    Calls Tryz.prog 93 #[v, v', .func (.func 94) #[] #[]] w fun e w' => e = .returned (.int .i64 (cmpR a b)) ∧ Fr [] w w' := by
  obtain ⟨aa, ac, rfl, hac⟩ := h.shape
  obtain ⟨ba, bc, rfl, hbc⟩ := h'.shape
  have H := Lib.hid h
  have H' := Lib.hid h'
  clear h h'
  go_enter Tryz.func93, Tryz.ntmps93
  go_wp2_with fail
  go_loopw [13] (fun i wr => ∃ k : Nat, k ≤ a.length ∧ k ≤ b.length ∧ i = .int .i64 k ∧ Hid (cmpR a b = cmpR (a.drop k) (b.drop k)) ∧ Fr [] w wr) (fun i _ => a.length - (intOf i).toNat)
  case atStart => exact ⟨0, Nat.zero_le _, Nat.zero_le _, rfl, Lib.hid rfl, Fr.refl _ _⟩
  case round =>
    obtain ⟨k, hk, hk', rfl, HR, hf⟩ := hrel
    have HF := Lib.hid hf
    clear hf
    by_cases hlt : k < a.length
    · obtain ⟨b1, o1, he1, x0, x1, x2⟩ := (H.out.fr HF.out).at hlt
      subst he1
      by_cases hlt' : k < b.length
      · obtain ⟨b2, o2, he2, y0, y1, y2⟩ := (H'.out.fr HF.out).at hlt'
        subst he2
        have HS := Lib.hid (cmpR_step hlt hlt')
        generalize a[k] = da at *
        generalize b[k] = db at *
        obtain ⟨dk, di, ds⟩ := da
        obtain ⟨ek, ei, es⟩ := db
        have y0' := ((Fr.refl [] wr).alloc (.cells #[.int .i64 dk, .int .i64 di, .string ⟨ds.toArray⟩] 94)).cell y0 (by simp)
        have y1' := ((Fr.refl [] wr).alloc (.cells #[.int .i64 dk, .int .i64 di, .string ⟨ds.toArray⟩] 94)).cell y1 (by simp)
        have y2' := ((Fr.refl [] wr).alloc (.cells #[.int .i64 dk, .int .i64 di, .string ⟨ds.toArray⟩] 94)).cell y2 (by simp)
        by_cases hz : cmpD ⟨dk, di, ds⟩ ⟨ek, ei, es⟩ = 0
        · have HN := Lib.hid (show cmpR a b = _ by rw [HR.out, HS.out, if_neg (by rw [hz]; simp)])
          go_wp2_with (go_at_call 94; refine (dcmp_any dk di ek ei ⟨ds.toArray⟩ ⟨es.toArray⟩ _).mono ?_; rintro e w5 ⟨rfl, f5⟩)
          go_roundw
          case rel => exact ⟨k + 1, by omega, by omega, by go_num, HN, ((HF.out.alloc _).alloc _).trans f5⟩
          case measure => simp [intOf]; omega
        · have HN := Lib.hid (show cmpR a b = _ by rw [HR.out, HS.out, if_pos hz])
          go_wp2_with (go_at_call 94; refine (dcmp_any dk di ek ei ⟨ds.toArray⟩ ⟨es.toArray⟩ _).mono ?_; rintro e w5 ⟨rfl, f5⟩)
          go_ret
          exact ⟨ret_int HN.out.symm, ((HF.out.alloc _).alloc _).trans f5⟩
      · have HN := Lib.hid (show cmpR a b = 1 by
          rw [HR.out, List.drop_eq_getElem_cons hlt, List.drop_eq_nil_of_le (show b.length ≤ k by omega)]; rfl)
        have hge : b.length ≤ k := by omega
        go_wp2_with fail
        go_ret
        exact ⟨ret_int HN.out.symm, HF.out.alloc _⟩
    · have hka : a.length ≤ k := by omega
      by_cases hl : a.length < b.length
      · have HN := Lib.hid (show cmpR a b = -1 by
          rw [HR.out, List.drop_eq_nil_of_le hka, List.drop_eq_getElem_cons (by omega : k < b.length)]; rfl)
        go_wp2_with fail
        go_ret
        exact ⟨ret_int HN.out.symm, HF.out⟩
      · have HN := Lib.hid (show cmpR a b = 0 by
          rw [HR.out, List.drop_eq_nil_of_le hka, List.drop_eq_nil_of_le (show b.length ≤ k by omega)]; rfl)
        go_wp2_with fail
        go_ret
        exact ⟨ret_int HN.out.symm, HF.out⟩

theorem rowcmp_any {w : World} {v v' : Value} {a b : List Dt} (h : RowAt w v a) (h' : RowAt w v' b) (hm : a.length ≤ 140737488351232) :
    Calls Tryz.prog 68 #[v, v'] w fun e w' => e = .returned (.int .i64 (cmpR a b)) ∧ Fr [] w w' := by
  have hc := cmpf_any h h' hm
  go_enter Tryz.func68, Tryz.ntmps68
  go_wp2_with (go_at_call 93; refine hc.mono ?_; rintro e w5 ⟨rfl, f5⟩)
  go_ret
  exact ⟨rfl, f5⟩

end Go.Proofs.YtjchlfblbmiceaaGreat
