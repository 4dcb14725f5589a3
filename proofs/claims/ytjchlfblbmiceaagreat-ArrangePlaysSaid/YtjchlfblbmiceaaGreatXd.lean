/- The reference's spine: At, From, Find. No condition but the sizes. -/
import Derived.Test.YtjchlfblbmiceaaGreatXa
namespace Go.Proofs.YtjchlfblbmiceaaGreat
open Go.RowKit srt grp

set_option maxRecDepth 100000
theorem fit_at {s : Spn} (hk : SpOk s) (t : Int) (r : List Dt) : fitB (1 * sumK ((atL s.fl t).map pr) r) = true := fit_mass (by have := massU_atL s.fl t; have := hk.mass; omega) r
theorem fit_from {s : Spn} (hk : SpOk s) (t : Int) (q : Int × List Dt) : fitB (1 * sumK ((frL s.fl t).map upd.pr) q) = true := fit_massU (by have := massU_frL s.fl t; have := hk.mass; omega) q
theorem rAtFit {w : World} {a : Option Addr} {c : Nat} {l : List upd.El} {t : Int} (h : upd.Cts w (.slice a l.length c) l) (hn : l.length ≤ 10000) (hf : ∀ r, fitB (1 * sumK ((atL l t).map pr) r) = true) :
    Calls Tryz.prog 11 #[.slice a l.length c, .int .i64 t] w fun e w' => ∃ (outs : List El) (a : Option Addr) (c : Nat), e = .returned (.tuple #[.slice a outs.length c, .int .i64 0]) ∧ Fr [] w w' ∧ ListIn w.heap.size w' (.slice a outs.length c) outs ∧ Canon cmpR (outs.map pr) (fun r => 1 * sumK ((atL l t).map pr) r) ∧ outs.length ≤ (atL l t).length :=
  (rAt_any h hn).mono fun e w' ⟨f, hx⟩ => by
    rcases hx with ⟨-, outs, a, c, he, hl, hc, hn⟩ | ⟨⟨r, hr⟩, -⟩
    · exact ⟨outs, a, c, he, f, hl, hc, hn⟩
    · rw [hf r] at hr; cases hr
set_option maxHeartbeats 1600000 in
theorem rfAt_any {w : World} {p : Nat} {wb : Option Nat} {s : Spn} (h : RfAt w p wb s) (hk : SpOk s) (t : Int) :
    Calls Tryz.prog 48 #[.pointer (some ⟨p, 0, none⟩), .int .i64 t] w (AtAns w s t) := by
  obtain ⟨-, -, c2, c3, -, -⟩ := h.cell
  have hfew := hk.few
  have hlen := hk.len
  have HAll := Lib.hid (all_any h (by omega) (by omega))
  have HFit := Lib.hid (fit_at hk t)
  clear h hk
  by_cases h1 : t < s.since
  · have HE := Lib.hid (show askE s t = 130 by unfold askE; rw [if_pos h1])
    go_enter Tryz.func48, Tryz.ntmps48
    go_wp2_with fail
    go_ret2
    exact ⟨[], none, 0, 130, rfl, Fr.refl _ _, ⟨Or.inl ⟨none, 0, rfl, fun _ => rfl, rfl⟩, by simp⟩, Lib.hid (Or.inl ⟨by rw [HE.out]; decide, HE.out.symm, rfl⟩)⟩
  · by_cases h2 : s.upper ≤ t
    · have HE := Lib.hid (show askE s t = 131 by unfold askE; rw [if_neg h1, if_pos h2])
      go_enter Tryz.func48, Tryz.ntmps48
      go_wp2_with fail
      go_ret2
      exact ⟨[], none, 0, 131, rfl, Fr.refl _ _, ⟨Or.inl ⟨none, 0, rfl, fun _ => rfl, rfl⟩, by simp⟩, Lib.hid (Or.inl ⟨by rw [HE.out]; decide, HE.out.symm, rfl⟩)⟩
    · have HE := Lib.hid (show askE s t = 0 by unfold askE; rw [if_neg h1, if_neg h2])
      go_enter Tryz.func48, Tryz.ntmps48
      go_wp2_with (first
        | (go_at_call 80; refine HAll.out.mono ?_; rintro e w1 ⟨⟨a1, x1, rfl, k1⟩, f1⟩; have K1 := Lib.hid k1; have F1 := Lib.hid f1; clear k1 f1)
        | (go_at_call 11; refine (rAtFit K1.out (by omega) HFit.out).mono ?_; rintro e w2 ⟨outs, a2, x2, rfl, f2, k2, c2, n2⟩; have K2 := Lib.hid k2; have F2 := Lib.hid f2; have C2 := Lib.hid c2; clear k2 f2 c2))
      go_ret2
      exact ⟨outs, a2, x2, 0, rfl, F1.out.trans F2.out, K2.out.base F1.out.size, Lib.hid (Or.inr ⟨HE.out, rfl, C2.out, Nat.le_trans n2 (Nat.le_trans (atL_len _ _) hlen)⟩)⟩
set_option maxHeartbeats 1600000 in
theorem rfFrom_any {w : World} {p : Nat} {wb : Option Nat} {s : Spn} (h : RfAt w p wb s) (hk : SpOk s) (t : Int) :
    Calls Tryz.prog 52 #[.pointer (some ⟨p, 0, none⟩), .int .i64 t] w (FromAns w s t) := by
  obtain ⟨-, -, c2, c3, -, -⟩ := h.cell
  have hfew := hk.few
  have hlen := hk.len
  have hfl := frL_len s.fl t
  have HAll := Lib.hid (all_any h (by omega) (by omega))
  have HFit := Lib.hid (fit_from hk t)
  clear h hk
  by_cases h1 : t ≤ s.since
  · have HE := Lib.hid (show fromE s t = 130 by unfold fromE; rw [if_pos h1])
    go_enter Tryz.func52, Tryz.ntmps52
    go_wp2_with fail
    go_ret2
    exact ⟨[], none, 0, 130, rfl, Fr.refl _ _, ⟨Or.inl ⟨none, 0, rfl, fun _ => rfl, rfl⟩, by simp⟩, Lib.hid (Or.inl ⟨by rw [HE.out]; decide, HE.out.symm, rfl⟩)⟩
  · by_cases h2 : s.upper < t
    · have HE := Lib.hid (show fromE s t = 131 by unfold fromE; rw [if_neg h1, if_pos h2])
      go_enter Tryz.func52, Tryz.ntmps52
      go_wp2_with fail
      go_ret2
      exact ⟨[], none, 0, 131, rfl, Fr.refl _ _, ⟨Or.inl ⟨none, 0, rfl, fun _ => rfl, rfl⟩, by simp⟩, Lib.hid (Or.inl ⟨by rw [HE.out]; decide, HE.out.symm, rfl⟩)⟩
    · have HE := Lib.hid (show fromE s t = 0 by unfold fromE; rw [if_neg h1, if_neg h2])
      go_enter Tryz.func52, Tryz.ntmps52
      go_wp2_with (first
        | (go_at_call 80; refine HAll.out.mono ?_; rintro e w1 ⟨⟨a1, x1, rfl, k1⟩, f1⟩; have K1 := Lib.hid k1; have F1 := Lib.hid f1; clear k1 f1)
        | (go_at_call 15; refine (rLater13_any K1.out (by omega)).mono ?_; rintro e w3 ⟨a3, x3, rfl, k3, f3⟩; have K3 := Lib.hid k3; have F3 := Lib.hid (F1.out.trans f3); clear k3 f3)
        | (go_at_call 14; refine (rsettleFit K3.out (by omega) HFit.out).mono ?_; rintro e w2 ⟨outs, a2, x2, rfl, f2, k2, c2, n2⟩; have K2 := Lib.hid k2; have F2 := Lib.hid f2; have C2 := Lib.hid c2; clear k2 f2 c2))
      go_ret2
      exact ⟨outs, a2, x2, 0, rfl, F3.out.trans F2.out, K2.out.base F3.out.size, Lib.hid (Or.inr ⟨HE.out, rfl, C2.out, Nat.le_trans n2 (Nat.le_trans hfl hlen)⟩)⟩
end Go.Proofs.YtjchlfblbmiceaaGreat
