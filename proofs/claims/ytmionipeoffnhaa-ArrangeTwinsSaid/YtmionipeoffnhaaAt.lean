/- The walk of ArrangeTwins. No condition but the sizes. -/
import Derived.Test.YtmionipeoffnhaaMc
import Derived.Deep.CutBlock
namespace Go.Proofs.Ytmionipeoffnhaa
open Go.RowKit srt grp

def TwR (w5 : World) (p p2 : Nat) (wb : Option Nat) (key : List Int) (s : Spn) (all : List upd.El) (n : Nat) (x : Value) (wr : World) : Prop :=
  ∃ (i : Nat) (s2 : Spn) (wb2 : Option Nat), x = .int .i64 i ∧ i ≤ n ∧ i ≤ 20 ∧ Fr [p2] w5 wr ∧ SpAt wr p wb s ∧ SpAt wr p2 wb2 s2 ∧ Gd key (40 + i) s2 all ∧ s2.since = s.since ∧ s2.upper = s.upper
def TwE (w5 : World) (p p2 : Nat) (wb : Option Nat) (key : List Int) (s : Spn) (all : List upd.El) (wr : World) : Prop :=
  ∃ (s2 : Spn) (wb2 : Option Nat), Fr [p2] w5 wr ∧ SpAt wr p wb s ∧ SpAt wr p2 wb2 s2 ∧ Gd key 60 s2 all ∧ s2.since = s.since ∧ s2.upper = s.upper

set_option maxRecDepth 100000
set_option maxHeartbeats 12800000 in
theorem twins_walk {w : World} {a0 a1 a2 : Option Addr} {c0 c1 c2 : Nat} {key fuels : List Int} {ops : List OpE} {t : Int} (hk : Src w 1 (.slice a0 key.length c0) key.length (kiC key)) (hkl : key.length ≤ 17592186043904) (ho : OpsAt w (.slice a1 ops.length c1) ops) (hoc : ops.length ≤ c1) (hoa : a1 = none → c1 = 0) (hf : Src w 1 (.slice a2 fuels.length c2) fuels.length (kiC fuels)) :
    Calls Try.prog 12 #[.slice a0 key.length c0, .slice a1 ops.length c1, .slice a2 fuels.length c2, .int .i64 t] w fun e w' => e = .returned (.bool true) ∧ Fr [] w w' := by
  have hri := right_any hk hkl
  have hpl := fun wi (f : Fr [] w wi) => played_any false (hk.fr f) hkl (ho.fr f) hoc hoa
  have HFu := Lib.hid hf
  clear hk ho hoc hoa hf
  by_cases hko : keyOk key = true
  · have hpl2 : ∀ wi, Fr [] w wi → Calls Try.prog 39 #[.slice a0 key.length c0, .slice a1 ops.length c1, .bool false] wi (PlayedOk wi key ops false) := fun wi f => (hpl wi f).mono fun e w' h => h.ok hko
    rw [hko] at hri
    have HRi := Lib.hid hri
    have HPl := Lib.hid hpl2
    clear hri hpl hpl2 hko
    go_enter Try.func12, Try.ntmps12
    go_upto_region 3 with (go_at_call 37; refine HRi.out.mono ?_; rintro e w1 ⟨rfl, f1⟩; have F1 := Lib.hid f1; clear f1)
    go_upto_region 6 with (first
      | (go_at_call 39; refine (HPl.out _ F1.out).mono ?_; rintro e w2 ⟨p, wb, s, all, a9, c9, rfl, f2, hp, hs, hw, hg, -, -⟩; have F2 := Lib.hid (F1.out.trans f2); have HP := Lib.hid (Nat.le_trans F1.out.size hp); have HS := Lib.hid hs; have HW := Lib.hid (fun g hg9 => Nat.le_trans F1.out.size (hw g hg9)); have HG := Lib.hid hg; clear f2 hp hs hw hg)
      | (go_at_call 38; refine (known13_any _).mono ?_; rintro e w3 ⟨rfl, f3⟩; have F3 := Lib.hid (F2.out.trans f3); have HS3 := Lib.hid (HS.out.fr f3); clear f3))
    have hfw := HG.out.ok.few
    go_upto_region 7 with (go_at_call 41; refine (sizes_any HS3.out (by omega)).mono ?_; rintro e w4 ⟨⟨za, zc, rfl, hz⟩, f4⟩; have F4 := Lib.hid (F3.out.trans f4); have HS4 := Lib.hid (HS3.out.fr f4); have HZ := Lib.hid hz; clear f4 hz)
    go_upto_region 10 with (go_at_call 51; refine (spClone_any HS4.out (by omega)).mono ?_; rintro e w5 ⟨p2, wb2, vb, vd, rfl, hp2, hw2, hs2, f5⟩; have F5 := Lib.hid (F4.out.trans f5); have HS5 := Lib.hid (HS4.out.fr f5); have HZ5 := Lib.hid (HZ.out.fr f5); have HP2 := Lib.hid (Nat.le_trans F4.out.size hp2); have HNe := Lib.hid (show p ≠ p2 by have := (Array.getElem?_eq_some_iff.1 HS4.out.blk).1; omega); have HSB := Lib.hid hs2; clear f5 hp2 hw2 hs2)
    clear HRi HPl F2 F3 F4 HS HS3 HS4 HZ F1
    go_upto_block 0 with fail
    go_cut [47] (fun _ wx => TwE w5 p p2 wb key s all wx)
    case first =>
      go_wp2_with fail
      go_loopw [47] (fun x wr => TwR w5 p p2 wb key s all fuels.length x wr) (fun x _ => fuels.length - (intOf x).toNat)
      case atStart => exact ⟨0, _, wb2, rfl, Nat.zero_le _, Nat.zero_le _, Fr.refl _ _, HS5.out, HSB.out, HG.out.clone _ _, rfl, rfl⟩
      case round =>
        obtain ⟨i, s2, wb3, rfl, hi, hi20, hf, hsp, hs2, hg2, hsi, hup⟩ := hrel
        have HF := Lib.hid hf
        have HSp := Lib.hid hsp
        have HS2 := Lib.hid hs2
        have HG2 := Lib.hid hg2
        have HSi := Lib.hid hsi
        have HUp := Lib.hid hup
        clear hf hsp hs2 hg2 hsi hup
        by_cases hlt : i < fuels.length
        · obtain ⟨b, off, e1, y0⟩ := src_key (HFu.out.fr (F5.out.past HF.out (fun x hx => Or.inl (by rw [List.mem_singleton.1 hx]; exact HP2.out)))) hlt
          subst e1
          by_cases h20 : i < 20
          · have h20' : ¬ (20 : Int) ≤ (i : Int) := by omega
            have hwo := work_gd HS2.out HG2.out (by omega) (nki fuels i)
            have HWo := Lib.hid hwo
            clear hwo
            generalize nki fuels i = m at *
            go_wp2_with (go_at_call 43; refine HWo.out.mono ?_; rintro e w6 ⟨⟨lf, rfl⟩, s6, wb6, hs6, hg6, hu6, hi6, f6, -, -⟩; have HF6 := Lib.hid (HF.out.trans f6); have HSp6 := Lib.hid (HSp.out.frT f6 HS2.out.tyP (by simp; exact HNe.out) (fun g hg hx => by obtain ⟨cur, hc⟩ := HSp.out.own.ty hg; rw [List.mem_singleton.1 hx, HS2.out.blk] at hc; simp at hc)); have HS6 := Lib.hid hs6; have HG6 := Lib.hid hg6; have HU6 := Lib.hid (hu6.trans HUp.out); have HI6 := Lib.hid (hi6.trans HSi.out); clear hs6 hg6 hu6 hi6 f6)
            go_roundw
            case rel => exact ⟨i + 1, s6, wb6, by go_num, by omega, by omega, HF6.out, HSp6.out, HS6.out, HG6.out, HI6.out, HU6.out⟩
            case measure => simp [intOf] <;> omega
          · have h20' : (20 : Int) ≤ (i : Int) := by omega
            generalize nki fuels i = m at *
            go_wp2_with fail
            go_meet
            case rel => exact ⟨s2, wb3, HF.out, HSp.out, HS2.out, HG2.out.mono (by omega) (by omega), HSi.out, HUp.out⟩
        · go_wp2_with fail
          go_meet
          case rel => exact ⟨s2, wb3, HF.out, HSp.out, HS2.out, HG2.out.mono (by omega) (by omega), HSi.out, HUp.out⟩
    case rest =>
      obtain ⟨s2, wb3, hf, hsp, hs2, hg2, hsi, hup⟩ := hcut
      obtain ⟨wx, rfl⟩ : ∃ wx, wx = wc := ⟨wc, rfl⟩
      have FX := Lib.hid (F5.out.past hf (fun x hx => Or.inl (by rw [List.mem_singleton.1 hx]; exact HP2.out)))
      have ZX := Lib.hid (HZ5.out.frT hf HSB.out.tyP)
      have HSp := Lib.hid hsp
      have HS2 := Lib.hid hs2
      have HG2 := Lib.hid hg2
      have HSi := Lib.hid hsi
      have HUp := Lib.hid hup
      have hzl := szs_len s.bs
      have HZl := Lib.hid hzl
      clear hf hsp hs2 hg2 hsi hup HSB HS5 HZ5 F5 HFu hzl
      go_upto_region 17 with (go_at_call 49; refine (atAns_any HSp.out HG.out.ok t).mono ?_; rintro e w6 ⟨o1, x1, y1, r1, rfl, f6, k6, A1⟩; have K6 := Lib.hid k6.cts; have F6 := Lib.hid f6; clear f6 k6)
      go_upto_region 18 with (go_at_call 49; refine (atAns_any (HS2.out.fr F6.out) HG2.out.ok t).mono ?_; rintro e w7 ⟨o2, x2, y2, r2, rfl, f7, k7, A2⟩; have K7 := Lib.hid k7.cts; have K67 := Lib.hid (K6.out.fr f7); have F7 := Lib.hid (F6.out.trans f7); clear f7 k7)
      obtain ⟨e2, q2, n2⟩ := AtSays.two HG.out HG2.out HSi.out HUp.out A1.out A2.out
      subst e2
      have HQ2 := Lib.hid q2
      clear q2 A1 A2 K6
      go_upto_region 19 with (go_at_call 52; refine (fromAns_any (HSp.out.fr F7.out) HG.out.ok t).mono ?_; rintro e w8 ⟨o3, x3, y3, r3, rfl, f8, k8, A3⟩; have K8 := Lib.hid k8.cts; have K68 := Lib.hid (K67.out.fr f8); have K78 := Lib.hid (K7.out.fr f8); have F8 := Lib.hid (F7.out.trans f8); clear f8 k8)
      go_upto_region 20 with (go_at_call 52; refine (fromAns_any (HS2.out.fr F8.out) HG2.out.ok t).mono ?_; rintro e w9 ⟨o4, x4, y4, r4, rfl, f9, k9, A4⟩; have K9 := Lib.hid k9.cts; have K89 := Lib.hid (K8.out.fr f9); have K69 := Lib.hid (K68.out.fr f9); have K79 := Lib.hid (K78.out.fr f9); have F9 := Lib.hid (F8.out.trans f9); clear f9 k9)
      obtain ⟨e4, q4, n4⟩ := FromSays.two HG.out HG2.out HSi.out HUp.out A3.out A4.out
      subst e4
      have HQ4 := Lib.hid q4
      clear q4 A3 A4 K8 K67 K68 K7 K78 F6 F7 F8
      have L0 := Lib.hid (fun wi (fi : Fr [] w9 wi) => sizes_any (HSp.out.fr (F9.out.trans fi)) (by omega))
      have L2 := Lib.hid (fun wi (fi : Fr [] w9 wi) => like_true (K69.out.fr fi) (K79.out.fr fi) HQ2.out (by omega))
      have L3 := Lib.hid (fun wi (fi : Fr [] w9 wi) => likeU_true (K89.out.fr fi) (K9.out.fr fi) HQ4.out (by omega))
      have hr2 : (r2 == r2) = true := by simp
      have hr4 : (r4 == r4) = true := by simp
      go_wp2_with (first
        | (go_at_call 41; refine (L0.out _ (Fr.refl _ _)).mono ?_; rintro e wa ⟨⟨za2, zc2, rfl, hz2⟩, fa⟩; have L1 := Lib.hid (ints_true hz2 (ZX.out.fr (F9.out.trans fa)) (by rw [HZl.out]; omega)); have FA := Lib.hid fa; clear hz2 fa)
        | (go_at_call 53; refine L1.out.mono ?_; rintro e wb9 ⟨rfl, fb⟩; have FB := Lib.hid (FA.out.trans fb); clear fb)
        | (go_at_call 17; refine (L2.out _ FB.out).mono ?_; rintro e wd ⟨rfl, fd⟩; have FD := Lib.hid (FB.out.trans fd); clear fd)
        | (go_at_call 25; refine (L3.out _ FD.out).mono ?_; rintro e we ⟨rfl, fe⟩; have FE := Lib.hid (FD.out.trans fe); clear fe))
      go_ret
      exact ⟨rfl, (FX.out.trans F9.out).trans FE.out⟩
  · have hk2 : keyOk key = false := by simpa using hko
    rw [hk2] at hri
    have HRi := Lib.hid hri
    clear hri hpl hko hk2
    go_enter Try.func12, Try.ntmps12
    go_wp2_with (first
      | (go_at_call 37; refine HRi.out.mono ?_; rintro e w1 ⟨rfl, f1⟩; have F1 := Lib.hid f1; clear f1)
      | (go_at_call 38; refine (known13_any _).mono ?_; rintro e w2 ⟨rfl, f2⟩; have F2 := Lib.hid f2; clear f2))
    go_ret
    exact ⟨rfl, F1.out.trans F2.out⟩
end Go.Proofs.Ytmionipeoffnhaa
