/- The walk of ArrangeSame. No condition but the sizes. -/
import Derived.Test.YtjchlfblbmiceaaGreatSn
import Derived.Deep.CutRange
import Derived.Deep.DeepCutAuto
namespace Go.Proofs.YtjchlfblbmiceaaGreat
open Go.RowKit srt grp

set_option maxRecDepth 100000
set_option maxHeartbeats 12800000 in
theorem same_walk {w : World} {a0 a1 : Option Addr} {c0 c1 : Nat} {key : List Int} {ops : List OpE} {t : Int} (hk : Src w 1 (.slice a0 key.length c0) key.length (kiC key)) (hkl : key.length ≤ 17592186043904) (ho : OpsAt w (.slice a1 ops.length c1) ops) (hoc : ops.length ≤ c1) (hoa : a1 = none → c1 = 0) :
    Calls Tryz.prog 3 #[.slice a0 key.length c0, .slice a1 ops.length c1, .int .i64 t] w fun e w' => e = .returned (.bool true) ∧ Fr [] w w' := by
  have hri := right_any hk hkl
  have hpl := fun wi (f : Fr [] w wi) => played_any false (hk.fr f) hkl (ho.fr f) hoc hoa
  clear hk ho hoc hoa
  by_cases hko : keyOk key = true
  · have hpl2 : ∀ wi, Fr [] w wi → Calls Tryz.prog 7 #[.slice a0 key.length c0, .slice a1 ops.length c1, .bool false] wi (PlayedAll wi key) := fun wi f => (hpl wi f).mono fun e w' h => h.all hko
    rw [hko] at hri
    have HRi := Lib.hid hri
    have HPl := Lib.hid hpl2
    clear hri hpl hpl2 hko
    go_enter Tryz.func3, Tryz.ntmps3
    go_upto_region 3 with (go_at_call 5; refine HRi.out.mono ?_; rintro e w1 ⟨rfl, f1⟩; have F1 := Lib.hid f1; clear f1)
    go_upto_region 6 with (first
      | (go_at_call 7; refine (HPl.out _ F1.out).mono ?_; rintro e w2 ⟨p, wb, s, all, a9, c9, rfl, f2, hs, hg, hal⟩; have F2 := Lib.hid (F1.out.trans f2); have HS := Lib.hid hs; have HG := Lib.hid hg; have HAl := Lib.hid hal; clear f2 hs hg hal)
      | (go_at_call 6; refine (known13_any _).mono ?_; rintro e w3 ⟨rfl, f3⟩; have F3 := Lib.hid (F2.out.trans f3); have HS3 := Lib.hid (HS.out.fr f3); have HA3 := Lib.hid (HAl.out.fr f3); clear f3))
    clear F1 F2 HS HAl HRi HPl
    go_wp2_with fail
    go_loopw [9] (fun x wr => ∃ i : Nat, x = .int .i64 (i : Int) ∧ i ≤ 2 ∧ Fr [] w3 wr) (fun x _ => 2 - (intOf x).toNat)
    case atStart => exact ⟨0, rfl, Nat.zero_le _, Fr.refl _ _⟩
    case round =>
      obtain ⟨i, rfl, hi, hf⟩ := hrel
      have HF := Lib.hid hf
      by_cases hlt : i < 2
      · as_aux_lemma =>
        have HSr := Lib.hid (HS3.out.fr hf)
        have HAr := Lib.hid (HA3.out.fr hf)
        clear hf
        go_upto_if 43 with (go_at_call 8; refine (since_any HSr.out).mono ?_; rintro e w' ⟨rfl, rfl⟩)
        go_cut [10] (fun x wx => ∃ T : Int, x = .int .i64 T ∧ wx = wr)
        case first =>
          by_cases h1 : i = 1
          · have h1' : ((i : Int) == 1) = true := by simp [h1]
            go_wp2_with fail
            go_meet
            case rel => exact ⟨_, rfl, rfl⟩
          · have h1' : ((i : Int) == 1) = false := by simp; omega
            go_wp2_with fail
            go_meet
            case rel => exact ⟨_, rfl, rfl⟩
        case rest =>
          obtain ⟨T, rfl, rfl⟩ := hcut
          obtain ⟨wr, rfl⟩ : ∃ wr, wr = wc := ⟨wc, rfl⟩
          go_upto_region 13 with (go_at_call 9; refine (atAns_any HSr.out HG.out.ok T).mono ?_; rintro e w4 ⟨o1, x1, y1, r1, rfl, f4, k4, A1⟩; have K4 := Lib.hid k4.cts; have F4 := Lib.hid (HF.out.trans f4); have HS4 := Lib.hid (HSr.out.fr f4); have HA4 := Lib.hid (HAr.out.fr f4); clear f4 k4)
          clear HF HSr HAr
          go_cut [60] (fun x wx => x = .bool (decide (askE s T = 0)) ∧ Fr [] w4 wx)
          case first =>
            by_cases g1 : s.since ≤ T
            · by_cases g2 : T < s.upper
              · have HD := Lib.hid (show decide (askE s T = 0) = true by unfold askE; rw [if_neg (by omega), if_neg (by omega)]; rfl)
                go_wp2_with (first
                  | (go_at_call 8; refine (since_any HS4.out).mono ?_; rintro e w' ⟨rfl, rfl⟩)
                  | (go_at_call 10; refine (upper_any HS4.out).mono ?_; rintro e w' ⟨rfl, rfl⟩))
                go_meet
                case rel => exact ⟨congrArg Value.bool (by rw [HD.out]; all_goals first | rfl | (simp; done) | (simp; omega)), Fr.refl _ _⟩
              · have HD := Lib.hid (show decide (askE s T = 0) = false by unfold askE; rw [if_neg (by omega), if_pos (by omega)]; rfl)
                go_wp2_with (first
                  | (go_at_call 8; refine (since_any HS4.out).mono ?_; rintro e w' ⟨rfl, rfl⟩)
                  | (go_at_call 10; refine (upper_any HS4.out).mono ?_; rintro e w' ⟨rfl, rfl⟩))
                go_meet
                case rel => exact ⟨congrArg Value.bool (by rw [HD.out]; all_goals first | rfl | (simp; done) | (simp; omega)), Fr.refl _ _⟩
            · have HD := Lib.hid (show decide (askE s T = 0) = false by unfold askE; rw [if_pos (by omega)]; rfl)
              go_wp2_with (go_at_call 8; refine (since_any HS4.out).mono ?_; rintro e w' ⟨rfl, rfl⟩)
              go_meet
              case rel => exact ⟨congrArg Value.bool (by rw [HD.out]; all_goals first | rfl | (simp; done) | (simp; omega)), Fr.refl _ _⟩
          case rest =>
            obtain ⟨rfl, f5⟩ := hcut
            obtain ⟨w5, rfl⟩ : ∃ wx, wx = wc := ⟨wc, rfl⟩
            have F5 := Lib.hid (F4.out.trans f5)
            have HS5 := Lib.hid (HS4.out.fr f5)
            have HA5 := Lib.hid (HA4.out.fr f5)
            have K5 := Lib.hid (K4.out.fr f5)
            clear f5 F4 HS4 HA4 K4
            generalize hd : decide (askE s T = 0) = d at *
            have HD := Lib.hid hd
            clear hd
            go_upto_if 60 with fail
            go_cut [13] (fun _ wx => Fr [] w5 wx)
            case first =>
              have hA := A1.out
              clear A1
              rcases hA with ⟨a1, rfl, rfl⟩ | ⟨a1, rfl, cn, hn⟩
              · have hd : d = false := by rw [← HD.out]; simp [a1]
                subst hd
                have hne : (askE s T == 0) = false := by simp [a1]
                clear HD
                generalize askE s T = ev at *
                go_wp2_with fail
                go_meet
                case rel => exact Fr.refl _ _
              · have hd : d = true := by rw [← HD.out]; simp [a1]
                subst hd
                have g1 := (ask_ge a1).1
                have HCn := Lib.hid cn
                clear cn HD
                go_wp2_with (first
                  | (go_at_call 11; refine (rAt_good HG.out HA5.out).mono ?_; rintro e wa ⟨o2, x2, y2, rfl, fa, k2, c2, n2⟩; have K2 := Lib.hid k2; have FA := Lib.hid fa; have K1 := Lib.hid (K5.out.fr fa); have HQ := Lib.hid (at_ref HG.out g1 HCn.out c2); clear k2 fa c2)
                  | (go_at_call 12; refine (like_true K1.out K2.out HQ.out (by omega)).mono ?_; rintro e wd ⟨rfl, fd⟩; have FD := Lib.hid (FA.out.trans fd); clear fd))
                go_meet
                case rel => exact FD.out
            case rest =>
              obtain ⟨wx, rfl⟩ : ∃ wx, wx = wc := ⟨wc, rfl⟩
              have F6 := Lib.hid (F5.out.trans hcut)
              have HS6 := Lib.hid (HS5.out.fr hcut)
              have HA6 := Lib.hid (HA5.out.fr hcut)
              clear hcut F5 HS5 HA5 K5 A1 HD
              go_upto_region 20 with (go_at_call 13; refine (fromAns_any HS6.out HG.out.ok T).mono ?_; rintro e w7 ⟨o3, x3, y3, r3, rfl, f7, k7, A3⟩; have K7 := Lib.hid k7.cts; have F7 := Lib.hid (F6.out.trans f7); have HS7 := Lib.hid (HS6.out.fr f7); have HA7 := Lib.hid (HA6.out.fr f7); clear f7 k7)
              clear F6 HS6 HA6
              go_cut [93] (fun x wx => x = .bool (decide (fromE s T = 0)) ∧ Fr [] w7 wx)
              case first =>
                by_cases g1 : s.since < T
                · by_cases g2 : T ≤ s.upper
                  · have HD := Lib.hid (show decide (fromE s T = 0) = true by unfold fromE; rw [if_neg (by omega), if_neg (by omega)]; rfl)
                    go_wp2_with (first
                      | (go_at_call 8; refine (since_any HS7.out).mono ?_; rintro e w' ⟨rfl, rfl⟩)
                      | (go_at_call 10; refine (upper_any HS7.out).mono ?_; rintro e w' ⟨rfl, rfl⟩))
                    go_meet
                    case rel => exact ⟨congrArg Value.bool (by rw [HD.out]; all_goals first | rfl | (simp; done) | (simp; omega)), Fr.refl _ _⟩
                  · have HD := Lib.hid (show decide (fromE s T = 0) = false by unfold fromE; rw [if_neg (by omega), if_pos (by omega)]; rfl)
                    go_wp2_with (first
                      | (go_at_call 8; refine (since_any HS7.out).mono ?_; rintro e w' ⟨rfl, rfl⟩)
                      | (go_at_call 10; refine (upper_any HS7.out).mono ?_; rintro e w' ⟨rfl, rfl⟩))
                    go_meet
                    case rel => exact ⟨congrArg Value.bool (by rw [HD.out]; all_goals first | rfl | (simp; done) | (simp; omega)), Fr.refl _ _⟩
                · have HD := Lib.hid (show decide (fromE s T = 0) = false by unfold fromE; rw [if_pos (by omega)]; rfl)
                  go_wp2_with (go_at_call 8; refine (since_any HS7.out).mono ?_; rintro e w' ⟨rfl, rfl⟩)
                  go_meet
                  case rel => exact ⟨congrArg Value.bool (by rw [HD.out]; all_goals first | rfl | (simp; done) | (simp; omega)), Fr.refl _ _⟩
              case rest =>
                obtain ⟨rfl, f8⟩ := hcut
                obtain ⟨w8, rfl⟩ : ∃ wx, wx = wc := ⟨wc, rfl⟩
                have F8 := Lib.hid (F7.out.trans f8)
                have HA8 := Lib.hid (HA7.out.fr f8)
                have K8 := Lib.hid (K7.out.fr f8)
                clear f8 F7 HS7 HA7 K7
                generalize hd : decide (fromE s T = 0) = d at *
                have HD := Lib.hid hd
                clear hd
                go_upto_if 93 with fail
                have hA := A3.out
                clear A3
                rcases hA with ⟨a1, rfl, rfl⟩ | ⟨a1, rfl, cn, hn⟩
                · have hd : d = false := by rw [← HD.out]; simp [a1]
                  subst hd
                  have hne : (fromE s T == 0) = false := by simp [a1]
                  clear HD
                  generalize fromE s T = ev at *
                  go_wp2_with fail
                  go_roundw
                  case rel => exact ⟨i + 1, by go_num, by omega, F8.out⟩
                  case measure => simp [intOf] <;> omega
                · have hd : d = true := by rw [← HD.out]; simp [a1]
                  subst hd
                  have g1 := (from_gt a1).1
                  have HCn := Lib.hid cn
                  clear cn HD
                  have hal := HG.out.all_len
                  go_wp2_with (first
                    | (go_at_call 15; refine (rLater13_any HA8.out (by omega)).mono ?_; rintro e wb9 ⟨x2, y2, rfl, kb, fb⟩; have KB := Lib.hid kb; have FB := Lib.hid fb; have K9 := Lib.hid (K8.out.fr fb); clear kb fb)
                    | (go_at_call 14; refine (rSettle_good HG.out KB.out).mono ?_; rintro e wa ⟨o2, x2, y2, rfl, fa, k2, c2, n2⟩; have K2 := Lib.hid k2; have FA := Lib.hid (FB.out.trans fa); have K1 := Lib.hid (K9.out.fr fa); have HQ := Lib.hid (from_ref HG.out g1 HCn.out c2); clear k2 fa c2)
                    | (go_at_call 16; refine (likeU_true K1.out K2.out HQ.out (by omega)).mono ?_; rintro e wd ⟨rfl, fd⟩; have FD := Lib.hid (FA.out.trans fd); clear fd))
                  have F9 := Lib.hid (F8.out.trans FD.out)
                  go_roundw
                  case rel => exact ⟨i + 1, by go_num, by omega, F9.out⟩
                  case measure => simp [intOf] <;> omega
      · as_aux_lemma =>
        clear hf
        go_wp2_with fail
        go_ret
        exact ⟨rfl, F3.out.trans HF.out⟩
  · have hk2 : keyOk key = false := by simpa using hko
    rw [hk2] at hri
    have HRi := Lib.hid hri
    clear hri hpl hko hk2
    go_enter Tryz.func3, Tryz.ntmps3
    go_wp2_with (first
      | (go_at_call 5; refine HRi.out.mono ?_; rintro e w1 ⟨rfl, f1⟩; have F1 := Lib.hid f1; clear f1)
      | (go_at_call 6; refine (known13_any _).mono ?_; rintro e w2 ⟨rfl, f2⟩; have F2 := Lib.hid f2; clear f2))
    go_ret
    exact ⟨rfl, F1.out.trans F2.out⟩
end Go.Proofs.YtjchlfblbmiceaaGreat
