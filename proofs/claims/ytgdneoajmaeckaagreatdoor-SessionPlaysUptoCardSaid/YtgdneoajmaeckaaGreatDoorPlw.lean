/- SessionPlays: the walk, where the room may be. Conditions: the sizes; the listed tables lie as their text lays them. (Printed by genplw.py.) -/
import Derived.Test.YtgdneoajmaeckaaGreatDoorPlr
import Derived.Test.YtgdneoajmaeckaaGreatDoorKm
import Derived.Deep.RegionHeld3
import Derived.Deep.CutRange
import Derived.Deep.DeepCutAuto
import Derived.Deep.CutBlock
namespace Go.Proofs.YtgdneoajmaeckaaGreatDoor
open Go.RowKit

set_option maxRecDepth 100000
set_option maxHeartbeats 12800000 in
theorem plays_yes {w : World} (room : Int) {v : Value} {ops : List Opn} (ho : OpsAt w v ops) (hT : Tabs w) (r1 : 1 ≤ room) (r2 : room ≤ 1048576) :
    Calls Tryz.prog 3 #[.int .i64 room, v] w fun e w' => e = .returned (.bool true) ∧ Fr [] w w' := by
  obtain ⟨oa, oc, rfl, -, hol⟩ := ho.shape
  have hml : min ops.length 60 ≤ ops.length := Nat.min_le_left _ _
  have hm60 : min ops.length 60 ≤ 60 := Nat.min_le_right _ _
  have hO := ho.take (min ops.length 60) hml
  have hsh := fun w1 => short_any oa ops.length oc hol w1
  have hll : (ops.take (min ops.length 60)).length = min ops.length 60 := by rw [List.length_take]; omega
  generalize ops.take (min ops.length 60) = l at *
  generalize min ops.length 60 = m at *
  subst hll
  have HO := Lib.hid hO
  have HT := Lib.hid hT
  have hMl := hT.m.lt
  clear ho hT hO hml
  have hnew := new_yes room w r1 r2
  have hrnew := fun w1 => rnew_yes room w1 r1 r2
  go_enter Tryz.func3, Tryz.ntmps3
  go_upto_region 7 with (first
    | (go_at_call 4; refine hnew.mono ?_; rintro e w1 ⟨⟨b, rfl, s1, g1⟩, f1⟩; have S1 := Lib.hid s1; have F1 := Lib.hid f1; have k1 := s1.lt; clear s1 f1)
    | (go_at_call 5; refine (hrnew _).mono ?_; rintro e w2 ⟨⟨q, rfl, s2, g2⟩, f2⟩; have S2 := Lib.hid s2; have F2 := Lib.hid f2; clear s2 f2))
  have HP0 := Lib.hid (show PlR w b q ⟨room, 0, 0, [], []⟩ w2 from ⟨⟨r1, r2, (by simp only [List.length_nil]; omega), by simp⟩, ⟨by simp only; omega, by simp only; omega⟩, S1.out.fr F2.out (by simp), S2.out, by omega, g1, Nat.le_trans F1.out.size g2, F1.out.trans F2.out⟩)
  have hbM : b ≠ 0 := by omega
  clear hnew hrnew S1 S2 F1 F2 k1 g1 g2 hMl
  go_upto_block 0 with (go_at_call 6; refine (hsh _).mono ?_; rintro e w3 ⟨rfl, rfl⟩)
  clear hsh hol
  go_wp2_with fail
  go_loopw [48] (fun a48 wr => ∃ (k : Nat) (S : Ss), k ≤ l.length ∧ a48 = .int .i64 k ∧ PlR w b q S wr) (fun a48 _ => l.length - (intOf a48).toNat)
  case atStart => exact ⟨0, _, Nat.zero_le _, rfl, HP0.out⟩
  case round =>
    clear HP0
    obtain ⟨k, S, hk, rfl, hp⟩ := hrel
    by_cases hlt : k < l.length
    · as_aux_lemma =>
      obtain ⟨nb, no, rfl, hx, hok⟩ := (HO.out.fr hp.fr).at hlt
      obtain ⟨-, -, -, -, hok0⟩ := HO.out.at hlt
      have hbl := hp.s.lt
      have hql := hp.r.lt
      have hwz := hp.fr.size
      generalize l[k] = o at *
      obtain ⟨ca, cl, cc, hcv⟩ := hok.r.cols
      obtain ⟨ra, rc, hrv, -⟩ := hok.r.rows.shape
      obtain ⟨xa, xc, hxv, -⟩ := hok.x.row.shape
      have HP := Lib.hid hp
      have HOK := Lib.hid hok
      have HOK0 := Lib.hid hok0
      clear hp hok hok0
      obtain ⟨kd, nn, bb, ⟨tk, rk, code, place, time, rn, name, cols, rows, cts⟩, ⟨xk, xt, xn, xrow, xds, xcode⟩⟩ := o
      simp only at hcv hrv hxv
      subst hcv hrv hxv
      have y0 := hx 0 _ rfl
      have y1 := hx 1 _ rfl
      have y2 := hx 2 _ rfl
      have y3 := hx 3 _ rfl
      have y4 := hx 4 _ rfl
      have y5 := hx 5 _ rfl
      have y6 := hx 6 _ rfl
      have y7 := hx 7 _ rfl
      have y8 := hx 8 _ rfl
      have y9 := hx 9 _ rfl
      have y10 := hx 10 _ rfl
      have y11 := hx 11 _ rfl
      have y12 := hx 12 _ rfl
      have y13 := hx 13 _ rfl
      have y14 := hx 14 _ rfl
      have y15 := hx 15 _ rfl
      have y16 := hx 16 _ rfl
      clear hx
      simp only [Nat.add_zero] at y0 y1 y2 y3 y4 y5 y6 y7 y8 y9 y10 y11 y12 y13 y14 y15 y16
      go_upto_region 10 with fail
      have ha := heap_alloc_new wr (.cells #[.int .i64 kd, .int .i64 nn, .string ⟨bb.toArray⟩, .int .i64 tk, .int .i64 rk, .int .i64 code, .int .i64 place, .int .i64 time, .int .i64 rn, .string ⟨name.toArray⟩, .slice ca cl cc, .slice ra cts.length rc, .int .i64 xk, .int .i64 xt, .int .i64 xn, .slice xa xds.length xc, .int .i64 xcode] 40)
      have FA := (Fr.refl [] wr).alloc (.cells #[.int .i64 kd, .int .i64 nn, .string ⟨bb.toArray⟩, .int .i64 tk, .int .i64 rk, .int .i64 code, .int .i64 place, .int .i64 time, .int .i64 rn, .string ⟨name.toArray⟩, .slice ca cl cc, .slice ra cts.length rc, .int .i64 xk, .int .i64 xt, .int .i64 xn, .slice xa xds.length xc, .int .i64 xcode] 40)
      have hb1 : b ≠ wr.heap.size := by omega
      have hq1 : q ≠ wr.heap.size := by omega
      have HPa := Lib.hid (HP.out.keep FA)
      have HOKa := Lib.hid (HOK.out.fr FA)
      have hbb := HOK.out.b
      have hsb := size_mk bb
      clear HP HOK FA hbl hql y0 y1 y2 y3 y4 y5 y6 y7 y8 y9 y10 y11 y12 y13 y14 y15 y16
      have hj0 := hwz
      generalize wr.heap.size = j at *
      generalize wr.alloc (.cells #[.int .i64 kd, .int .i64 nn, .string ⟨bb.toArray⟩, .int .i64 tk, .int .i64 rk, .int .i64 code, .int .i64 place, .int .i64 time, .int .i64 rn, .string ⟨name.toArray⟩, .slice ca cl cc, .slice ra cts.length rc, .int .i64 xk, .int .i64 xt, .int .i64 xn, .slice xa xds.length xc, .int .i64 xcode] 40) = wa at *
      obtain ⟨z0, z1, z2, z3, z4, z5, z6, z7, z8, z9, z10, z11, z12, z13, z14, z15, z16, zf⟩ := blk17 ha
      have HA := Lib.hid ha
      clear ha hwz
      simp only at hbb
      by_cases hB : 40000 < bb.length
      · as_aux_lemma =>
        have hBi : (40000 : Int) < (bb.length : Int) := by omega
        go_wp2_with fail
        go_roundw
        case rel => exact ⟨k + 1, S, by omega, by go_num, HPa.out⟩
        case measure => simp [intOf]; omega
      have hBi : (bb.length : Int) ≤ 40000 := by omega
      by_cases hC : 60 < cts.length
      · as_aux_lemma =>
        have hCi : (60 : Int) < (cts.length : Int) := by omega
        go_wp2_with fail
        go_roundw
        case rel => exact ⟨k + 1, S, by omega, by go_num, HPa.out⟩
        case measure => simp [intOf]; omega
      have hCi : (cts.length : Int) ≤ 60 := by omega
      have hC2 : cts.length ≤ 60 := by omega
      have hbb2 : bb.length ≤ 140737488351232 := by omega
      have HM := Lib.hid (HT.out.m.fr HPa.out.fr)
      clear hB hC
      go_upto_block 2 with fail
      go_cut [] (fun wx => ∃ S', PlR w b q S' wx)
      case first =>
        as_aux_lemma =>
        by_cases k1 : kd = 1
        · subst k1
          as_aux_lemma =>
          have HPd := Lib.hid (HPa.out.keep ((Fr.refl [] wa).drew))
          go_upto_region 13 with fail
          go_region_held3 (fun w' => w'.cell? ⟨j, 2, none⟩ = some (.string ⟨bb.toArray⟩)) ((first | assumption)) (first
            | (go_at_call 7; refine (put_any HPd.out.s HPa.out.ok bb hbb2 (HT.out.m.fr HPd.out.fr)).mono ?_; rintro e w4 ⟨rfl, s4, f4⟩; have v2 := f4.cell (show wa.drew.cell? ⟨j, 2, none⟩ = _ from z2) (by simpa using hb1.symm))
            | (go_at_call 8; refine (rput_any (HPd.out.ref f4) HPa.out.ok bb hbb).mono ?_; rintro e w5 ⟨rfl, s5, f5⟩; have u2 := f5.cell v2 (by simpa using hq1.symm)))
          all_goals
            go_wp2_with fail
            go_meet
            case rel => exact ⟨_, HPd.out.step s4 f4 s5 f5 (put_ok HPa.out.ok bb) (by rw [putS_tk]; exact HPa.out.tk)⟩
        have k1b : (kd == 1) = false := by simpa using k1
        by_cases k2 : kd = 2
        · subst k2
          as_aux_lemma =>
          have hl2 := line_any HPa.out.s HPa.out.ok hbM HM.out
          have hl3 := fun w4 (f4 : Fr [b] wa w4) => rline_any (HPa.out.ref f4) HPa.out.ok
          simp only [LineE] at hl2 hl3
          generalize (⟨((lineO S).getD []).toArray⟩ : ByteArray) = T at *
          generalize (lineO S).isSome = isl at *
          go_wp2_with (first
            | (go_at_call 9; refine hl2.mono ?_; rintro e w4 ⟨rfl, s4, f4⟩)
            | (go_at_call 10; refine (hl3 _ f4).mono ?_; rintro e w5 ⟨rfl, s5, f5⟩))
          go_meet
          case rel => exact ⟨_, HPa.out.step s4 f4 s5 f5 (lineS_ok HPa.out.ok) (by rw [lineS_tk]; exact HPa.out.tk)⟩
        have k2b : (kd == 2) = false := by simpa using k2
        by_cases k3 : kd = 3
        · subst k3
          as_aux_lemma =>
          have HPd := Lib.hid (HPa.out.keep ((Fr.refl [] wa).drew))
          have ht2 := take_any HPd.out.s HPa.out.ok nn
          have ht3 := fun w4 (f4 : Fr [b] wa.drew w4) => rtake_any (HPd.out.ref f4) HPa.out.ok nn
          have HTo := Lib.hid (tookS_ok HPa.out.ok nn)
          generalize (⟨(S.out.take (takeN S nn)).toArray⟩ : ByteArray) = T at *
          generalize S.out.drop (takeN S nn) = D at *
          go_upto_region 21 with fail
          go_region_held3 (fun w' => w'.cell? ⟨j, 1, none⟩ = some (.int .i64 nn)) ((first | assumption)) (first
            | (go_at_call 11; refine (ht2).mono ?_; rintro e w4 ⟨rfl, s4, f4⟩; have v1 := f4.cell (show wa.drew.cell? ⟨j, 1, none⟩ = _ from z1) (by simpa using hb1.symm))
            | (go_at_call 12; refine (ht3 _ f4).mono ?_; rintro e w5 ⟨rfl, s5, f5⟩; have u1 := f5.cell v1 (by simpa using hq1.symm)))
          all_goals
            go_wp2_with fail
            go_meet
            case rel => exact ⟨_, HPd.out.step s4 f4 s5 f5 (HTo.out) (HPa.out.tk)⟩
        have k3b : (kd == 3) = false := by simpa using k3
        by_cases k4 : kd = 4
        · subst k4
          as_aux_lemma =>
          have HPd := Lib.hid (HPa.out.keep ((Fr.refl [] wa).drew))
          go_upto_region 24 with fail
          go_region_held3 (fun w' => w'.cell? ⟨j, 1, none⟩ = some (.int .i64 nn)) ((first | assumption)) (first
            | (go_at_call 13; refine (wait_any HPd.out.s nn).mono ?_; rintro e w4 ⟨rfl, s4, f4⟩; have v1 := f4.cell (show wa.drew.cell? ⟨j, 1, none⟩ = _ from z1) (by simpa using hb1.symm))
            | (go_at_call 14; refine (rwait_any (HPd.out.ref f4) nn).mono ?_; rintro e w5 ⟨rfl, s5, f5⟩; have u1 := f5.cell v1 (by simpa using hq1.symm)))
          all_goals
            go_wp2_with fail
            go_meet
            case rel => exact ⟨_, HPd.out.step s4 f4 s5 f5 (waitS_ok HPa.out.ok nn) (waitS_tk HPa.out.tk nn HOKa.out.n)⟩
        have k4b : (kd == 4) = false := by simpa using k4
        by_cases k5 : kd = 5
        · subst k5
          as_aux_lemma =>
          have HPd := Lib.hid (HPa.out.keep ((Fr.refl [] wa).drew))
          have ha2 := answer_any HPd.out.s HPa.out.ok ⟨tk, rk, code, place, time, rn, name, .slice ca cl cc, .slice ra cts.length rc, cts⟩ (HOK0.out.fr HPd.out.fr).r hC2 (HT.out.fr HPd.out.fr)
          have ha3 := fun w4 (f4 : Fr [b] wa.drew w4) (fw : Fr [] w w4) => ranswer_any (HPd.out.ref f4) HPa.out.ok ⟨tk, rk, code, place, time, rn, name, .slice ca cl cc, .slice ra cts.length rc, cts⟩ (HOK0.out.fr fw).r hC2 (HT.out.fr fw)
          simp only [Rp.val] at ha2 ha3
          have HAo := Lib.hid (ansS_ok HPa.out.ok ⟨tk, rk, code, place, time, rn, name, .slice ca cl cc, .slice ra cts.length rc, cts⟩)
          have HAt := Lib.hid (show fits64 (ansS S ⟨tk, rk, code, place, time, rn, name, .slice ca cl cc, .slice ra cts.length rc, cts⟩).tk by rw [ansS_tk]; exact HPa.out.tk)
          generalize ansS S ⟨tk, rk, code, place, time, rn, name, .slice ca cl cc, .slice ra cts.length rc, cts⟩ = S2 at *
          generalize ansE S ⟨tk, rk, code, place, time, rn, name, .slice ca cl cc, .slice ra cts.length rc, cts⟩ = E2 at *
          go_upto_region 30 with fail
          go_region_held3 (fun w' => w'.cell? ⟨j, 3, none⟩ = some (.int .i64 tk) ∧ w'.cell? ⟨j, 4, none⟩ = some (.int .i64 rk) ∧ w'.cell? ⟨j, 5, none⟩ = some (.int .i64 code) ∧ w'.cell? ⟨j, 6, none⟩ = some (.int .i64 place) ∧ w'.cell? ⟨j, 7, none⟩ = some (.int .i64 time) ∧ w'.cell? ⟨j, 8, none⟩ = some (.int .i64 rn) ∧ w'.cell? ⟨j, 9, none⟩ = some (.string ⟨name.toArray⟩) ∧ w'.cell? ⟨j, 10, none⟩ = some (.slice ca cl cc) ∧ w'.cell? ⟨j, 11, none⟩ = some (.slice ra cts.length rc)) ((first | assumption | (refine ⟨?_, ?_, ?_, ?_, ?_, ?_, ?_, ?_, ?_⟩ <;> assumption))) (first
            | (go_at_call 15; refine (ha2).mono ?_; rintro e w4 ⟨rfl, s4, f4⟩; have v3 := f4.cell (show wa.drew.cell? ⟨j, 3, none⟩ = _ from z3) (by simpa using hb1.symm); have v4 := f4.cell (show wa.drew.cell? ⟨j, 4, none⟩ = _ from z4) (by simpa using hb1.symm); have v5 := f4.cell (show wa.drew.cell? ⟨j, 5, none⟩ = _ from z5) (by simpa using hb1.symm); have v6 := f4.cell (show wa.drew.cell? ⟨j, 6, none⟩ = _ from z6) (by simpa using hb1.symm); have v7 := f4.cell (show wa.drew.cell? ⟨j, 7, none⟩ = _ from z7) (by simpa using hb1.symm); have v8 := f4.cell (show wa.drew.cell? ⟨j, 8, none⟩ = _ from z8) (by simpa using hb1.symm); have v9 := f4.cell (show wa.drew.cell? ⟨j, 9, none⟩ = _ from z9) (by simpa using hb1.symm); have v10 := f4.cell (show wa.drew.cell? ⟨j, 10, none⟩ = _ from z10) (by simpa using hb1.symm); have v11 := f4.cell (show wa.drew.cell? ⟨j, 11, none⟩ = _ from z11) (by simpa using hb1.symm))
            | (go_at_call 16; refine (ha3 _ f4 (HPd.out.fr.past f4 (by simpa using HPd.out.nb))).mono ?_; rintro e w5 ⟨rfl, s5, f5⟩; have u3 := f5.cell v3 (by simpa using hq1.symm); have u4 := f5.cell v4 (by simpa using hq1.symm); have u5 := f5.cell v5 (by simpa using hq1.symm); have u6 := f5.cell v6 (by simpa using hq1.symm); have u7 := f5.cell v7 (by simpa using hq1.symm); have u8 := f5.cell v8 (by simpa using hq1.symm); have u9 := f5.cell v9 (by simpa using hq1.symm); have u10 := f5.cell v10 (by simpa using hq1.symm); have u11 := f5.cell v11 (by simpa using hq1.symm)))
          all_goals
            go_wp2_with fail
            go_meet
            case rel => exact ⟨_, HPd.out.step s4 f4 s5 f5 (HAo.out) (HAt.out)⟩
        have k5b : (kd == 5) = false := by simpa using k5
        by_cases k8 : kd = 8
        · subst k8
          as_aux_lemma =>
          obtain ⟨-, -, d2, -⟩ := blk5 HPa.out.r
          go_upto_region 30 with fail
          have HPb := Lib.hid (HPa.out.put hb1 hq1 hj0 3 (.int .i64 S.tk))
          have hab := set17 HA.out (.int .i64 S.tk)
          clear HPa HA d2 z0 z1 z2 z3 z4 z5 z6 z7 z8 z9 z10 z11 z12 z13 z14 z15 z16 zf
          generalize wa.setCell ⟨j, 3, none⟩ (.int .i64 S.tk) = wb at *
          obtain ⟨z0, z1, z2, z3, z4, z5, z6, z7, z8, z9, z10, z11, z12, z13, z14, z15, z16, -⟩ := blk17 hab
          clear hab
          have HPd := Lib.hid (HPb.out.keep ((Fr.refl [] wb).drew))
          have hro : ∀ wx, Fr [] w wx → Rp.Ok wx ⟨S.tk, rk, code, place, time, rn, name, .slice ca cl cc, .slice ra cts.length rc, cts⟩ := fun wx f => (HOK0.out.fr f).r.ticket HPb.out.tk
          have ha2 := answer_any HPd.out.s HPb.out.ok ⟨S.tk, rk, code, place, time, rn, name, .slice ca cl cc, .slice ra cts.length rc, cts⟩ (hro _ HPd.out.fr) hC2 (HT.out.fr HPd.out.fr)
          have ha3 := fun w4 (f4 : Fr [b] wb.drew w4) (fw : Fr [] w w4) => ranswer_any (HPd.out.ref f4) HPb.out.ok ⟨S.tk, rk, code, place, time, rn, name, .slice ca cl cc, .slice ra cts.length rc, cts⟩ (hro _ fw) hC2 (HT.out.fr fw)
          simp only [Rp.val] at ha2 ha3
          have HAo := Lib.hid (ansS_ok HPb.out.ok ⟨S.tk, rk, code, place, time, rn, name, .slice ca cl cc, .slice ra cts.length rc, cts⟩)
          have HAt := Lib.hid (show fits64 (ansS S ⟨S.tk, rk, code, place, time, rn, name, .slice ca cl cc, .slice ra cts.length rc, cts⟩).tk by rw [ansS_tk]; exact HPb.out.tk)
          clear hro
          generalize ansS S ⟨S.tk, rk, code, place, time, rn, name, .slice ca cl cc, .slice ra cts.length rc, cts⟩ = S2 at *
          generalize ansE S ⟨S.tk, rk, code, place, time, rn, name, .slice ca cl cc, .slice ra cts.length rc, cts⟩ = E2 at *
          go_region_held3 (fun w' => w'.cell? ⟨j, 3, none⟩ = some (.int .i64 S.tk) ∧ w'.cell? ⟨j, 4, none⟩ = some (.int .i64 rk) ∧ w'.cell? ⟨j, 5, none⟩ = some (.int .i64 code) ∧ w'.cell? ⟨j, 6, none⟩ = some (.int .i64 place) ∧ w'.cell? ⟨j, 7, none⟩ = some (.int .i64 time) ∧ w'.cell? ⟨j, 8, none⟩ = some (.int .i64 rn) ∧ w'.cell? ⟨j, 9, none⟩ = some (.string ⟨name.toArray⟩) ∧ w'.cell? ⟨j, 10, none⟩ = some (.slice ca cl cc) ∧ w'.cell? ⟨j, 11, none⟩ = some (.slice ra cts.length rc)) ((first | assumption | (refine ⟨?_, ?_, ?_, ?_, ?_, ?_, ?_, ?_, ?_⟩ <;> assumption))) (first
            | (go_at_call 15; refine (ha2).mono ?_; rintro e w4 ⟨rfl, s4, f4⟩; have v3 := f4.cell (show wb.drew.cell? ⟨j, 3, none⟩ = _ from z3) (by simpa using hb1.symm); have v4 := f4.cell (show wb.drew.cell? ⟨j, 4, none⟩ = _ from z4) (by simpa using hb1.symm); have v5 := f4.cell (show wb.drew.cell? ⟨j, 5, none⟩ = _ from z5) (by simpa using hb1.symm); have v6 := f4.cell (show wb.drew.cell? ⟨j, 6, none⟩ = _ from z6) (by simpa using hb1.symm); have v7 := f4.cell (show wb.drew.cell? ⟨j, 7, none⟩ = _ from z7) (by simpa using hb1.symm); have v8 := f4.cell (show wb.drew.cell? ⟨j, 8, none⟩ = _ from z8) (by simpa using hb1.symm); have v9 := f4.cell (show wb.drew.cell? ⟨j, 9, none⟩ = _ from z9) (by simpa using hb1.symm); have v10 := f4.cell (show wb.drew.cell? ⟨j, 10, none⟩ = _ from z10) (by simpa using hb1.symm); have v11 := f4.cell (show wb.drew.cell? ⟨j, 11, none⟩ = _ from z11) (by simpa using hb1.symm))
            | (go_at_call 16; refine (ha3 _ f4 (HPd.out.fr.past f4 (by simpa using HPd.out.nb))).mono ?_; rintro e w5 ⟨rfl, s5, f5⟩; have u3 := f5.cell v3 (by simpa using hq1.symm); have u4 := f5.cell v4 (by simpa using hq1.symm); have u5 := f5.cell v5 (by simpa using hq1.symm); have u6 := f5.cell v6 (by simpa using hq1.symm); have u7 := f5.cell v7 (by simpa using hq1.symm); have u8 := f5.cell v8 (by simpa using hq1.symm); have u9 := f5.cell v9 (by simpa using hq1.symm); have u10 := f5.cell v10 (by simpa using hq1.symm); have u11 := f5.cell v11 (by simpa using hq1.symm)))
          all_goals
            go_wp2_with fail
            go_meet
            case rel => exact ⟨_, HPd.out.step s4 f4 s5 f5 (HAo.out) (HAt.out)⟩
        have k8b : (kd == 8) = false := by simpa using k8
        by_cases k6 : kd = 6
        · subst k6
          as_aux_lemma =>
          have HPd := Lib.hid (HPa.out.keep ((Fr.refl [] wa).drew))
          have ha2 := note_any HPd.out.s HPa.out.ok ⟨xk, xt, xn, .slice xa xds.length xc, xds, xcode⟩ (HOK0.out.fr HPd.out.fr).x (HT.out.fr HPd.out.fr)
          have ha3 := fun w4 (f4 : Fr [b] wa.drew w4) (fw : Fr [] w w4) => rnote_any (HPd.out.ref f4) HPa.out.ok ⟨xk, xt, xn, .slice xa xds.length xc, xds, xcode⟩ (HOK0.out.fr fw).x (HT.out.fr fw)
          simp only [Nt.val] at ha2 ha3
          have HAo := Lib.hid (noteS_ok HPa.out.ok ⟨xk, xt, xn, .slice xa xds.length xc, xds, xcode⟩)
          have HAt := Lib.hid (show fits64 (noteS S ⟨xk, xt, xn, .slice xa xds.length xc, xds, xcode⟩).tk by rw [noteS_tk]; exact HPa.out.tk)
          generalize noteS S ⟨xk, xt, xn, .slice xa xds.length xc, xds, xcode⟩ = S2 at *
          generalize noteE S ⟨xk, xt, xn, .slice xa xds.length xc, xds, xcode⟩ = E2 at *
          go_upto_region 33 with fail
          go_region_held3 (fun w' => w'.cell? ⟨j, 12, none⟩ = some (.int .i64 xk) ∧ w'.cell? ⟨j, 13, none⟩ = some (.int .i64 xt) ∧ w'.cell? ⟨j, 14, none⟩ = some (.int .i64 xn) ∧ w'.cell? ⟨j, 15, none⟩ = some (.slice xa xds.length xc) ∧ w'.cell? ⟨j, 16, none⟩ = some (.int .i64 xcode)) ((first | assumption | (refine ⟨?_, ?_, ?_, ?_, ?_⟩ <;> assumption))) (first
            | (go_at_call 17; refine (ha2).mono ?_; rintro e w4 ⟨rfl, s4, f4⟩; have v12 := f4.cell (show wa.drew.cell? ⟨j, 12, none⟩ = _ from z12) (by simpa using hb1.symm); have v13 := f4.cell (show wa.drew.cell? ⟨j, 13, none⟩ = _ from z13) (by simpa using hb1.symm); have v14 := f4.cell (show wa.drew.cell? ⟨j, 14, none⟩ = _ from z14) (by simpa using hb1.symm); have v15 := f4.cell (show wa.drew.cell? ⟨j, 15, none⟩ = _ from z15) (by simpa using hb1.symm); have v16 := f4.cell (show wa.drew.cell? ⟨j, 16, none⟩ = _ from z16) (by simpa using hb1.symm))
            | (go_at_call 18; refine (ha3 _ f4 (HPd.out.fr.past f4 (by simpa using HPd.out.nb))).mono ?_; rintro e w5 ⟨rfl, s5, f5⟩; have u12 := f5.cell v12 (by simpa using hq1.symm); have u13 := f5.cell v13 (by simpa using hq1.symm); have u14 := f5.cell v14 (by simpa using hq1.symm); have u15 := f5.cell v15 (by simpa using hq1.symm); have u16 := f5.cell v16 (by simpa using hq1.symm)))
          all_goals
            go_wp2_with fail
            go_meet
            case rel => exact ⟨_, HPd.out.step s4 f4 s5 f5 (HAo.out) (HAt.out)⟩
        have k6b : (kd == 6) = false := by simpa using k6
        by_cases k7 : kd = 7
        · subst k7
          as_aux_lemma =>
          go_wp2_with (first
            | (go_at_call 19; refine (close_any HPa.out.s).mono ?_; rintro e w4 ⟨rfl, s4, f4⟩)
            | (go_at_call 20; refine (rclose_any (HPa.out.ref f4)).mono ?_; rintro e w5 ⟨rfl, s5, f5⟩))
          go_meet
          case rel => exact ⟨_, HPa.out.step s4 f4 s5 f5 (closeS_ok HPa.out.ok) HPa.out.tk⟩
        have k7b : (kd == 7) = false := by simpa using k7
        clear k1 k2 k3 k4 k5 k8 k6 k7
        as_aux_lemma =>
        go_wp2_with fail
        go_meet
        case rel => exact ⟨S, HPa.out⟩
      case rest =>
        as_aux_lemma =>
        obtain ⟨S', hp'⟩ := hcut
        generalize wc = wd at *
        clear HPa HOKa HOK0 HA HM z0 z1 z2 z3 z4 z5 z6 z7 z8 z9 z10 z11 z12 z13 z14 z15 z16 zf
        have HQ := Lib.hid hp'
        obtain ⟨d0, d1, d2, d3, d4, -⟩ := blk5 hp'.r
        have hro := hp'.ok.ou
        have hr1 := hp'.ok.r1
        have hsz := size_mk S'.out
        have HST := Lib.hid (fun p : FrBy wd => (state_any (hp'.s.fr p.fr (by simp))).mono fun e w' ⟨h1, h2⟩ => (show e = Ending.returned (.int .i64 S'.st) ∧ Fr [] p.wn w' from ⟨h1, h2 ▸ Fr.refl [] _⟩))
        have HTI := Lib.hid (fun p : FrBy wd => (ticket_any (hp'.s.fr p.fr (by simp))).mono fun e w' ⟨h1, h2⟩ => (show e = Ending.returned (.int .i64 (tickB S')) ∧ Fr [] p.wn w' from ⟨h1, h2 ▸ Fr.refl [] _⟩))
        have HTR := Lib.hid (fun p : FrBy wd => (rticket_any (hp'.r.fr p.fr (by simp))).mono fun e w' ⟨h1, h2⟩ => (show e = Ending.returned (.int .i64 (tickB S')) ∧ Fr [] p.wn w' from ⟨h1, h2 ▸ Fr.refl [] _⟩))
        have HRO := Lib.hid (fun p : FrBy wd => room_any (hp'.s.fr p.fr (by simp)) hp'.ok)
        have hw : IntKind.i64.wrap (S'.room - (S'.out.length : Int)) = S'.room - (S'.out.length : Int) := by rw [IntKind.wrap_i64]; omega
        have u0 : ∀ p : FrBy wd, p.wn.cell? ⟨q, 0, none⟩ = some (.int .i64 S'.room) := fun p => p.fr.cell d0 (by simp)
        have u1 : ∀ p : FrBy wd, p.wn.cell? ⟨q, 1, none⟩ = some (.int .i64 S'.st) := fun p => p.fr.cell d1 (by simp)
        have u4 : ∀ p : FrBy wd, p.wn.cell? ⟨q, 4, none⟩ = some (.string ⟨S'.out.toArray⟩) := fun p => p.fr.cell d4 (by simp)
        clear hp' d0 d1 d2 d3 d4
        rw [← hsz] at hw HRO
        generalize (⟨S'.out.toArray⟩ : ByteArray) = O at *
        go_upto_region 38 with fail
        refine wp_region_fr (by kernel_rfl) (by kernel_rfl) ?_
        repeat (go_big_quiet_step ((first | (go_at_call 21; exact Calls.fr_of (HST.out _)) | (go_at_call 22; exact Calls.fr_of (HTI.out _)) | (go_at_call 23; exact Calls.fr_of (HTR.out _)) | (go_at_call 24; exact Calls.fr_of (HRO.out _)))))
        refine wpQuiet_nil ?_
        intro wn hwn
        have fn : Fr [] wd wn := by obtain ⟨p, rfl⟩ := hwn; exact p.fr
        go_wp2_with fail
        go_roundw
        case rel => exact ⟨k + 1, S', by omega, by go_num, HQ.out.keep fn⟩
        case measure => simp [intOf]; omega
    · as_aux_lemma =>
      have hk2 : l.length ≤ k := by omega
      have hpd := hp.keep ((Fr.refl [] wr).drew)
      have htk := take_any hpd.s hp.ok 1048576
      simp only [takeN_all hp.ok, List.take_length] at htk
      obtain ⟨d0, d1, d2, d3, d4, -⟩ := blk5 hp.r
      have HQ := Lib.hid hpd
      have hqb : q ∉ [b] := by simpa using hp.ne.symm
      have d4' : wr.drew.cell? ⟨q, 4, none⟩ = some (.string ⟨S.out.toArray⟩) := d4
      clear hp hpd d0 d1 d2 d3
      generalize (⟨S.out.toArray⟩ : ByteArray) = O at *
      go_upto_region 41 with fail
      go_region_held3 (fun w' => w'.cell? ⟨q, 4, none⟩ = some (.string O)) (first | assumption) (first | (go_at_call 11; refine htk.mono ?_; rintro e w4 ⟨rfl, s4, f4⟩; have v4 := f4.cell d4' hqb))
      all_goals
        go_wp2_with fail
        go_ret
        exact ⟨by simp, HQ.out.fr.past f4 (by simpa using HQ.out.nb)⟩
end Go.Proofs.YtgdneoajmaeckaaGreatDoor
