/- SessionRoom: the walk, where (20 ≤ room) (400 < room). Conditions: the sizes; the listed tables lie as their text lays them. (Printed by genro.py.) -/
import Derived.Test.YtgdneoajmaeckaaDoorRoh
namespace Go.Proofs.YtgdneoajmaeckaaDoor
open Go.RowKit

set_option maxRecDepth 100000
set_option maxHeartbeats 12800000 in
theorem sroom_b {w : World} (room : Int) (h1 : 20 ≤ room) (h2 : 400 < room) {v v' : Value} {notes : List Nt} {takes : List Int} (hn : NotesAt w v notes) (ht : IntsAt w v' takes) (hT : Tabs w) :
    Calls Tryd.prog 6 #[.int .i64 room, v, v'] w fun e w' => e = .returned (.bool true) ∧ Fr [] w w' := by
  obtain ⟨na, nc, rfl, -, hnl⟩ := hn.shape
  obtain ⟨ta, tc, rfl, -, htl⟩ := ht.shape
  have HN := Lib.hid hn
  have HI := Lib.hid ht
  have HT := Lib.hid hT
  clear hn ht hT
  have hrf := fun w1 (f : Fr [] w w1) => rsay_any (w := w1) (feedR 0) (feedR_ok 0 (Or.inl rfl) w1) (HT.out.p.fr f) (by simp [feedR])
  rw [feedR_say] at hrf
  simp only [feedR, Rp.val] at hrf
  have hR0 : (20 : Int) ≤ 60 := by decide
  have hR1 : (60 : Int) ≤ 400 := by decide
  go_enter Tryd.func6, Tryd.ntmps6
  go_upto_region 3 with fail
  clear h1 h2
  have hnew := new_yes 60 w (by omega) (by omega)
  have hfa := fed_ans 60 hR0
  go_upto_region 7 with (first
    | (go_at_call 7; refine hnew.mono ?_; rintro e w1 ⟨⟨b, rfl, s1, g1⟩, f1⟩; have S1 := Lib.hid s1; have F1 := Lib.hid f1; have k1 := s1.lt; clear s1 f1)
    | (go_at_call 18; refine (wait_any S1.out 5).mono ?_; rintro e w2 ⟨rfl, s2, f2⟩; have S2 := Lib.hid (show SsAt TS w2 b ⟨60, 1, 5, [], []⟩ from s2); have F2 := Lib.hid (F1.out.past f2 (by simpa using g1)); clear s2 f2)
    | (go_at_call 19
       have hans := answer_any S2.out (ss_ok (out := []) hR0 hR1 (by simp only [List.length_nil]; omega) 1) (feedR 5) (feedR_ok 5 (Or.inr rfl) _) (by simp [feedR]) (HT.out.fr F2.out)
       rw [hfa.1, hfa.2] at hans
       refine hans.mono ?_; rintro e w3 ⟨rfl, s3, f3⟩; have S3 := Lib.hid s3; have F3 := Lib.hid (F2.out.past f3 (by simpa using g1)); clear s3 f3 hans)
    | (go_at_call 12; refine (hrf _ F3.out).mono ?_; rintro e w4 ⟨rfl, f4⟩; have S4 := Lib.hid (S3.out.fr f4 (by simp)); have F4 := Lib.hid (F3.out.trans f4); clear f4))
  clear hnew hfa S1 S2 S3 F1 F2 F3
  have HR := Lib.hid hrf
  clear hrf
  go_upto_block 0 with fail
  go_cut [9, 10] (fun a9 a10 wx => ∃ got out, a9 = .string ⟨(got ++ out).toArray⟩ ∧ a10 = .string ⟨got.toArray⟩ ∧ RoR w b 60 40 got out wx)
  case first =>
    go_wp2_with fail
    go_loopw [9, 10, 48] (fun a9 a10 a48 wr => ∃ (k : Nat) (got out : List UInt8), k ≤ notes.length ∧ k ≤ 40 ∧ a48 = .int .i64 k ∧ a9 = .string ⟨(got ++ out).toArray⟩ ∧ a10 = .string ⟨got.toArray⟩ ∧ RoR w b 60 k got out wr) (fun _ _ a48 _ => notes.length - (intOf a48).toNat)
    case atStart => exact ⟨0, [], feedL, Nat.zero_le _, Nat.zero_le _, rfl, rfl, rfl, (show ((9 : Nat) : Int) ≤ 60 by omega), (show 9 ≤ 9 + 400 * 0 by omega), S4.out, F4.out⟩
    case round =>
      clear S4 F4
      obtain ⟨k, got, out, hk, hk40, rfl, rfl, rfl, hr⟩ := hrel
      have HRR := Lib.hid hr
      have hout := hr.1
      have hlen := hr.2.1
      have hbl := hr.2.2.1.lt
      by_cases hlt : k < notes.length
      · obtain ⟨-, -, -, -, -, -, -, -, xok⟩ := HN.out.at hlt
        obtain ⟨nb, no, rfl, x0, x1, x2, x3, x4, -⟩ := (HN.out.fr hr.2.2.2).at hlt
        have XOK := Lib.hid xok
        obtain ⟨ra, rc, hrow, -⟩ := xok.row.shape
        clear hr xok
        generalize notes[k] = x at *
        obtain ⟨kind, time, n, row, ds, code⟩ := x
        simp only at x0 x1 x2 x3 x4 hrow
        subst hrow
        by_cases h40 : 40 ≤ k
        · have h40' : (40 : Int) ≤ (k : Int) := by omega
          have he := Lib.hid (show k = 40 by omega)
          go_wp2_with fail
          go_meet
          case rel => exact ⟨got, out, rfl, rfl, by rw [← he.out]; exact HRR.out.fr ((Fr.refl [] _).alloc _)⟩
        · have h40' : (k : Int) < 40 := by omega
          go_upto_region 12 with fail
          have ha := heap_alloc_new wr (.cells #[.int .i64 kind, .int .i64 time, .int .i64 n, .slice ra ds.length rc, .int .i64 code] 40)
          have hra := HRR.out.fr ((Fr.refl [] wr).alloc (.cells #[.int .i64 kind, .int .i64 time, .int .i64 n, .slice ra ds.length rc, .int .i64 code] 40))
          clear HRR x0 x1 x2 x3 x4
          generalize wr.heap.size = q at *
          generalize wr.alloc (.cells #[.int .i64 kind, .int .i64 time, .int .i64 n, .slice ra ds.length rc, .int .i64 code] 40) = wa at *
          have HA := Lib.hid ha
          have HRa := Lib.hid hra
          clear ha hra
          go_upto_if 58 with fail
          go_cut [10] (fun a10 wx => ∃ got2 out2, a10 = .string ⟨got2.toArray⟩ ∧ got2 ++ out2 = got ++ out ∧ RoR w b 60 k got2 out2 wx ∧ wx.heap[q]? = some (.cells #[.int .i64 kind, .int .i64 time, .int .i64 n, .slice ra ds.length rc, .int .i64 code] 40))
          case first =>
            by_cases hlt2 : k < takes.length
            · obtain ⟨tb, tof, rfl, y0⟩ := (HI.out.fr HRa.out.2.2.2).at hlt2
              generalize takes[k] = m at *
              have htk := take_any HRa.out.2.2.1 (ss_ok hR0 hR1 hout 2) (m.tmod 50)
              simp only at htk
              generalize takeN ⟨60, 2, 5, [], out⟩ (m.tmod 50) = j at *
              have HC := Lib.hid (cat got (out.take j))
              have hs1 := size_mk got
              have hs2 := size_mk (out.take j)
              have hl3 : got.length + (out.take j).length ≤ 20000 := by rw [List.length_take]; rw [List.length_append] at hlen; omega
              have HG := Lib.hid (show (got ++ out.take j) ++ out.drop j = got ++ out by rw [List.append_assoc, List.take_append_drop])
              have hdl : ((out.drop j).length : Int) ≤ 60 := by rw [List.length_drop]; omega
              go_wp2_with (go_at_call 20; refine htk.mono ?_; rintro e w5 ⟨rfl, s5, f5⟩)
              go_meet
              case rel => exact ⟨got ++ out.take j, out.drop j, congrArg Value.string HC.out, HG.out, ⟨hdl, by rw [HG.out]; exact hlen, s5, HRa.out.2.2.2.past f5 (by simpa using g1)⟩, f5.heap HA.out (by simp; omega)⟩
            · have hlt3 : takes.length ≤ k := by omega
              go_wp2_with fail
              go_meet
              case rel => exact ⟨got, out, rfl, rfl, HRa.out, HA.out⟩
          case rest =>
            obtain ⟨got2, out2, rfl, hgo, hr2, ha2⟩ := hcut
            generalize wc = wd at *
            clear HA HRa
            have HGO := Lib.hid hgo
            rw [← hgo] at hlen ⊢
            clear hgo hout
            have hout := hr2.1
            have HR2 := Lib.hid hr2
            obtain ⟨c0, c1, c2, c3, c4, -⟩ := blk5 ha2
            have ht := rtell_any ⟨kind, time, n, .slice ra ds.length rc, ds, code⟩ (XOK.out.fr hr2.2.2.2) (HT.out.p.fr hr2.2.2.2)
            have HNote := Lib.hid (fun (o : List UInt8) wn (h : (o.length : Int) ≤ 60) (s : SsAt TS wn b ⟨60, 2, 5, [], o⟩) (f : Fr [] w wn) => note_any s (ss_ok hR0 hR1 h 2) ⟨kind, time, n, .slice ra ds.length rc, ds, code⟩ (XOK.out.fr f) (HT.out.fr f))
            have HFit := Lib.hid (fun (o : List UInt8) => note_fit (R := 60) (out := o) (x := ⟨kind, time, n, .slice ra ds.length rc, ds, code⟩))
            have HFull := Lib.hid (fun (o : List UInt8) => note_full (R := 60) (out := o) (x := ⟨kind, time, n, .slice ra ds.length rc, ds, code⟩))
            have HA2 := Lib.hid ha2
            simp only [Nt.val] at ht
            clear ha2 hr2 XOK
            generalize tellB ⟨kind, time, n, .slice ra ds.length rc, ds, code⟩ = t at *
            go_upto_region 15 with (go_at_call 14; refine ht.mono ?_; rintro e w6 ⟨rfl, f6⟩; obtain ⟨c0, c1, c2, c3, c4, -⟩ := blk5 (f6.heap HA2.out (by simp)); have HR6 := Lib.hid (HR2.out.fr f6); have HA6 := Lib.hid (f6.heap HA2.out (by simp)); clear f6)
            clear HR2 HA2 ht
            by_cases hk4 : kind = 4
            · subst hk4
              go_wp2_with fail
              go_roundw
              case rel => exact ⟨k + 1, got2, out2, by omega, by omega, by go_num, rfl, rfl, HR6.out.next⟩
              case measure => simp [intOf]; omega
            · have hkb : (kind == 4) = false := by simpa using hk4
              have hszt := size_mk t
              by_cases htn : t = []
              · have t2 : (⟨t.toArray⟩ : ByteArray).toList = [] := by rw [ByteArray.toList_eq]; exact htn
                have t4 : ((⟨t.toArray⟩ : ByteArray).toList == []) = true := by simpa using t2
                have t1 : (⟨t.toArray⟩ : ByteArray).toList.isEmpty = true := by simpa using t2
                clear hk4 htn hszt
                generalize (⟨t.toArray⟩ : ByteArray) = T at *
                go_wp2_with fail
                go_roundw
                case rel => exact ⟨k + 1, got2, out2, by omega, by omega, by go_num, rfl, rfl, HR6.out.next⟩
                case measure => simp [intOf]; omega
              · have t2 : ¬ (⟨t.toArray⟩ : ByteArray).toList = [] := by rw [ByteArray.toList_eq]; exact htn
                have t4 : ((⟨t.toArray⟩ : ByteArray).toList == []) = false := by simpa using t2
                have t1 : (⟨t.toArray⟩ : ByteArray).toList.isEmpty = false := by simpa using t2
                have t5 : t.isEmpty = false := by simpa using htn
                have hroom := room_any HR6.out.2.2.1 (ss_ok hR0 hR1 hout 2)
                simp only at hroom
                go_upto_region 17 with (go_at_call 21; refine hroom.mono ?_; rintro e w7 ⟨rfl, f7⟩; obtain ⟨c0, c1, c2, c3, c4, -⟩ := blk5 (f7.heap HA6.out (by simp)); have HR7 := Lib.hid (HR6.out.fr f7); have HA7 := Lib.hid (f7.heap HA6.out (by simp)); clear f7)
                clear HR6 HA6 hroom
                by_cases hfit : (t.length : Int) ≤ 60 - (out2.length : Int)
                · have hnt := HNote.out out2 w7 hout HR7.out.2.2.1 HR7.out.2.2.2
                  rw [(HFit.out out2 hk4 htn hfit).1, (HFit.out out2 hk4 htn hfit).2] at hnt
                  simp only [Nt.val] at hnt
                  have HC := Lib.hid (show (⟨(got2 ++ out2).toArray⟩ : ByteArray) ++ ⟨t.toArray⟩ = ⟨(got2 ++ (out2 ++ t)).toArray⟩ by rw [cat, List.append_assoc])
                  have hlo : ((out2 ++ t).length : Int) ≤ 60 := by rw [List.length_append]; omega
                  have hlw : (got2 ++ (out2 ++ t)).length ≤ 9 + 400 * (k + 1) := by rw [← List.append_assoc, List.length_append]; omega
                  obtain ⟨D, hD, hD0, hD1⟩ : ∃ D : Int, 60 - ((out2 ++ t).length : Int) = D ∧ 0 ≤ D ∧ D ≤ 60 := ⟨_, rfl, by omega, by omega⟩
                  have HRM : Hid (∀ wn, SsAt TS wn b ⟨60, 2, 5, [], out2 ++ t⟩ → Calls Tryd.prog 21 #[.pointer (some ⟨b, 0, none⟩)] wn fun e w' => e = .returned (.int .i64 D) ∧ Fr [] wn w') := Lib.hid (fun wn s => by
                    have h := room_any s (ss_ok hR0 hR1 hlo 2)
                    simp only [hD] at h
                    exact h)
                  have HST : Hid (∀ wn, SsAt TS wn b ⟨60, 2, 5, [], out2 ++ t⟩ → Calls Tryd.prog 23 #[.pointer (some ⟨b, 0, none⟩)] wn fun e w' => e = .returned (.int .i64 2) ∧ w' = wn) := Lib.hid (fun wn s => state_any s)
                  have hs1 := size_mk (got2 ++ out2)
                  have hfs : ((⟨t.toArray⟩ : ByteArray).size : Int) ≤ 60 - (out2.length : Int) := by rw [hszt]; exact hfit
                  have hsl1 : (⟨(got2 ++ out2).toArray⟩ : ByteArray).size ≤ 20000 := by rw [hs1]; omega
                  have hsl2 : (⟨t.toArray⟩ : ByteArray).size ≤ 400 := by rw [hszt]; omega
                  clear hD HFit HFull HNote hfit hs1 hszt
                  generalize out2 ++ t = o3 at *
                  generalize hT : (⟨t.toArray⟩ : ByteArray) = T at *
                  generalize hG : (⟨(got2 ++ out2).toArray⟩ : ByteArray) = G at *
                  clear hT hG
                  go_upto_region 18 with (go_at_call 22; refine hnt.mono ?_; rintro e w8 ⟨rfl, s8, f8⟩; have S8 := Lib.hid s8; have F8 := Lib.hid (HR7.out.2.2.2.past f8 (by simpa using g1)); clear s8 f8)
                  clear hnt HR7 HA7
                  go_wp2_with (first
                    | (go_at_call 21; refine (HRM.out _ S8.out).mono ?_; rintro e w9 ⟨rfl, f9⟩; have S8 := Lib.hid (S8.out.fr f9 (by simp)); have F8 := Lib.hid (F8.out.trans f9); clear f9)
                    | (go_at_call 23; refine (HST.out _ S8.out).mono ?_; rintro e w10 ⟨rfl, rfl⟩))
                  go_roundw
                  case rel => exact ⟨k + 1, got2, o3, by omega, by omega, by go_num, congrArg Value.string HC.out, rfl, hlo, hlw, S8.out, F8.out⟩
                  case measure => simp [intOf]; omega
                · have hbig : 60 - (out2.length : Int) < (t.length : Int) := by omega
                  have hnt := HNote.out out2 w7 hout HR7.out.2.2.1 HR7.out.2.2.2
                  rw [(HFull.out out2 htn hbig).1, (HFull.out out2 htn hbig).2] at hnt
                  simp only [Nt.val] at hnt
                  have HRM : Hid (∀ wn, SsAt TS wn b ⟨60, 2, 5, [], out2⟩ → Calls Tryd.prog 21 #[.pointer (some ⟨b, 0, none⟩)] wn fun e w' => e = .returned (.int .i64 (60 - (out2.length : Int))) ∧ Fr [] wn w') := Lib.hid (fun wn s => room_any s (ss_ok hR0 hR1 hout 2))
                  have HST : Hid (∀ wn o, SsAt TS wn b ⟨60, 2, 5, [], o⟩ → Calls Tryd.prog 23 #[.pointer (some ⟨b, 0, none⟩)] wn fun e w' => e = .returned (.int .i64 2) ∧ w' = wn) := Lib.hid (fun wn o s => state_any s)
                  have hfs : 60 - (out2.length : Int) < ((⟨t.toArray⟩ : ByteArray).size : Int) := by rw [hszt]; exact hbig
                  by_cases hle : (t.length : Int) ≤ 60
                  · have hls : ((⟨t.toArray⟩ : ByteArray).size : Int) ≤ 60 := by rw [hszt]; exact hle
                    have HTK : Hid (∀ wn, SsAt TS wn b ⟨60, 2, 5, [], out2⟩ → Calls Tryd.prog 20 #[.pointer (some ⟨b, 0, none⟩), .int .i64 60] wn fun e w' => e = .returned (.string ⟨out2.toArray⟩) ∧ SsAt TS w' b ⟨60, 2, 5, [], []⟩ ∧ Fr [b] wn w') := Lib.hid (fun wn s => by
                      have h := take_any s (ss_ok hR0 hR1 hout 2) 60
                      simp only [take_all hout, List.take_length, List.drop_length] at h
                      exact h)
                    have HRM0 : Hid (∀ wn, SsAt TS wn b ⟨60, 2, 5, [], []⟩ → Calls Tryd.prog 21 #[.pointer (some ⟨b, 0, none⟩)] wn fun e w' => e = .returned (.int .i64 60) ∧ Fr [] wn w') := Lib.hid (fun wn s => by
                      have h := room_any s (ss_ok (out := []) hR0 hR1 (by simp only [List.length_nil]; omega) 2)
                      simpa using h)
                    have hf0 : (t.length : Int) ≤ 60 - (([] : List UInt8).length : Int) := by simpa using hle
                    have HNT2 := Lib.hid (fun wn (s : SsAt TS wn b ⟨60, 2, 5, [], []⟩) (f : Fr [] w wn) => by
                      have h := HNote.out [] wn (by simp only [List.length_nil]; omega) s f
                      rw [(HFit.out [] hk4 htn hf0).1, (HFit.out [] hk4 htn hf0).2] at h
                      exact h)
                    simp only [Nt.val, List.nil_append] at HNT2
                    obtain ⟨D, hD, hD0, hD1⟩ : ∃ D : Int, 60 - (t.length : Int) = D ∧ 0 ≤ D ∧ D ≤ 60 := ⟨_, rfl, by omega, by omega⟩
                    have HRM3 : Hid (∀ wn, SsAt TS wn b ⟨60, 2, 5, [], t⟩ → Calls Tryd.prog 21 #[.pointer (some ⟨b, 0, none⟩)] wn fun e w' => e = .returned (.int .i64 D) ∧ Fr [] wn w') := Lib.hid (fun wn s => by
                      have h := room_any s (ss_ok hR0 hR1 hle 2)
                      simp only [hD] at h
                      exact h)
                    have HC := Lib.hid (cat (got2 ++ out2) t)
                    have HC2 := Lib.hid (cat got2 out2)
                    have hlw : ((got2 ++ out2) ++ t).length ≤ 9 + 400 * (k + 1) := by rw [List.length_append]; omega
                    have hs1 := size_mk (got2 ++ out2)
                    have hs2 := size_mk got2
                    have hs3 := size_mk out2
                    have hln : got2.length + out2.length ≤ 20000 := by rw [List.length_append] at hlen; omega
                    have hsl1 : (⟨(got2 ++ out2).toArray⟩ : ByteArray).size ≤ 20000 := by rw [hs1]; omega
                    have hsl2 : (⟨t.toArray⟩ : ByteArray).size ≤ 400 := by rw [hszt]; omega
                    have hsl3 : (⟨got2.toArray⟩ : ByteArray).size ≤ 20000 := by rw [hs2]; omega
                    have hsl4 : (⟨out2.toArray⟩ : ByteArray).size ≤ 20000 := by rw [hs3]; omega
                    have HLE := Lib.hid hle
                    clear hD HFit HFull HNote hle hf0 hs1 hs2 hs3 hszt hbig
                    generalize hT : (⟨t.toArray⟩ : ByteArray) = T at *
                    generalize hG : (⟨(got2 ++ out2).toArray⟩ : ByteArray) = G at *
                    generalize hG2 : (⟨got2.toArray⟩ : ByteArray) = G2 at *
                    generalize hO2 : (⟨out2.toArray⟩ : ByteArray) = O2 at *
                    go_upto_region 18 with (go_at_call 22; refine hnt.mono ?_; rintro e w8 ⟨rfl, s8, f8⟩; obtain ⟨c0, c1, c2, c3, c4, -⟩ := blk5 (f8.heap HA7.out (by simp; omega)); have HA8 := Lib.hid (f8.heap HA7.out (by simp; omega)); have S8 := Lib.hid s8; have F8 := Lib.hid (HR7.out.2.2.2.past f8 (by simpa using g1)); clear s8 f8)
                    clear hnt HR7 HA7
                    go_upto_region 20 with (go_at_call 21; refine (HRM.out _ S8.out).mono ?_; rintro e w9 ⟨rfl, f9⟩; obtain ⟨c0, c1, c2, c3, c4, -⟩ := blk5 (f9.heap HA8.out (by simp)); have HA8 := Lib.hid (f9.heap HA8.out (by simp)); have S8 := Lib.hid (S8.out.fr f9 (by simp)); have F8 := Lib.hid (F8.out.trans f9); clear f9)
                    go_upto_region 23 with fail
                    go_upto_region 24 with (go_at_call 20; refine (HTK.out _ S8.out).mono ?_; rintro e w10 ⟨rfl, s10, f10⟩; obtain ⟨c0, c1, c2, c3, c4, -⟩ := blk5 (f10.heap HA8.out (by simp; omega)); have HA10 := Lib.hid (f10.heap HA8.out (by simp; omega)); have S10 := Lib.hid s10; have F10 := Lib.hid (F8.out.past f10 (by simpa using g1)); clear s10 f10)
                    clear S8 F8 HA8
                    go_upto_region 26 with (first
                      | (go_at_call 21; refine (HRM0.out _ S10.out).mono ?_; rintro e w11 ⟨rfl, f11⟩; obtain ⟨c0, c1, c2, c3, c4, -⟩ := blk5 (f11.heap HA10.out (by simp)); have S11 := Lib.hid (S10.out.fr f11 (by simp)); have F11 := Lib.hid (F10.out.trans f11); clear f11)
                      | (go_at_call 22; refine (HNT2.out _ S11.out F11.out).mono ?_; rintro e w12 ⟨rfl, s12, f12⟩; have S12 := Lib.hid s12; have F12 := Lib.hid (F11.out.past f12 (by simpa using g1)); clear s12 f12))
                    clear S10 F10 S11 F11 HA10
                    go_wp2_with (first
                      | (go_at_call 21; refine (HRM3.out _ S12.out).mono ?_; rintro e w13 ⟨rfl, f13⟩; have S12 := Lib.hid (S12.out.fr f13 (by simp)); have F12 := Lib.hid (F12.out.trans f13); clear f13)
                      | (go_at_call 23; refine (HST.out _ _ S12.out).mono ?_; rintro e w14 ⟨rfl, rfl⟩))
                    go_roundw
                    case rel => exact ⟨k + 1, got2 ++ out2, t, by omega, by omega, by go_num, congrArg Value.string HC.out, by rw [hG]; exact congrArg Value.string HC2.out, HLE.out, hlw, S12.out, F12.out⟩
                    case measure => simp [intOf]; omega
                  · have hls : 60 < ((⟨t.toArray⟩ : ByteArray).size : Int) := by rw [hszt]; omega
                    have hh0 : 0 ≤ 60 - (out2.length : Int) := by omega
                    have hh1 : 60 - (out2.length : Int) ≤ 60 := by omega
                    clear HFit HFull HNote hle hszt hbig
                    generalize (⟨t.toArray⟩ : ByteArray) = T at *
                    go_upto_region 18 with (go_at_call 22; refine hnt.mono ?_; rintro e w8 ⟨rfl, s8, f8⟩; have S8 := Lib.hid s8; have F8 := Lib.hid (HR7.out.2.2.2.past f8 (by simpa using g1)); clear s8 f8)
                    have HL := Lib.hid HR7.out.2.1
                    clear hnt HR7 HA7
                    go_wp2_with (first
                      | (go_at_call 21; refine (HRM.out _ S8.out).mono ?_; rintro e w9 ⟨rfl, f9⟩; have S8 := Lib.hid (S8.out.fr f9 (by simp)); have F8 := Lib.hid (F8.out.trans f9); clear f9)
                      | (go_at_call 23; refine (HST.out _ _ S8.out).mono ?_; rintro e w10 ⟨rfl, rfl⟩))
                    go_roundw
                    case rel => exact ⟨k + 1, got2, out2, by omega, by omega, by go_num, rfl, rfl, hout, by have := HL.out; omega, S8.out, F8.out⟩
                    case measure => simp [intOf]; omega
      · have hk2 : notes.length ≤ k := by omega
        clear hr
        go_wp2_with fail
        go_meet
        case rel => exact ⟨got, out, rfl, rfl, by have h := HRR.out; exact ⟨h.1, Nat.le_trans h.2.1 (by omega), h.2.2⟩⟩
  case rest =>
    clear S4 F4 HR
    obtain ⟨got, out, rfl, rfl, hr⟩ := hcut
    generalize wc = wz at *
    have hout := hr.1
    have hlen := hr.2.1
    have htk := take_any hr.2.2.1 (ss_ok hR0 hR1 hout 2) 1048576
    simp only [take_all (show (out.length : Int) ≤ 1048576 by omega), List.take_length, List.drop_length] at htk
    have HRM0 : Hid (∀ wn, SsAt TS wn b ⟨60, 2, 5, [], []⟩ → Calls Tryd.prog 21 #[.pointer (some ⟨b, 0, none⟩)] wn fun e w' => e = .returned (.int .i64 60) ∧ Fr [] wn w') := Lib.hid (fun wn s => by
      have h := room_any s (ss_ok (out := []) hR0 hR1 (by simp only [List.length_nil]; omega) 2)
      simpa using h)
    have FZ := Lib.hid hr.2.2.2
    have hc := cat got out
    have hs1 := size_mk got
    have hs2 := size_mk out
    have hln : got.length + out.length ≤ 20000 := by rw [List.length_append] at hlen; omega
    have hsl1 : (⟨got.toArray⟩ : ByteArray).size ≤ 20000 := by rw [hs1]; omega
    have hsl2 : (⟨out.toArray⟩ : ByteArray).size ≤ 20000 := by rw [hs2]; omega
    clear hr hs1 hs2
    generalize (⟨(got ++ out).toArray⟩ : ByteArray) = W at *
    generalize (⟨got.toArray⟩ : ByteArray) = G at *
    generalize (⟨out.toArray⟩ : ByteArray) = O at *
    have hww : (W.toList == W.toList) = true := by simp
    go_wp2_with (first
      | (go_at_call 20; refine htk.mono ?_; rintro e w10 ⟨rfl, s10, f10⟩; have S10 := Lib.hid s10; have F10 := Lib.hid (FZ.out.past f10 (by simpa using g1)); clear s10 f10)
      | (go_at_call 21; refine (HRM0.out _ S10.out).mono ?_; rintro e w11 ⟨rfl, f11⟩; have F11 := Lib.hid (F10.out.trans f11); clear f11))
    go_ret
    exact ⟨by simp, F11.out⟩
end Go.Proofs.YtgdneoajmaeckaaDoor
