/- The reference's session: empty and Put. No condition but its sizes. -/
import Derived.Test.YtgdneoajmaeckaaGreatDoorRya
namespace Go.Proofs.YtgdneoajmaeckaaGreatDoor
open Go.RowKit

theorem blank_step {l : List UInt8} {k : Nat} (hk : k < l.length) : blankB (l.drop k) = ((l[k] == 32 || l[k] == 9 || l[k] == 13) && blankB (l.drop (k + 1))) := by
  rw [List.drop_eq_getElem_cons hk]
  rfl
theorem blank_end {l : List UInt8} {k : Nat} (hk : l.length ≤ k) : blankB (l.drop k) = true := by
  rw [List.drop_eq_nil_of_le hk]
  rfl

set_option maxRecDepth 100000
set_option maxHeartbeats 1600000 in
theorem rempty_any (l : List UInt8) (hl : l.length ≤ 140737488351232) (w : World) :
    Calls Tryz.prog 28 #[.string ⟨l.toArray⟩] w fun e w' => e = .returned (.bool (blankB l)) ∧ Fr [] w w' := by
  have hsz := size_mk l
  have HB := Lib.hid (show blankB l = blankB (l.drop 0) from rfl)
  go_enter Tryz.func28, Tryz.ntmps28
  go_wp2_with fail
  go_loopw [3] (fun a2 wr => ∃ k : Nat, k ≤ l.length ∧ a2 = .int .i64 k ∧ blankB l = blankB (l.drop k) ∧ Fr [] w wr) (fun a2 _ => l.length - (intOf a2).toNat)
  case atStart => exact ⟨0, Nat.zero_le _, rfl, HB.out, Fr.refl _ _⟩
  case round =>
    obtain ⟨k, hk, rfl, hb, hf⟩ := hrel
    have HF := Lib.hid hf
    by_cases hlt : k < l.length
    · have hlt2 : k < (⟨l.toArray⟩ : ByteArray).size := by rw [size_mk]; exact hlt
      have hbe : (⟨l.toArray⟩ : ByteArray)[k] = l[k] := rfl
      have hst := blank_step hlt
      rw [← hbe] at hst
      rw [hst] at hb
      have HB := Lib.hid hb
      have i1 : (0 : Int) ≤ (k : Int) := by omega
      have i2 : (k : Int) < (l.length : Int) := by omega
      clear hb hst hbe hf
      generalize hc : (⟨l.toArray⟩ : ByteArray)[k] = c at *
      by_cases hbl : (c == 32 || c == 9 || c == 13) = true
      · rw [hbl] at HB
        simp only [Bool.or_eq_true, beq_iff_eq] at hbl
        rcases hbl with (rfl | rfl) | rfl
        all_goals
          go_wp2_with fail
          go_roundw
          case rel => exact ⟨k + 1, by omega, by go_num, by simpa using HB.out, HF.out⟩
          case measure => simp [intOf]; omega
      · have hbl2 : (c == 32 || c == 9 || c == 13) = false := by simpa using hbl
        rw [hbl2] at HB
        simp only [Bool.or_eq_false_iff, beq_eq_false_iff_ne] at hbl2
        obtain ⟨⟨n1, n2⟩, n3⟩ := hbl2
        have z1 : ((c.toNat : Int) == 32) = false := by
          have : ¬ c.toNat = 32 := fun e => n1 (UInt8.toNat_inj.1 e)
          simp; omega
        have z2 : ((c.toNat : Int) == 9) = false := by
          have : ¬ c.toNat = 9 := fun e => n2 (UInt8.toNat_inj.1 e)
          simp; omega
        have z3 : ((c.toNat : Int) == 13) = false := by
          have : ¬ c.toNat = 13 := fun e => n3 (UInt8.toNat_inj.1 e)
          simp; omega
        have q1 : ((c.toNat : Int) != 32) = true := by simpa using z1
        have q2 : ((c.toNat : Int) != 9) = true := by simpa using z2
        have q3 : ((c.toNat : Int) != 13) = true := by simpa using z3
        clear n1 n2 n3 hbl
        go_wp2_with fail
        go_ret
        exact ⟨by rw [HB.out]; rfl, HF.out⟩
    · have hb2 : blankB l = true := by rw [hb, blank_end (by omega)]
      have HB := Lib.hid hb2
      clear hb hb2
      go_wp2_with fail
      go_ret
      exact ⟨by rw [HB.out]; rfl, HF.out⟩

theorem long_step {l : List UInt8} {k : Nat} (n : Nat) (hk : k < l.length) : longN n (l.drop k) = (decide (4000 < (if l[k] = 10 then 0 else n + 1)) || longN (if l[k] = 10 then 0 else n + 1) (l.drop (k + 1))) := by
  rw [List.drop_eq_getElem_cons hk]
  rfl
theorem long_end {l : List UInt8} {k : Nat} (n : Nat) (hk : l.length ≤ k) : longN n (l.drop k) = false := by
  rw [List.drop_eq_nil_of_le hk]
  rfl

def PutR (l : List UInt8) (bad : Bool) (w : World) (a4 a5 a6 : Value) (wr : World) : Prop :=
  ∃ (k n : Nat) (lg : Bool), k ≤ l.length ∧ n ≤ k ∧ a4 = .bool lg ∧ a5 = .int .i64 n ∧ a6 = .int .i64 k ∧ (lg || longN n (l.drop k)) = bad ∧ Fr [] w wr

set_option maxRecDepth 100000
set_option maxHeartbeats 3200000 in
theorem rput_any {w : World} {b : Nat} {S : Ss} (h : SsAt TR w b S) (ho : S.Ok) (l : List UInt8) (hl : l.length ≤ 1048576) :
    Calls Tryz.prog 8 #[.pointer (some ⟨b, 0, none⟩), .string ⟨l.toArray⟩] w fun e w' => e = .returned (.int .i64 (putE S l)) ∧ SsAt TR w' b (putS S l) ∧ Fr [b] w w' := by
  obtain ⟨c0, c1, c2, c3, c4, y0, y1, y2, y3, y4⟩ := blk5 h
  have H := Lib.hid h
  have hi := ho.ip
  clear h ho
  by_cases h3 : S.st = 3
  · have HE := Lib.hid (show putE S l = 201 from if_pos h3)
    have HP := Lib.hid (show putS S l = S from if_pos h3)
    rw [h3] at c1
    clear h3
    go_enter Tryz.func8, Tryz.ntmps8
    go_wp2_with fail
    go_ret
    exact ⟨by rw [HE.out]; rfl, by rw [HP.out]; exact H.out, Fr.refl _ _⟩
  · have h3b : (S.st == 3) = false := by simpa using h3
    have hc := cat S.inp l
    have hsi := size_mk S.inp
    have hsl := size_mk l
    have HB := Lib.hid (show (decide ((16000 : Int) < ((S.inp ++ l).length : Int)) || longN 0 ((S.inp ++ l).drop 0)) = badB S l by rw [badB, List.length_append, decide_eq_decide.2 (show (16000 : Int) < ((S.inp.length + l.length : Nat) : Int) ↔ 16000 < S.inp.length + l.length by omega)]; rfl)
    have HE0 := Lib.hid (fun (e : badB S l = false) => show putE S l = 0 by rw [putE, if_neg h3, e]; rfl)
    have HP0 := Lib.hid (fun (e : badB S l = false) => show putS S l = { S with inp := S.inp ++ l } by rw [putS, if_neg h3, e]; rfl)
    have HE1 := Lib.hid (fun (e : badB S l = true) => show putE S l = 2 by rw [putE, if_neg h3, e]; rfl)
    have HP1 := Lib.hid (fun (e : badB S l = true) => show putS S l = { S with st := 3, inp := [] } by rw [putS, if_neg h3, e]; rfl)
    have HN := Lib.hid (fun (w1 : World) (hs : SsAt TR w1 b S) => hs.set3 (S.inp ++ l))
    have hlen : (S.inp ++ l).length ≤ 1064576 := by rw [List.length_append]; omega
    have hls : S.inp.length + l.length ≤ 1064576 := by omega
    have hsz := size_mk (S.inp ++ l)
    clear h3
    generalize badB S l = bad at *
    generalize hA : S.inp ++ l = all at *
    clear hA
    have hd : ∀ wi, Fr [] w wi → SsAt TR wi b S := fun wi f => H.out.fr f (by simp)
    have HD := Lib.hid hd
    clear hd
    go_enter Tryz.func8, Tryz.ntmps8
    go_wp2_with fail
    go_loopw [6, 7, 8] (fun a4 a5 a6 wr => PutR all bad w a4 a5 a6 wr) (fun _ _ a6 _ => all.length - (intOf a6).toNat)
    case atStart => exact ⟨0, 0, _, Nat.zero_le _, Nat.le_refl _, rfl, rfl, rfl, HB.out, Fr.refl _ _⟩
    case round =>
      obtain ⟨k, n, lg, hk, hn, rfl, rfl, rfl, hb, hf⟩ := hrel
      have HF := Lib.hid hf
      by_cases hlt : k < all.length
      · have hlt2 : k < (⟨all.toArray⟩ : ByteArray).size := by rw [size_mk]; exact hlt
        have hbe : (⟨all.toArray⟩ : ByteArray)[k] = all[k] := rfl
        have hst := long_step n hlt
        rw [← hbe] at hst
        rw [hst] at hb
        have i1 : (0 : Int) ≤ (k : Int) := by omega
        have i2 : (k : Int) < (all.length : Int) := by omega
        have i3 : (n : Int) ≤ 1064576 := by omega
        clear hst hbe hf
        by_cases h10 : ((⟨all.toArray⟩ : ByteArray)[k].toNat : Int) = 10
        · have z1 : (((⟨all.toArray⟩ : ByteArray)[k].toNat : Int) == 10) = true := by simpa using h10
          have hbn : (⟨all.toArray⟩ : ByteArray)[k].toNat = 10 := by omega
          have hb10 : (⟨all.toArray⟩ : ByteArray)[k] = 10 := UInt8.toNat_inj.1 hbn
          rw [if_pos hb10] at hb
          have HB := Lib.hid (show (lg || longN 0 (all.drop (k + 1))) = bad by simpa using hb)
          clear hb10 hbn h10 hb
          cases lg
          all_goals
            go_wp2_with fail
            go_roundw
            case rel => exact ⟨k + 1, 0, _, by omega, by omega, rfl, rfl, by go_num, HB.out, HF.out⟩
            case measure => simp [intOf]; omega
        · have hbn : ¬ (⟨all.toArray⟩ : ByteArray)[k].toNat = 10 := by omega
          have hb10 : ¬ (⟨all.toArray⟩ : ByteArray)[k] = 10 := fun e => hbn (by rw [e]; rfl)
          have z1 : (((⟨all.toArray⟩ : ByteArray)[k].toNat : Int) == 10) = false := by simpa using h10
          rw [if_neg hb10] at hb
          have HB := Lib.hid hb
          clear hb10 hbn h10 hb
          cases lg
          · by_cases h4 : 4000 < n + 1
            · have h4i : (4000 : Int) < (n : Int) + 1 := by omega
              rw [decide_eq_true h4] at HB
              go_wp2_with fail
              go_roundw
              case rel => exact ⟨k + 1, n + 1, true, by omega, by omega, by first | rfl | simp [h4i], by go_num, by go_num, by simpa using HB.out, HF.out⟩
              case measure => simp [intOf]; omega
            · have h4i : (n : Int) + 1 ≤ 4000 := by omega
              rw [decide_eq_false h4] at HB
              go_wp2_with fail
              go_roundw
              case rel => exact ⟨k + 1, n + 1, false, by omega, by omega, by first | rfl | (simp; omega), by go_num, by go_num, by simpa using HB.out, HF.out⟩
              case measure => simp [intOf]; omega
          · go_wp2_with fail
            go_roundw
            case rel => exact ⟨k + 1, n + 1, true, by omega, by omega, rfl, by go_num, by go_num, by simpa using HB.out, HF.out⟩
            case measure => simp [intOf]; omega
      · rw [long_end n (by omega), Bool.or_false] at hb
        subst hb
        have HS := Lib.hid (HD.out wr hf)
        obtain ⟨d0, d1, d2, d3, d4, z0, z1, z2, z3, z4⟩ := blk5 HS.out
        clear hf
        cases lg
        · have HE := Lib.hid (HE0.out rfl)
          have HP := Lib.hid (HP0.out rfl)
          go_wp2_with fail
          go_ret
          exact ⟨by rw [HE.out]; rfl, by rw [HP.out]; exact HN.out _ HS.out, (HF.out.mono (by simp)).setCell (p := ⟨b, 3, none⟩) (by simp) _⟩
        · have HE := Lib.hid (HE1.out rfl)
          have HP := Lib.hid (HP1.out rfl)
          have hc2 := rclose_any HS.out
          go_wp2_with (go_at_call 20; refine hc2.mono ?_; rintro e w1 ⟨rfl, s1, f1⟩)
          go_ret
          exact ⟨by rw [HE.out]; rfl, by rw [HP.out]; exact s1, (HF.out.mono (by simp)).trans f1⟩
end Go.Proofs.YtgdneoajmaeckaaGreatDoor
