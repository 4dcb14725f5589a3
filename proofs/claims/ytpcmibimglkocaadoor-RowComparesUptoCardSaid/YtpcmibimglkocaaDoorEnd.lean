/- freshetref02.end: a text off its bytes. No condition but the size that can be read. -/
import Derived.Test.YtpcmibimglkocaaDoorValp
namespace Go.Proofs.YtpcmibimglkocaaDoor
open Go.RowKit

theorem drop_at (s : ByteArray) (p : Nat) (h : p < s.size) : s.data.toList.drop p = s[p] :: s.data.toList.drop (p + 1) := by
  obtain ⟨⟨l⟩⟩ := s
  exact List.drop_eq_getElem_cons (by simpa [ByteArray.size] using h)

def EndR (s : ByteArray) (at0 : Nat) (w : World) (a1 a6 : Value) (wr : World) : Prop :=
  ∃ (p : Nat) (acc : List UInt8), a1 = .int .i64 p ∧ at0 ≤ p ∧ p ≤ s.size ∧ acc.length ≤ p ∧ textB (s.data.toList.drop at0) = (textB (s.data.toList.drop p)).map (fun q => (acc ++ q.1, q.2)) ∧
    wr.ownsRow w.heap.size 5 1 a6 acc.length (bytesC acc) ∧ Fr [] w wr

def EndIs (s : ByteArray) (at0 : Nat) (e : Ending) : Prop :=
  (textB (s.data.toList.drop at0) = none ∧ e = .returned (.tuple #[.int .i64 (-1), .string ⟨#[]⟩])) ∨
  ∃ (tt : Nat) (t : List UInt8), textB (s.data.toList.drop at0) = some (t, s.data.toList.drop tt) ∧ at0 < tt ∧ tt ≤ s.size ∧ e = .returned (.tuple #[.int .i64 tt, .string ⟨t.toArray⟩])

theorem end_short {s : ByteArray} {p : Nat} (h : s.size ≤ p + 1) : textB (s.data.toList.drop p) = none := by
  have hl : s.data.toList.length = s.size := by rw [Array.length_toList]; rfl
  by_cases hp : p < s.size
  · rw [drop_at s p hp, List.drop_eq_nil_of_le (by omega)]
    by_cases hc : s[p] = 0
    · rw [hc]; exact textB_one
    · rw [textB_char hc, textB_nil]; rfl
  · rw [List.drop_eq_nil_of_le (by omega)]; exact textB_nil

set_option maxRecDepth 100000
set_option maxHeartbeats 1600000 in
theorem end_any (s : ByteArray) (at0 : Nat) (w : World) (hs : s.size ≤ 140737488351232) (hat : at0 ≤ s.size) :
    Calls Tryd.prog 36 #[.string s, .int .i64 at0] w fun e w' => EndIs s at0 e ∧ Fr [] w w' := by
  obtain ⟨i0, hi, hz0, hz1, hz2⟩ := info_parts info5
  go_enter Tryd.func36, Tryd.ntmps36
  go_wp2_with fail
  go_loopw [1, 6] (fun a1 a6 wr => EndR s at0 w a1 a6 wr) (fun a1 _ _ => s.size - (intOf a1).toNat)
  case atStart => exact ⟨at0, [], rfl, Nat.le_refl _, hat, by simp, by simp, World.ownsRow_made w #[] 0 (Nat.le_refl _) (by decide) rfl, (Fr.refl _ _).alloc _⟩
  case round =>
    obtain ⟨p, acc, rfl, h1, h2, h3, hT, hown, hf⟩ := hrel
    have HT := Lib.hid hT
    have HF := Lib.hid hf
    have HO := Lib.hid hown
    have k3 := hf.size
    clear hT hown hf
    by_cases hp : s.size ≤ p + 1
    · have HN := Lib.hid (show textB (s.data.toList.drop at0) = none by rw [HT.out, end_short hp]; rfl)
      go_wp2_with fail
      go_ret2
      exact ⟨Or.inl ⟨HN.out, rfl⟩, HF.out⟩
    · have hp0 : p < s.size := by omega
      have hp1 : p + 1 < s.size := by omega
      have HD0 := Lib.hid (drop_at s p hp0)
      have HD1 := Lib.hid (drop_at s (p + 1) hp1)
      have hb0 : s[p].toNat < 256 := s[p].toNat_lt
      have hb1 : s[p + 1].toNat < 256 := s[p + 1].toNat_lt
      generalize hc : s[p] = c at *
      generalize hd : s[p + 1] = d at *
      clear hp
      by_cases hc0 : c.toNat = 0
      · have hcz : c = 0 := UInt8.toNat_inj.1 hc0
        by_cases hd0 : d.toNat = 0
        · have hdz : d = 0 := UInt8.toNat_inj.1 hd0
          have HN := Lib.hid (show textB (s.data.toList.drop at0) = some (acc, s.data.toList.drop (p + 2)) by
            rw [HT.out, HD0.out, HD1.out, hcz, hdz, textB_end]; simp)
          have hconv := conv_own HO.out.drew
          clear hcz hdz
          go_wp2_with fail
          go_region
          go_wp2_with fail
          go_ret2
          exact ⟨Or.inr ⟨p + 2, acc, HN.out, by omega, by omega, rfl⟩, HF.out.drew⟩
        · have hdz : d ≠ 0 := fun e => hd0 (by rw [e]; rfl)
          by_cases hd1 : d.toNat = 1
          · have hdo : d = 1 := UInt8.toNat_inj.1 hd1
            have HN := Lib.hid (show textB (s.data.toList.drop at0) = (textB (s.data.toList.drop (p + 2))).map (fun q => ((acc ++ [0]) ++ q.1, q.2)) by
              rw [HT.out, HD0.out, HD1.out, hcz, hdo, textB_zero, Option.map_map]; congr 1; funext q; simp)
            have hdn : (d.toNat == 0) = false := by simp [hd1]
            clear hcz hdz hdo
            go_wp2_with (at_builtin; refine wpList_append_own _ rfl (.tmp 39) (.tmp 40) 42 rfl w.heap.size 5 i0 (.int .u8 0) 1 1 Tryd.underlying42 hi hz0 hz1 hz2 rfl (by decide) _ _ _ rfl (HO.out.alloc _) ⟨wr.heap.size, 0, none⟩ 1 1 [.int .u8 0] rfl rfl (cell_one_new _ _ _) (ints_oneCell .u8 [0]) (by unfold maxLen; omega) (by omega) (by simp; omega) ?_; intro v'' w3 hown3 hgrow3 _)
            have hf3 := (HF.out.alloc _).fresh hgrow3 (fun r e => Or.inl (HO.out.lt r e).1)
            go_wp2_with fail
            go_roundw
            case rel => exact ⟨p + 2, acc ++ [0], by go_num, by omega, by omega, by simp; omega, HN.out, by rw [← bytesC_zero]; simpa using hown3, hf3⟩
            case measure => simp [intOf]; omega
          · have hdo : d ≠ 1 := fun e => hd1 (by rw [e]; rfl)
            have HN := Lib.hid (show textB (s.data.toList.drop at0) = none by
              rw [HT.out, HD0.out, HD1.out, hcz, textB_bad hdz hdo]; rfl)
            clear hcz hdz hdo
            go_wp2_with fail
            go_ret2
            exact ⟨Or.inl ⟨HN.out, rfl⟩, HF.out⟩
      · have hcz : c ≠ 0 := fun e => hc0 (by rw [e]; rfl)
        have HN := Lib.hid (show textB (s.data.toList.drop at0) = (textB (s.data.toList.drop (p + 1))).map (fun q => ((acc ++ [c]) ++ q.1, q.2)) by
          rw [HT.out, HD0.out, textB_char hcz, Option.map_map]; congr 1; funext q; simp)
        clear hcz
        go_wp2_with (at_builtin; refine wpList_append_own _ rfl (.tmp 17) (.tmp 21) 42 rfl w.heap.size 5 i0 (.int .u8 0) 1 1 Tryd.underlying42 hi hz0 hz1 hz2 rfl (by decide) _ _ _ rfl (HO.out.alloc _) ⟨wr.heap.size, 0, none⟩ 1 1 [.int .u8 (c.toNat : Int)] rfl rfl (cell_one_new _ _ _) (ints_oneCell .u8 [(c.toNat : Int)]) (by unfold maxLen; omega) (by omega) (by simp; omega) ?_; intro v'' w3 hown3 hgrow3 _)
        have hf3 := (HF.out.alloc _).fresh hgrow3 (fun r e => Or.inl (HO.out.lt r e).1)
        go_wp2_with fail
        go_roundw
        case rel => exact ⟨p + 1, acc ++ [c], by go_num, by omega, by omega, by simp; omega, HN.out, by simpa [bytesC] using hown3, hf3⟩
        case measure => simp [intOf]; omega
end Go.Proofs.YtpcmibimglkocaaDoor
