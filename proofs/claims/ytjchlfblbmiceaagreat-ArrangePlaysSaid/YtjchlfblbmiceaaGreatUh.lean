/- The stable sort, whole. No condition but that the rows lie as they are told. -/
import Derived.Test.YtjchlfblbmiceaaGreatUg
namespace Go.Proofs.YtjchlfblbmiceaaGreat.upd
open Go.RowKit srt

def StA (g N : Nat) (w : World) (f : Nat → El) (x y : Value) (wr : World) : Prop :=
  ∃ (a b q : Nat) (f' : Nat → El), x = .int .i64 a ∧ y = .int .i64 b ∧ a ≤ N ∧ b ≤ a + 20 ∧ a + 20 ≤ b ∧ Hid (a = q * 20) ∧ Srt g N wr f' ∧ Fr [g] w wr ∧ Pm 0 N f f' ∧ Done ec f' 20 q

def StB (g N : Nat) (w : World) (f : Nat → El) (x : Value) (wr : World) : Prop :=
  ∃ (c : Nat) (f' : Nat → El), x = .int .i64 c ∧ 20 ≤ c ∧ c ≤ 2 * N + 20 ∧ Srt g N wr f' ∧ Fr [g] w wr ∧ Pm 0 N f f' ∧ Runs ec f' N c 0

def StC (g N : Nat) (w : World) (f : Nat → El) (c : Nat) (x y : Value) (wr : World) : Prop :=
  ∃ (a b q : Nat) (f' : Nat → El), x = .int .i64 a ∧ y = .int .i64 b ∧ a ≤ N ∧ b ≤ a + 2 * c ∧ a + 2 * c ≤ b ∧ Hid (a = q * (2 * c)) ∧ Srt g N wr f' ∧ Fr [g] w wr ∧ Pm 0 N f f' ∧ Done ec f' (2 * c) q ∧ Runs ec f' N c (q * 2)

def StPost (g N : Nat) (w : World) (f : Nat → El) (e : Ending) (w' : World) : Prop := e = .returned (.tuple #[]) ∧ ∃ f', Srt g N w' f' ∧ Fr [g] w w' ∧ Pm 0 N f f' ∧ Srtd ec f' 0 N

set_option maxRecDepth 100000
set_option maxHeartbeats 3200000 in
theorem stable_any {w : World} {g N cap : Nat} {f : Nat → El} (h : Srt g N w f) (hrow : ∀ k, 0 ≤ k → k < N → RowOk g w (f k)) (hN : N ≤ 4398046511103) :
    Calls Tryz.prog 95 #[.slice (some ⟨g, 0, none⟩) N cap, .int .i64 N, .func (.func 65) #[] #[]] w (StPost g N w f) := by
  have H := Lib.hid h
  have HRow := Lib.hid hrow
  clear h hrow
  go_enter Tryz.func95, Tryz.ntmps95
  go_wp2_with fail
  go_loopw [7, 8] (fun x y wr => StA g N w f x y wr) (fun x _ _ => N + 1 - (intOf x).toNat)
  case atStart => exact ⟨0, 20, 0, f, rfl, rfl, Nat.zero_le _, by omega, by omega, Lib.hid rfl, H.out, Fr.refl _ _, .refl, Done.zero⟩
  case round =>
    obtain ⟨a, b, q, f', rfl, rfl, haN, hab1, hab2, HQ, hs, hf, hp, hd⟩ := hrel
    have HS := Lib.hid hs
    have HF := Lib.hid hf
    have HP := Lib.hid hp
    have HD := Lib.hid hd
    clear hs hf hp hd
    by_cases hbN : b ≤ N
    · as_aux_lemma =>
      have hr := insertion_any (cap := cap) (a := a) (b := b) HS.out (fun k x y => (HP.out.all (P := RowOk g w) HRow.out k (by omega) (by omega)).fr HF.out) (by omega) hbN hN
      go_wp2_with (go_at_call 114; refine hr.mono ?_; rintro e5 w5 ⟨rfl, f2, hs5, f5, hp5, ho5⟩)
      go_roundw
      case rel => exact ⟨b, b + 20, q + 1, f2, rfl, by go_num, hbN, by omega, by omega, Lib.hid (by have := HQ.out; omega), hs5, HF.out.trans f5, HP.out.trans (hp5.mono (Nat.zero_le _) hbN), HD.out.step hp5 HQ.out (by rw [← HQ.out]; rwa [show b = a + 20 by omega] at ho5)⟩
      case measure => simp [intOf] <;> omega
    · as_aux_lemma =>
      have hr := insertion_any (cap := cap) (a := a) (b := N) HS.out (fun k x y => (HP.out.all (P := RowOk g w) HRow.out k (by omega) (by omega)).fr HF.out) haN (Nat.le_refl _) hN
      go_wp2_with (go_at_call 114; refine hr.mono ?_; rintro e5 w5 ⟨rfl, f2, hs5, f5, hp5, ho5⟩)
      have hst : StB g N w f (.int .i64 20) w5 := ⟨20, f2, rfl, by omega, by omega, hs5, HF.out.trans f5, HP.out.trans (hp5.mono (Nat.zero_le _) (Nat.le_refl _)), Runs.start (HD.out.keep hp5 HQ.out) (by rw [← HQ.out]; exact ho5) (by rw [← HQ.out]; omega)⟩
      have HST := Lib.hid hst
      clear hst hs5 f5 hp5 ho5 HS HF HP HD HQ hr
      go_loopw [6] (fun x wr => StB g N w f x wr) (fun x _ => N - (intOf x).toNat)
      case atStart => exact HST.out
      case round =>
        obtain ⟨c, f3, rfl, hc20, hcN, hs, hf, hp, hr⟩ := hrel
        have HS := Lib.hid hs
        have HF := Lib.hid hf
        have HP := Lib.hid hp
        have HR := Lib.hid hr
        clear hs hf hp hr
        by_cases hcn : c < N
        · go_wp2_with fail
          go_loopw [7, 8] (fun x y wr => StC g N w f c x y wr) (fun x _ _ => N + 1 - (intOf x).toNat)
          case atStart => exact ⟨0, 2 * c, 0, f3, rfl, by go_num, Nat.zero_le _, by omega, by omega, Lib.hid (by simp), HS.out, HF.out, HP.out, Done.zero, HR.out⟩
          case round =>
            obtain ⟨a, b, q, f', rfl, rfl, haN, hab1, hab2, HQ, hs, hf, hp, hd, hr⟩ := hrel
            have HS := Lib.hid hs
            have HF := Lib.hid hf
            have HP := Lib.hid hp
            have HD := Lib.hid hd
            have h2 := hr.two
            rw [← HQ.out] at h2
            have H2 := Lib.hid h2
            have HR2 := Lib.hid hr
            clear hs hf hp hd h2 hr
            by_cases hbN : b ≤ N
            · as_aux_lemma =>
              have hr := sym_any (cap := cap) (a := a) (m := a + c) (b := b) HS.out (fun k x y => (HP.out.all (P := RowOk g w) HRow.out k (by omega) (by omega)).fr HF.out) (by omega) (by omega) hbN hN (by have := H2.out.1; rwa [Nat.min_eq_left (by omega)] at this) (by have := H2.out.2; rwa [Nat.min_eq_left (by omega), show a + 2 * c = b by omega] at this)
              rw [show ((a + c : Nat) : Int) = (a : Int) + (c : Int) by omega] at hr
              go_wp2_with (go_at_call 115; refine hr.mono ?_; rintro e5 w5 ⟨rfl, f4, hs5, f5, hp5, ho5⟩)
              go_roundw
              case rel => exact ⟨b, b + 2 * c, q + 1, f4, rfl, by go_num, hbN, by omega, by omega, Lib.hid (by have := HQ.out; rw [Nat.add_mul, Nat.one_mul]; omega), hs5, HF.out.trans f5, HP.out.trans (hp5.mono (Nat.zero_le _) hbN), HD.out.step hp5 HQ.out (by rw [← HQ.out]; rwa [show b = a + 2 * c by omega] at ho5), HR2.out.step hp5 (by rw [← HQ.out]; omega)⟩
              case measure => simp [intOf] <;> omega
            · by_cases hm : a + c < N
              · as_aux_lemma =>
                have hr := sym_any (cap := cap) (a := a) (m := a + c) (b := N) HS.out (fun k x y => (HP.out.all (P := RowOk g w) HRow.out k (by omega) (by omega)).fr HF.out) (by omega) (by omega) (Nat.le_refl _) hN (by have := H2.out.1; rwa [Nat.min_eq_left (by omega)] at this) (by have := H2.out.2; rwa [Nat.min_eq_right (by omega)] at this)
                rw [show ((a + c : Nat) : Int) = (a : Int) + (c : Int) by omega] at hr
                go_wp2_with (go_at_call 115; refine hr.mono ?_; rintro e5 w5 ⟨rfl, f4, hs5, f5, hp5, ho5⟩)
                go_roundw
                case rel => exact ⟨2 * c, f4, by congr 1; omega, by omega, by omega, hs5, HF.out.trans f5, HP.out.trans (hp5.mono (Nat.zero_le _) (Nat.le_refl _)), Runs.start (HD.out.keep hp5 HQ.out) (by rw [← HQ.out]; exact ho5) (by rw [← HQ.out]; omega)⟩
                case measure => simp [intOf] <;> omega
              · as_aux_lemma =>
                go_wp2_with fail
                go_roundw
                case rel => exact ⟨2 * c, f', by congr 1; omega, by omega, by omega, HS.out, HF.out, HP.out, Runs.start HD.out (by rw [← HQ.out]; have := H2.out.1; rwa [Nat.min_eq_right (by omega)] at this) (by rw [← HQ.out]; omega)⟩
                case measure => simp [intOf] <;> omega
        · as_aux_lemma =>
          go_wp2_with fail
          go_end0
          exact ⟨rfl, f3, HS.out, HF.out, HP.out, HR.out.all (by omega)⟩

set_option maxHeartbeats 1600000 in
theorem sort_any {w : World} {g N cap : Nat} {f : Nat → El} (h : Srt g N w f) (hrow : ∀ k, 0 ≤ k → k < N → RowOk g w (f k)) (hN : N ≤ 4398046511103) :
    Calls Tryz.prog 69 #[.slice (some ⟨g, 0, none⟩) N cap, .func (.func 65) #[] #[]] w (StPost g N w f) := by
  have hr := stable_any (cap := cap) h hrow hN
  clear h hrow
  go_enter Tryz.func69, Tryz.ntmps69
  go_wp2_with (go_at_call 95; refine hr.mono ?_; rintro e5 w5 ⟨rfl, hs5⟩)
  go_end0
  exact ⟨rfl, hs5⟩
end Go.Proofs.YtjchlfblbmiceaaGreat.upd
