/- The merge in place, where the first run is one element. No condition but that the rows lie as they are told. -/
import Derived.Test.YtjchlfblbmiceaaGreatUc
import Derived.BigRegion
namespace Go.Proofs.YtjchlfblbmiceaaGreat.upd
open Go.RowKit srt

def LoR (g N : Nat) (w : World) (f : Nat → El) (a b : Nat) (x y : Value) (wr : World) : Prop :=
  ∃ i j : Nat, x = .int .i64 i ∧ y = .int .i64 j ∧ a + 1 ≤ i ∧ i ≤ j ∧ j ≤ b ∧ Srt g N wr f ∧ Fr [g] w wr ∧ (i = a + 1 ∨ ec (f (i - 1)) (f a) < 0) ∧ (j = b ∨ ¬ ec (f j) (f a) < 0)

def LoQ (g N : Nat) (w : World) (f : Nat → El) (a i : Nat) (x : Value) (wr : World) : Prop :=
  ∃ k : Nat, x = .int .i64 k ∧ a ≤ k ∧ k + 1 ≤ i ∧ Srt g N wr (rot f a (a + 1) (k + 1)) ∧ Fr [g] w wr

set_option maxRecDepth 100000
set_option maxHeartbeats 1600000 in
theorem symLo_any {w : World} {g N cap a b : Nat} {f : Nat → El} (h : Srt g N w f) (hrow : ∀ k, a ≤ k → k < b → RowOk g w (f k)) (hab : a + 1 < b) (hb : b ≤ N) (hN : N ≤ 4398046511103) (hs : Srtd ec f (a + 1) b) :
    Calls Tryz.prog 115 #[.slice (some ⟨g, 0, none⟩) N cap, .int .i64 a, .int .i64 ((a : Int) + 1), .int .i64 b, .func (.func 65) #[] #[]] w fun e w' => e = .returned (.tuple #[]) ∧ ∃ f', Srt g N w' f' ∧ Fr [g] w w' ∧ Pm a b f f' ∧ Srtd ec f' a b := by
  have H := Lib.hid h
  have HRow := Lib.hid hrow
  have HSt := Lib.hid hs
  clear h hrow hs
  go_enter Tryz.func115, Tryz.ntmps115
  go_wp2_with fail
  go_loopw [10, 11] (fun x y wr => LoR g N w f a b x y wr) (fun x y _ => (intOf y).toNat - (intOf x).toNat)
  case atStart => exact ⟨a + 1, b, by go_num, rfl, Nat.le_refl _, by omega, Nat.le_refl _, H.out, Fr.refl _ _, Or.inl rfl, Or.inl rfl⟩
  case round =>
    obtain ⟨i, j, rfl, rfl, hai, hij, hjb, hs, hf, hlo, hhi⟩ := hrel
    have HS := Lib.hid hs
    have HF := Lib.hid hf
    have HLo := Lib.hid hlo
    have HHi := Lib.hid hhi
    clear hlo hhi
    by_cases hlt : i < j
    · obtain ⟨k, hk⟩ : ∃ k, k = (i + j) / 2 := ⟨_, rfl⟩
      have hik : i ≤ k := by omega
      have hkj : k < j := by omega
      have hk2 : ((i : Int) + (j : Int)) / 2 = (k : Int) := by omega
      clear hk
      obtain ⟨x0, x1, x2, x3, x4, x5⟩ := hs.cell (k := k) (by omega)
      obtain ⟨y0, y1, y2, y3, y4, y5⟩ := hs.cell (k := a) (by omega)
      have r1 := HRow.out k (by omega) (by omega)
      have r2 := HRow.out a (by omega) (by omega)
      have hc2 : ∀ p : FrBy wr, Calls Tryz.prog 65 #[.agg #[.slice (f k).ra (f k).rl (f k).rc, .int .i64 (f k).t, .int .i64 (f k).n], .agg #[.slice (f a).ra (f a).rl (f a).rc, .int .i64 (f a).t, .int .i64 (f a).n]] p.wn fun x w' => x = .returned (.int .i64 (ec (f k) (f a))) ∧ Fr [] p.wn w' := fun p => cmpEl_any (r1.2 _ (hf.trans p.fr.nil)) (r2.2 _ (hf.trans p.fr.nil)) r1.1
      have u0 : ∀ p : FrBy wr, p.wn.cell? ⟨g, k * 3, none⟩ = some (.slice (f k).ra (f k).rl (f k).rc) := fun p => p.fr.cell x0 (by simp)
      have u1 : ∀ p : FrBy wr, p.wn.cell? ⟨g, k * 3 + 1, none⟩ = some (.int .i64 (f k).t) := fun p => p.fr.cell x1 (by simp)
      have u1b : ∀ p : FrBy wr, p.wn.cell? ⟨g, k * 3 + 2, none⟩ = some (.int .i64 (f k).n) := fun p => p.fr.cell x2 (by simp)
      have v0 : ∀ p : FrBy wr, p.wn.cell? ⟨g, a * 3, none⟩ = some (.slice (f a).ra (f a).rl (f a).rc) := fun p => p.fr.cell y0 (by simp)
      have v1 : ∀ p : FrBy wr, p.wn.cell? ⟨g, a * 3 + 1, none⟩ = some (.int .i64 (f a).t) := fun p => p.fr.cell y1 (by simp)
      have v1b : ∀ p : FrBy wr, p.wn.cell? ⟨g, a * 3 + 2, none⟩ = some (.int .i64 (f a).n) := fun p => p.fr.cell y2 (by simp)
      have HC := Lib.hid hc2
      clear hs hf r1 r2 hc2 x0 x1 x2 x3 x4 x5 y0 y1 y2 y3 y4 y5
      generalize hcv : ec (f k) (f a) = cv at HC
      have HCV := Lib.hid hcv
      clear hcv
      by_cases hlv : cv < 0
      all_goals
        go_upto_region 5 with fail
        refine wp_region_fr (by kernel_rfl) (by kernel_rfl) ?_
        repeat (go_big_quiet_step ((go_at_call 65; exact Calls.fr_of (HC.out _))))
        refine wpQuiet_nil ?_
        intro wn hwn
        have fn : Fr [] wr wn := by obtain ⟨p, rfl⟩ := hwn; exact p.fr
        have FN := Lib.hid fn
        clear hwn u0 u1 u1b v0 v1 v1b HC fn
        go_wp2_with fail
        go_roundw
        case rel => first
          | exact ⟨k + 1, j, by go_num, rfl, by omega, by omega, hjb, HS.out.fr FN.out, HF.out.trans FN.out.nil, Or.inr (by rw [Nat.add_sub_cancel, HCV.out]; exact hlv), HHi.out⟩
          | exact ⟨i, k, rfl, by go_num, by omega, by omega, by omega, HS.out.fr FN.out, HF.out.trans FN.out.nil, HLo.out, Or.inr (by rw [HCV.out]; exact hlv)⟩
        case measure => simp [intOf] <;> omega
    · obtain rfl : i = j := by omega
      have hz := Lib.hid (ins_lo ecGood HSt.out hai hjb HLo.out HHi.out)
      clear HLo HHi hs hf
      have i0 : (0 : Int) ≤ (i : Int) - 1 := by omega
      go_wp2_with fail
      go_loopw [13] (fun x wr => LoQ g N w f a i x wr) (fun x _ => i - (intOf x).toNat)
      case atStart => exact ⟨a, rfl, Nat.le_refl _, by omega, by rw [rot_none']; exact HS.out, HF.out⟩
      case round =>
        obtain ⟨k, rfl, hak, hki, hs, hf⟩ := hrel
        by_cases hlt2 : k + 1 < i
        · obtain ⟨x0, x1, x2, x3, x4, x5⟩ := hs.cell (k := k) (by omega)
          obtain ⟨y0, y1, y2, y3, y4, y5⟩ := hs.cell (k := k + 1) (by omega)
          have HS2 := Lib.hid hs
          have HF2 := Lib.hid hf
          have HR := Lib.hid (rot_up f a k hak)
          clear hs hf
          generalize rot f a (a + 1) (k + 1) = fk at *
          have i1 : (k : Int) < (i : Int) - 1 := by omega
          have i2 : (k : Int) + 1 < (N : Int) := by omega
          have i3 : (k : Int) < (N : Int) := by omega
          have i4 : (0 : Int) ≤ (k : Int) + 1 := by omega
          have i9 : ((k : Int) + 1).toNat = k + 1 := by omega
          go_upto_region 11 with fail
          go_region
          go_wp2_with fail
          go_roundw
          case rel => exact ⟨k + 1, by go_num, by omega, by omega, by rw [← HR.out]; exact HS2.out.swap (by omega) (by omega) (by omega), HF2.out.set6 _ _ _ _ _ _ _ _ _ _ _ _⟩
          case measure => simp [intOf] <;> omega
        · have HS2 := Lib.hid hs
          have HF2 := Lib.hid hf
          have hik := Lib.hid (show i = k + 1 by omega)
          have i1 : ¬ (k : Int) < (i : Int) - 1 := by omega
          have i2 : (i : Int) - 1 ≤ (k : Int) := by omega
          clear hs hf
          go_wp2_with fail
          refine bodyPost_ret (results_none rfl _ _ _) rfl ?_
          rw [hik.out] at hz
          exact ⟨rfl, _, HS2.out, HF2.out, (rot_pm f (by omega) (by omega)).mono (Nat.le_refl _) (by omega), hz.out⟩
end Go.Proofs.YtjchlfblbmiceaaGreat.upd
