/- The merge in place, where the second run is one element. No condition but that the rows lie as they are told. -/
import Derived.Test.YtjchlfblbmiceaaGreatSc
import Derived.BigRegion
namespace Go.Proofs.YtjchlfblbmiceaaGreat
open Go.RowKit srt

def HiR (g N : Nat) (w : World) (f : Nat → El) (a m : Nat) (x y : Value) (wr : World) : Prop :=
  ∃ i j : Nat, x = .int .i64 i ∧ y = .int .i64 j ∧ a ≤ i ∧ i ≤ j ∧ j ≤ m ∧ Srt g N wr f ∧ Fr [g] w wr ∧ (i = a ∨ ¬ ec (f m) (f (i - 1)) < 0) ∧ (j = m ∨ ec (f m) (f j) < 0)

def HiQ (g N : Nat) (w : World) (f : Nat → El) (i m : Nat) (x : Value) (wr : World) : Prop :=
  ∃ k : Nat, x = .int .i64 k ∧ i ≤ k ∧ k ≤ m ∧ Srt g N wr (rot f k m (m + 1)) ∧ Fr [g] w wr

set_option maxRecDepth 100000
set_option maxHeartbeats 1600000 in
theorem symHi_any {w : World} {g N cap a m : Nat} {f : Nat → El} (h : Srt g N w f) (hrow : ∀ k, a ≤ k → k < m + 1 → RowOk g w (f k)) (ham : a + 1 < m) (hb : m + 1 ≤ N) (hN : N ≤ 4398046511103) (hs : Srtd ec f a m) :
    Calls Tryz.prog 123 #[.slice (some ⟨g, 0, none⟩) N cap, .int .i64 a, .int .i64 m, .int .i64 ((m : Int) + 1), .func (.func 101) #[] #[]] w fun e w' => e = .returned (.tuple #[]) ∧ ∃ f', Srt g N w' f' ∧ Fr [g] w w' ∧ Pm a (m + 1) f f' ∧ Srtd ec f' a (m + 1) := by
  have H := Lib.hid h
  have HRow := Lib.hid hrow
  have HSt := Lib.hid hs
  clear h hrow hs
  have h0 : ((m : Int) - (a : Int) == 1) = false := by simp; omega
  go_enter Tryz.func123, Tryz.ntmps123
  go_wp2_with fail
  go_loopw [14, 15] (fun x y wr => HiR g N w f a m x y wr) (fun x y _ => (intOf y).toNat - (intOf x).toNat)
  case atStart => exact ⟨a, m, rfl, rfl, Nat.le_refl _, by omega, Nat.le_refl _, H.out, Fr.refl _ _, Or.inl rfl, Or.inl rfl⟩
  case round =>
    obtain ⟨i, j, rfl, rfl, hai, hij, hjb, hs, hf, hlo, hhi⟩ := hrel
    have HS := Lib.hid hs
    have HF := Lib.hid hf
    have HLo := Lib.hid hlo
    have HHi := Lib.hid hhi
    clear hlo hhi
    by_cases hlt : i < j
    · obtain ⟨k, hk⟩ : ∃ k, k = (i + j) / 2 := ⟨_, rfl⟩
      have hik : i ≤ k := by omega
      have hkj : k < j := by omega
      have hk2 : ((i : Int) + (j : Int)) / 2 = (k : Int) := by omega
      clear hk
      obtain ⟨x0, x1, x2, x3⟩ := hs.cell (k := m) (by omega)
      obtain ⟨y0, y1, y2, y3⟩ := hs.cell (k := k) (by omega)
      have r1 := HRow.out m (by omega) (by omega)
      have r2 := HRow.out k (by omega) (by omega)
      have hc2 : ∀ p : FrBy wr, Calls Tryz.prog 101 #[.agg #[.slice (f m).ra (f m).rl (f m).rc, .int .i64 (f m).n], .agg #[.slice (f k).ra (f k).rl (f k).rc, .int .i64 (f k).n]] p.wn fun x w' => x = .returned (.int .i64 (ec (f m) (f k))) ∧ Fr [] p.wn w' := fun p => cmpEl_any (r1.2 _ (hf.trans p.fr.nil)) (r2.2 _ (hf.trans p.fr.nil)) r1.1
      have u0 : ∀ p : FrBy wr, p.wn.cell? ⟨g, m * 2, none⟩ = some (.slice (f m).ra (f m).rl (f m).rc) := fun p => p.fr.cell x0 (by simp)
      have u1 : ∀ p : FrBy wr, p.wn.cell? ⟨g, m * 2 + 1, none⟩ = some (.int .i64 (f m).n) := fun p => p.fr.cell x1 (by simp)
      have v0 : ∀ p : FrBy wr, p.wn.cell? ⟨g, k * 2, none⟩ = some (.slice (f k).ra (f k).rl (f k).rc) := fun p => p.fr.cell y0 (by simp)
      have v1 : ∀ p : FrBy wr, p.wn.cell? ⟨g, k * 2 + 1, none⟩ = some (.int .i64 (f k).n) := fun p => p.fr.cell y1 (by simp)
      have HC := Lib.hid hc2
      clear hs hf r1 r2 hc2 x0 x1 x2 x3 y0 y1 y2 y3
      generalize hcv : ec (f m) (f k) = cv at HC
      have HCV := Lib.hid hcv
      clear hcv
      by_cases hlv : cv < 0
      all_goals
        go_upto_region 17 with fail
        refine wp_region_fr (by kernel_rfl) (by kernel_rfl) ?_
        repeat (go_big_quiet_step ((go_at_call 101; exact Calls.fr_of (HC.out _))))
        refine wpQuiet_nil ?_
        intro wn hwn
        have fn : Fr [] wr wn := by obtain ⟨p, rfl⟩ := hwn; exact p.fr
        have FN := Lib.hid fn
        clear hwn u0 u1 v0 v1 HC fn
        go_wp2_with fail
        go_roundw
        case rel => first
          | exact ⟨i, k, rfl, by go_num, by omega, by omega, by omega, HS.out.fr FN.out, HF.out.trans FN.out.nil, HLo.out, Or.inr (by rw [HCV.out]; exact hlv)⟩
          | exact ⟨k + 1, j, by go_num, rfl, by omega, by omega, hjb, HS.out.fr FN.out, HF.out.trans FN.out.nil, Or.inr (by rw [Nat.add_sub_cancel, HCV.out]; exact hlv), HHi.out⟩
        case measure => simp [intOf] <;> omega
    · obtain rfl : i = j := by omega
      have hz := Lib.hid (ins_hi ecGood HSt.out hai hjb HLo.out HHi.out)
      clear HLo HHi hs hf
      go_wp2_with fail
      go_loopw [17] (fun x wr => HiQ g N w f i m x wr) (fun x _ => (intOf x).toNat)
      case atStart => exact ⟨m, rfl, hjb, Nat.le_refl _, by rw [rot_none]; exact HS.out, HF.out⟩
      case round =>
        obtain ⟨k0, rfl, hik, hkm, hs, hf⟩ := hrel
        by_cases hlt2 : i < k0
        · obtain ⟨k, rfl⟩ : ∃ k, k0 = k + 1 := ⟨k0 - 1, by omega⟩
          obtain ⟨x0, x1, x2, x3⟩ := hs.cell (k := k + 1) (by omega)
          obtain ⟨y0, y1, y2, y3⟩ := hs.cell (k := k) (by omega)
          have HS2 := Lib.hid hs
          have HF2 := Lib.hid hf
          have HR := Lib.hid (show swp (rot f (k + 1) m (m + 1)) (k + 1) k = rot f k m (m + 1) from rot_down f m (k + 1) (by omega) (by omega))
          clear hs hf
          generalize rot f (k + 1) m (m + 1) = fk at *
          have i1 : (i : Int) < (k : Int) + 1 := by omega
          have i2 : (k : Int) + 1 < (N : Int) := by omega
          have i3 : (k : Int) < (N : Int) := by omega
          have i4 : (0 : Int) ≤ (k : Int) + 1 := by omega
          have i8 : IntKind.i64.wrap (k : Int) = (k : Int) := by rw [IntKind.wrap_i64]; omega
          have i9 : ((k : Int) + 1).toNat = k + 1 := by omega
          go_upto_region 23 with fail
          go_region
          go_wp2_with fail
          go_roundw
          case rel => exact ⟨k, by go_num, by omega, by omega, by rw [← HR.out]; exact HS2.out.swap (by omega) (by omega) (by omega), HF2.out.set4 _ _ _ _ _ _ _ _⟩
          case measure => simp [intOf] <;> omega
        · have HS2 := Lib.hid hs
          have HF2 := Lib.hid hf
          have hik2 := Lib.hid (show k0 = i by omega)
          have i1 : ¬ (i : Int) < (k0 : Int) := by omega
          clear hs hf
          go_wp2_with fail
          refine bodyPost_ret (results_none rfl _ _ _) rfl ?_
          rw [hik2.out] at HS2
          exact ⟨rfl, _, HS2.out, HF2.out, (rot_pm f (by omega) (by omega)).mono hai (by omega), hz.out⟩
end Go.Proofs.YtjchlfblbmiceaaGreat
