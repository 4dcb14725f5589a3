/- A block that holds updates, and the two that stand first: swapping. No condition. -/
import Derived.Test.YtjchlfblbmiceaaGreatSq
import Derived.Test.YtjchlfblbmiceaaGreatRcmp
import Derived.Test.YtjchlfblbmiceaaGreatArg
import Derived.Test.YtjchlfblbmiceaaGreatSm
import Derived.BigRegion
namespace Go.Proofs.YtjchlfblbmiceaaGreat.upd
open Go.RowKit srt

/-- An update: where its row lies, when, how often, and what the row holds. -/
structure El where
  ra : Option Addr
  rl : Nat
  rc : Nat
  t : Int
  n : Int
  rd : List Dt

def El.rv (e : El) : Value := .slice e.ra e.rl e.rc

/-- Block g holds f on [0, N). -/
def Srt (g N : Nat) (w : World) (f : Nat → El) : Prop := ∃ cur, w.heap[g]? = some (.cells cur 65) ∧ ∀ k, k < N → cur[k * 3]? = some (f k).rv ∧ cur[k * 3 + 1]? = some (.int .i64 (f k).t) ∧ cur[k * 3 + 2]? = some (.int .i64 (f k).n)

theorem Srt.cell {g N : Nat} {w : World} {f : Nat → El} (h : Srt g N w f) {k : Nat} (hk : k < N) :
    w.cell? ⟨g, k * 3, none⟩ = some (.slice (f k).ra (f k).rl (f k).rc) ∧ w.cell? ⟨g, k * 3 + 1, none⟩ = some (.int .i64 (f k).t) ∧ w.cell? ⟨g, k * 3 + 2, none⟩ = some (.int .i64 (f k).n) ∧ w.frozen? ⟨g, k * 3, none⟩ = false ∧ w.frozen? ⟨g, k * 3 + 1, none⟩ = false ∧ w.frozen? ⟨g, k * 3 + 2, none⟩ = false := by
  obtain ⟨cur, hb, hc⟩ := h
  obtain ⟨h1, h2, h3⟩ := hc k hk
  have e1 : w.cell? ⟨g, k * 3, none⟩ = cur[k * 3]? := by simp [World.cell?, hb]
  have e2 : w.cell? ⟨g, k * 3 + 1, none⟩ = cur[k * 3 + 1]? := by simp [World.cell?, hb]
  have e3 : w.cell? ⟨g, k * 3 + 2, none⟩ = cur[k * 3 + 2]? := by simp [World.cell?, hb]
  exact ⟨by rw [e1]; exact h1, by rw [e2]; exact h2, by rw [e3]; exact h3, by simp [World.frozen?, hb], by simp [World.frozen?, hb], by simp [World.frozen?, hb]⟩

theorem heap_at_drew {W : World} {g : Nat} {o : Obj} (h : W.heap[g]? = some o) : W.drew.heap[g]? = some o := h

set_option maxHeartbeats 1600000 in
theorem Srt.swap {g N : Nat} {w : World} {f : Nat → El} (h : Srt g N w f) {i j : Nat} (hi : i < N) (hj : j < N) (hij : i ≠ j) :
    Srt g N ((((((w.setCell ⟨g, i * 3, none⟩ (.slice (f j).ra (f j).rl (f j).rc)).setCell ⟨g, i * 3 + 1, none⟩ (.int .i64 (f j).t)).setCell ⟨g, i * 3 + 2, none⟩ (.int .i64 (f j).n)).setCell ⟨g, j * 3, none⟩ (.slice (f i).ra (f i).rl (f i).rc)).setCell ⟨g, j * 3 + 1, none⟩ (.int .i64 (f i).t)).setCell ⟨g, j * 3 + 2, none⟩ (.int .i64 (f i).n)).drew (swp f i j) := by
  obtain ⟨cur, hb, hc⟩ := h
  have b1 := heap_set (i := i * 3) (v := .slice (f j).ra (f j).rl (f j).rc) hb
  have b2 := heap_set (i := i * 3 + 1) (v := .int .i64 (f j).t) b1
  have b3 := heap_set (i := i * 3 + 2) (v := .int .i64 (f j).n) b2
  have b4 := heap_set (i := j * 3) (v := .slice (f i).ra (f i).rl (f i).rc) b3
  have b5 := heap_set (i := j * 3 + 1) (v := .int .i64 (f i).t) b4
  have b6 := heap_set (i := j * 3 + 2) (v := .int .i64 (f i).n) b5
  clear b1 b2 b3 b4 b5
  refine ⟨_, heap_at_drew b6, fun k hk => ?_⟩
  have li := hc i hi
  have lj := hc j hj
  have lk := hc k hk
  have s1 : i * 3 + 2 < cur.size := (Array.getElem?_eq_some_iff.1 li.2.2).1
  have s2 : j * 3 + 2 < cur.size := (Array.getElem?_eq_some_iff.1 lj.2.2).1
  unfold swp
  by_cases h1 : k = i
  · subst h1
    rw [if_pos rfl]
    refine ⟨?_, ?_, ?_⟩
    · rw [Array.getElem?_setIfInBounds_ne (by omega), Array.getElem?_setIfInBounds_ne (by omega), Array.getElem?_setIfInBounds_ne (by omega), Array.getElem?_setIfInBounds_ne (by omega), Array.getElem?_setIfInBounds_ne (by omega), Array.getElem?_setIfInBounds_self_of_lt (by omega)]; rfl
    · rw [Array.getElem?_setIfInBounds_ne (by omega), Array.getElem?_setIfInBounds_ne (by omega), Array.getElem?_setIfInBounds_ne (by omega), Array.getElem?_setIfInBounds_ne (by omega), Array.getElem?_setIfInBounds_self_of_lt (by simp; omega)]
    · rw [Array.getElem?_setIfInBounds_ne (by omega), Array.getElem?_setIfInBounds_ne (by omega), Array.getElem?_setIfInBounds_ne (by omega), Array.getElem?_setIfInBounds_self_of_lt (by simp; omega)]
  · rw [if_neg h1]
    by_cases h2 : k = j
    · subst h2
      rw [if_pos rfl]
      refine ⟨?_, ?_, ?_⟩
      · rw [Array.getElem?_setIfInBounds_ne (by omega), Array.getElem?_setIfInBounds_ne (by omega), Array.getElem?_setIfInBounds_self_of_lt (by simp; omega)]; rfl
      · rw [Array.getElem?_setIfInBounds_ne (by omega), Array.getElem?_setIfInBounds_self_of_lt (by simp; omega)]
      · rw [Array.getElem?_setIfInBounds_self_of_lt (by simp; omega)]
    · rw [if_neg h2]
      refine ⟨?_, ?_, ?_⟩
      · rw [Array.getElem?_setIfInBounds_ne (by omega), Array.getElem?_setIfInBounds_ne (by omega), Array.getElem?_setIfInBounds_ne (by omega), Array.getElem?_setIfInBounds_ne (by omega), Array.getElem?_setIfInBounds_ne (by omega), Array.getElem?_setIfInBounds_ne (by omega)]; exact lk.1
      · rw [Array.getElem?_setIfInBounds_ne (by omega), Array.getElem?_setIfInBounds_ne (by omega), Array.getElem?_setIfInBounds_ne (by omega), Array.getElem?_setIfInBounds_ne (by omega), Array.getElem?_setIfInBounds_ne (by omega), Array.getElem?_setIfInBounds_ne (by omega)]; exact lk.2.1
      · rw [Array.getElem?_setIfInBounds_ne (by omega), Array.getElem?_setIfInBounds_ne (by omega), Array.getElem?_setIfInBounds_ne (by omega), Array.getElem?_setIfInBounds_ne (by omega), Array.getElem?_setIfInBounds_ne (by omega), Array.getElem?_setIfInBounds_ne (by omega)]; exact lk.2.2

theorem _root_.Go.Proofs.YtjchlfblbmiceaaGreat.Fr.set6 {g : Nat} {w w' : World} (h : Fr [g] w w') (a b c d e f : Nat) (p q r s t u : Value) : Fr [g] w ((((((w'.setCell ⟨g, a, none⟩ p).setCell ⟨g, b, none⟩ q).setCell ⟨g, c, none⟩ r).setCell ⟨g, d, none⟩ s).setCell ⟨g, e, none⟩ t).setCell ⟨g, f, none⟩ u).drew :=
  ((((((h.setCell (by simp) _).setCell (by simp) _).setCell (by simp) _).setCell (by simp) _).setCell (by simp) _).setCell (by simp) _).drew

set_option maxRecDepth 100000
set_option maxHeartbeats 1600000 in
theorem swapRange_any {w : World} {g N cap a b n : Nat} {f : Nat → El} {c : Value} (h : Srt g N w f) (hab : a + n ≤ b) (hb : b + n ≤ N) (hN : N ≤ 4398046511103) :
    Calls Tryz.prog 126 #[.slice (some ⟨g, 0, none⟩) N cap, .int .i64 a, .int .i64 b, .int .i64 n, c] w fun e w' => e = .returned (.tuple #[]) ∧ Srt g N w' (swpR f a b n) ∧ Fr [g] w w' := by
  have H := Lib.hid h
  clear h
  go_enter Tryz.func126, Tryz.ntmps126
  go_wp2_with fail
  go_loopw [10] (fun i wr => ∃ k : Nat, k ≤ n ∧ i = .int .i64 k ∧ Srt g N wr (swpR f a b k) ∧ Fr [g] w wr) (fun i _ => n - (intOf i).toNat)
  case atStart => exact ⟨0, Nat.zero_le _, rfl, by rw [swpR_zero]; exact H.out, Fr.refl _ _⟩
  case round =>
    obtain ⟨k, hk, rfl, hs, hf⟩ := hrel
    by_cases hlt : k < n
    · obtain ⟨x0, x1, x2, x3, x4, x5⟩ := hs.cell (k := a + k) (by omega)
      obtain ⟨y0, y1, y2, y3, y4, y5⟩ := hs.cell (k := b + k) (by omega)
      have HS := Lib.hid hs
      have HF := Lib.hid hf
      have HR := Lib.hid (swpR_succ f a b k (by omega))
      clear hs hf
      generalize swpR f a b k = fk at *
      have i1 : (a : Int) + (k : Int) < (N : Int) := by omega
      have i2 : (b : Int) + (k : Int) < (N : Int) := by omega
      go_upto_region 3 with fail
      go_region
      go_wp2_with fail
      go_roundw
      case rel => exact ⟨k + 1, by omega, by go_num, by rw [← HR.out]; exact HS.out.swap (by omega) (by omega) (by omega), HF.out.set6 _ _ _ _ _ _ _ _ _ _ _ _⟩
      case measure => simp [intOf]; omega
    · have hkn : k = n := by omega
      subst hkn
      have HS := Lib.hid hs
      have HF := Lib.hid hf
      clear hs hf
      go_wp2_with fail
      go_end0
      exact ⟨rfl, HS.out, HF.out⟩

theorem swapRange_z {w : World} {g N cap a b n : Nat} {f : Nat → El} {c : Value} {za zb zn : Int} (ea : za = (a : Int)) (eb : zb = (b : Int)) (en : zn = (n : Int)) (h : Srt g N w f) (hab : a + n ≤ b) (hb : b + n ≤ N) (hN : N ≤ 4398046511103) :
    Calls Tryz.prog 126 #[.slice (some ⟨g, 0, none⟩) N cap, .int .i64 za, .int .i64 zb, .int .i64 zn, c] w fun e w' => e = .returned (.tuple #[]) ∧ Srt g N w' (swpR f a b n) ∧ Fr [g] w w' := by
  subst ea eb en
  exact swapRange_any h hab hb hN

def RotR (g N : Nat) (w : World) (f : Nat → El) (a m b : Nat) (x y : Value) (wr : World) : Prop :=
  ∃ (i j : Nat) (f' : Nat → El), x = .int .i64 i ∧ y = .int .i64 j ∧ 0 < i ∧ 0 < j ∧ i ≤ m ∧ m + j ≤ b ∧ Srt g N wr f' ∧ Fr [g] w wr ∧ rot f' (m - i) m (m + j) = rot f a m b

set_option maxHeartbeats 1600000 in
theorem rotate_any {w : World} {g N cap a m b : Nat} {f : Nat → El} {c : Value} (h : Srt g N w f) (ham : a < m) (hmb : m < b) (hb : b ≤ N) (hN : N ≤ 4398046511103) :
    Calls Tryz.prog 121 #[.slice (some ⟨g, 0, none⟩) N cap, .int .i64 a, .int .i64 m, .int .i64 b, c] w fun e w' => e = .returned (.tuple #[]) ∧ Srt g N w' (rot f a m b) ∧ Fr [g] w w' := by
  have H := Lib.hid h
  clear h
  go_enter Tryz.func121, Tryz.ntmps121
  go_wp2_with fail
  go_loopw [10, 11] (fun x y wr => RotR g N w f a m b x y wr) (fun x y _ => (intOf x).toNat + (intOf y).toNat)
  case atStart => exact ⟨m - a, b - m, f, by congr 1; omega, by congr 1; omega, by omega, by omega, by omega, by omega, H.out, Fr.refl _ _, by rw [show m - (m - a) = a by omega, show m + (b - m) = b by omega]⟩
  case round =>
    obtain ⟨i, j, f', rfl, rfl, hi0, hj0, him, hjb, hs, hf, hr⟩ := hrel
    have HF := Lib.hid hf
    have HR := Lib.hid hr
    clear hf hr
    rcases Nat.lt_trichotomy i j with hlt | heq | hgt
    · have hc := swapRange_z (c := c) (cap := cap) (a := m - i) (b := m + j - i) (n := i) (za := (m : Int) - (i : Int)) (zb := (m : Int) + (j : Int) - (i : Int)) (zn := (i : Int)) (by omega) (by omega) rfl hs (by omega) (by omega) hN
      have HL := Lib.hid (rot_lt f' m i j him hlt)
      have hne : ¬ (i : Int) = (j : Int) := by omega
      have hng : (i : Int) ≤ (j : Int) := by omega
      clear hs
      go_wp2_with (go_at_call 126; refine hc.mono ?_; rintro e w5 ⟨rfl, hs5, f5⟩)
      go_roundw
      case rel => exact ⟨i, j - i, _, rfl, by congr 1; omega, hi0, by omega, him, by omega, hs5, HF.out.trans f5, by rw [HL.out]; exact HR.out⟩
      case measure => simp [intOf]; omega
    · subst heq
      have hc := swapRange_z (c := c) (cap := cap) (a := m - i) (b := m) (n := i) (za := (m : Int) - (i : Int)) (zb := (m : Int)) (zn := (i : Int)) (by omega) rfl rfl hs (by omega) (by omega) hN
      have HL := Lib.hid (rot_eq f' m i him)
      clear hs
      go_wp2_with (go_at_call 126; refine hc.mono ?_; rintro e w5 ⟨rfl, hs5, f5⟩)
      go_end0
      exact ⟨rfl, by rw [← HR.out, ← HL.out]; exact hs5, HF.out.trans f5⟩
    · have hc := swapRange_z (c := c) (cap := cap) (a := m - i) (b := m) (n := j) (za := (m : Int) - (i : Int)) (zb := (m : Int)) (zn := (j : Int)) (by omega) rfl rfl hs (by omega) (by omega) hN
      have HL := Lib.hid (rot_gt f' m i j him hgt)
      have hne : ¬ (i : Int) = (j : Int) := by omega
      have hng : (j : Int) < (i : Int) := by omega
      clear hs
      go_wp2_with (go_at_call 126; refine hc.mono ?_; rintro e w5 ⟨rfl, hs5, f5⟩)
      go_roundw
      case rel => exact ⟨i - j, j, _, by congr 1; omega, rfl, by omega, hj0, by omega, hjb, hs5, HF.out.trans f5, by rw [HL.out]; exact HR.out⟩
      case measure => simp [intOf]; omega
end Go.Proofs.YtjchlfblbmiceaaGreat.upd
