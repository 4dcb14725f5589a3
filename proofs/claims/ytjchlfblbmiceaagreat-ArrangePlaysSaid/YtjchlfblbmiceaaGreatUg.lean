/- The merge in place, whole. No condition but that the rows lie as they are told. -/
import Derived.Test.YtjchlfblbmiceaaGreatUd
import Derived.Test.YtjchlfblbmiceaaGreatUe
import Derived.Deep.CutRange
import Derived.Deep.DeepCutAuto
namespace Go.Proofs.YtjchlfblbmiceaaGreat.upd
open Go.RowKit srt

theorem RowOk.fr {g : Nat} {w w' : World} {e : El} (h : RowOk g w e) (k : Fr [g] w w') : RowOk g w' e := ⟨h.1, fun wi f => h.2 wi (k.trans f)⟩

def SymR (g N : Nat) (w : World) (f : Nat → El) (n s0 r0 : Nat) (x y : Value) (wr : World) : Prop :=
  ∃ i j : Nat, x = .int .i64 i ∧ y = .int .i64 j ∧ s0 ≤ i ∧ i ≤ j ∧ j ≤ r0 ∧ Srt g N wr f ∧ Fr [g] w wr ∧ (i = s0 ∨ ¬ ec (f (n - 1 - (i - 1))) (f (i - 1)) < 0) ∧ (j = r0 ∨ ec (f (n - 1 - j)) (f j) < 0)

def SymOne (g N : Nat) (w : World) (f : Nat → El) (wr : World) : Prop := Srt g N wr f ∧ Fr [g] w wr
def SymTwo (g N : Nat) (w : World) (f : Nat → El) (a mid : Nat) (wr : World) : Prop := ∃ f2, Srt g N wr f2 ∧ Fr [g] w wr ∧ Pm a mid f f2 ∧ Srtd ec f2 a mid

/-- What the merge of [a, m) and [m, b) leaves. -/
def SymPost (g N : Nat) (w : World) (f : Nat → El) (a b : Nat) (e : Ending) (w' : World) : Prop := e = .returned (.tuple #[]) ∧ ∃ f', Srt g N w' f' ∧ Fr [g] w w' ∧ Pm a b f f' ∧ Srtd ec f' a b

def SymIH (g N cap c : Nat) : Prop := ∀ (w : World) (a m b : Nat) (f : Nat → El), b - a ≤ c → Srt g N w f → (∀ k, a ≤ k → k < b → RowOk g w (f k)) → a < m → m < b → b ≤ N → Srtd ec f a m → Srtd ec f m b →
  Calls Tryz.prog 115 #[.slice (some ⟨g, 0, none⟩) N cap, .int .i64 a, .int .i64 m, .int .i64 b, .func (.func 65) #[] #[]] w (SymPost g N w f a b)

set_option maxRecDepth 100000
set_option maxHeartbeats 3200000 in
theorem symGen_any {w : World} {g N cap c a m b : Nat} {f : Nat → El} (ih : SymIH g N cap c) (hc : b - a ≤ c + 1) (h : Srt g N w f) (hrow : ∀ k, a ≤ k → k < b → RowOk g w (f k)) (ham : a + 1 < m) (hmb : m + 1 < b) (hb : b ≤ N) (hN : N ≤ 4398046511103) (hs1 : Srtd ec f a m) (hs2 : Srtd ec f m b) :
    Calls Tryz.prog 115 #[.slice (some ⟨g, 0, none⟩) N cap, .int .i64 a, .int .i64 m, .int .i64 b, .func (.func 65) #[] #[]] w (SymPost g N w f a b) := by
  obtain ⟨mid, hm⟩ : ∃ k, k = (a + b) / 2 := ⟨_, rfl⟩
  have hmid2 : ((a : Int) + (b : Int)) / 2 = (mid : Int) := by omega
  have hl1 : a < mid := by omega
  have hl2 : mid < b := by omega
  have hl3 : 2 * mid ≤ a + b := by omega
  have hl4 : a + b ≤ 2 * mid + 1 := by omega
  clear hm
  obtain ⟨s0, r0, hsr⟩ : ∃ s0 r0 : Nat, (mid < m ∧ s0 + b = mid + m ∧ r0 = mid) ∨ (m ≤ mid ∧ s0 = a ∧ r0 = m) := by
    by_cases h1 : mid < m
    · exact ⟨mid + m - b, mid, Or.inl ⟨h1, by omega, rfl⟩⟩
    · exact ⟨a, m, Or.inr ⟨by omega, rfl, rfl⟩⟩
  have H := Lib.hid h
  have HRow := Lib.hid hrow
  have HS1 := Lib.hid hs1
  have HS2 := Lib.hid hs2
  have IH := Lib.hid ih
  have HSR := Lib.hid hsr
  have q1 : a ≤ s0 := by omega
  have q2 : r0 ≤ m := by omega
  have q3 : r0 ≤ mid := by omega
  have q4 : mid + m ≤ s0 + b := by omega
  have q5 : s0 ≤ r0 := by omega
  clear h hrow hs1 hs2 ih hsr
  have h0 : ((m : Int) - (a : Int) == 1) = false := by simp; omega
  have h1 : ((b : Int) - (m : Int) == 1) = false := by simp; omega
  go_enter Tryz.func115, Tryz.ntmps115
  go_upto_if 140 with fail
  go_cut [20, 21] (fun x y wx => x = .int .i64 s0 ∧ y = .int .i64 r0 ∧ w = wx)
  case first =>
    as_aux_lemma =>
    rcases HSR.out with ⟨p1, p2, p3⟩ | ⟨p1, p2, p3⟩
    · have p1' : (mid : Int) < (m : Int) := by omega
      have p2' := Lib.hid (show (mid : Int) + (m : Int) - (b : Int) = (s0 : Int) by omega)
      have p3' := Lib.hid p3
      clear p2 p3
      go_wp2_with fail
      go_meet
      exact ⟨by rw [p2'.out], by rw [p3'.out], rfl⟩
    · have p1' : ¬ (mid : Int) < (m : Int) := by omega
      have p2' := Lib.hid p2
      have p3' := Lib.hid p3
      clear p2 p3
      go_wp2_with fail
      go_meet
      exact ⟨by rw [p2'.out], by rw [p3'.out], rfl⟩
  case rest =>
    as_aux_lemma =>
    obtain ⟨rfl, rfl, rfl⟩ := hcut
    have HSR2 := Lib.hid HSR.out
    clear HSR
    go_wp2_with fail
    go_loopw [20, 21] (fun x y wr => SymR g N w f (mid + m) s0 r0 x y wr) (fun x y _ => (intOf y).toNat - (intOf x).toNat)
    case atStart => exact ⟨s0, r0, rfl, rfl, Nat.le_refl _, q5, Nat.le_refl _, H.out, Fr.refl _ _, Or.inl rfl, Or.inl rfl⟩
    case round =>
      obtain ⟨i, j, rfl, rfl, hai, hij, hjb, hs, hf, hlo, hhi⟩ := hrel
      have HS := Lib.hid hs
      have HF := Lib.hid hf
      have HLo := Lib.hid hlo
      have HHi := Lib.hid hhi
      clear hlo hhi
      by_cases hlt : i < j
      · as_aux_lemma =>
        obtain ⟨k, hk⟩ : ∃ k, k = (i + j) / 2 := ⟨_, rfl⟩
        have hik : i ≤ k := by omega
        have hkj : k < j := by omega
        have hk2 : ((i : Int) + (j : Int)) / 2 = (k : Int) := by omega
        clear hk
        obtain ⟨q, hq⟩ : ∃ q, q = mid + m - 1 - k := ⟨_, rfl⟩
        have hq1 : a ≤ q := by omega
        have hq2 : q < b := by omega
        have hq3 : (mid : Int) + (m : Int) - 1 - (k : Int) = (q : Int) := by omega
        have HQ := Lib.hid hq
        clear hq
        obtain ⟨x0, x1, x2, x3, x4, x5⟩ := hs.cell (k := q) (by omega)
        obtain ⟨y0, y1, y2, y3, y4, y5⟩ := hs.cell (k := k) (by omega)
        have r1 := HRow.out q (by omega) (by omega)
        have r2 := HRow.out k (by omega) (by omega)
        have hc2 : ∀ p : FrBy wr, Calls Tryz.prog 65 #[.agg #[.slice (f q).ra (f q).rl (f q).rc, .int .i64 (f q).t, .int .i64 (f q).n], .agg #[.slice (f k).ra (f k).rl (f k).rc, .int .i64 (f k).t, .int .i64 (f k).n]] p.wn fun x w' => x = .returned (.int .i64 (ec (f q) (f k))) ∧ Fr [] p.wn w' := fun p => cmpEl_any (r1.2 _ (hf.trans p.fr.nil)) (r2.2 _ (hf.trans p.fr.nil)) r1.1
        have u0 : ∀ p : FrBy wr, p.wn.cell? ⟨g, q * 3, none⟩ = some (.slice (f q).ra (f q).rl (f q).rc) := fun p => p.fr.cell x0 (by simp)
        have u1 : ∀ p : FrBy wr, p.wn.cell? ⟨g, q * 3 + 1, none⟩ = some (.int .i64 (f q).t) := fun p => p.fr.cell x1 (by simp)
        have u1b : ∀ p : FrBy wr, p.wn.cell? ⟨g, q * 3 + 2, none⟩ = some (.int .i64 (f q).n) := fun p => p.fr.cell x2 (by simp)
        have v0 : ∀ p : FrBy wr, p.wn.cell? ⟨g, k * 3, none⟩ = some (.slice (f k).ra (f k).rl (f k).rc) := fun p => p.fr.cell y0 (by simp)
        have v1 : ∀ p : FrBy wr, p.wn.cell? ⟨g, k * 3 + 1, none⟩ = some (.int .i64 (f k).t) := fun p => p.fr.cell y1 (by simp)
        have v1b : ∀ p : FrBy wr, p.wn.cell? ⟨g, k * 3 + 2, none⟩ = some (.int .i64 (f k).n) := fun p => p.fr.cell y2 (by simp)
        have HC := Lib.hid hc2
        clear hs hf r1 r2 hc2 x0 x1 x2 x3 x4 x5 y0 y1 y2 y3 y4 y5
        generalize hcv : ec (f q) (f k) = cv at HC
        have HCV := Lib.hid hcv
        clear hcv
        by_cases hlv : cv < 0
        all_goals
          go_upto_region 35 with fail
          refine wp_region_fr (by kernel_rfl) (by kernel_rfl) ?_
          repeat (go_big_quiet_step ((go_at_call 65; exact Calls.fr_of (HC.out _))))
          refine wpQuiet_nil ?_
          intro wn hwn
          have fn : Fr [] wr wn := by obtain ⟨p, rfl⟩ := hwn; exact p.fr
          have FN := Lib.hid fn
          clear hwn u0 u1 u1b v0 v1 v1b HC fn hq3
          go_wp2_with fail
          go_roundw
          case rel => first
            | exact ⟨i, k, rfl, by go_num, by omega, by omega, by omega, HS.out.fr FN.out, HF.out.trans FN.out.nil, HLo.out, Or.inr (by rw [← HQ.out, HCV.out]; exact hlv)⟩
            | exact ⟨k + 1, j, by go_num, rfl, by omega, by omega, hjb, HS.out.fr FN.out, HF.out.trans FN.out.nil, Or.inr (by rw [Nat.add_sub_cancel, ← HQ.out, HCV.out]; exact hlv), HHi.out⟩
          case measure => simp [intOf] <;> omega
      · as_aux_lemma =>
        obtain rfl : i = j := by omega
        obtain ⟨e, he⟩ : ∃ e, e = mid + m - i := ⟨_, rfl⟩
        have e1 : m ≤ e := by omega
        have e2 : e ≤ b := by omega
        have e3 : i + (e - m) = mid := by omega
        have e4 : (mid : Int) + (m : Int) - (i : Int) = (e : Int) := by omega
        have hlo2 : i = a ∨ e = b ∨ ec (f (i - 1)) (f e) ≤ 0 := by
          rcases HLo.out with h5 | h5
          · rcases HSR2.out with ⟨p1, p2, p3⟩ | ⟨p1, p2, p3⟩ <;> omega
          · by_cases h6 : i = a
            · exact Or.inl h6
            · rw [show mid + m - 1 - (i - 1) = e by omega] at h5
              have := ecGood.swap (f e) (f (i - 1))
              exact Or.inr (Or.inr (by omega))
        have hhi2 : i = m ∨ e = m ∨ ec (f (e - 1)) (f i) ≤ 0 := by
          rcases HHi.out with h5 | h5
          · rcases HSR2.out with ⟨p1, p2, p3⟩ | ⟨p1, p2, p3⟩ <;> omega
          · rw [show mid + m - 1 - i = e - 1 by omega] at h5
            exact Or.inr (Or.inr (by omega))
        have HM := Lib.hid (sym_mid ecGood HS1.out HS2.out (show a ≤ i by omega) (show i ≤ m by omega) e1 e2 e3 hlo2 hhi2)
        have HP := Lib.hid (rot_pm f (show i ≤ m by omega) e1)
        have HE := Lib.hid he
        clear HLo HHi hs hf hlo2 hhi2 HSR2 he
        go_upto_region 39 with fail
        clear e4
        obtain ⟨d, hd⟩ : ∃ d : Bool, (d = true ∧ i < m ∧ m < e) ∨ (d = false ∧ (i = m ∨ (i < m ∧ m = e))) := by
          by_cases c1 : i < m
          · by_cases c2 : m < e
            · exact ⟨true, Or.inl ⟨rfl, c1, c2⟩⟩
            · exact ⟨false, Or.inr ⟨rfl, Or.inr ⟨c1, by omega⟩⟩⟩
          · exact ⟨false, Or.inr ⟨rfl, Or.inl (by omega)⟩⟩
        have HD := Lib.hid hd
        clear hd
        go_cut [185] (fun x wx => x = .bool d ∧ wr = wx)
        case first =>
          as_aux_lemma =>
          rcases HD.out with ⟨rfl, c1, c2⟩ | ⟨rfl, c3 | ⟨c1, c3⟩⟩
          · go_wp2_with fail
            go_meet
            exact ⟨rfl, rfl⟩
          · have c1 : ¬ i < m := by omega
            have c4 := Lib.hid c3
            clear c3
            go_wp2_with fail
            go_meet
            exact ⟨rfl, rfl⟩
          · have c2 : ¬ m < e := by omega
            have c4 := Lib.hid c3
            clear c3
            go_wp2_with fail
            go_meet
            exact ⟨rfl, rfl⟩
        case rest =>
          as_aux_lemma =>
          obtain ⟨rfl, rfl⟩ := hcut
          go_upto_if 185 with fail
          go_cut [191] (fun _ wx => SymOne g N w (rot f i m e) wx)
          case first =>
            as_aux_lemma =>
            rcases HD.out with ⟨rfl, c1, c2⟩ | ⟨rfl, c3⟩
            · have hr := rotate_any (cap := cap) (c := .func (.func 65) #[] #[]) HS.out c1 c2 (by omega) hN
              go_wp2_with (go_at_call 121; refine hr.mono ?_; rintro e5 w5 ⟨rfl, hs5, f5⟩)
              go_meet
              exact ⟨hs5, HF.out.trans f5⟩
            · have c4 := Lib.hid c3
              clear c3
              go_wp2_with fail
              go_meet
              rcases c4.out with c5 | ⟨c5, c6⟩
              · exact ⟨by rw [c5, rot_none]; exact HS.out, HF.out⟩
              · exact ⟨by rw [← c6, rot_none']; exact HS.out, HF.out⟩
          case rest =>
            as_aux_lemma =>
            clear HS HF HD
            generalize hf1 : rot f i m e = f1 at hcut HM HP
            have HF1 := Lib.hid hf1
            clear hf1
            have HC1 := Lib.hid hcut
            clear hcut
            generalize wc = wx at *
            go_upto_region 41 with fail
            obtain ⟨d, hd⟩ : ∃ d : Bool, (d = true ∧ a < i ∧ i < mid) ∨ (d = false ∧ (a = i ∨ (a < i ∧ i = mid))) := by
              by_cases c1 : a < i
              · by_cases c2 : i < mid
                · exact ⟨true, Or.inl ⟨rfl, c1, c2⟩⟩
                · exact ⟨false, Or.inr ⟨rfl, Or.inr ⟨c1, by omega⟩⟩⟩
              · exact ⟨false, Or.inr ⟨rfl, Or.inl (by omega)⟩⟩
            have HD := Lib.hid hd
            clear hd
            go_cut [199] (fun x wq => x = .bool d ∧ wx = wq)
            case first =>
              as_aux_lemma =>
              rcases HD.out with ⟨rfl, c1, c2⟩ | ⟨rfl, c3 | ⟨c1, c3⟩⟩
              · go_wp2_with fail
                go_meet
                exact ⟨rfl, rfl⟩
              · have c1 : ¬ a < i := by omega
                have c4 := Lib.hid c3
                clear c3
                go_wp2_with fail
                go_meet
                exact ⟨rfl, rfl⟩
              · have c2 : ¬ i < mid := by omega
                have c4 := Lib.hid c3
                clear c3
                go_wp2_with fail
                go_meet
                exact ⟨rfl, rfl⟩
            case rest =>
              as_aux_lemma =>
              obtain ⟨rfl, rfl⟩ := hcut
              go_upto_if 199 with fail
              go_cut [205] (fun _ wy => SymTwo g N w f1 a mid wy)
              case first =>
                as_aux_lemma =>
                rcases HD.out with ⟨rfl, c1, c2⟩ | ⟨rfl, c3⟩
                · have hr := IH.out wx a i mid f1 (by omega) HC1.out.1 (fun k x y => ((HP.out.mono (by omega) (by omega)).all (P := RowOk g w) HRow.out k x (by omega)).fr HC1.out.2) c1 c2 (by omega) HM.out.1 HM.out.2.1
                  go_wp2_with (go_at_call 115; refine hr.mono ?_; rintro e5 w5 ⟨rfl, f2, hs5, f5, hp5, ho5⟩)
                  go_meet
                  exact ⟨f2, hs5, HC1.out.2.trans f5, hp5, ho5⟩
                · have c4 := Lib.hid c3
                  clear c3
                  go_wp2_with fail
                  go_meet
                  rcases c4.out with c5 | ⟨c5, c6⟩
                  · exact ⟨f1, HC1.out.1, HC1.out.2, .refl, by have := HM.out.2.1; rwa [← c5] at this⟩
                  · exact ⟨f1, HC1.out.1, HC1.out.2, .refl, by have := HM.out.1; rwa [c6] at this⟩
              case rest =>
                as_aux_lemma =>
                obtain ⟨f2, hs5, hf5, hp5, ho5⟩ := hcut
                have HS5 := Lib.hid hs5
                have HF5 := Lib.hid hf5
                have HP5 := Lib.hid hp5
                have HO5 := Lib.hid ho5
                clear hs5 hf5 hp5 ho5 HC1 HD
                generalize wc = wy at *
                have hpm : Pm a b f f2 := (HP.out.mono (by omega) (by omega)).trans (HP5.out.mono (by omega) (by omega))
                have HPM := Lib.hid hpm
                clear hpm
                by_cases c1 : mid < e
                · by_cases c2 : e < b
                  · have hr := IH.out wy mid e b f2 (by omega) HS5.out (fun k x y => (HPM.out.all (P := RowOk g w) HRow.out k (by omega) y).fr HF5.out) c1 c2 (by omega) (HM.out.2.2.1.out HP5.out (Or.inr (by omega))) (HM.out.2.2.2.1.out HP5.out (Or.inr (by omega)))
                    go_wp2_with (go_at_call 115; refine hr.mono ?_; rintro e5 w5 ⟨rfl, f3, hs5, f5, hp5, ho5⟩)
                    go_end0
                    exact ⟨rfl, f3, hs5, HF5.out.trans f5, HPM.out.trans (hp5.mono (by omega) (by omega)), sym_join HM.out.2.2.2.2 HP5.out HO5.out hp5 ho5⟩
                  · have c3 := Lib.hid (show e = b by omega)
                    go_wp2_with fail
                    go_end0
                    exact ⟨rfl, f2, HS5.out, HF5.out, HPM.out, sym_join HM.out.2.2.2.2 HP5.out HO5.out .refl (by have := HM.out.2.2.1.out HP5.out (Or.inr (by omega)); rwa [c3.out] at this)⟩
                · have c3 := Lib.hid (show e = mid by omega)
                  go_wp2_with fail
                  go_end0
                  exact ⟨rfl, f2, HS5.out, HF5.out, HPM.out, sym_join HM.out.2.2.2.2 HP5.out HO5.out .refl (by have := HM.out.2.2.2.1.out HP5.out (Or.inr (by omega)); rwa [c3.out] at this)⟩

theorem sym_all (g N cap : Nat) (hN : N ≤ 4398046511103) : ∀ c, SymIH g N cap c := by
  intro c
  induction c with
  | zero => intro w a m b f hc h hrow h1 h2 h3 h4 h5; omega
  | succ c ih =>
    intro w a m b f hc h hrow h1 h2 h3 h4 h5
    by_cases hm : m = a + 1
    · subst hm
      have hr := symLo_any (cap := cap) h hrow h2 h3 hN h5
      exact hr
    · by_cases hm2 : b = m + 1
      · subst hm2
        have hr := symHi_any (cap := cap) h hrow (by omega) h3 hN h4
        exact hr
      · exact symGen_any ih hc h hrow (by omega) (by omega) h3 hN h4 h5

theorem sym_any {w : World} {g N cap a m b : Nat} {f : Nat → El} (h : Srt g N w f) (hrow : ∀ k, a ≤ k → k < b → RowOk g w (f k)) (ham : a < m) (hmb : m < b) (hb : b ≤ N) (hN : N ≤ 4398046511103) (hs1 : Srtd ec f a m) (hs2 : Srtd ec f m b) :
    Calls Tryz.prog 115 #[.slice (some ⟨g, 0, none⟩) N cap, .int .i64 a, .int .i64 m, .int .i64 b, .func (.func 65) #[] #[]] w (SymPost g N w f a b) :=
  sym_all g N cap hN (b - a) w a m b f (Nat.le_refl _) h hrow ham hmb hb hs1 hs2
end Go.Proofs.YtjchlfblbmiceaaGreat.upd
