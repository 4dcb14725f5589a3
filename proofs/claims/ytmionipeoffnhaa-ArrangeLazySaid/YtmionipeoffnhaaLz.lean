/- The walk of ArrangeLazy. No condition but the sizes. -/
import Derived.Test.YtmionipeoffnhaaAz
namespace Go.Proofs.Ytmionipeoffnhaa
open Go.RowKit srt grp

theorem lazy_two {key : List Int} {k k2 : Nat} {s s2 : Spn} {all : List upd.El} {t e e2 : Int} {o o2 : List El} (g : Gd key k s all) (g2 : Gl key k2 s2 all) (h0 : s.since = 0) (hu : s2.upper = s.upper) (ht : s2.since ≤ t) (h : AtSays s t e o) (h' : AtSays s2 t e2 o2) : e2 = e ∧ o.map pr = o2.map pr ∧ o.length ≤ 8000 ∧ e2 ≠ 130 := by
  have hs2 := g2.since
  have ha : askE s2 t = askE s t := by
    have e1 : ¬ t < s2.since := by omega
    have e2 : ¬ t < s.since := by omega
    unfold askE
    rw [if_neg e1, if_neg e2, hu]
  have hb : askE s2 t ≠ 130 := by
    unfold askE
    rw [if_neg (by omega)]
    split <;> omega
  rcases h with ⟨a1, rfl, rfl⟩ | ⟨a1, rfl, c, hn⟩
  · rcases h' with ⟨-, rfl, rfl⟩ | ⟨b1, -⟩
    · exact ⟨ha, rfl, by simp, hb⟩
    · rw [ha] at b1; exact absurd b1 a1
  · rcases h' with ⟨b1, -⟩ | ⟨b1, rfl, c2, -⟩
    · rw [ha] at b1; exact absurd a1 b1
    · refine ⟨rfl, c.uniq cmpRS (c2.of fun r => ?_), hn, by decide⟩
      have e1 : sumK ((atL s.fl t).map pr) r = _ := (g.inv.same).at (by omega) r
      have e2 : sumK ((atL s2.fl t).map pr) r = _ := (g2.inv.same).at ht r
      rw [e1, e2]

def LzR (w2 : World) (p2 : Nat) (key : List Int) (ops : List OpE) (x : Value) (wr : World) : Prop :=
  ∃ (k : Nat) (s : Spn) (wb : Option Nat) (all : List upd.El), x = .int .i64 k ∧ k ≤ ops.length ∧ Fr [] w2 wr ∧ SpAt wr p2 wb s ∧ (∀ g, wb = some g → w2.heap.size ≤ g) ∧ Gl key k s all ∧ Hid ((s.upper, all) = plAll key (ops.take k))
theorem lz_next {w2 wr : World} {p2 k : Nat} {wb : Option Nat} {key : List Int} {ops : List OpE} {s : Spn} {all : List upd.El} (hk : k < ops.length) (f : Fr [] w2 wr) (hs : SpAt wr p2 wb s) (hw : ∀ g, wb = some g → w2.heap.size ≤ g) (g : Gl key (k + 1) s all)
    (hp : (s.upper, all) = plStep key (plAll key (ops.take k)) (nop ops k)) : LzR w2 p2 key ops (.int .i64 ((k + 1 : Nat) : Int)) wr := by
  refine ⟨k + 1, s, wb, all, rfl, by omega, f, hs, hw, g, Lib.hid ?_⟩
  have hts : ops.take (k + 1) = ops.take k ++ [nop ops k] := by rw [List.take_add_one, nop_at hk]; rfl
  rw [hts, plAll_snoc]
  exact hp

set_option maxRecDepth 100000
set_option maxHeartbeats 12800000 in
theorem lazy_walk {w : World} {a0 a1 : Option Addr} {c0 c1 : Nat} {key : List Int} {ops : List OpE} {t : Int} (hk : Src w 1 (.slice a0 key.length c0) key.length (kiC key)) (hkl : key.length ≤ 17592186043904) (ho : OpsAt w (.slice a1 ops.length c1) ops) (hoc : ops.length ≤ c1) (hoa : a1 = none → c1 = 0) :
    Calls Try.prog 11 #[.slice a0 key.length c0, .slice a1 ops.length c1, .int .i64 t] w fun e w' => e = .returned (.bool true) ∧ Fr [] w w' := by
  have hri := right_any hk hkl
  have hpl := fun wi (f : Fr [] w wi) => played_any true (hk.fr f) hkl (ho.fr f) hoc hoa
  have hnew := fun wi (f : Fr [] w wi) => new_any (hk.fr f) hkl
  have hcut := fun wi => cut13_any (w := wi) ops.length 40 (by omega) hoc hoa
  obtain ⟨sx, hsl, hst, hsn⟩ : ∃ sx : List OpE, sx.length = min ops.length 40 ∧ OpsAt w (.slice a1 sx.length c1) sx ∧ sx = ops.take 40 := by
    have ht := ho.take (k := min ops.length 40) (by omega)
    have hl : (ops.take (min ops.length 40)).length = min ops.length 40 := by rw [List.length_take]; omega
    exact ⟨_, hl, by rw [hl]; exact ht, by rw [List.take_eq_take_iff]; omega⟩
  rw [← hsl] at hcut
  have h40 : sx.length ≤ 40 := by omega
  have HO := Lib.hid hst
  have HTk := Lib.hid hsn
  have HCut := Lib.hid hcut
  clear hk ho hoc hoa hcut hsl hst hsn
  by_cases hko : keyOk key = true
  · have hpl2 : ∀ wi, Fr [] w wi → Calls Try.prog 39 #[.slice a0 key.length c0, .slice a1 ops.length c1, .bool true] wi (PlayedOk wi key ops true) := fun wi f => (hpl wi f).mono fun e w' h => h.ok hko
    have hn2 : ∀ wi, Fr [] w wi → Calls Try.prog 44 #[.slice a0 key.length c0] wi fun e w' => ∃ p a c, e = .returned (.tuple #[.pointer (some ⟨p, 0, none⟩), .int .i64 0]) ∧ wi.heap.size ≤ p ∧ SpAt w' p none (spn0 a c key) ∧ Fr [] wi w' := fun wi fi => (hnew wi fi).mono fun e w' ⟨f, hx⟩ => by
      rcases hx with ⟨-, p, a, c, he, hp, hs⟩ | ⟨h9, -⟩
      · exact ⟨p, a, c, he, hp, hs, f⟩
      · rw [hko] at h9; cases h9
    rw [hko] at hri
    have HRi := Lib.hid hri
    have HPl := Lib.hid hpl2
    have HN := Lib.hid hn2
    have HKo := Lib.hid hko
    clear hri hpl hpl2 hko hnew hn2
    go_enter Try.func11, Try.ntmps11
    go_upto_region 3 with (go_at_call 37; refine HRi.out.mono ?_; rintro e w1 ⟨rfl, f1⟩; have F1 := Lib.hid f1; clear f1)
    go_upto_region 4 with (go_at_call 39; refine (HPl.out _ F1.out).mono ?_; rintro e w2 ⟨p, wb, s, all, a9, c9, rfl, f2, hp, hs, hw, hg, hpa, hca⟩; have F2 := Lib.hid (F1.out.trans f2); have HS := Lib.hid hs; have HG := Lib.hid hg; clear f2 hp hs hw hg)
    go_upto_region 5 with (go_at_call 44; refine (HN.out _ F2.out).mono ?_; rintro e w3 ⟨p2, ka, kc, rfl, hp2, hs3, f3⟩; have F3 := Lib.hid f3; have HS3 := Lib.hid hs3; have HP2 := Lib.hid hp2; clear f3 hs3 hp2)
    go_upto_region 7 with (go_at_call 38; refine (known13_any _).mono ?_; rintro e w4 ⟨rfl, f4⟩; have F4 := Lib.hid (F3.out.trans f4); have HS4 := Lib.hid (HS3.out.fr f4); clear f4)
    clear F3 HS3 HRi HPl HN
    go_wp2_with (go_at_call 45; refine (HCut.out _).mono ?_; rintro e w' ⟨rfl, rfl⟩)
    go_loopw [49] (fun x wr => LzR w2 p2 key sx x wr) (fun x _ => sx.length - (intOf x).toNat)
    case atStart => exact ⟨0, _, none, [], rfl, Nat.zero_le _, F4.out, HS4.out, by simp, (Gd.start HKo.out _ _).lazy, Lib.hid rfl⟩
    case round =>
      clear HS4 F4
      obtain ⟨k, s2, wb2, all2, rfl, hk, hf, hs2, hw2, hg2, HP9⟩ := hrel
      have HF := Lib.hid hf
      have HS2 := Lib.hid hs2
      have HW2 := Lib.hid hw2
      have HG2 := Lib.hid hg2
      clear hs2 hw2 hg2
      by_cases hlt : k < sx.length
      · as_aux_lemma =>
        obtain ⟨b, off, e1, y0, y1, y2, y3, y4, y5, y6⟩ := (HO.out.fr (F2.out.trans hf)).cell hlt
        subst e1
        have hOi := HO.out.row _ (nop_mem hlt)
        clear hf
        generalize hoo : nop sx k = o at *
        have HOo := Lib.hid hoo
        have HOi := Lib.hid (hOi.fr F2.out)
        clear hoo hOi
        go_upto_region 10 with fail
        have fa : Fr [] wr (wr.alloc (.cells #[.int .i64 o.kind, .int .i64 o.on, .int .i64 o.fuel, .int .i64 o.upper, .int .i64 o.time, .slice o.ka o.kr.length o.kc, .slice o.la o.l.length o.lc] 67)) := (Fr.refl [] wr).alloc _
        have hb1 := heap_alloc_new wr (.cells #[.int .i64 o.kind, .int .i64 o.on, .int .i64 o.fuel, .int .i64 o.upper, .int .i64 o.time, .slice o.ka o.kr.length o.kc, .slice o.la o.l.length o.lc] 67)
        have HSA := Lib.hid (HS2.out.fr fa)
        have HFA := Lib.hid (HF.out.trans fa)
        clear fa HS2 HF y0 y1 y2 y3 y4 y5 y6
        generalize wr.heap.size = bx at *
        generalize wr.alloc (.cells #[.int .i64 o.kind, .int .i64 o.on, .int .i64 o.fuel, .int .i64 o.upper, .int .i64 o.time, .slice o.ka o.kr.length o.kc, .slice o.la o.l.length o.lc] 67) = wa at *
        have x0 := cell_blk hb1 0 (.int .i64 o.kind) rfl
        have x1 := cell_blk hb1 1 (.int .i64 o.on) rfl
        have x2 := cell_blk hb1 2 (.int .i64 o.fuel) rfl
        have x3 := cell_blk hb1 3 (.int .i64 o.upper) rfl
        have x4 := cell_blk hb1 4 (.int .i64 o.time) rfl
        have x5 := cell_blk hb1 5 (.slice o.ka o.kr.length o.kc) rfl
        have x6 := cell_blk hb1 6 (.slice o.la o.l.length o.lc) rfl
        have HB1 := Lib.hid hb1
        clear hb1
        have hfe := few_any (HOi.out.fr HFA.out)
        by_cases hfew : fewB o = true
        · have HFew := Lib.hid hfew
          rw [hfew] at hfe
          have HFe := Lib.hid hfe
          have hol := (few_len hfew).1
          clear hfe hfew
          go_upto_region 11 with (go_at_call 46; refine HFe.out.mono ?_; rintro e w5 ⟨rfl, f5⟩)
          have z0 := f5.cell x0 (by simp)
          have z1 := f5.cell x1 (by simp)
          have z2 := f5.cell x2 (by simp)
          have z3 := f5.cell x3 (by simp)
          have z4 := f5.cell x4 (by simp)
          have z5 := f5.cell x5 (by simp)
          have z6 := f5.cell x6 (by simp)
          have HS5 := Lib.hid (HSA.out.fr f5)
          have HF5 := Lib.hid (HFA.out.trans f5)
          clear f5 x0 x1 x2 x3 x4 x5 x6 HB1 HSA HFA HFe
          by_cases h1 : o.kind = 1
          · have HK1 := Lib.hid h1
            have hk1 : (o.kind == 1) = true := by simpa using h1
            have hk2 : (o.kind == 2) = false := by simp [h1]
            have hk3 : (o.kind == 3) = false := by simp [h1]
            clear h1
            have hpc := pieces_any (o := o) HF5.out HS5.out HP2.out HW2.out HOi.out hol HG2.out (by omega)
            have HPc := Lib.hid hpc
            clear hpc
            go_wp2_with (go_at_call 47; refine HPc.out.mono ?_; rintro e w6 ⟨rfl, s6, wb6, all6, hs6, hw6, f6, hg6, HX6⟩; have HF6 := Lib.hid (HF5.out.past f6 (fun x hx => Or.inl (by { rcases List.mem_cons.1 hx with rfl | hx; exact HP2.out; exact HW2.out x (by simpa using hx) }))); have HS6 := Lib.hid hs6; have HW6 := Lib.hid hw6; have HG6 := Lib.hid hg6; clear hs6 hw6 f6 hg6)
            go_roundw
            case rel => exact lz_next hlt HF6.out HS6.out HW6.out HG6.out (by
              rw [← HP9.out, HOo.out]
              rcases HX6.out with ⟨h9, h8, h7⟩ | ⟨h9, h8, h7⟩
              · rw [h8, h7]; exact (plStep_add HG2.out.ke HFew.out HK1.out h9).symm
              · rw [h8, h7]; exact (plStep_no HG2.out.ke (Or.inr (Or.inr h9))).symm)
            case measure => simp [intOf] <;> omega
          · have HNk := Lib.hid h1
            have hk1 : (o.kind == 1) = false := by simpa using h1
            clear h1
            by_cases h3 : o.kind = 3
            · have hk3 : (o.kind == 3) = true := by simpa using h3
              have hk2 : (o.kind == 2) = false := by simp [h3]
              clear h3
              have hwo := work_gl HS5.out HG2.out (by omega) o.fuel
              have HWo := Lib.hid hwo
              clear hwo
              go_wp2_with (go_at_call 43; refine HWo.out.mono ?_; rintro e w6 ⟨⟨lf, rfl⟩, s6, wb6, hs6, hg6, hu6, f6, hn6⟩; have HF6 := Lib.hid (HF5.out.past f6 (fun x hx => Or.inl (by rw [List.mem_singleton.1 hx]; exact HP2.out))); have HS6 := Lib.hid hs6; have HG6 := Lib.hid hg6; have HU6 := Lib.hid hu6; have HN6 := Lib.hid hn6; clear hs6 hg6 hu6 f6 hn6)
              go_roundw
              case rel => exact lz_next hlt HF6.out HS6.out (fun g hg => by
                rcases HN6.out with h9 | h9
                · exact HW2.out g (h9.symm.trans hg)
                · exact Nat.le_trans HF5.out.size (h9 g hg)) HG6.out (by rw [← HP9.out, HOo.out, HU6.out]; exact (plStep_no HG2.out.ke (Or.inr (Or.inl HNk.out))).symm)
              case measure => simp [intOf] <;> omega
            · have hk3 : (o.kind == 3) = false := by simpa using h3
              clear h3
              by_cases h2 : o.kind = 2
              · have hk2 : (o.kind == 2) = true := by simpa using h2
                clear h2
                by_cases htt : o.time ≤ t
                · have hco := compact_gl HS5.out HG2.out o.time
                  generalize askE s2 o.time = av at *
                  have HCo := Lib.hid hco
                  clear hco
                  go_wp2_with (go_at_call 48; refine HCo.out.mono ?_; rintro e w6 ⟨rfl, s6, hs6, hg6, hu6, f6⟩; have HF6 := Lib.hid (HF5.out.past f6 (fun x hx => Or.inl (by rw [List.mem_singleton.1 hx]; exact HP2.out))); have HS6 := Lib.hid hs6; have HG6 := Lib.hid hg6; have HU6 := Lib.hid hu6; clear hs6 hg6 hu6 f6)
                  go_roundw
                  case rel => exact lz_next hlt HF6.out HS6.out HW2.out (HG6.out.mono (by omega) (by omega)) (by rw [← HP9.out, HOo.out, HU6.out]; exact (plStep_no HG2.out.ke (Or.inr (Or.inl HNk.out))).symm)
                  case measure => simp [intOf] <;> omega
                · go_wp2_with fail
                  go_roundw
                  case rel => exact lz_next hlt HF5.out HS5.out HW2.out (HG2.out.mono (by omega) (by omega)) (by rw [← HP9.out, HOo.out]; exact (plStep_no HG2.out.ke (Or.inr (Or.inl HNk.out))).symm)
                  case measure => simp [intOf] <;> omega
              · have hk2 : (o.kind == 2) = false := by simpa using h2
                clear h2
                go_wp2_with fail
                go_roundw
                case rel => exact lz_next hlt HF5.out HS5.out HW2.out (HG2.out.mono (by omega) (by omega)) (by rw [← HP9.out, HOo.out]; exact (plStep_no HG2.out.ke (Or.inr (Or.inl HNk.out))).symm)
                case measure => simp [intOf] <;> omega
        · have HFew : Hid (fewB o = false) := Lib.hid (by simpa using hfew)
          rw [HFew.out] at hfe
          have HFe := Lib.hid hfe
          clear hfe hfew
          go_wp2_with (go_at_call 46; refine HFe.out.mono ?_; rintro e w5 ⟨rfl, f5⟩; have HS5 := Lib.hid (HSA.out.fr f5); have HF5 := Lib.hid (HFA.out.trans f5); clear f5)
          go_roundw
          case rel => exact lz_next hlt HF5.out HS5.out HW2.out (HG2.out.mono (by omega) (by omega)) (by rw [← HP9.out, HOo.out]; exact (plStep_no HG2.out.ke (Or.inl HFew.out)).symm)
          case measure => simp [intOf] <;> omega
      · as_aux_lemma =>
        have hkk : k = sx.length := by omega
        have hpq : (s2.upper, all2) = (s.upper, all) := by rw [HP9.out, hkk, List.take_length, HTk.out, hpa.out]
        have hup : s2.upper = s.upper := congrArg Prod.fst hpq
        obtain rfl : all2 = all := congrArg Prod.snd hpq
        have h0 : s.since = 0 := hca.out trivial
        have HUp := Lib.hid hup
        have H0 := Lib.hid h0
        have HS9 := Lib.hid (HS.out.fr hf)
        clear hpq hup h0 hf hca hpa HP9 HS HO HCut HTk HKo
        go_upto_region 22 with (go_at_call 49; refine (atAns_any HS9.out HG.out.ok t).mono ?_; rintro e w6 ⟨o1, x1, y1, r1, rfl, f6, k6, A1⟩; have K6 := Lib.hid k6.cts; have F6 := Lib.hid (HF.out.trans f6); have HS6 := Lib.hid (HS2.out.fr f6); have HB6 := Lib.hid (HS9.out.fr f6); clear f6 k6)
        go_upto_region 23 with (go_at_call 49; refine (atAns_any HS6.out HG2.out.ok t).mono ?_; rintro e w7 ⟨o2, x2, y2, r2, rfl, f7, k7, A2⟩; have K7 := Lib.hid k7.cts; have K67 := Lib.hid (K6.out.fr f7); have F7 := Lib.hid (F6.out.trans f7); have HS7 := Lib.hid (HS6.out.fr f7); have HB7 := Lib.hid (HB6.out.fr f7); clear f7 k7)
        clear K6 HS6 HB6 F6 HS9 HS2 HF
        have hu1 := upper_any HB7.out
        have hu2 := upper_any HS7.out
        rw [HUp.out] at hu2
        have HU1 := Lib.hid hu1
        have HU2 := Lib.hid hu2
        have huu : (s.upper == s.upper) = true := by simp
        clear hu1 hu2
        by_cases ht : t < s2.since
        · have hr2 : r2 = 130 := by
            have ha : askE s2 t = 130 := by unfold askE; rw [if_pos ht]
            rcases A2.out with ⟨-, h, -⟩ | ⟨h, -⟩
            · exact h.trans ha
            · rw [ha] at h; cases h
          subst hr2
          clear A1 A2 ht
          go_wp2_with (first
            | (go_at_call 50; refine HU1.out.mono ?_; rintro e w' ⟨rfl, rfl⟩)
            | (go_at_call 50; refine HU2.out.mono ?_; rintro e w' ⟨rfl, rfl⟩))
          go_ret
          exact ⟨rfl, F2.out.trans F7.out⟩
        · obtain ⟨e2, q2, n2, n130⟩ := lazy_two HG.out HG2.out H0.out HUp.out (by omega) A1.out A2.out
          subst e2
          have HLi := Lib.hid (like_true K67.out K7.out q2 (by omega))
          have h13 : (r2 == 130) = false := by simpa using n130
          have hrr : (r2 == r2) = true := by simp
          clear q2 n130 A1 A2 ht
          go_wp2_with (first
            | (go_at_call 50; refine HU1.out.mono ?_; rintro e w' ⟨rfl, rfl⟩)
            | (go_at_call 50; refine HU2.out.mono ?_; rintro e w' ⟨rfl, rfl⟩)
            | (go_at_call 17; refine HLi.out.mono ?_; rintro e w8 ⟨rfl, f8⟩; have F8 := Lib.hid (F7.out.trans f8); clear f8))
          go_ret
          exact ⟨rfl, F2.out.trans F8.out⟩
  · have hk2 : keyOk key = false := by simpa using hko
    rw [hk2] at hri
    have HRi := Lib.hid hri
    clear hri hpl hko hk2 hnew
    go_enter Try.func11, Try.ntmps11
    go_wp2_with (first
      | (go_at_call 37; refine HRi.out.mono ?_; rintro e w1 ⟨rfl, f1⟩; have F1 := Lib.hid f1; clear f1)
      | (go_at_call 38; refine (known13_any _).mono ?_; rintro e w2 ⟨rfl, f2⟩; have F2 := Lib.hid f2; clear f2))
    go_ret
    exact ⟨rfl, F1.out.trans F2.out⟩
end Go.Proofs.Ytmionipeoffnhaa
