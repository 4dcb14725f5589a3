/- The walk of ZsetTidies. No condition but the sizes. -/
import Derived.Test.YtmionipeoffnhaaRp
namespace Go.Proofs.Ytmionipeoffnhaa
open Go.RowKit srt grp big

theorem pairOf {l : List El} {s : Int} {G : List (List Dt × Int) → List (List Dt × Int)} {e1 e2 : Int} {o1 o2 : List El} (h : Hid (((∀ r, fitB (s * sumK (l.map pr) r) = true) ∧ e1 = 0 ∧ ∃ os, Canon cmpR os (fun r => s * sumK (l.map pr) r) ∧ o1.map pr = G os) ∨ ((∃ r, fitB (s * sumK (l.map pr) r) = false) ∧ e1 = 30 ∧ o1 = [])))
    (k : Hid (((∀ r, fitB (s * sumK (l.map pr) r) = true) ∧ e2 = 0 ∧ ∃ os, Canon cmpR os (fun r => s * sumK (l.map pr) r) ∧ o2.map pr = G os) ∨ ((∃ r, fitB (s * sumK (l.map pr) r) = false) ∧ e2 = 30 ∧ o2 = []))) : e2 = e1 ∧ o1.map pr = o2.map pr :=
  ansR.pair (l := l) (s := s) (G := G) h.out k.out

set_option maxRecDepth 100000
set_option maxHeartbeats 6400000 in
theorem tidies_walk {w : World} {a0 : Option Addr} {c0 : Nat} {lx : List El} (hx : Cts w (.slice a0 lx.length c0) lx) (hcx : lx.length ≤ c0) (hax : a0 = none → c0 = 0) (hmx : c0 ≤ 9223372036854775807) :
    Calls Try.prog 8 #[.slice a0 lx.length c0] w fun e w' => e = .returned (.bool true) ∧ Fr [] w w' := by
  have hcut := cut_any (w := w) lx.length hcx hax hmx
  obtain ⟨sx, hsl, ht⟩ : ∃ sx : List El, sx.length = min lx.length 60 ∧ Cts w (.slice a0 sx.length c0) sx := by
    have ht := hx.take (k := min lx.length 60) (by omega)
    have hl : (lx.take (min lx.length 60)).length = min lx.length 60 := by rw [List.length_take]; omega
    exact ⟨_, hl, by rw [hl]; exact ht⟩
  rw [← hsl] at hcut
  have q1 : sx.length ≤ 60 := by omega
  have HCut := Lib.hid hcut
  have K0 := Lib.hid ht
  have T := Lib.hid (Fr.refl [] w)
  clear hx hcx hax hmx hsl hcut ht
  go_enter Try.func8, Try.ntmps8
  go_upto_region 2 with (go_at_call 14; refine HCut.out.mono ?_; rintro e w' ⟨rfl, rfl⟩)
  obtain ⟨w0, rfl⟩ : ∃ w0, w0 = w := ⟨w, rfl⟩
  replace K0 : Hid (Cts w0 (.slice a0 sx.length c0) sx) := K0
  clear HCut
  have C1 := Lib.hid ((Tidy_any K0.out (by omega)).mono fun _ _ h => h.res.ans)
  go_upto_region 3 with (go_at_call 16; refine C1.out.mono ?_; rintro e w1 ⟨l1, x1, y1, e1, rfl, f1, k1, m1, A1⟩)
  replace T := Lib.hid (T.out.trans f1)
  replace K0 := Lib.hid (K0.out.fr f1)
  have K1 := Lib.hid k1.cts
  clear f1 k1 C1
  have C2 := Lib.hid ((rTidy_any K0.out (by omega)).mono fun _ _ h => ResPost.ans h)
  go_upto_region 4 with (go_at_call 15; refine C2.out.mono ?_; rintro e w2 ⟨l2, x2, y2, e2, rfl, f2, k2, m2, A2⟩)
  replace T := Lib.hid (T.out.trans f2)
  replace K0 := Lib.hid (K0.out.fr f2)
  replace K1 := Lib.hid (K1.out.fr f2)
  have K2 := Lib.hid k2.cts
  clear f2 k2 C2
  obtain ⟨he2, hm2⟩ := pairOf A1 A2
  subst he2
  have L2 := Lib.hid (fun wi (fi : Fr [] w2 wi) => like_true (K1.out.fr fi) (K2.out.fr fi) hm2 (by omega))
  have HM2 := Lib.hid hm2
  clear A1 A2 hm2
  have C3 := Lib.hid ((Negate_any K0.out (by omega)).mono fun _ _ h => h.res.ans)
  go_upto_region 5 with (go_at_call 19; refine C3.out.mono ?_; rintro e w3 ⟨l3, x3, y3, e3, rfl, f3, k3, m3, A3⟩)
  replace T := Lib.hid (T.out.trans f3)
  replace K0 := Lib.hid (K0.out.fr f3)
  replace K1 := Lib.hid (K1.out.fr f3)
  replace K2 := Lib.hid (K2.out.fr f3)
  have K3 := Lib.hid k3.cts
  clear f3 k3 C3
  have C4 := Lib.hid ((rNegate_any K0.out (by omega)).mono fun _ _ h => ResPost.ans h)
  go_upto_region 6 with (go_at_call 31; refine C4.out.mono ?_; rintro e w4 ⟨l4, x4, y4, e4, rfl, f4, k4, m4, A4⟩)
  replace T := Lib.hid (T.out.trans f4)
  replace K0 := Lib.hid (K0.out.fr f4)
  replace K1 := Lib.hid (K1.out.fr f4)
  replace K2 := Lib.hid (K2.out.fr f4)
  replace K3 := Lib.hid (K3.out.fr f4)
  have K4 := Lib.hid k4.cts
  clear f4 k4 C4
  obtain ⟨he4, hm4⟩ := pairOf A3 A4
  subst he4
  have L4 := Lib.hid (fun wi (fi : Fr [] w4 wi) => like_true (K3.out.fr fi) (K4.out.fr fi) hm4 (by omega))
  clear A3 A4 hm4
  replace L2 := Lib.hid (fun wi (fi : Fr [] w4 wi) => like_true (K1.out.fr fi) (K2.out.fr fi) HM2.out (by omega))
  have z2 : (e2 != e2) = false := by simp
  have z4 : (e4 != e4) = false := by simp
  have tok1 : True := trivial
  go_upto_region 8 with (first
    | (go_at_call 17; have _t := tok1; clear _t tok1; refine (L2.out _ (Fr.refl _ _)).mono ?_; rintro e wa ⟨rfl, fa⟩)
    | (go_at_call 17; refine (L4.out _ fa).mono ?_; rintro e wb ⟨rfl, fb⟩))
  have fab := fa.trans fb
  replace T := Lib.hid (T.out.trans fab)
  replace K0 := Lib.hid (K0.out.fr fab)
  clear fa fb fab L2 L4 K1 K2 K3 K4 z2 z4 HM2
  have C5 := Lib.hid ((Positive_any K0.out (by omega)).mono fun _ _ h => h.ans)
  go_upto_region 9 with (go_at_call 32; refine C5.out.mono ?_; rintro e w5 ⟨l5, x5, y5, e5, rfl, f5, k5, m5, A5⟩)
  replace T := Lib.hid (T.out.trans f5)
  replace K0 := Lib.hid (K0.out.fr f5)
  have K5 := Lib.hid k5.cts
  clear f5 k5 C5
  have C6 := Lib.hid (rPositive_any K0.out (by omega))
  go_upto_region 10 with (go_at_call 33; refine C6.out.mono ?_; rintro e w6 ⟨l6, x6, y6, e6, rfl, f6, k6, m6, A6⟩)
  replace T := Lib.hid (T.out.trans f6)
  replace K0 := Lib.hid (K0.out.fr f6)
  replace K5 := Lib.hid (K5.out.fr f6)
  have K6 := Lib.hid k6.cts
  clear f6 k6 C6
  obtain ⟨he6, hm6⟩ := pairOf A5 A6
  subst he6
  have L6 := Lib.hid (fun wi (fi : Fr [] w6 wi) => like_true (K5.out.fr fi) (K6.out.fr fi) hm6 (by omega))
  have HM6 := Lib.hid hm6
  clear A5 A6 hm6
  have C7 := Lib.hid ((Distinct_any K0.out (by omega)).mono fun _ _ h => h.ans)
  go_upto_region 11 with (go_at_call 34; refine C7.out.mono ?_; rintro e w7 ⟨l7, x7, y7, e7, rfl, f7, k7, m7, A7⟩)
  replace T := Lib.hid (T.out.trans f7)
  replace K0 := Lib.hid (K0.out.fr f7)
  replace K5 := Lib.hid (K5.out.fr f7)
  replace K6 := Lib.hid (K6.out.fr f7)
  have K7 := Lib.hid k7.cts
  clear f7 k7 C7
  have C8 := Lib.hid (rDistinct_any K0.out (by omega))
  go_upto_region 12 with (go_at_call 35; refine C8.out.mono ?_; rintro e w8 ⟨l8, x8, y8, e8, rfl, f8, k8, m8, A8⟩)
  replace T := Lib.hid (T.out.trans f8)
  replace K0 := Lib.hid (K0.out.fr f8)
  replace K5 := Lib.hid (K5.out.fr f8)
  replace K6 := Lib.hid (K6.out.fr f8)
  replace K7 := Lib.hid (K7.out.fr f8)
  have K8 := Lib.hid k8.cts
  clear f8 k8 C8
  obtain ⟨he8, hm8⟩ := pairOf A7 A8
  subst he8
  have L8 := Lib.hid (fun wi (fi : Fr [] w8 wi) => like_true (K7.out.fr fi) (K8.out.fr fi) hm8 (by omega))
  clear A7 A8 hm8
  replace L6 := Lib.hid (fun wi (fi : Fr [] w8 wi) => like_true (K5.out.fr fi) (K6.out.fr fi) HM6.out (by omega))
  have z6 : (e6 == e6) = true := by simp
  have z8 : (e8 == e8) = true := by simp
  have tok1 : True := trivial
  go_wp2_with (first
    | (go_at_call 17; have _t := tok1; clear _t tok1; refine (L6.out _ (Fr.refl _ _)).mono ?_; rintro e wc ⟨rfl, fc⟩)
    | (go_at_call 17; refine (L8.out _ fc).mono ?_; rintro e wd ⟨rfl, fd⟩))
  go_ret
  exact ⟨rfl, T.out.trans (fc.trans fd)⟩
end Go.Proofs.Ytmionipeoffnhaa
