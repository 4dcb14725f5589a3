/- The walk of ZsetSplits. No condition but the sizes. -/
import Derived.Test.YtmionipeoffnhaaZh
import Derived.Test.YtmionipeoffnhaaPo
namespace Go.Proofs.Ytmionipeoffnhaa
open Go.RowKit srt grp

theorem sum_filter {os : List (List Dt × Int)} (h : os.Pairwise fun a b => cmpR a.1 b.1 < 0) (r : List Dt) : sumK (os.filter fun p => decide (0 < p.2)) r = if 0 < sumK os r then sumK os r else 0 := by
  induction os with
  | nil => simp [sumK_nil]
  | cons p os ih =>
    obtain ⟨h1, h2⟩ := List.pairwise_cons.1 h
    have hi := ih h2
    by_cases hr : p.1 = r
    · have z1 : sumK os r = 0 := sumK_none fun q hq e => by
        have := h1 q hq
        rw [hr, e] at this
        have := cmpR_self r
        omega
      rw [z1] at hi
      simp only [Int.lt_irrefl, if_false] at hi
      rw [sumK_cons, if_pos hr, z1, List.filter_cons]
      by_cases hp : 0 < p.2
      · rw [if_pos (by simpa using hp), sumK_cons, if_pos hr, hi, if_pos (by omega)]
      · rw [if_neg (by simpa using hp), hi, if_neg (by omega)]
    · rw [sumK_cons, if_neg hr, Int.zero_add, List.filter_cons]
      split
      · rw [sumK_cons, if_neg hr, Int.zero_add, hi]
      · exact hi

theorem posFit {w : World} {aa : Option Addr} {ac : Nat} {l : List El} (h : Cts w (.slice aa l.length ac) l) (hn : l.length ≤ 1000) (hf : ∀ r, fitB (1 * sumK (l.map pr) r) = true) :
    Calls Try.prog 32 #[.slice aa l.length ac] w fun e w' => ∃ (os : List (List Dt × Int)) (outs : List El) (a : Option Addr) (c : Nat), e = .returned (.tuple #[.slice a outs.length c, .int .i64 0]) ∧ Fr [] w w' ∧ ListIn w.heap.size w' (.slice a outs.length c) outs ∧ Canon cmpR os (fun r => 1 * sumK (l.map pr) r) ∧ outs.map pr = os.filter (fun p => decide (0 < p.2)) ∧ outs.length ≤ l.length :=
  (Positive_any h (by omega)).mono fun e w' ⟨f, hx⟩ => by
    rcases hx with ⟨-, os, outs, a, c, rfl, h2, h3, h4, h5⟩ | ⟨⟨r, hr⟩, -⟩
    · exact ⟨os, outs, a, c, rfl, f, h2, h3, h4, h5⟩
    · rw [hf r] at hr; cases hr
theorem distFit {w : World} {aa : Option Addr} {ac : Nat} {l : List El} (h : Cts w (.slice aa l.length ac) l) (hn : l.length ≤ 1000) (hf : ∀ r, fitB (1 * sumK (l.map pr) r) = true) :
    Calls Try.prog 34 #[.slice aa l.length ac] w fun e w' => ∃ (os : List (List Dt × Int)) (outs : List El) (a : Option Addr) (c : Nat), e = .returned (.tuple #[.slice a outs.length c, .int .i64 0]) ∧ Fr [] w w' ∧ ListIn w.heap.size w' (.slice a outs.length c) outs ∧ Canon cmpR os (fun r => 1 * sumK (l.map pr) r) ∧ outs.map pr = (os.filter (fun p => decide (0 < p.2))).map (fun p => (p.1, 1)) ∧ outs.length ≤ l.length :=
  (Distinct_any h (by omega)).mono fun e w' ⟨f, hx⟩ => by
    rcases hx with ⟨-, os, outs, a, c, rfl, h2, h3, h4, h5⟩ | ⟨⟨r, hr⟩, -⟩
    · exact ⟨os, outs, a, c, rfl, f, h2, h3, h4, h5⟩
    · rw [hf r] at hr; cases hr

/-- How much of each there is, of what is there more than 0 times. -/
theorem pos_sum {os : List (List Dt × Int)} {S : List Dt → Int} {outs : List El} (h : Canon cmpR os S) (e : outs.map pr = os.filter fun p => decide (0 < p.2)) (r : List Dt) : sumK (outs.map pr) r = if 0 < S r then S r else 0 := by
  rw [e, sum_filter h.up, h.sum]

/-- What the lists are to one another. -/
theorem splits_plain {l1 l2 l3 l4 l5 l6 l7 sx : List El} {o2 o4 o7 : List (List Dt × Int)}
    (n1 : Canon cmpR (l1.map pr) fun r => 1 * sumK (sx.map pr) r) (n2 : Canon cmpR o2 fun r => 1 * sumK (sx.map pr) r) (e2 : l2.map pr = o2.filter fun p => decide (0 < p.2))
    (n3 : Canon cmpR (l3.map pr) fun r => -1 * sumK (sx.map pr) r) (n4 : Canon cmpR o4 fun r => 1 * sumK (l3.map pr) r) (e4 : l4.map pr = o4.filter fun p => decide (0 < p.2))
    (n5 : Canon cmpR (l5.map pr) fun r => -1 * sumK (l4.map pr) r) (n6 : Canon cmpR (l6.map pr) fun r => 1 * sumK ((l2 ++ l5).map pr) r)
    (n7 : Canon cmpR o7 fun r => 1 * sumK (sx.map pr) r) (e7 : l7.map pr = (o7.filter fun p => decide (0 < p.2)).map fun p => (p.1, 1)) :
    l1.map pr = l6.map pr ∧ l7.length = l2.length ∧ ∀ k, k < l7.length → (nth l7 k).n = 1 ∧ (nth l7 k).rd = (nth l2 k).rd ∧ 1 ≤ (nth l2 k).n := by
  have s2 := pos_sum n2 e2
  have s4 := pos_sum n4 e4
  have s3 := n3.sum
  have s5 := n5.sum
  have ho : o7 = o2 := n7.uniq cmpRS n2
  rw [ho, ← e2] at e7
  have hl : l7.length = l2.length := by have := congrArg List.length e7; simpa using this
  refine ⟨n1.uniq cmpRS (n6.of fun r => ?_), hl, fun k hk => ?_⟩
  · rw [List.map_append, sumK_append, s5, s4, s3, s2]
    split <;> split <;> omega
  · have h1 := congrArg (fun x => x[k]?) e7
    simp only [List.getElem?_map, nth_at hk, nth_at (show k < l2.length by omega), Option.map_some, Option.some.injEq, pr, Prod.mk.injEq] at h1
    have h2 : pr (nth l2 k) ∈ l2.map pr := List.mem_map_of_mem (nth_mem (by omega))
    rw [e2] at h2
    have h3 : decide (0 < (pr (nth l2 k)).2) = true := (List.mem_filter.1 h2).2
    have h4 : 0 < (nth l2 k).n := of_decide_eq_true h3
    exact ⟨h1.2, h1.1, by omega⟩

theorem zero7 {k : Nat} (h : k < 7) : (#[Value.int .i64 0, .int .i64 0, .int .i64 0, .int .i64 0, .int .i64 0, .int .i64 0, .int .i64 0] : Array Value)[k]? = some (.int .i64 0) := by
  match k, h with
  | 0, _ => rfl
  | 1, _ => rfl
  | 2, _ => rfl
  | 3, _ => rfl
  | 4, _ => rfl
  | 5, _ => rfl
  | 6, _ => rfl

set_option maxRecDepth 100000
set_option maxHeartbeats 6400000 in
theorem splits_walk {w : World} {a0 : Option Addr} {c0 : Nat} {lx : List El} (hx : Cts w (.slice a0 lx.length c0) lx) (hcx : lx.length ≤ c0) (hax : a0 = none → c0 = 0) (hmx : c0 ≤ 9223372036854775807) :
    Calls Try.prog 9 #[.slice a0 lx.length c0] w fun e w' => e = .returned (.bool true) ∧ Fr [] w w' := by
  have SX := Lib.hid (small_at hx hcx hax hmx)
  have BX := Lib.hid (small_bound lx)
  have q1 := smL_len lx
  clear hx hcx hax hmx
  generalize hsx : smL lx = sx at *
  go_enter Try.func9, Try.ntmps9
  go_upto_region 2 with (go_at_call 18; refine (SX.out _ (Fr.refl _ _)).mono ?_; rintro e w0 ⟨x0, y0, rfl, g1, s1⟩; rw [hsx] at s1)
  have T := Lib.hid g1
  have K0 := Lib.hid s1
  clear g1 s1 SX
  go_upto_region 3 with (go_at_call 16; refine (tidyFit K0.out (by omega) (fun r => by have := BX.out r; exact fit_of (by omega) (by omega))).mono ?_; rintro e w1 ⟨l1, x1, y1, rfl, f1, k1, n1, m1⟩)
  have st1 : Fr [] w0 w1 := f1
  replace T := Lib.hid (T.out.trans st1)
  replace K0 := Lib.hid (K0.out.fr st1)
  have K1 := Lib.hid k1.cts
  have N1 := Lib.hid n1
  clear st1 k1 n1 f1
  go_upto_region 4 with (go_at_call 32; refine (posFit K0.out (by omega) (fun r => by have := BX.out r; exact fit_of (by omega) (by omega))).mono ?_; rintro e w2 ⟨o2, l2, x2, y2, rfl, f2, k2, n2, e2, m2⟩)
  have st2 : Fr [] w1 w2 := f2
  replace T := Lib.hid (T.out.trans st2)
  replace K0 := Lib.hid (K0.out.fr st2)
  replace K1 := Lib.hid (K1.out.fr st2)
  have K2 := Lib.hid k2.cts
  have N2 := Lib.hid n2
  have E2 := Lib.hid e2
  clear st2 k2 n2 e2 f2
  have A2 := Lib.hid (pos_sum N2.out E2.out)
  go_upto_region 5 with (go_at_call 19; refine (negFit K0.out (by omega) (fun r => by have := BX.out r; exact fit_of (by omega) (by omega))).mono ?_; rintro e w3 ⟨l3, x3, y3, rfl, f3, k3, n3, m3⟩)
  have st3 : Fr [] w2 w3 := f3
  replace T := Lib.hid (T.out.trans st3)
  replace K0 := Lib.hid (K0.out.fr st3)
  replace K1 := Lib.hid (K1.out.fr st3)
  replace K2 := Lib.hid (K2.out.fr st3)
  have K3 := Lib.hid k3.cts
  have N3 := Lib.hid n3
  clear st3 k3 n3 f3
  have A3 := Lib.hid (fun r => N3.out.sum r)
  go_upto_region 6 with (go_at_call 32; refine (posFit K3.out (by omega) (fun r => by rw [A3.out]; have := BX.out r; exact fit_of (by omega) (by omega))).mono ?_; rintro e w4 ⟨o4, l4, x4, y4, rfl, f4, k4, n4, e4, m4⟩)
  have st4 : Fr [] w3 w4 := f4
  replace T := Lib.hid (T.out.trans st4)
  replace K0 := Lib.hid (K0.out.fr st4)
  replace K1 := Lib.hid (K1.out.fr st4)
  replace K2 := Lib.hid (K2.out.fr st4)
  replace K3 := Lib.hid (K3.out.fr st4)
  have K4 := Lib.hid k4.cts
  have N4 := Lib.hid n4
  have E4 := Lib.hid e4
  clear st4 k4 n4 e4 f4
  have A4 := Lib.hid (pos_sum N4.out E4.out)
  go_upto_region 7 with (go_at_call 19; refine (negFit K4.out (by omega) (fun r => by rw [A4.out, A3.out]; have := BX.out r; split <;> exact fit_of (by omega) (by omega))).mono ?_; rintro e w5 ⟨l5, x5, y5, rfl, f5, k5, n5, m5⟩)
  have st5 : Fr [] w4 w5 := f5
  replace T := Lib.hid (T.out.trans st5)
  replace K0 := Lib.hid (K0.out.fr st5)
  replace K1 := Lib.hid (K1.out.fr st5)
  replace K2 := Lib.hid (K2.out.fr st5)
  replace K3 := Lib.hid (K3.out.fr st5)
  replace K4 := Lib.hid (K4.out.fr st5)
  have K5 := Lib.hid k5.cts
  have N5 := Lib.hid n5
  clear st5 k5 n5 f5
  have A5 := Lib.hid (fun r => N5.out.sum r)
  go_upto_region 8 with (first | (at_builtin; refine wpList_counts0 rfl (.tmp 50) (.tmp 51) rfl rfl (empty_own w5) rfl (K2.out.fr ((Fr.refl [] w5).alloc _)) (by omega) (by simp) ?_; intro a6 c6 u6 o6 h6; have p6 : Fr [] w5 u6 := app_fr ((Fr.refl [] w5).alloc _) (empty_own w5) h6) | (at_builtin; refine wpList_counts rfl (.tmp 52) (.tmp 53) rfl rfl o6 rfl (K5.out.fr p6) (by omega) p6.size ?_; intro aa6 cc6 uu6 oo6 hh6; have pp6 : Fr [] w5 uu6 := app_fr p6 o6 hh6) | (go_at_call 16; refine (tidyFitN (two_cts K2.out.row K5.out.row pp6 pp6 rfl oo6) (by simp) (by simp; omega) (fun r => by rw [List.map_append, sumK_append, A2.out, A5.out, A4.out, A3.out]; have := BX.out r; split <;> split <;> exact fit_of (by omega) (by omega))).mono ?_; rintro e w6 ⟨l6, x6, y6, rfl, f6, k6, n6, m6⟩))
  have st6 : Fr [] w5 w6 := pp6.trans f6
  replace T := Lib.hid (T.out.trans st6)
  replace K0 := Lib.hid (K0.out.fr st6)
  replace K1 := Lib.hid (K1.out.fr st6)
  replace K2 := Lib.hid (K2.out.fr st6)
  replace K3 := Lib.hid (K3.out.fr st6)
  replace K4 := Lib.hid (K4.out.fr st6)
  replace K5 := Lib.hid (K5.out.fr st6)
  have K6 := Lib.hid k6.cts
  have N6 := Lib.hid n6
  clear st6 k6 n6 o6 h6 p6 oo6 hh6 pp6 f6
  go_upto_region 9 with (go_at_call 34; refine (distFit K0.out (by omega) (fun r => by have := BX.out r; exact fit_of (by omega) (by omega))).mono ?_; rintro e w7 ⟨o7, l7, x7, y7, rfl, f7, k7, n7, e7, m7⟩)
  have st7 : Fr [] w6 w7 := f7
  replace T := Lib.hid (T.out.trans st7)
  replace K0 := Lib.hid (K0.out.fr st7)
  replace K1 := Lib.hid (K1.out.fr st7)
  replace K2 := Lib.hid (K2.out.fr st7)
  replace K3 := Lib.hid (K3.out.fr st7)
  replace K4 := Lib.hid (K4.out.fr st7)
  replace K5 := Lib.hid (K5.out.fr st7)
  replace K6 := Lib.hid (K6.out.fr st7)
  have K7 := Lib.hid k7.cts
  have N7 := Lib.hid n7
  have E7 := Lib.hid e7
  clear st7 k7 n7 e7 f7
  have PL := Lib.hid (splits_plain N1.out N2.out E2.out N3.out N4.out E4.out N5.out N6.out N7.out E7.out)
  have hl1 : l1.length ≤ 1000 := by omega
  have hl7 : l7.length ≤ 1000 := by omega
  clear N1 N2 N3 N4 N5 N6 N7 E2 E4 E7 A2 A3 A4 A5 BX K0 K3 K4 K5
  have hb9 := heap_alloc_new w7 (.cells #[.int .i64 0, .int .i64 0, .int .i64 0, .int .i64 0, .int .i64 0, .int .i64 0, .int .i64 0] 24)
  have st9 : Fr [] w7 (w7.alloc (.cells #[.int .i64 0, .int .i64 0, .int .i64 0, .int .i64 0, .int .i64 0, .int .i64 0, .int .i64 0] 24)) := (Fr.refl [] w7).alloc _
  replace T := Lib.hid (T.out.trans st9)
  replace K1 := Lib.hid (K1.out.fr st9)
  replace K2 := Lib.hid (K2.out.fr st9)
  replace K6 := Lib.hid (K6.out.fr st9)
  replace K7 := Lib.hid (K7.out.fr st9)
  have HB9 := Lib.hid hb9
  clear hb9 st9
  go_wp2_with fail
  generalize w7.heap.size = b9 at *
  generalize w7.alloc (.cells #[.int .i64 0, .int .i64 0, .int .i64 0, .int .i64 0, .int .i64 0, .int .i64 0, .int .i64 0] 24) = w9 at *
  go_loop [72] (fun x => ∃ k : Nat, x = .int .i64 k ∧ k ≤ 7) (fun x => 7 - (intOf x).toNat)
  case atStart => exact ⟨0, rfl, Nat.zero_le _⟩
  case round =>
    obtain ⟨k, rfl, hk⟩ := hrel
    by_cases hlt : k < 7
    · have c0 := cell_blk HB9.out k _ (zero7 hlt)
      go_wp2_with fail
      go_round
      case rel => exact ⟨k + 1, by go_num, by omega⟩
      case measure => simp [intOf] <;> omega
    · obtain ⟨p1, p2, p3⟩ := PL.out
      have L1 := Lib.hid (fun wi (fi : Fr [] w9 wi) => like_true (K1.out.fr fi) (K6.out.fr fi) p1 (by omega))
      have b2 : ((l7.length : Int) != (l2.length : Int)) = false := by simp [p2]
      have P2 := Lib.hid p2
      have P3 := Lib.hid p3
      clear p1 p2 p3 PL
      go_upto_region 17 with (first
        | (go_at_call 20; refine (known_any _).mono ?_; rintro e wk ⟨rfl, fk⟩)
        | (go_at_call 17; refine (L1.out _ fk).mono ?_; rintro e wl ⟨rfl, fl⟩))
      have st10 := fk.trans fl
      replace T := Lib.hid (T.out.trans st10)
      replace K2 := Lib.hid (K2.out.fr st10)
      replace K7 := Lib.hid (K7.out.fr st10)
      clear st10 fk fl L1 b2
      go_wp2_with fail
      go_loopw [96] (fun x wr => ∃ k : Nat, x = .int .i64 k ∧ k ≤ l7.length ∧ Fr [] wl wr) (fun x _ => l7.length - (intOf x).toNat)
      case atStart => exact ⟨0, rfl, Nat.zero_le _, Fr.refl _ _⟩
      case round =>
        obtain ⟨k, rfl, hk, hf⟩ := hrel
        have HF := Lib.hid hf
        by_cases hlt : k < l7.length
        · as_aux_lemma =>
          obtain ⟨b, off, e1, z0, z1⟩ := (K7.out.fr hf).cell hlt
          have hlt2 : k < l2.length := by have := P2.out; omega
          obtain ⟨b2, off2, e2, z2, z3⟩ := (K2.out.fr hf).cell hlt2
          obtain ⟨n1, n2, n3⟩ := P3.out k hlt
          subst e1
          subst e2
          have r1 := (K7.out.fr hf).row _ (nth_mem hlt)
          have r2 := (K2.out.fr hf).row _ (nth_mem hlt2)
          rw [n1] at z1
          have j3 : (k : Int) < (l2.length : Int) := by omega
          clear hf
          go_upto_region 20 with fail
          have fv : Fr [] wr (wr.alloc (.cells #[.slice (nth l7 k).ra (nth l7 k).rl (nth l7 k).rc, .int .i64 1] 31)) := (Fr.refl [] wr).alloc _
          have hcm : ∀ p : FrBy (wr.alloc (.cells #[.slice (nth l7 k).ra (nth l7 k).rl (nth l7 k).rc, .int .i64 1] 31)), Calls Try.prog 36 #[.slice (nth l7 k).ra (nth l7 k).rl (nth l7 k).rc, .slice (nth l2 k).ra (nth l2 k).rl (nth l2 k).rc] p.wn fun e w' => e = .returned (.bool true) ∧ Fr [] p.wn w' := fun p => (rsame_any (r1.1.fr (fv.trans p.fr)) (r2.1.fr (fv.trans p.fr)) (by have := r1.2.len; omega)).mono fun e w' ⟨he, hf⟩ => ⟨by rw [he, n2, cmpR_self]; rfl, hf⟩
          have hbv := heap_alloc_new wr (.cells #[.slice (nth l7 k).ra (nth l7 k).rl (nth l7 k).rc, .int .i64 1] 31)
          have HFv := Lib.hid (HF.out.trans fv)
          have a2 := fv.cell z2 (by simp)
          have a3 := fv.cell z3 (by simp)
          have HCm := Lib.hid hcm
          clear fv z0 z1 z2 z3 r1 r2 n1 n2 hcm
          generalize wr.heap.size = bv at *
          generalize wr.alloc (.cells #[.slice (nth l7 k).ra (nth l7 k).rl (nth l7 k).rc, .int .i64 1] 31) = wv at *
          have t0 : ∀ p : FrBy wv, p.wn.cell? ⟨bv, 0, none⟩ = some (.slice (nth l7 k).ra (nth l7 k).rl (nth l7 k).rc) := fun p => p.fr.cell (cell_blk hbv 0 _ rfl) (by simp)
          have t1 : ∀ p : FrBy wv, p.wn.cell? ⟨bv, 1, none⟩ = some (.int .i64 1) := fun p => p.fr.cell (cell_blk hbv 1 _ rfl) (by simp)
          have t2 : ∀ p : FrBy wv, p.wn.cell? ⟨b2, off2 + k * 2, none⟩ = some (.slice (nth l2 k).ra (nth l2 k).rl (nth l2 k).rc) := fun p => p.fr.cell a2 (by simp)
          have t3 : ∀ p : FrBy wv, p.wn.cell? ⟨b2, off2 + k * 2 + 1, none⟩ = some (.int .i64 (nth l2 k).n) := fun p => p.fr.cell a3 (by simp)
          clear hbv a2 a3
          refine wp_region_fr (by kernel_rfl) (by kernel_rfl) ?_
          repeat (go_big_quiet_step ((go_at_call 36; exact Calls.fr_of (HCm.out _))))
          refine wpQuiet_nil ?_
          intro wn hwn
          have fn : Fr [] wv wn := by obtain ⟨p, rfl⟩ := hwn; exact p.fr
          have FN := Lib.hid fn
          clear hwn t0 t1 t2 t3 fn HCm
          go_wp2_with fail
          go_roundw
          case rel => exact ⟨k + 1, by go_num, by omega, HFv.out.trans FN.out⟩
          case measure => simp [intOf] <;> omega
        · go_wp2_with fail
          go_ret
          exact ⟨rfl, T.out.trans hf⟩
end Go.Proofs.Ytmionipeoffnhaa
