/- freshetref01.trimmed, less: amounts taken off. No condition but the sizes. -/
import Derived.Test.YtmionipeoffnhaaBa
import Derived.StillTailTactics
import Derived.Deep.RegionHeld3
namespace Go.Proofs.Ytmionipeoffnhaa
open Go.RowKit srt grp big

theorem DgAt.cut {w : World} {a : Option Addr} {n k j c : Nat} (h : DgAt w (.slice a k c) n k) (hj : j ≤ k) : DgAt w (.slice a j c) n j := by
  obtain ⟨a', c', hv, h1, h2, -, -, h5⟩ := h
  simp only [Value.slice.injEq] at hv
  obtain ⟨rfl, -, rfl⟩ := hv
  refine ⟨a, c, rfl, by omega, h2, by rw [cel_len, dz_len]; omega, cel_one _, ?_⟩
  rcases h5 with ⟨hv, h6⟩ | ⟨ad, c2, hv, h6⟩
  · simp only [Value.slice.injEq] at hv
    refine Or.inl ⟨?_, by omega⟩
    rw [hv.1, hv.2.2, show j = 0 by omega]
  · simp only [Value.slice.injEq] at hv
    refine Or.inr ⟨ad, c, by rw [hv.1], fun i u hi => h6 i u ?_⟩
    have hlt := (List.getElem?_eq_some_iff.1 hi).1
    rw [cel_len, dz_len] at hlt
    rw [cel_dz n j i hlt] at hi
    rw [cel_dz n k i (by omega)]
    exact hi

set_option maxRecDepth 100000
set_option maxHeartbeats 1600000 in
theorem trimmed_any {w : World} {a : Option Addr} {c k n : Nat} {z : Int} (hd : DgAt w (.slice a k c) n k) (hk : (dg n).length ≤ k) (hz : z.natAbs = n) (hz0 : ¬ z < 0) (hkb : k ≤ 2000) :
    Calls Try.prog 133 #[.agg #[.bool false, .slice a k c]] w fun e w' => ∃ v, e = .returned v ∧ BigAt w' v z ∧ Fr [] w w' := by
  have hkc : k ≤ c ∧ (a = none → c = 0) := by
    obtain ⟨a', c', hv, h1, h2, -⟩ := hd
    simp only [Value.slice.injEq] at hv
    obtain ⟨rfl, -, rfl⟩ := hv
    exact ⟨h1, h2⟩
  have HKC := Lib.hid hkc
  have hzf : decide (z < 0) = false := decide_eq_false hz0
  have HZF := Lib.hid hzf
  have HZ := Lib.hid hz
  clear hzf hz0 hkc hz
  obtain ⟨f2, b1, b2, hs2⟩ := box2 w (.cells #[.bool false, .slice a k c] 117) (.cells #[.bool false, .slice none 0 0] 117)
  have D1 := Lib.hid (hd.fr f2)
  have HD := Lib.hid hd
  have F2 := Lib.hid f2
  have B1 := Lib.hid b1
  have B2 := Lib.hid b2
  clear hd f2 b1 b2
  go_enter Try.func133, Try.ntmps133
  go_upto_region 1 with fail
  generalize (w.alloc (.cells #[.bool false, .slice a k c] 117)).alloc (.cells #[.bool false, .slice none 0 0] 117) = w2 at *
  have hg2 : w.heap.size ≤ w.heap.size + 1 := by omega
  generalize hg : w.heap.size + 1 = g2 at *
  generalize hg1 : w.heap.size = g1 at *
  have HG1 := Lib.hid hg1
  clear hg1 hg hs2
  have x1 := cell_blk B1.out 1 (.slice a k c) rfl
  have x0 := cell_blk B1.out 0 (.bool false) rfl
  go_wp2_with fail
  go_loop [3] (fun x => ∃ j : Nat, x = .int .i64 (j : Int) ∧ (dg n).length ≤ j ∧ j ≤ k) (fun x => (intOf x).toNat)
  case atStart => exact ⟨k, rfl, hk, Nat.le_refl _⟩
  case round =>
    obtain ⟨j, rfl, hlj, hjk⟩ := hrel
    by_cases hlt : (dg n).length < j
    · obtain ⟨j, rfl⟩ : ∃ i, j = i + 1 := ⟨j - 1, by omega⟩
      obtain ⟨o1, e1, rfl, z1⟩ := D1.out.cell (show j < k by omega)
      have hz1 : n / 1000000 ^ j % 1000000 = 0 := by
        have h1 : ¬ j < (dg n).length := by omega
        rw [dg_lt_len, Classical.not_not] at h1
        rw [h1]
      rw [hz1] at z1
      have k2 : (j : Int) < (k : Int) := by omega
      clear hz1
      go_wp2_with fail
      go_round
      case rel => exact ⟨j, by first | rfl | go_num, by omega, by omega⟩
      case measure => simp [intOf] <;> omega
    · have hj : j = (dg n).length := by omega
      have hstop : 0 < j → ∃ o1 e1 d, a = some ⟨o1, e1, none⟩ ∧ w2.cell? ⟨o1, e1 + (j - 1), none⟩ = some (.int .u64 ((d : Nat) : Int)) ∧ 0 < d := fun h => by
        obtain ⟨o1, e1, ha, z1⟩ := D1.out.cell (show j - 1 < k by omega)
        refine ⟨o1, e1, _, ha, z1, ?_⟩
        have h1 : j - 1 < (dg n).length := by omega
        rw [dg_lt_len] at h1
        have h2 := top_zero n
        rw [← hj, show j = j - 1 + 1 by omega, pw_succ] at h2
        omega
      have HS := Lib.hid hstop
      have HJ := Lib.hid hj
      clear hstop hj hlt
      have hkc1 := HKC.out.1
      by_cases hj0 : 0 < j
      · obtain ⟨o1, e1, d, rfl, z1, hd0⟩ := HS.out hj0
        obtain ⟨i, rfl⟩ : ∃ i, j = i + 1 := ⟨j - 1, by omega⟩
        rw [show i + 1 - 1 = i by omega] at z1
        have j1 : (i : Int) < (k : Int) := by omega
        have j2 : ((i : Int) + 1) ≤ (c : Int) := by omega
        have j3 : ((d : Int) == 0) = false := by simp; omega
        clear HS
        go_upto_region 4 with fail
        generalize i + 1 = j9 at *
        have j4 : (j9 : Int) ≤ (c : Int) := by omega
        clear j2
        go_still_tail 11, (by kernel_rfl)
        change wpList _ _ _ _ _ w2.drew
        have B4 : w2.drew.heap[g2]? = some (.cells #[.bool false, .slice none 0 0] 117) := B2.out
        have F4 := Lib.hid F2.out.drew
        have HB4 := Lib.hid B4
        have y0 := cell_blk B4 0 (.bool false) rfl
        have y1 := cell_blk B4 1 (.slice none 0 0) rfl
        have y2 : w2.drew.frozen? ⟨g2, 0, none⟩ = false := by simp only [World.frozen?, B4]; rfl
        have y3 : w2.drew.frozen? ⟨g2, 1, none⟩ = false := by simp only [World.frozen?, B4]; rfl
        clear B4
        generalize w2.drew = w3 at *
        go_wp2_with fail
        have hbz := heap_set12 (x := .bool false) (y := .slice (some ⟨o1, e1, none⟩) j9 c) HB4.out
        have t2 := cell_blk hbz 0 _ rfl
        have t3 := cell_blk hbz 1 _ rfl
        have fW : Fr [] w ((w3.setCell ⟨g2, 0, none⟩ (.bool false)).setCell ⟨g2, 1, none⟩ (.slice (some ⟨o1, e1, none⟩) j9 c)) := ret_fr F4.out (by rw [HG1.out]; exact hg2)
        refine bodyPost_ret (v := .agg #[.bool false, .slice (some ⟨o1, e1, none⟩) j9 c]) (by simp [results, Try.results133, go_sem, t2, t3]) rfl ⟨_, rfl, ⟨_, by rw [HZF.out], ?_⟩, fW⟩
        rw [HZ.out, ← HJ.out]
        exact (HD.out.fr fW).cut (by omega)
      · obtain rfl : j = 0 := by omega
        clear HS
        cases a with
        | none =>
          obtain rfl : c = 0 := HKC.out.2 rfl
          obtain rfl : k = 0 := by omega
          go_upto_region 4 with fail
          go_still_tail 11, (by kernel_rfl)
          change wpList _ _ _ _ _ w2.drew
          have B4 : w2.drew.heap[g2]? = some (.cells #[.bool false, .slice none 0 0] 117) := B2.out
          have F4 := Lib.hid F2.out.drew
          have HB4 := Lib.hid B4
          have y0 := cell_blk B4 0 (.bool false) rfl
          have y1 := cell_blk B4 1 (.slice none 0 0) rfl
          have y2 : w2.drew.frozen? ⟨g2, 0, none⟩ = false := by simp only [World.frozen?, B4]; rfl
          have y3 : w2.drew.frozen? ⟨g2, 1, none⟩ = false := by simp only [World.frozen?, B4]; rfl
          clear B4
          generalize w2.drew = w3 at *
          go_wp2_with fail
          have hbz := heap_set12 (x := .bool false) (y := .slice none 0 0) HB4.out
          have t2 := cell_blk hbz 0 _ rfl
          have t3 := cell_blk hbz 1 _ rfl
          have fW : Fr [] w ((w3.setCell ⟨g2, 0, none⟩ (.bool false)).setCell ⟨g2, 1, none⟩ (.slice none 0 0)) := ret_fr F4.out (by rw [HG1.out]; exact hg2)
          refine bodyPost_ret (v := .agg #[.bool false, .slice none 0 0]) (by simp [results, Try.results133, go_sem, t2, t3]) rfl ⟨_, rfl, ⟨_, by rw [HZF.out], ?_⟩, fW⟩
          rw [HZ.out, ← HJ.out]
          exact (HD.out.fr fW).cut (by omega)
        | some ad =>
          go_upto_region 4 with fail
          go_still_tail 11, (by kernel_rfl)
          change wpList _ _ _ _ _ w2.drew
          have B4 : w2.drew.heap[g2]? = some (.cells #[.bool false, .slice none 0 0] 117) := B2.out
          have F4 := Lib.hid F2.out.drew
          have HB4 := Lib.hid B4
          have y0 := cell_blk B4 0 (.bool false) rfl
          have y1 := cell_blk B4 1 (.slice none 0 0) rfl
          have y2 : w2.drew.frozen? ⟨g2, 0, none⟩ = false := by simp only [World.frozen?, B4]; rfl
          have y3 : w2.drew.frozen? ⟨g2, 1, none⟩ = false := by simp only [World.frozen?, B4]; rfl
          clear B4
          generalize w2.drew = w3 at *
          go_wp2_with fail
          have hbz := heap_set12 (x := .bool false) (y := .slice (some ad) 0 c) HB4.out
          have t2 := cell_blk hbz 0 _ rfl
          have t3 := cell_blk hbz 1 _ rfl
          have fW : Fr [] w ((w3.setCell ⟨g2, 0, none⟩ (.bool false)).setCell ⟨g2, 1, none⟩ (.slice (some ad) 0 c)) := ret_fr F4.out (by rw [HG1.out]; exact hg2)
          refine bodyPost_ret (v := .agg #[.bool false, .slice (some ad) 0 c]) (by simp [results, Try.results133, go_sem, t2, t3]) rfl ⟨_, rfl, ⟨_, by rw [HZF.out], ?_⟩, fW⟩
          rw [HZ.out, ← HJ.out]
          exact (HD.out.fr fW).cut (by omega)

/-- A digit lies in no variable of the struct's type. -/
theorem DgAt.set2 {w : World} {v x y : Value} {n k r n0 c0 t : Nat} {m : Bool} {a0 : Option Addr} (h : DgAt w v n k) (hr : w.heap[r]? = some (.cells #[.bool m, .slice a0 n0 c0] t)) : DgAt ((w.setCell ⟨r, 0, none⟩ x).setCell ⟨r, 1, none⟩ y) v n k := by
  obtain ⟨a, c, rfl, h1, h2, h3, h4, h5⟩ := h
  refine ⟨a, c, rfl, h1, h2, h3, h4, ?_⟩
  rcases h5 with h5 | ⟨ad, c2, h5, h6⟩
  · exact Or.inl h5
  · refine Or.inr ⟨ad, c2, h5, fun j u hj => ?_⟩
    have h7 := h6 j u hj
    generalize ad.add j = p at *
    obtain ⟨pb, po, rfl⟩ : ∃ b o, p = ⟨b, o, none⟩ := ⟨_, _, addr_plain h7⟩
    have hne : pb ≠ r := fun e => by
      subst e
      have hju : ∃ d : Nat, u = .int .u64 (d : Int) := by
        obtain ⟨d, -, hd⟩ := List.mem_map.1 (List.mem_of_getElem? hj)
        exact ⟨d, hd.symm⟩
      obtain ⟨d, rfl⟩ := hju
      simp only [World.cell?, hr] at h7
      match po, h7 with
      | 0, h7 => simp at h7
      | 1, h7 => simp at h7
      | q + 2, h7 => simp at h7
    exact (((Fr.refl [r] w).setCell (by simp) x).setCell (by simp) y).cell h7 (by simpa using hne)
theorem BigAt.set2 {w : World} {v x y : Value} {z : Int} {r n0 c0 t : Nat} {m : Bool} {a0 : Option Addr} (h : BigAt w v z) (hr : w.heap[r]? = some (.cells #[.bool m, .slice a0 n0 c0] t)) : BigAt ((w.setCell ⟨r, 0, none⟩ x).setCell ⟨r, 1, none⟩ y) v z := by
  obtain ⟨s, rfl, h1⟩ := h
  exact ⟨s, rfl, h1.set2 hr⟩

set_option maxHeartbeats 3200000 in
theorem less_any {w : World} {u v : Value} {x y z : Int} (hu : BigAt w u x) (hv : BigAt w v y) (hx : (dg x.natAbs).length ≤ 1000) (hz : x.natAbs = y.natAbs + z.natAbs) (hz0 : ¬ z < 0) :
    Calls Try.prog 127 #[u, v] w fun e w' => ∃ r, e = .returned r ∧ BigAt w' r z ∧ Fr [] w w' := by
  obtain ⟨i0, hi, hz0', hz1, hz2⟩ := info_parts infoB
  obtain ⟨a, c, rfl, hd⟩ := hu.shape
  obtain ⟨a', c', rfl, hd'⟩ := hv.shape
  generalize decide (x < 0) = mx
  generalize decide (y < 0) = my
  clear hu hv
  have hzl : (dg z.natAbs).length ≤ (dg x.natAbs).length := dg_len_mono (by omega)
  have HZ0 := Lib.hid hz0
  clear hz0
  generalize x.natAbs = n at *
  generalize y.natAbs = m at *
  generalize hp : (dg n).length = p at *
  generalize hq : (dg m).length = q at *
  have HP := Lib.hid hp
  have HQ := Lib.hid hq
  have HZ := Lib.hid hz
  have HZL := Lib.hid hzl
  clear hp hq hz hzl
  obtain ⟨f2, b1, b2, b3, hs3⟩ := box3 w (.cells #[.bool mx, .slice a p c] 117) (.cells #[.bool my, .slice a' q c'] 117) (.cells #[.bool false, .slice none 0 0] 117)
  have D1 := Lib.hid (hd.fr f2)
  have D2 := Lib.hid (hd'.fr f2)
  have F2 := Lib.hid f2
  have B1 := Lib.hid b1
  have B2 := Lib.hid b2
  have B3 := Lib.hid b3
  clear hd hd' f2 b1 b2 b3
  go_enter Try.func127, Try.ntmps127
  go_upto_region 1 with fail
  generalize ((w.alloc (.cells #[.bool mx, .slice a p c] 117)).alloc (.cells #[.bool my, .slice a' q c'] 117)).alloc (.cells #[.bool false, .slice none 0 0] 117) = w2 at *
  have hr3 : w.heap.size + 1 + 1 < w2.heap.size := by omega
  have hr4 : w.heap.size ≤ w.heap.size + 1 + 1 := by omega
  generalize w.heap.size + 1 + 1 = g3 at *
  generalize w.heap.size + 1 = g2 at *
  generalize hg1 : w.heap.size = g1 at *
  have HW : Hid (g1 ≤ g3) := Lib.hid hr4
  have HG1 := Lib.hid hg1
  clear hr4 hs3 hg1
  have x1 := cell_blk B1.out 1 (.slice a p c) rfl
  have x2 := cell_blk B2.out 1 (.slice a' q c') rfl
  have x5 : ∀ o, (w2.alloc o).cell? ⟨g1, 1, none⟩ = some (.slice a p c) := fun o => ((Fr.refl [] w2).alloc o).cell x1 (by simp)
  go_wp2_with fail
  clear x5
  generalize hN : z.natAbs = N at *
  have HN := Lib.hid hN
  clear hN
  go_loopw [6, 14] (fun b i wr => ∃ k e : Nat, b = .int .u64 (e : Int) ∧ i = .int .i64 (k : Int) ∧ k ≤ p ∧ e ≤ 1 ∧ Hid (Car m N n k e) ∧ OutB w2 wr w2.heap.size false N k) (fun _ i _ => p - (intOf i).toNat)
  case atStart => exact ⟨0, 0, rfl, rfl, Nat.zero_le _, by omega, Lib.hid (by rw [HZ.out]; exact Car.zero m N), OutB.new (Fr.refl _ _) _ _⟩
  case round =>
    obtain ⟨k, e, rfl, rfl, hk, he, HC, ho⟩ := hrel
    obtain ⟨oa, oc, hb1, hown, hkc, han⟩ := ho.shape
    have HO := Lib.hid ho
    have HB1 := Lib.hid hb1
    have HOwn := Lib.hid hown
    have f3 := ho.2.2.1
    have hgs : w2.heap.size < wr.heap.size := ho.2.1
    have y2 := f3.cell x2 (by simp)
    have x3 := cell_blk hb1 1 (.slice oa k oc) rfl
    have z3 : wr.frozen? ⟨w2.heap.size, 1, none⟩ = false := by simp [World.frozen?, hb1]
    by_cases hlt : k < p
    · obtain ⟨o1, e1, rfl, c1⟩ := (D1.out.fr f3).cell hlt
      have C2 := Lib.hid (fun h : k < q => (D2.out.fr f3).cell h)
      have Z2 := Lib.hid (fun h : ¬ k < q => show m / 1000000 ^ k % 1000000 = 0 by rw [← dig, if_neg (by rw [HQ.out]; exact h)])
      have hdn : n / 1000000 ^ k % 1000000 < 1000000 := Nat.mod_lt _ (by decide)
      have hdm : m / 1000000 ^ k % 1000000 < 1000000 := Nat.mod_lt _ (by decide)
      have CA := Lib.hid HC.out.less
      generalize n / 1000000 ^ k % 1000000 = dn at *
      generalize m / 1000000 ^ k % 1000000 = dm at *
      have HLt := Lib.hid hlt
      have j0 : (k : Int) < (p : Int) := by omega
      clear ho hown hb1 hk x1 x2 D1 D2 HC f3 hlt
      go_upto_if 24 with fail
      go_cut [9] (fun x wx => x = .int .u64 ((e + dm : Nat) : Int) ∧ wx = wr)
      case first =>
        by_cases h1 : k < q
        · obtain ⟨b1, o1, rfl, c1⟩ := C2.out h1
          have j1 : (k : Int) < (q : Int) := by omega
          go_wp2_with fail
          go_meet
          case rel => exact ⟨by go_num, rfl⟩
        · have j1 : ¬ (k : Int) < (q : Int) := by omega
          obtain rfl := Z2.out h1
          go_wp2_with fail
          go_meet
          case rel => exact ⟨rfl, rfl⟩
      case rest =>
        obtain ⟨rfl, rfl⟩ := hcut
        generalize hed : e + dm = ed at *
        have hed2 : ed ≤ 1000000 := by omega
        clear C2 Z2 y2
        go_upto_if 34 with fail
        go_cut [6, 8] (fun b x wx => ∃ e' X : Nat, b = .int .u64 (e' : Int) ∧ x = .int .u64 (X : Int) ∧ ed ≤ X ∧ X ≤ 2000000 ∧ e' ≤ 1 ∧ Hid (X - ed = N / 1000000 ^ k % 1000000 ∧ Car m N n (k + 1) e') ∧ wx = wc)
        case first =>
          by_cases h1 : dn < ed
          · have j1 : (dn : Int) < (ed : Int) := by omega
            go_wp2_with fail
            go_meet
            case rel => exact ⟨1, dn + 1000000, rfl, by go_num, by omega, by omega, by omega, Lib.hid (CA.out.1 h1), rfl⟩
          · have j1 : ¬ (dn : Int) < (ed : Int) := by omega
            go_wp2_with fail
            go_meet
            case rel => exact ⟨0, dn, rfl, rfl, by omega, by omega, by omega, Lib.hid (CA.out.2 h1), rfl⟩
        case rest =>
          obtain ⟨e', X, rfl, rfl, hX1, hX2, he', HX, rfl⟩ := hcut
          have hw5 : IntKind.u64.wrap ((X : Int) - (ed : Int)) = ((X - ed : Nat) : Int) := by
            have h1 : IntKind.u64.wrap ((X : Int) - (ed : Int)) = ((X : Int) - (ed : Int)) % 18446744073709551616 := rfl
            rw [h1]; omega
          generalize hD : X - ed = D at *
          have hkb : k ≤ 1000 := by have := HLt.out; omega
          clear hD c1 CA
          go_wp2_with (at_builtin; refine wpList_append_src _ rfl (.tmp 38) (.tmp 42) 115 rfl (w2.heap.size + 1) 131 i0 _ 1 8 Try.underlying115 hi hz0' hz1 hz2 rfl (by decide) (.slice oa k oc) k _ rfl (ownsRow_fr HOwn.out ((Fr.refl [] wc).alloc _) (by simp)) (.slice (some ⟨wc.heap.size, 0, none⟩) 1 1) 1 [.int .u64 (D : Int)] rfl (Src.block (heap_alloc_new wc _) rfl (by intro u hu; simp at hu; rcases hu with rfl; rfl)) (by unfold maxLen; omega) (by omega) (by simp; omega) ?_; intro v' w3 hown3 hgrow3 _; obtain ⟨a3, c3, rfl⟩ := ownsRow_shape hown3; have hb3 := OutB.held HOwn.out HB1.out hgrow3; have x4 := cell_blk hb3 1 (.slice oa k oc) rfl; have z4 : w3.frozen? ⟨w2.heap.size, 1, none⟩ = false := (by simp [World.frozen?, hb3]); have HOwn3 := Lib.hid hown3; have HG3 := Lib.hid hgrow3; clear hown3 hgrow3 hb3)
          go_roundw
          case rel => exact ⟨k + 1, e', by first | rfl | go_num, by go_num, HLt.out, he', Lib.hid HX.out.2, HO.out.put HOwn.out HB1.out rfl HG3.out (by
            have h9 := HOwn3.out
            rw [← HX.out.1]
            exact h9)⟩
          case measure => simp [intOf] <;> have := HLt.out <;> omega
    · obtain rfl : k = p := by omega
      have x0 := cell_blk hb1 0 (.bool false) rfl
      have hbr2 := f3.heap B3.out (by simp)
      have htr := trimmed_any (z := z) (ho.dg hb1) HZL.out HN.out (by have := HZ0.out; omega) (by omega)
      have HTr := Lib.hid htr
      have HBr := Lib.hid hbr2
      have F3 := Lib.hid f3
      clear ho hown hb1 hk hbr2 hlt f3 htr
      go_wp2_with (go_at_call 133; refine HTr.out.mono ?_; rintro e w4 ⟨r, rfl, hr, f4⟩; have HR := Lib.hid hr; obtain ⟨ra, rc, rfl, -⟩ := hr.shape; have hbr4 := f4.heap HBr.out (by simp); have t0 := cell_blk hbr4 0 (.bool false) rfl; have t1 := cell_blk hbr4 1 (.slice none 0 0) rfl; have z5 : w4.frozen? ⟨g3, 0, none⟩ = false := (by simp [World.frozen?, hbr4]); have z6 : w4.frozen? ⟨g3, 1, none⟩ = false := (by simp [World.frozen?, hbr4]); have HBr4 := Lib.hid hbr4; have F4 := Lib.hid f4; clear hr hbr4 f4)
      have hbz := heap_set12 (x := .bool (decide (z < 0))) (y := .slice ra (dg z.natAbs).length rc) HBr4.out
      have t2 := cell_blk hbz 0 _ rfl
      have t3 := cell_blk hbz 1 _ rfl
      refine bodyPost_ret (v := .agg #[.bool (decide (z < 0)), .slice ra (dg z.natAbs).length rc]) (by simp [results, Try.results127, go_sem, t2, t3]) rfl ⟨_, rfl, HR.out.set2 HBr4.out, ?_⟩
      refine ret_fr (F2.out.trans (F3.out.trans F4.out)) ?_
      rw [HG1.out]; exact HW.out
end Go.Proofs.Ytmionipeoffnhaa
