/- freshetref01.Amounts, added: amounts held against one another, and added. No condition but the sizes. -/
import Derived.Test.YtmionipeoffnhaaBo
import Derived.BigQuiet
import Derived.Deep.QuietTactic
namespace Go.Proofs.Ytmionipeoffnhaa
open Go.RowKit srt grp big

theorem BigAt.shape {w : World} {v : Value} {z : Int} (h : BigAt w v z) : ∃ a c, v = .agg #[.bool (decide (z < 0)), .slice a (dg z.natAbs).length c] ∧ DgAt w (.slice a (dg z.natAbs).length c) z.natAbs (dg z.natAbs).length := by
  obtain ⟨s, rfl, a, c, rfl, h1, h2, h3⟩ := h
  exact ⟨a, c, rfl, a, c, rfl, h1, h2, h3⟩

theorem box2 (w : World) (o1 o2 : Obj) : Fr [] w ((w.alloc o1).alloc o2) ∧ ((w.alloc o1).alloc o2).heap[w.heap.size]? = some o1 ∧ ((w.alloc o1).alloc o2).heap[w.heap.size + 1]? = some o2 ∧ ((w.alloc o1).alloc o2).heap.size = w.heap.size + 2 := by
  refine ⟨((Fr.refl [] w).alloc _).alloc _, ((Fr.refl [] _).alloc o2).heap (heap_alloc_new w o1) (by simp), ?_, by simp⟩
  have h := heap_alloc_new (w.alloc o1) o2
  simpa using h

set_option maxRecDepth 100000
set_option maxHeartbeats 1600000 in
theorem amounts_any {w : World} {u v : Value} {x y : Int} (hu : BigAt w u x) (hv : BigAt w v y) (hx : (dg x.natAbs).length ≤ 1000) (hy : (dg y.natAbs).length ≤ 1000) :
    Calls Try.prog 119 #[u, v] w fun e w' => e = .returned (.int .i64 (am x.natAbs y.natAbs)) ∧ Fr [] w w' := by
  obtain ⟨a, c, rfl, hd⟩ := hu.shape
  obtain ⟨a', c', rfl, hd'⟩ := hv.shape
  generalize decide (x < 0) = mx
  generalize decide (y < 0) = my
  clear hu hv
  generalize x.natAbs = n at *
  generalize y.natAbs = m at *
  generalize hp : (dg n).length = p at *
  generalize hq : (dg m).length = q at *
  have HP := Lib.hid hp
  have HQ := Lib.hid hq
  clear hp hq
  obtain ⟨f2, b1, b2, -⟩ := box2 w (.cells #[.bool mx, .slice a p c] 117) (.cells #[.bool my, .slice a' q c'] 117)
  have D1 := Lib.hid (hd.fr f2)
  have D2 := Lib.hid (hd'.fr f2)
  have F2 := Lib.hid f2
  have B1 := Lib.hid b1
  have B2 := Lib.hid b2
  clear hd hd' f2 b1 b2
  go_enter Try.func119, Try.ntmps119
  go_upto_region 1 with fail
  generalize (w.alloc (.cells #[.bool mx, .slice a p c] 117)).alloc (.cells #[.bool my, .slice a' q c'] 117) = w2 at *
  generalize w.heap.size + 1 = g2 at *
  generalize w.heap.size = g1 at *
  have x1 := cell_blk B1.out 1 (.slice a p c) rfl
  have x2 := cell_blk B2.out 1 (.slice a' q c') rfl
  by_cases hlen : p = q
  · subst hlen
    have h0 : ((p : Int) != (p : Int)) = false := by simp
    go_wp2_with fail
    go_loopw [5] (fun i wr => ∃ k : Nat, i = .int .i64 ((k : Int) - 1) ∧ k ≤ p ∧ Hid (n / 1000000 ^ k = m / 1000000 ^ k) ∧ Fr [] w2 wr) (fun i _ => (intOf i + 1).toNat)
    case atStart => exact ⟨p, rfl, Nat.le_refl _, Lib.hid (by
      have h1 := top_zero n
      have h2 := top_zero m
      rw [HP.out] at h1
      rw [HQ.out] at h2
      rw [h1, h2]), Fr.refl _ _⟩
    case round =>
      obtain ⟨k, rfl, hk, HE, hf⟩ := hrel
      by_cases hlt : 0 < k
      · obtain ⟨k, rfl⟩ : ∃ j, k = j + 1 := ⟨k - 1, by omega⟩
        obtain ⟨o1, e1, rfl, z1⟩ := (D1.out.fr hf).cell (show k < p by omega)
        obtain ⟨o2, e2, rfl, z2⟩ := (D2.out.fr hf).cell (show k < p by omega)
        have y1 := hf.cell x1 (by simp)
        have y2 := hf.cell x2 (by simp)
        have HF := Lib.hid hf
        have k2 : (k : Int) < (p : Int) := by omega
        have LT := Lib.hid (fun h => am_lt' (am_lt HE.out h))
        have GT := Lib.hid (fun h => am_gt' (am_lt HE.out.symm h))
        have EQ := Lib.hid (fun h1 h2 => am_eq HE.out h1 h2)
        clear hf x1 x2 HE
        generalize n / 1000000 ^ k % 1000000 = dn at *
        generalize m / 1000000 ^ k % 1000000 = dm at *
        by_cases h1 : dn < dm
        · have j1 : (dn : Int) < (dm : Int) := by omega
          have J1 := LT.out h1
          clear LT GT EQ
          go_wp2_with fail
          go_quiet (fail)
          go_wp2_with fail
          go_ret
          exact ⟨ret_int J1.symm, F2.out.trans (by first | exact HF.out.drewN _ | exact (HF.out.drewN _).drewN _)⟩
        · have j1 : ¬ (dn : Int) < (dm : Int) := by omega
          by_cases h2 : dm < dn
          · have j2 : (dm : Int) < (dn : Int) := by omega
            have J1 := GT.out h2
            clear LT GT EQ
            go_wp2_with fail
            go_quiet (fail)
            go_wp2_with fail
            go_quiet (fail)
            go_wp2_with fail
            go_ret
            exact ⟨ret_int J1.symm, F2.out.trans (by first | exact HF.out.drewN _ | exact (HF.out.drewN _).drewN _)⟩
          · have j2 : ¬ (dm : Int) < (dn : Int) := by omega
            have J1 := Lib.hid (EQ.out h1 h2)
            clear LT GT EQ
            go_wp2_with fail
            go_quiet (fail)
            go_wp2_with fail
            go_quiet (fail)
            go_wp2_with fail
            go_roundw
            case rel => exact ⟨k, by first | rfl | go_num, by omega, J1, by first | exact HF.out.drewN _ | exact (HF.out.drewN _).drewN _⟩
            case measure => simp [intOf] <;> omega
      · obtain rfl : k = 0 := by omega
        have J1 := am_eq' (show n = m by have := HE.out; simpa using this)
        have HF := Lib.hid hf
        clear hf HE
        go_wp2_with fail
        go_ret
        exact ⟨ret_int J1.symm, F2.out.trans HF.out⟩
  · have h0 : ((p : Int) != (q : Int)) = true := by simp; omega
    by_cases hlt : p < q
    · have J1 := am_lt' (am_len (show (dg n).length < (dg m).length by rw [HP.out, HQ.out]; exact hlt))
      have j1 : (p : Int) < (q : Int) := by omega
      go_wp2_with fail
      go_ret
      exact ⟨ret_int J1.symm, F2.out⟩
    · have J1 := Lib.hid (am_gt' (am_len (show (dg m).length < (dg n).length by rw [HP.out, HQ.out]; omega)))
      have j1 : ¬ (p : Int) < (q : Int) := by omega
      go_wp2_with fail
      go_ret
      exact ⟨ret_int J1.out.symm, F2.out⟩

theorem box3 (w : World) (o1 o2 o3 : Obj) : Fr [] w (((w.alloc o1).alloc o2).alloc o3) ∧ (((w.alloc o1).alloc o2).alloc o3).heap[w.heap.size]? = some o1 ∧ (((w.alloc o1).alloc o2).alloc o3).heap[w.heap.size + 1]? = some o2 ∧ (((w.alloc o1).alloc o2).alloc o3).heap[w.heap.size + 1 + 1]? = some o3 ∧ (((w.alloc o1).alloc o2).alloc o3).heap.size = w.heap.size + 3 := by
  obtain ⟨h1, h2, h3, h4⟩ := box2 w o1 o2
  have f := (Fr.refl [] ((w.alloc o1).alloc o2)).alloc o3
  refine ⟨h1.trans f, f.heap h2 (by simp), f.heap h3 (by simp), ?_, by simp⟩
  have h := heap_alloc_new ((w.alloc o1).alloc o2) o3
  rw [h4] at h
  exact h

theorem big.Car.all {x y : Nat} : ∀ i, ∃ c, Car x y (x + y) i c
  | 0 => ⟨0, Car.zero x y⟩
  | i + 1 => by
    obtain ⟨c, h⟩ := big.Car.all (x := x) (y := y) i
    exact ⟨_, h.add.2⟩
/-- A sum has a digit more at the most. -/
theorem big.dg_sum {x y k : Nat} (hx : (dg x).length ≤ k) (hy : (dg y).length ≤ k) : (dg (x + y)).length ≤ k + 1 := by
  by_cases h : k + 1 < (dg (x + y)).length
  · obtain ⟨c, hc⟩ := Car.all (x := x) (y := y) k
    obtain ⟨h1, h2⟩ := hc.add.2
    obtain ⟨c', hc'⟩ := Car.all (x := x) (y := y) (k + 1)
    have h3 := hc'.more.2 h
    have h4 : x / 1000000 ^ k = 0 := by
      have : ¬ k < (dg x).length := by omega
      rwa [dg_lt_len, Classical.not_not] at this
    have h5 : y / 1000000 ^ k = 0 := by
      have : ¬ k < (dg y).length := by omega
      rwa [dg_lt_len, Classical.not_not] at this
    have h6 := hc'.1
    have h7 := hc.1
    rw [pw_succ, pw_succ, pw_succ, h4, h5, h7, h4, h5] at h6
    have := hc.2
    omega
  · omega

set_option maxHeartbeats 3200000 in
theorem added_any {w : World} {u v : Value} {x y z : Int} (hu : BigAt w u x) (hv : BigAt w v y) (hx : (dg x.natAbs).length ≤ 1000) (hy : (dg y.natAbs).length ≤ 1000) (hz : z.natAbs = x.natAbs + y.natAbs) (hz0 : ¬ z < 0) :
    Calls Try.prog 118 #[u, v] w fun e w' => ∃ r, e = .returned r ∧ BigAt w' r z ∧ Fr [] w w' := by
  obtain ⟨i0, hi, hz0', hz1, hz2⟩ := info_parts infoB
  obtain ⟨a, c, rfl, hd⟩ := hu.shape
  obtain ⟨a', c', rfl, hd'⟩ := hv.shape
  generalize decide (x < 0) = mx
  generalize decide (y < 0) = my
  clear hu hv
  have hzf : decide (z < 0) = false := decide_eq_false hz0
  have HZF := Lib.hid hzf
  clear hzf hz0
  generalize x.natAbs = n at *
  generalize y.natAbs = m at *
  generalize hp : (dg n).length = p at *
  generalize hq : (dg m).length = q at *
  have HP := Lib.hid hp
  have HQ := Lib.hid hq
  have HZ := Lib.hid hz
  clear hp hq hz
  obtain ⟨f2, b1, b2, b3, hs3⟩ := box3 w (.cells #[.bool mx, .slice a p c] 117) (.cells #[.bool my, .slice a' q c'] 117) (.cells #[.bool false, .slice none 0 0] 117)
  have D1 := Lib.hid (hd.fr f2)
  have D2 := Lib.hid (hd'.fr f2)
  have F2 := Lib.hid f2
  have B1 := Lib.hid b1
  have B2 := Lib.hid b2
  have B3 := Lib.hid b3
  clear hd hd' f2 b1 b2 b3
  go_enter Try.func118, Try.ntmps118
  go_upto_region 1 with fail
  generalize ((w.alloc (.cells #[.bool mx, .slice a p c] 117)).alloc (.cells #[.bool my, .slice a' q c'] 117)).alloc (.cells #[.bool false, .slice none 0 0] 117) = w2 at *
  have hr3 : w.heap.size + 1 + 1 < w2.heap.size := by omega
  have hr4 : w.heap.size ≤ w.heap.size + 1 + 1 := by omega
  generalize w.heap.size + 1 + 1 = g3 at *
  generalize w.heap.size + 1 = g2 at *
  have HW : Hid (w.heap.size ≤ g3) := Lib.hid hr4
  generalize hg1 : w.heap.size = g1 at *
  clear hr4 hs3
  have HG1 := Lib.hid hg1
  clear hg1
  have x1 := cell_blk B1.out 1 (.slice a p c) rfl
  have x2 := cell_blk B2.out 1 (.slice a' q c') rfl
  go_wp2_with fail
  generalize hN : z.natAbs = N at *
  have hNb : (dg N).length ≤ 1001 := by
    rw [HZ.out]
    exact dg_sum (by rw [HP.out]; exact hx) (by rw [HQ.out]; exact hy)
  go_loopw [6, 7] (fun cy i wr => ∃ k e : Nat, cy = .int .u64 (e : Int) ∧ i = .int .i64 (k : Int) ∧ k ≤ (dg N).length ∧ e ≤ 1 ∧ Hid (Car n m N k e) ∧ OutB w2 wr w2.heap.size false N k) (fun _ i _ => (dg N).length - (intOf i).toNat)
  case atStart => exact ⟨0, 0, rfl, rfl, Nat.zero_le _, by omega, Lib.hid (by rw [HZ.out]; exact Car.zero n m), OutB.new (Fr.refl _ _) _ _⟩
  case round =>
    obtain ⟨k, e, rfl, rfl, hk, he, HC, ho⟩ := hrel
    obtain ⟨oa, oc, hb1, hown, hkc, han⟩ := ho.shape
    have HO := Lib.hid ho
    have HB1 := Lib.hid hb1
    have HOwn := Lib.hid hown
    have f3 := ho.2.2.1
    have hgs : w2.heap.size < wr.heap.size := ho.2.1
    have y1 := f3.cell x1 (by simp)
    have y2 := f3.cell x2 (by simp)
    have x3 := cell_blk hb1 1 (.slice oa k oc) rfl
    have z3 : wr.frozen? ⟨w2.heap.size, 1, none⟩ = false := by simp [World.frozen?, hb1]
    have HM := Lib.hid HC.out.more
    rw [HP.out, HQ.out] at HM
    by_cases hlt : k < (dg N).length
    · have HLt := Lib.hid hlt
      clear ho hown hb1 hk x1 x2 hlt
      go_upto_region 4 with fail
      go_cut [24] (fun b wx => b = .bool true ∧ wx = wr)
      case first =>
        have hcase := HM.out.2 HLt.out
        by_cases h1 : k < p
        · have j1 : (k : Int) < (p : Int) := by omega
          go_wp2_with fail
          go_meet
          case rel => exact ⟨rfl, rfl⟩
        · have j1 : ¬ (k : Int) < (p : Int) := by omega
          by_cases h2 : k < q
          · have j2 : (k : Int) < (q : Int) := by omega
            go_wp2_with fail
            go_meet
            case rel => exact ⟨rfl, rfl⟩
          · have j2 : ¬ (k : Int) < (q : Int) := by omega
            obtain rfl : e = 1 := by omega
            go_wp2_with fail
            go_meet
            case rel => exact ⟨rfl, rfl⟩
      case rest =>
        obtain ⟨rfl, rfl⟩ := hcut
        have C1 := Lib.hid (fun h : k < p => (D1.out.fr f3).cell h)
        have C2 := Lib.hid (fun h : k < q => (D2.out.fr f3).cell h)
        have Z1 := Lib.hid (fun h : ¬ k < p => show n / 1000000 ^ k % 1000000 = 0 by rw [← dig, if_neg (by rw [HP.out]; exact h)])
        have Z2 := Lib.hid (fun h : ¬ k < q => show m / 1000000 ^ k % 1000000 = 0 by rw [← dig, if_neg (by rw [HQ.out]; exact h)])
        have hdn : n / 1000000 ^ k % 1000000 < 1000000 := Nat.mod_lt _ (by decide)
        have hdm : m / 1000000 ^ k % 1000000 < 1000000 := Nat.mod_lt _ (by decide)
        have CA := Lib.hid HC.out.add
        generalize n / 1000000 ^ k % 1000000 = dn at *
        generalize m / 1000000 ^ k % 1000000 = dm at *
        clear D1 D2 HC f3 HM
        go_upto_if 31 with fail
        go_cut [6] (fun x wx => x = .int .u64 ((e + dn : Nat) : Int) ∧ wx = wc)
        case first =>
          by_cases h1 : k < p
          · obtain ⟨b1, o1, rfl, c1⟩ := C1.out h1
            have j1 : (k : Int) < (p : Int) := by omega
            go_wp2_with fail
            go_meet
            case rel => exact ⟨by go_num, rfl⟩
          · have j1 : ¬ (k : Int) < (p : Int) := by omega
            obtain rfl := Z1.out h1
            go_wp2_with fail
            go_meet
            case rel => exact ⟨rfl, rfl⟩
        case rest =>
          obtain ⟨rfl, rfl⟩ := hcut
          generalize hed : e + dn = ed at *
          have hed2 : ed ≤ 1000000 := by omega
          go_upto_if 43 with fail
          go_cut [6] (fun x wx => x = .int .u64 ((ed + dm : Nat) : Int) ∧ wx = wc)
          case first =>
            by_cases h1 : k < q
            · obtain ⟨b1, o1, rfl, c1⟩ := C2.out h1
              have j1 : (k : Int) < (q : Int) := by omega
              go_wp2_with fail
              go_meet
              case rel => exact ⟨by go_num, rfl⟩
            · have j1 : ¬ (k : Int) < (q : Int) := by omega
              obtain rfl := Z2.out h1
              go_wp2_with fail
              go_meet
              case rel => exact ⟨rfl, rfl⟩
          case rest =>
            obtain ⟨rfl, rfl⟩ := hcut
            have hc5 : (ed + dm) / 1000000 ≤ 1 := CA.out.2.2
            have hkb : k ≤ 1001 := by have := HLt.out; omega
            generalize hem : ed + dm = em at *
            clear C1 C2 Z1 Z2 y1 y2
            go_wp2_with (at_builtin; refine wpList_append_src _ rfl (.tmp 52) (.tmp 55) 115 rfl (w2.heap.size + 1) 131 i0 _ 1 8 Try.underlying115 hi hz0' hz1 hz2 rfl (by decide) (.slice oa k oc) k _ rfl (ownsRow_fr HOwn.out ((Fr.refl [] wc).alloc _) (by simp)) (.slice (some ⟨wc.heap.size, 0, none⟩) 1 1) 1 [.int .u64 ((em : Int) % 1000000)] rfl (Src.block (heap_alloc_new wc _) rfl (by intro u hu; simp at hu; rcases hu with rfl; rfl)) (by unfold maxLen; omega) (by omega) (by simp; omega) ?_; intro v' w3 hown3 hgrow3 _; obtain ⟨a3, c3, rfl⟩ := ownsRow_shape hown3; have hb3 := OutB.held HOwn.out HB1.out hgrow3; have x4 := cell_blk hb3 1 (.slice oa k oc) rfl; have z4 : w3.frozen? ⟨w2.heap.size, 1, none⟩ = false := (by simp [World.frozen?, hb3]); have HOwn3 := Lib.hid hown3; have HG3 := Lib.hid hgrow3; clear hown3 hgrow3 hb3)
            go_roundw
            case rel => exact ⟨k + 1, em / 1000000, by first | rfl | go_num, by go_num, HLt.out, hc5, Lib.hid CA.out.2, HO.out.put HOwn.out HB1.out rfl HG3.out (by
              have h9 := HOwn3.out
              have e9 : ((N / 1000000 ^ k % 1000000 : Nat) : Int) = (em : Int) % 1000000 := by rw [← CA.out.1]; omega
              rw [e9]
              exact h9)⟩
            case measure => simp [intOf] <;> have := HLt.out <;> omega
    · have hnm : ¬ (k < p ∨ k < q ∨ 0 < e) := fun h => hlt (HM.out.1 h)
      have hk2 : k = (dg N).length := by omega
      have j1 : ¬ (k : Int) < (p : Int) := by omega
      have j2 : ¬ (k : Int) < (q : Int) := by omega
      obtain rfl : e = 0 := by omega
      have x0 := cell_blk hb1 0 (.bool false) rfl
      have hbr2 := f3.heap B3.out (by simp)
      have t0 := cell_blk hbr2 0 (.bool false) rfl
      have t1 := cell_blk hbr2 1 (.slice none 0 0) rfl
      have z5 : wr.frozen? ⟨g3, 0, none⟩ = false := by simp [World.frozen?, hbr2]
      have z6 : wr.frozen? ⟨g3, 1, none⟩ = false := by simp [World.frozen?, hbr2]
      have HBr := Lib.hid hbr2
      have HK2 := Lib.hid hk2
      have F3 := Lib.hid f3
      clear ho hown hb1 hk hbr2 hk2 hlt hnm f3
      go_wp2_with fail
      have hbz := heap_set12 (x := .bool false) (y := .slice oa k oc) HBr.out
      have t2 := cell_blk hbz 0 _ rfl
      have t3 := cell_blk hbz 1 _ rfl
      refine bodyPost_ret (v := .agg #[.bool false, .slice oa k oc]) (by simp [results, Try.results118, go_sem, t2, t3]) rfl ⟨_, rfl, ?_, ?_⟩
      · have h8 := HO.out
        have h9 := HB1.out
        rw [← hN] at h8
        rw [← HZF.out] at h8 h9 ⊢
        exact h8.ret (by omega) (by rw [hN]; exact HK2.out) h9
      · refine ret_fr (F2.out.trans F3.out) ?_
        rw [HG1.out]; exact HW.out
end Go.Proofs.Ytmionipeoffnhaa
