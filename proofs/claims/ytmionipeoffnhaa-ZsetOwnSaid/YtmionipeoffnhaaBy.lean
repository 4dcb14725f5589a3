/- freshetref01.Fits: a whole number, if it has room. No condition but the sizes. -/
import Derived.Test.YtmionipeoffnhaaBx
namespace Go.Proofs.Ytmionipeoffnhaa
open Go.RowKit srt grp big

def most (x : Int) : Nat := if x < 0 then 9223372036854775808 else 9223372036854775807
theorem most_am (x : Int) : (0 < am x.natAbs (most x)) ↔ fitB x = false := by
  have h : fitB x = false ↔ ¬ (-9223372036854775808 ≤ x ∧ x ≤ 9223372036854775807) := by rw [← fitB_iff, Bool.not_eq_true]
  rw [h]
  unfold am most
  split
  · split
    · omega
    · split <;> omega
  · split
    · omega
    · split <;> omega

/-- The variable that holds the greatest amount. -/
def MostAt (w wx : World) (g : Nat) (x : Int) : Prop :=
  ∃ ra rc, wx.heap[g]? = some (.cells #[.bool false, .slice ra (dg (most x)).length rc] 117) ∧ BigAt wx (.agg #[.bool false, .slice ra (dg (most x)).length rc]) (most x : Int) ∧ Fr [] w wx

set_option maxRecDepth 100000
set_option maxHeartbeats 3200000 in
theorem bfits_any {w : World} {u : Value} {x : Int} (hu : BigAt w u x) (hx : (dg x.natAbs).length ≤ 1000) :
    Calls Try.prog 94 #[u] w fun e w' => e = .returned (.tuple #[.int .i64 (if fitB x then x else 0), .bool (fitB x)]) ∧ Fr [] w w' := by
  obtain ⟨a, c, rfl, hd⟩ := hu.shape
  have HU := Lib.hid (fun (wi : World) (f : Fr [] w wi) => hu.fr f)
  have HD := Lib.hid (fun (wi : World) (f : Fr [] w wi) => hd.fr f)
  have f1 : Fr [] w (w.alloc (.cells #[.bool (decide (x < 0)), .slice a (dg x.natAbs).length c] 117)) := (Fr.refl [] w).alloc _
  have b1 := heap_alloc_new w (.cells #[.bool (decide (x < 0)), .slice a (dg x.natAbs).length c] 117)
  clear hu hd
  go_enter Try.func94, Try.ntmps94
  go_upto_region 1 with fail
  generalize hw1 : w.alloc (.cells #[.bool (decide (x < 0)), .slice a (dg x.natAbs).length c] 117) = w1 at *
  generalize w.heap.size = g1 at *
  have F1 := Lib.hid f1
  have B1 := Lib.hid b1
  clear f1 b1 hw1
  go_upto_region 2 with (go_at_call 117; refine (of_any (by omega)).mono ?_; rintro e w2 ⟨r, rfl, hr, f2⟩; have hr' : BigAt w2 r ((9223372036854775807 : Nat) : Int) := hr; obtain ⟨ra, rc, rfl, hd2⟩ := hr'.nat; have HR := Lib.hid hr'; have F2 := Lib.hid f2; clear hr hr' f2 hd2)
  generalize hkM : (dg 9223372036854775807).length = kM at *
  have HKM := Lib.hid hkM
  clear hkM
  have f3 : Fr [] w2 (w2.alloc (.cells #[.bool false, .slice ra kM rc] 117)) := (Fr.refl [] w2).alloc _
  have b4 := heap_alloc_new w2 (.cells #[.bool false, .slice ra kM rc] 117)
  have b5 := f3.heap (F2.out.heap B1.out (by simp)) (by simp)
  have hg4 : w.heap.size ≤ w2.heap.size := (F1.out.trans F2.out).size
  have hg14 : g1 ≠ w2.heap.size := by
    have h1 := (Array.getElem?_eq_some_iff.1 (F2.out.heap B1.out (by simp))).1
    omega
  have F3 := Lib.hid ((F1.out.trans F2.out).trans f3)
  have HR3 := Lib.hid (HR.out.fr f3)
  have B4 := Lib.hid b4
  have B5 := Lib.hid b5
  clear f3 b4 b5 HR F1 F2 B1
  generalize w2.heap.size = g4 at *
  generalize w2.alloc (.cells #[.bool false, .slice ra kM rc] 117) = w3 at *
  generalize hmx : decide (x < 0) = mx at *
  have HMX := Lib.hid hmx
  clear hmx
  have y0 := cell_blk B5.out 0 (.bool mx) rfl
  go_upto_if 9 with fail
  go_cut [] (fun wx => MostAt w wx g4 x ∧ wx.heap[g1]? = some (.cells #[.bool mx, .slice a (dg x.natAbs).length c] 117))
  case first =>
    cases mx with
    | true =>
      have HNeg := Lib.hid (of_decide_eq_true HMX.out)
      go_upto_region 3 with fail
      have t0 := cell_blk B4.out 0 (.bool false) rfl
      have t1 := cell_blk B4.out 1 (.slice ra kM rc) rfl
      have hl1 : (dg (1 : Int).natAbs).length ≤ 1000 := Nat.le_trans (dg_len_le (k := 4) (by decide)) (by decide)
      have hlM : (dg ((9223372036854775807 : Nat) : Int).natAbs).length ≤ 1000 := Nat.le_trans (dg_len_le (k := 4) (by decide)) (by decide)
      have HL1 := Lib.hid hl1
      have HLM := Lib.hid hlM
      clear hl1 hlM
      have d0 : w3.drew.cell? ⟨g4, 0, none⟩ = some (.bool false) := t0
      have d1 : w3.drew.cell? ⟨g4, 1, none⟩ = some (.slice ra kM rc) := t1
      go_region_with (first
        | (go_at_call 117; refine (of_any (by omega)).mono ?_; rintro e wo ⟨r1, rfl, hr1, fo⟩; have FO := Lib.hid (F3.out.drew.trans fo); have t2 := fo.cell t0 (by simp); have t3 := fo.cell t1 (by simp); have HR1 := Lib.hid hr1; have HRo := Lib.hid ((HR3.out.fr (Fr.refl [] w3).drew).fr fo); have bo := fo.heap (a := w3.drew) B4.out (by simp); have bo1 := fo.heap (a := w3.drew) B5.out (by simp); have BO := Lib.hid bo; have BO1 := Lib.hid bo1; clear hr1 fo bo bo1)
        | (go_at_call 118; refine (added_any (z := ((9223372036854775808 : Nat) : Int)) HRo.out HR1.out HLM.out HL1.out (by decide) (by decide)).mono ?_; rintro e wp ⟨r2, rfl, hr2, fp⟩; obtain ⟨rb, rd, rfl, -⟩ := hr2.nat; have HR2 := Lib.hid hr2; have FP := Lib.hid (FO.out.trans fp); have bp := fp.heap BO.out (by simp); have t4 := cell_blk bp 0 (.bool false) rfl; have t5 := cell_blk bp 1 (.slice ra kM rc) rfl; have t6 : wp.frozen? ⟨g4, 0, none⟩ = false := (by simp [World.frozen?, bp]); have t7 : wp.frozen? ⟨g4, 1, none⟩ = false := (by simp [World.frozen?, bp]); have bp1 := fp.heap BO1.out (by simp); have BP := Lib.hid bp; have BP1 := Lib.hid bp1; clear hr2 fp bp bp1))
      all_goals
        go_wp2_with fail
        go_meet
        have e : most x = 9223372036854775808 := by unfold most; rw [if_pos HNeg.out]
        exact ⟨⟨rb, rd, by rw [e]; exact heap_set12 BP.out, by rw [e]; exact HR2.out.set2 BP.out, ret_fr FP.out hg4⟩, (((Fr.refl [g4] wp).setCell (by simp) _).setCell (by simp) _).heap BP1.out (by simpa using hg14)⟩
    | false =>
      have HNeg := Lib.hid (of_decide_eq_false HMX.out)
      go_wp2_with fail
      go_meet
      case rel =>
        have e : most x = 9223372036854775807 := by unfold most; rw [if_neg (by have := HNeg.out; omega)]
        exact ⟨⟨ra, rc, by rw [e, HKM.out]; exact B4.out, by rw [e, HKM.out]; exact HR3.out, F3.out⟩, B5.out⟩
  case rest =>
    obtain ⟨⟨rb, rd, bm, hm, fm⟩, bg1⟩ := hcut
    have hlm : (dg ((most x : Nat) : Int).natAbs).length ≤ 1000 := by
      rw [Int.natAbs_natCast]
      exact Nat.le_trans (dg_len_le (k := 4) (by unfold most; split <;> decide)) (by decide)
    have ham := amounts_any (HU.out _ fm) hm hx hlm
    rw [Int.natAbs_natCast] at ham
    have hsg := most_am x
    have HAm := Lib.hid ham
    have FM := Lib.hid fm
    have BG1 := Lib.hid bg1
    have s0 := cell_blk bg1 0 (.bool mx) rfl
    have s1 := cell_blk bg1 1 (.slice a (dg x.natAbs).length c) rfl
    have s2 := cell_blk bm 0 (.bool false) rfl
    have s3 := cell_blk bm 1 (.slice rb (dg (most x)).length rd) rfl
    clear ham hm fm bg1 bm hlm y0 B4 B5 HR3 F3
    generalize am x.natAbs (most x) = r0 at *
    by_cases hf : fitB x = true
    · have hr0 : ¬ (0 < r0) := fun h => by rw [hsg] at h; rw [h] at hf; cases hf
      have HFit := Lib.hid hf
      clear hsg hf
      go_upto_region 6 with (go_at_call 119; refine HAm.out.mono ?_; rintro e w6 ⟨rfl, f6⟩; have F6 := Lib.hid (FM.out.trans f6); have bg6 := f6.heap BG1.out (by simp); have v0 := cell_blk bg6 0 (.bool mx) rfl; have v1 := cell_blk bg6 1 (.slice a (dg x.natAbs).length c) rfl; have D6 := Lib.hid (HD.out _ F6.out); clear f6 bg6 s0 s1 s2 s3)
      have hfit := (fitB_iff x).1 HFit.out
      have hb : x.natAbs ≤ 9223372036854775808 := by omega
      generalize hk : (dg x.natAbs).length = p at *
      have HK := Lib.hid hk
      clear hk HU HAm
      go_wp2_with fail
      go_loop [5, 6] (fun n i => ∃ k q : Nat, i = .int .i64 ((k : Int) - 1) ∧ n = .int .u64 (q : Int) ∧ k ≤ p ∧ Hid (q = x.natAbs / 1000000 ^ k)) (fun _ i => (intOf i + 1).toNat)
      case atStart => exact ⟨p, 0, rfl, rfl, Nat.le_refl _, Lib.hid (by rw [← HK.out]; exact (top_zero _).symm)⟩
      case round =>
        obtain ⟨k, q, rfl, rfl, hk, HQ⟩ := hrel
        by_cases hlt : 0 < k
        · obtain ⟨k, rfl⟩ : ∃ j, k = j + 1 := ⟨k - 1, by omega⟩
          obtain ⟨o1, e1, rfl, z1⟩ := D6.out.cell (show k < p by omega)
          have j1 : (k : Int) < (p : Int) := by omega
          have hq := HQ.out
          rw [pw_succ] at hq
          have hle : x.natAbs / 1000000 ^ k ≤ 9223372036854775808 := Nat.le_trans (Nat.div_le_self _ _) hb
          have hnew : q * 1000000 + x.natAbs / 1000000 ^ k % 1000000 = x.natAbs / 1000000 ^ k := by omega
          have HNew := Lib.hid hnew
          have hdd : x.natAbs / 1000000 ^ k % 1000000 < 1000000 := Nat.mod_lt _ (by decide)
          have hqb : q * 1000000 + x.natAbs / 1000000 ^ k % 1000000 ≤ 9223372036854775808 := by omega
          clear hq hle hnew
          generalize x.natAbs / 1000000 ^ k % 1000000 = d at *
          go_wp2_with fail
          go_round
          case rel => exact ⟨k, q * 1000000 + d, by first | rfl | go_num, by go_num, by omega, Lib.hid HNew.out⟩
          case measure => simp [intOf] <;> omega
        · obtain rfl : k = 0 := by omega
          have hq : q = x.natAbs := by have := HQ.out; simpa using this
          have HFx := Lib.hid (show (if fitB x = true then x else 0) = x by rw [if_pos HFit.out])
          have HF1 := Lib.hid HFit.out
          clear HQ HFit
          cases mx with
          | true =>
            have hn : x < 0 := of_decide_eq_true HMX.out
            obtain ⟨A, hA, hB⟩ : ∃ A, IntKind.u64.wrap (-(q : Int)) = A ∧ IntKind.i64.wrap A = x := ⟨_, rfl, by
              have h1 : IntKind.u64.wrap (-(q : Int)) = (-(q : Int)) % 18446744073709551616 := rfl
              rw [h1, IntKind.wrap_i64]; omega⟩
            clear hn hq
            go_wp2_with fail
            go_ret2
            exact ⟨rfl, F6.out⟩
          | false =>
            have hn : ¬ x < 0 := of_decide_eq_false HMX.out
            have hB : IntKind.i64.wrap (q : Int) = x := by rw [IntKind.wrap_i64]; omega
            clear hn hq
            go_wp2_with fail
            go_ret2
            exact ⟨rfl, F6.out⟩
    · have hr0 : 0 < r0 := hsg.2 (by simpa using hf)
      have HFit := Lib.hid hf
      clear hsg hf
      go_wp2_with (go_at_call 119; refine HAm.out.mono ?_; rintro e w6 ⟨rfl, f6⟩)
      go_ret2
      exact ⟨rfl, FM.out.trans f6⟩
end Go.Proofs.Ytmionipeoffnhaa
