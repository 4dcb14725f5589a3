/- freshetref01.Plus, Minus, Fits: sums of whole numbers. No condition but the sizes. -/
import Derived.Test.YtmionipeoffnhaaBl
namespace Go.Proofs.Ytmionipeoffnhaa
open Go.RowKit srt grp big

theorem dg_ne {z : Int} (h : z ≠ 0) : 0 < (dg z.natAbs).length := by
  have h1 : dg z.natAbs ≠ [] := fun e => by rw [dg_nil] at e; omega
  exact List.length_pos_iff.2 h1
theorem dg_none {z : Int} (h : z = 0) : (dg z.natAbs).length = 0 := by subst h; rfl

set_option maxRecDepth 100000
set_option maxHeartbeats 1600000 in
theorem bminus_any {w : World} {u : Value} {x : Int} (hu : BigAt w u x) :
    Calls Try.prog 93 #[u] w fun e w' => ∃ r, e = .returned r ∧ BigAt w' r (-x) ∧ Fr [] w w' := by
  obtain ⟨a, c, rfl, hd⟩ := hu.shape
  clear hu
  obtain ⟨f2, b1, b2, -⟩ := box2 w (.cells #[.bool (decide (x < 0)), .slice a (dg x.natAbs).length c] 117) (.cells #[.bool false, .slice none 0 0] 117)
  have HD := Lib.hid hd
  have e1 : decide (-x < 0) = (!decide (x < 0) && decide (0 < (dg x.natAbs).length)) := by
    by_cases h : x = 0
    · subst h; rfl
    · have := dg_ne h
      rw [decide_eq_true this, Bool.and_true, Bool.eq_iff_iff]
      simp only [decide_eq_true_eq, Bool.not_eq_true', decide_eq_false_iff_not]
      omega
  have E1 := Lib.hid e1
  have HN := Lib.hid (show (-x).natAbs = x.natAbs by omega)
  clear e1 hd
  have F2 := Lib.hid f2
  have B1 := Lib.hid b1
  have B2 := Lib.hid b2
  clear f2 b1 b2
  go_enter Try.func93, Try.ntmps93
  go_upto_region 1 with fail
  generalize (w.alloc (.cells #[.bool (decide (x < 0)), .slice a (dg x.natAbs).length c] 117)).alloc (.cells #[.bool false, .slice none 0 0] 117) = w2 at *
  have hg2 : w.heap.size ≤ w.heap.size + 1 := by omega
  generalize hg : w.heap.size + 1 = g2 at *
  generalize hg1 : w.heap.size = g1 at *
  have HG1 := Lib.hid hg1
  clear hg1 hg
  generalize hmx : decide (x < 0) = mx at *
  generalize hp : (dg x.natAbs).length = p at *
  have HP := Lib.hid hp
  clear hmx hp
  have x0 := cell_blk B1.out 0 (.bool mx) rfl
  have x1 := cell_blk B1.out 1 (.slice a p c) rfl
  have y0 := cell_blk B2.out 0 (.bool false) rfl
  have y1 := cell_blk B2.out 1 (.slice none 0 0) rfl
  have y2 : w2.frozen? ⟨g2, 0, none⟩ = false := by simp [World.frozen?, B2.out]
  have y3 : w2.frozen? ⟨g2, 1, none⟩ = false := by simp [World.frozen?, B2.out]
  cases mx with
  | true =>
    go_wp2_with fail
    have hbz := heap_set12 (x := .bool (decide (-x < 0))) (y := .slice a p c) B2.out
    rw [E1.out] at hbz
    have t2 := cell_blk hbz 0 _ rfl
    have t3 := cell_blk hbz 1 _ rfl
    have fW := ret_fr (x := .bool (decide (-x < 0))) (y := .slice a p c) F2.out (by rw [HG1.out]; exact hg2 : w.heap.size ≤ g2)
    rw [E1.out] at fW
    simp only [Bool.not_true, Bool.false_and] at hbz t2 t3 fW
    refine bodyPost_ret (v := .agg #[.bool false, .slice a p c]) (by simp [results, Try.results93, go_sem, t2, t3]) rfl ⟨_, rfl, ⟨.slice a p c, by rw [E1.out]; simp, ?_⟩, fW⟩
    rw [HN.out, HP.out]
    exact HD.out.fr fW
  | false =>
    go_wp2_with fail
    have hbz := heap_set12 (x := .bool (decide (-x < 0))) (y := .slice a p c) B2.out
    rw [E1.out] at hbz
    have t2 := cell_blk hbz 0 _ rfl
    have t3 := cell_blk hbz 1 _ rfl
    have fW := ret_fr (x := .bool (decide (-x < 0))) (y := .slice a p c) F2.out (by rw [HG1.out]; exact hg2 : w.heap.size ≤ g2)
    rw [E1.out] at fW
    simp only [Bool.not_false, Bool.true_and] at hbz t2 t3 fW
    refine bodyPost_ret (v := .agg #[.bool (decide (0 < p)), .slice a p c]) (by simp [results, Try.results93, go_sem, t2, t3]) rfl ⟨_, rfl, ⟨.slice a p c, by rw [E1.out]; simp, ?_⟩, fW⟩
    rw [HN.out, HP.out]
    exact HD.out.fr fW

/-- What is told lies in the result's variable. -/
theorem ret_big {w w5 : World} {g3 n0 c0 rc t k : Nat} {z : Int} {m0 s : Bool} {a0 ra : Option Addr} (f : Fr [] w w5) (hg : w.heap.size ≤ g3) (hb : w5.heap[g3]? = some (.cells #[.bool m0, .slice a0 n0 c0] t)) (hs : decide (z < 0) = s) (hk : (dg z.natAbs).length = k) (hd : DgAt w5 (.slice ra k rc) z.natAbs k) :
    BigAt ((w5.setCell ⟨g3, 0, none⟩ (.bool s)).setCell ⟨g3, 1, none⟩ (.slice ra k rc)) (.agg #[.bool s, .slice ra k rc]) z ∧ Fr [] w ((w5.setCell ⟨g3, 0, none⟩ (.bool s)).setCell ⟨g3, 1, none⟩ (.slice ra k rc)) ∧
      ((w5.setCell ⟨g3, 0, none⟩ (.bool s)).setCell ⟨g3, 1, none⟩ (.slice ra k rc)).cell? ⟨g3, 0, none⟩ = some (.bool s) ∧ ((w5.setCell ⟨g3, 0, none⟩ (.bool s)).setCell ⟨g3, 1, none⟩ (.slice ra k rc)).cell? ⟨g3, 1, none⟩ = some (.slice ra k rc) := by
  subst hs
  subst hk
  have h := heap_set12 (x := .bool (decide (z < 0))) (y := .slice ra (dg z.natAbs).length rc) hb
  exact ⟨⟨_, rfl, hd.set2 hb⟩, ret_fr f hg, cell_blk h 0 _ rfl, cell_blk h 1 _ rfl⟩
theorem BigAt.nat {w : World} {r : Value} {N : Nat} (h : BigAt w r (N : Int)) : ∃ ra rc, r = .agg #[.bool false, .slice ra (dg N).length rc] ∧ DgAt w (.slice ra (dg N).length rc) N (dg N).length := by
  obtain ⟨ra, rc, rfl, hd⟩ := h.shape
  simp only [Int.natAbs_natCast] at hd ⊢
  exact ⟨ra, rc, by rw [decide_eq_false (show ¬ (N : Int) < 0 by omega)], hd⟩

set_option maxHeartbeats 3200000 in
theorem bplus_any {w : World} {u v : Value} {x y : Int} (hu : BigAt w u x) (hv : BigAt w v y) (hx : (dg x.natAbs).length ≤ 1000) (hy : (dg y.natAbs).length ≤ 1000) :
    Calls Try.prog 116 #[u, v] w fun e w' => ∃ r, e = .returned r ∧ BigAt w' r (x + y) ∧ Fr [] w w' := by
  obtain ⟨a, c, rfl, hd⟩ := hu.shape
  obtain ⟨a', c', rfl, hd'⟩ := hv.shape
  have HU := Lib.hid (fun (wi : World) (f : Fr [] w wi) => hu.fr f)
  have HV := Lib.hid (fun (wi : World) (f : Fr [] w wi) => hv.fr f)
  clear hu hv hd hd'
  obtain ⟨f2, b1, b2, b3, hs3⟩ := box3 w (.cells #[.bool (decide (x < 0)), .slice a (dg x.natAbs).length c] 117) (.cells #[.bool (decide (y < 0)), .slice a' (dg y.natAbs).length c'] 117) (.cells #[.bool false, .slice none 0 0] 117)
  have F2 := Lib.hid f2
  have B1 := Lib.hid b1
  have B2 := Lib.hid b2
  have B3 := Lib.hid b3
  clear f2 b1 b2 b3
  go_enter Try.func116, Try.ntmps116
  go_upto_region 1 with fail
  generalize ((w.alloc (.cells #[.bool (decide (x < 0)), .slice a (dg x.natAbs).length c] 117)).alloc (.cells #[.bool (decide (y < 0)), .slice a' (dg y.natAbs).length c'] 117)).alloc (.cells #[.bool false, .slice none 0 0] 117) = w2 at *
  have hr4 : w.heap.size ≤ w.heap.size + 1 + 1 := by omega
  generalize hg3 : w.heap.size + 1 + 1 = g3 at *
  generalize hg2 : w.heap.size + 1 = g2 at *
  generalize hg1 : w.heap.size = g1 at *
  have HW : Hid (w.heap.size ≤ g3) := Lib.hid (by rw [hg1]; exact hr4)
  clear hr4 hs3 hg1 hg2 hg3
  have CAdd := Lib.hid (fun (wi : World) (f : Fr [] w wi) (z : Int) h1 h2 => added_any (w := wi) (z := z) (HU.out _ f) (HV.out _ f) hx hy h1 h2)
  have CAm := Lib.hid (fun (wi : World) (f : Fr [] w wi) => amounts_any (w := wi) (HU.out _ f) (HV.out _ f) hx hy)
  have CL1 := Lib.hid (fun (wi : World) (f : Fr [] w wi) (z : Int) h1 h2 => less_any (w := wi) (z := z) (HU.out _ f) (HV.out _ f) hx h1 h2)
  have CL2 := Lib.hid (fun (wi : World) (f : Fr [] w wi) (z : Int) h1 h2 => less_any (w := wi) (z := z) (HV.out _ f) (HU.out _ f) hy h1 h2)
  have x0 := cell_blk B1.out 0 (.bool (decide (x < 0))) rfl
  have x1 := cell_blk B1.out 1 (.slice a (dg x.natAbs).length c) rfl
  have x2 := cell_blk B2.out 0 (.bool (decide (y < 0))) rfl
  have x3 := cell_blk B2.out 1 (.slice a' (dg y.natAbs).length c') rfl
  clear hx hy HU HV
  generalize (dg x.natAbs).length = p at *
  generalize (dg y.natAbs).length = q at *
  by_cases hs : decide (x < 0) = decide (y < 0)
  · have h0 : (decide (x < 0) == decide (y < 0)) = true := by rw [hs]; simp
    have HS := Lib.hid hs
    generalize hmy : decide (y < 0) = my at *
    generalize hmx : decide (x < 0) = mx at *
    have HMX := Lib.hid hmx
    have HMY := Lib.hid hmy
    clear hs hmx hmy
    have hsg : (x < 0) ↔ (y < 0) := by rw [← decide_eq_decide, HMX.out, HMY.out, HS.out]
    have hN : (x + y).natAbs = x.natAbs + y.natAbs := by omega
    have HN := Lib.hid hN
    have HE := Lib.hid (show decide (x + y < 0) = (mx && decide (0 < (dg (x + y).natAbs).length)) by
      rw [← HMX.out]
      by_cases h : x + y = 0
      · rw [h]; simp [dg_zero]
      · rw [decide_eq_true (dg_ne h), Bool.and_true]
        exact decide_eq_decide.2 (by omega))
    clear hN hsg
    go_upto_region 3 with (go_at_call 118; refine (CAdd.out _ F2.out (((x + y).natAbs : Nat) : Int) (by rw [← HN.out]; omega) (by omega)).mono ?_; rintro e w4 ⟨r, rfl, hr, f4⟩; obtain ⟨ra, rc, rfl, hd⟩ := hr.nat; have HD := Lib.hid hd; have F4 := Lib.hid f4; have y0 := f4.cell x0 (by simp); clear hr hd f4)
    have F5 := Lib.hid ((F2.out.trans F4.out).alloc (.cells #[.bool false, .slice ra (dg (x + y).natAbs).length rc] 117))
    generalize hk : (dg (x + y).natAbs).length = k at *
    have HK := Lib.hid hk
    have fa := fun s => (Fr.refl [] w4).alloc (.cells #[.bool s, .slice ra k rc] 117)
    have b5 := fun s => (fa s).heap (F4.out.heap B3.out (by simp)) (by simp)
    have y00 := fun s => (fa s).cell y0 (by simp)
    have z0 := fun s => cell_blk (b5 s) 0 (.bool false) rfl
    have z1 := fun s => cell_blk (b5 s) 1 (.slice none 0 0) rfl
    have z2 : ∀ s, (w4.alloc (.cells #[.bool s, .slice ra k rc] 117)).frozen? ⟨g3, 0, none⟩ = false := fun s => by simp only [World.frozen?, b5 s]; rfl
    have z3 : ∀ s, (w4.alloc (.cells #[.bool s, .slice ra k rc] 117)).frozen? ⟨g3, 1, none⟩ = false := fun s => by simp only [World.frozen?, b5 s]; rfl
    have HB5 := Lib.hid b5
    have HFA := Lib.hid fa
    clear hk fa b5 CAdd CL1 CL2 CAm x0 x1 x2 x3 y0 h0
    cases mx with
    | true =>
      go_wp2_with fail
      obtain ⟨hbig, hfr, t2, t3⟩ := ret_big (s := decide (0 < k)) (F2.out.trans (F4.out.trans (HFA.out (decide (0 < k))))) HW.out (HB5.out (decide (0 < k))) (by rw [HE.out]; simp) HK.out (HD.out.fr (HFA.out (decide (0 < k))))
      refine bodyPost_ret (v := .agg #[.bool (decide (0 < k)), .slice ra k rc]) (by simp [results, Try.results116, go_sem, t2, t3]) rfl ⟨_, rfl, hbig, hfr⟩
    | false =>
      go_wp2_with fail
      obtain ⟨hbig, hfr, t2, t3⟩ := ret_big (s := false) (F2.out.trans (F4.out.trans (HFA.out (false)))) HW.out (HB5.out (false)) (by rw [HE.out]; simp) HK.out (HD.out.fr (HFA.out (false)))
      refine bodyPost_ret (v := .agg #[.bool (false), .slice ra k rc]) (by simp [results, Try.results116, go_sem, t2, t3]) rfl ⟨_, rfl, hbig, hfr⟩
  · have h0 : (decide (x < 0) == decide (y < 0)) = false := by simpa using hs
    have HS := Lib.hid hs
    generalize hmy : decide (y < 0) = my at *
    generalize hmx : decide (x < 0) = mx at *
    have HMX := Lib.hid hmx
    have HMY := Lib.hid hmy
    clear hs hmx hmy CAdd
    have hsg : ¬ ((x < 0) ↔ (y < 0)) := by rw [← decide_eq_decide, HMX.out, HMY.out]; exact HS.out
    have HSG := Lib.hid hsg
    clear hsg
    have u1 : ∀ wi, Fr [] w2 wi → wi.cell? ⟨g1, 0, none⟩ = some (.bool mx) := fun wi f => f.cell x0 (by simp)
    have u2 : ∀ wi, Fr [] w2 wi → wi.cell? ⟨g1, 1, none⟩ = some (.slice a p c) := fun wi f => f.cell x1 (by simp)
    have u3 : ∀ wi, Fr [] w2 wi → wi.cell? ⟨g2, 0, none⟩ = some (.bool my) := fun wi f => f.cell x2 (by simp)
    have u4 : ∀ wi, Fr [] w2 wi → wi.cell? ⟨g2, 1, none⟩ = some (.slice a' q c') := fun wi f => f.cell x3 (by simp)
    have U1 := Lib.hid u1
    have U2 := Lib.hid u2
    have U3 := Lib.hid u3
    have U4 := Lib.hid u4
    clear u1 u2 u3 u4
    rcases Nat.lt_trichotomy x.natAbs y.natAbs with hlt | heq | hgt
    · have j0 := am_lt' hlt
      have HLt := Lib.hid hlt
      clear hlt
      generalize am x.natAbs y.natAbs = r0 at *
      subst j0
      have hN : (x + y).natAbs + x.natAbs = y.natAbs := by have := HSG.out; have := HLt.out; omega
      have HN := Lib.hid hN
      have HE := Lib.hid (show decide (x + y < 0) = my by rw [← HMY.out]; have := HSG.out; have := HLt.out; exact decide_eq_decide.2 (by omega))
      clear hN
      go_upto_region 7 with (go_at_call 119; refine (CAm.out _ F2.out).mono ?_; rintro e w4 ⟨rfl, f4⟩; have v1 := U1.out _ f4; have v2 := U2.out _ f4; have v3 := U3.out _ f4; have v4 := U4.out _ f4; have F4 := Lib.hid f4; clear f4 x0 x1 x2 x3)
      go_upto_region 11 with (go_at_call 119; refine (CAm.out _ (F2.out.trans F4.out)).mono ?_; rintro e w5 ⟨rfl, f5⟩; have f45 := F4.out.trans f5; have v5 := U1.out _ f45; have v6 := U2.out _ f45; have v7 := U3.out _ f45; have v8 := U4.out _ f45; have F5 := Lib.hid f45; clear f5 f45 v1 v2 v3 v4)
      go_upto_region 12 with (go_at_call 127; refine (CL2.out _ (F2.out.trans F5.out) (((x + y).natAbs : Nat) : Int) (by rw [← HN.out]; omega) (by omega)).mono ?_; rintro e w6 ⟨r, rfl, hr, f6⟩; obtain ⟨ra, rc, rfl, hd⟩ := hr.nat; have HD := Lib.hid hd; have f56 := F5.out.trans f6; have v1 := U3.out _ f56; have F6 := Lib.hid f56; clear hr hd f6 f56 v5 v6 v7 v8)
      generalize hk : (dg (x + y).natAbs).length = k at *
      have HK := Lib.hid hk
      have fa := fun s => (Fr.refl [] w6).alloc (.cells #[.bool s, .slice ra k rc] 117)
      have b5 := fun s => (fa s).heap (F6.out.heap B3.out (by simp)) (by simp)
      have y00 := fun s => (fa s).cell v1 (by simp)
      have z0 := fun s => cell_blk (b5 s) 0 (.bool false) rfl
      have z1 := fun s => cell_blk (b5 s) 1 (.slice none 0 0) rfl
      have z2 : ∀ s, (w6.alloc (.cells #[.bool s, .slice ra k rc] 117)).frozen? ⟨g3, 0, none⟩ = false := fun s => by simp only [World.frozen?, b5 s]; rfl
      have z3 : ∀ s, (w6.alloc (.cells #[.bool s, .slice ra k rc] 117)).frozen? ⟨g3, 1, none⟩ = false := fun s => by simp only [World.frozen?, b5 s]; rfl
      have HB5 := Lib.hid b5
      have HFA := Lib.hid fa
      clear hk fa b5 CL1 CL2 CAm h0 v1
      go_wp2_with fail
      obtain ⟨hbig, hfr, t2, t3⟩ := ret_big (s := my) (F2.out.trans (F6.out.trans (HFA.out my))) HW.out (HB5.out my) HE.out HK.out (HD.out.fr (HFA.out my))
      refine bodyPost_ret (v := .agg #[.bool my, .slice ra k rc]) (by simp [results, Try.results116, go_sem, t2, t3]) rfl ⟨_, rfl, hbig, hfr⟩
    · have j0 := am_eq' heq
      have HEq := Lib.hid heq
      generalize am x.natAbs y.natAbs = r0 at *
      subst j0
      go_upto_region 6 with (go_at_call 119; refine (CAm.out _ F2.out).mono ?_; rintro e w4 ⟨rfl, f4⟩; have b4 := f4.heap B3.out (by simp); have z0 := cell_blk b4 0 (.bool false) rfl; have z1 := cell_blk b4 1 (.slice none 0 0) rfl; have z2 : w4.frozen? ⟨g3, 0, none⟩ = false := (by simp [World.frozen?, b4]); have z3 : w4.frozen? ⟨g3, 1, none⟩ = false := (by simp [World.frozen?, b4]); have F4 := Lib.hid f4; have HB4 := Lib.hid b4; clear f4 b4)
      go_wp2_with fail
      have hz : x + y = 0 := by have := HEq.out; have := HSG.out; omega
      obtain ⟨hbig, hfr, t2, t3⟩ := ret_big (z := x + y) (s := false) (k := 0) (ra := none) (rc := 0) (F2.out.trans F4.out) HW.out HB4.out (by rw [hz]; rfl) (by rw [hz]; rfl) ⟨none, 0, rfl, Nat.le_refl _, fun _ => rfl, by simp [cel, dz], by simp [cel, dz], Or.inl ⟨rfl, rfl⟩⟩
      refine bodyPost_ret (v := .agg #[.bool false, .slice none 0 0]) (by simp [results, Try.results116, go_sem, t2, t3]) rfl ⟨_, rfl, hbig, hfr⟩
    · have j0 := am_gt' hgt
      have HGt := Lib.hid hgt
      clear hgt
      generalize am x.natAbs y.natAbs = r0 at *
      subst j0
      have hN : (x + y).natAbs + y.natAbs = x.natAbs := by have := HSG.out; have := HGt.out; omega
      have HN := Lib.hid hN
      have HE := Lib.hid (show decide (x + y < 0) = mx by rw [← HMX.out]; have := HSG.out; have := HGt.out; exact decide_eq_decide.2 (by omega))
      clear hN
      go_upto_region 7 with (go_at_call 119; refine (CAm.out _ F2.out).mono ?_; rintro e w4 ⟨rfl, f4⟩; have v1 := U1.out _ f4; have v2 := U2.out _ f4; have v3 := U3.out _ f4; have v4 := U4.out _ f4; have F4 := Lib.hid f4; clear f4 x0 x1 x2 x3)
      go_upto_region 8 with (go_at_call 119; refine (CAm.out _ (F2.out.trans F4.out)).mono ?_; rintro e w5 ⟨rfl, f5⟩; have f45 := F4.out.trans f5; have v5 := U1.out _ f45; have v6 := U2.out _ f45; have v7 := U3.out _ f45; have v8 := U4.out _ f45; have F5 := Lib.hid f45; clear f5 f45 v1 v2 v3 v4)
      go_upto_region 9 with (go_at_call 127; refine (CL1.out _ (F2.out.trans F5.out) (((x + y).natAbs : Nat) : Int) (by rw [← HN.out]; omega) (by omega)).mono ?_; rintro e w6 ⟨r, rfl, hr, f6⟩; obtain ⟨ra, rc, rfl, hd⟩ := hr.nat; have HD := Lib.hid hd; have f56 := F5.out.trans f6; have v1 := U1.out _ f56; have F6 := Lib.hid f56; clear hr hd f6 f56 v5 v6 v7 v8)
      generalize hk : (dg (x + y).natAbs).length = k at *
      have HK := Lib.hid hk
      have fa := fun s => (Fr.refl [] w6).alloc (.cells #[.bool s, .slice ra k rc] 117)
      have b5 := fun s => (fa s).heap (F6.out.heap B3.out (by simp)) (by simp)
      have y00 := fun s => (fa s).cell v1 (by simp)
      have z0 := fun s => cell_blk (b5 s) 0 (.bool false) rfl
      have z1 := fun s => cell_blk (b5 s) 1 (.slice none 0 0) rfl
      have z2 : ∀ s, (w6.alloc (.cells #[.bool s, .slice ra k rc] 117)).frozen? ⟨g3, 0, none⟩ = false := fun s => by simp only [World.frozen?, b5 s]; rfl
      have z3 : ∀ s, (w6.alloc (.cells #[.bool s, .slice ra k rc] 117)).frozen? ⟨g3, 1, none⟩ = false := fun s => by simp only [World.frozen?, b5 s]; rfl
      have HB5 := Lib.hid b5
      have HFA := Lib.hid fa
      clear hk fa b5 CL1 CL2 CAm h0 v1
      go_wp2_with fail
      obtain ⟨hbig, hfr, t2, t3⟩ := ret_big (s := mx) (F2.out.trans (F6.out.trans (HFA.out mx))) HW.out (HB5.out mx) HE.out HK.out (HD.out.fr (HFA.out mx))
      refine bodyPost_ret (v := .agg #[.bool mx, .slice ra k rc]) (by simp [results, Try.results116, go_sem, t2, t3]) rfl ⟨_, rfl, hbig, hfr⟩
end Go.Proofs.Ytmionipeoffnhaa
