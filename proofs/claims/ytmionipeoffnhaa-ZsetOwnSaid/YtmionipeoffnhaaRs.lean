/- freshetref03.Sum: a row's counts, exactly. No condition but the sizes. -/
import Derived.Test.YtmionipeoffnhaaBy
import Derived.Test.YtmionipeoffnhaaZb
import Derived.Deep.RegionWith
import Derived.Deep.CutRange
import Derived.Deep.DeepCutAuto
namespace Go.Proofs.Ytmionipeoffnhaa
open Go.RowKit srt grp big

/-- A variable that holds a whole number. -/
def VarBig (w0 wr : World) (g : Nat) (z : Int) : Prop :=
  ∃ ra rc, wr.heap[g]? = some (.cells #[.bool (decide (z < 0)), .slice ra (dg z.natAbs).length rc] 117) ∧ BigAt wr (.agg #[.bool (decide (z < 0)), .slice ra (dg z.natAbs).length rc]) z ∧ Fr [] w0 wr
theorem VarBig.fr {w0 w w' : World} {g : Nat} {z : Int} (h : VarBig w0 w g z) (f : Fr [] w w') : VarBig w0 w' g z := by
  obtain ⟨ra, rc, h1, h2, h3⟩ := h
  exact ⟨ra, rc, f.heap h1 (by simp), h2.fr f, h3.trans f⟩
theorem VarBig.zero {w0 w : World} (f : Fr [] w0 w) {g : Nat} (h : w.heap[g]? = some (.cells #[.bool false, .slice none 0 0] 117)) : VarBig w0 w g 0 :=
  ⟨none, 0, h, ⟨_, rfl, none, 0, rfl, Nat.le_refl _, fun _ => rfl, by simp [cel, dz, dg_zero], by simp [cel, dz, dg_zero], Or.inl ⟨rfl, rfl⟩⟩, f⟩
theorem VarBig.put {w0 w : World} {g n0 c0 : Nat} {z : Int} {m : Bool} {a0 : Option Addr} {ra : Option Addr} {rc : Nat} (f : Fr [] w0 w) (hg : w0.heap.size ≤ g) (h : w.heap[g]? = some (.cells #[.bool m, .slice a0 n0 c0] 117)) (hb : BigAt w (.agg #[.bool (decide (z < 0)), .slice ra (dg z.natAbs).length rc]) z) :
    VarBig w0 ((w.setCell ⟨g, 0, none⟩ (.bool (decide (z < 0)))).setCell ⟨g, 1, none⟩ (.slice ra (dg z.natAbs).length rc)) g z :=
  ⟨ra, rc, heap_set12 h, hb.set2 h, ret_fr f hg⟩

theorem dg_bound {z : Int} (h : -100000000000000000000000 ≤ z ∧ z ≤ 100000000000000000000000) : (dg z.natAbs).length ≤ 1000 := Nat.le_trans (dg_len_le (k := 4) (by omega)) (by decide)
theorem sumK_take {l : List El} {k : Nat} (h : k < l.length) (r : List Dt) : sumK ((l.take (k + 1)).map pr) r = sumK ((l.take k).map pr) r + if (nth l k).rd = r then (nth l k).n else 0 := by
  rw [List.take_add_one, nth_at h, List.map_append, sumK_append]
  simp [sumK_cons, sumK_nil, pr]
theorem take_bound {l : List El} (hl : l.length ≤ 10000) (hn : ∀ e ∈ l, ElOk e) (k : Nat) (r : List Dt) : -100000000000000000000000 ≤ sumK ((l.take k).map pr) r ∧ sumK ((l.take k).map pr) r ≤ 100000000000000000000000 := by
  have h := sum_bound (l := l.take k) (B := 9223372036854775808) (fun e he => by have := (hn e (List.mem_of_mem_take he)).n; omega) r
  have : (l.take k).length ≤ 10000 := by rw [List.length_take]; omega
  omega

set_option maxRecDepth 100000
set_option maxHeartbeats 3200000 in
theorem sum_any {w : World} {aa : Option Addr} {ac : Nat} {l : List El} {ra : Option Addr} {rc : Nat} {rd : List Dt} (h : Cts w (.slice aa l.length ac) l) (hn : l.length ≤ 10000) (hr : RowAt w (.slice ra rd.length rc) rd) :
    Calls Try.prog 92 #[.slice aa l.length ac, .slice ra rd.length rc] w fun e w' => ∃ v, e = .returned v ∧ BigAt w' v (sumK (l.map pr) rd) ∧ Fr [] w w' := by
  obtain ⟨f2, b1, b2, hs2⟩ := box2 w (.cells #[.bool false, .slice none 0 0] 117) (.cells #[.bool false, .slice none 0 0] 117)
  have HC := Lib.hid h
  have HR := Lib.hid hr
  have F2 := Lib.hid f2
  have B1 := Lib.hid b1
  have B2 := Lib.hid b2
  clear h hr f2 b1 b2
  go_enter Try.func92, Try.ntmps92
  go_upto_region 2 with fail
  generalize (w.alloc (.cells #[.bool false, .slice none 0 0] 117)).alloc (.cells #[.bool false, .slice none 0 0] 117) = w2 at *
  have hg5 : w.heap.size + 1 < w2.heap.size := by omega
  have HG5 := Lib.hid (show w.heap.size ≤ w.heap.size + 1 by omega)
  have HG4 := Lib.hid (show w.heap.size ≤ w.heap.size by omega)
  generalize hgg5 : w.heap.size + 1 = g5 at *
  generalize hgg4 : w.heap.size = g4 at *
  have HGG := Lib.hid (show w.heap.size ≤ g4 ∧ w.heap.size ≤ g5 by omega)
  have hne : g4 ≠ g5 := by omega
  clear hgg5 hgg4 HG5 HG4 hs2
  go_wp2_with fail
  go_loopw [11] (fun x wr => ∃ k : Nat, x = .int .i64 (k : Int) ∧ k ≤ l.length ∧ VarBig w wr g5 (sumK ((l.take k).map pr) rd) ∧ Fr [g5] w2 wr) (fun x _ => l.length - (intOf x).toNat)
  case atStart => exact ⟨0, rfl, Nat.zero_le _, VarBig.zero F2.out B2.out, Fr.refl _ _⟩
  case round =>
    obtain ⟨k, rfl, hk, hv, hf⟩ := hrel
    have HV := Lib.hid hv
    have HF := Lib.hid hf
    by_cases hlt : k < l.length
    · obtain ⟨sa, sc, b5, big5, f5⟩ := hv
      obtain ⟨b, off, e1, z0, z1⟩ := (HC.out.fr f5).cell hlt
      subst e1
      have r1 := (HC.out.fr f5).row _ (nth_mem hlt)
      have hst := sumK_take hlt rd
      have hbd := take_bound hn (fun e he => (HC.out.row e he).2) k rd
      have hn1 := r1.2.n
      have ha1 := z0
      clear hf
      go_upto_region 5 with fail
      have fa : Fr [] wr (wr.alloc (.cells #[.slice (nth l k).ra (nth l k).rl (nth l k).rc, .int .i64 (nth l k).n] 31)) := (Fr.refl [] wr).alloc _
      have hbx := heap_alloc_new wr (.cells #[.slice (nth l k).ra (nth l k).rl (nth l k).rc, .int .i64 (nth l k).n] 31)
      have b6 := fa.heap b5 (by simp)
      have RW := Lib.hid (r1.1.fr fa)
      have R2 := Lib.hid (HR.out.fr (f5.trans fa))
      have HLen := Lib.hid r1.2.len
      have HB6 := Lib.hid b6
      have Big6 := Lib.hid (big5.fr fa)
      have F6 := Lib.hid (f5.trans fa)
      have HV6 := Lib.hid (HV.out.fr fa)
      have HF6 := Lib.hid (HF.out.trans fa.nil)
      have hbg : wr.heap.size ≠ g5 := by
        have := (Array.getElem?_eq_some_iff.1 b5).1
        omega
      clear fa b5 b6 big5 f5 r1 z0 z1 ha1 HV HF
      generalize wr.heap.size = bx at *
      generalize wr.alloc (.cells #[.slice (nth l k).ra (nth l k).rl (nth l k).rc, .int .i64 (nth l k).n] 31) = wa at *
      have y0 := cell_blk hbx 0 (.slice (nth l k).ra (nth l k).rl (nth l k).rc) rfl
      have HBx := Lib.hid hbx
      clear hbx
      by_cases hc : (nth l k).rd = rd
      · rw [if_pos hc] at hst
        have hsame := (rsame_any RW.out R2.out (by have := HLen.out; omega)).mono fun e w' (hh : e = .returned (.bool (decide (cmpR (nth l k).rd rd = 0))) ∧ Fr [] wa w') => (⟨by rw [hh.1, hc, cmpR_self]; rfl, hh.2⟩ : e = .returned (.bool true) ∧ Fr [] wa w')
        have HSame := Lib.hid hsame
        have HSt := Lib.hid hst
        clear hsame hst hc
        generalize sumK ((l.take k).map pr) rd = S at *
        have HBd := Lib.hid hbd
        clear hbd
        generalize hSl : (dg S.natAbs).length = kS at *
        generalize hmS : decide (S < 0) = mS at *
        go_upto_if 18 with (go_at_call 36; refine HSame.out.mono ?_; rintro e w7 ⟨rfl, f7⟩; have b7 := f7.heap HB6.out (by simp); have c7 := f7.heap HBx.out (by simp); have HB7 := Lib.hid b7; have HC7 := Lib.hid c7; have Big7 := Lib.hid (Big6.out.fr f7); have F7 := Lib.hid (F6.out.trans f7); have HF7 := Lib.hid (HF6.out.trans f7.nil); clear b7 c7 f7)
        have t0 := cell_blk HB7.out 0 (.bool mS) rfl
        have t1 := cell_blk HB7.out 1 (.slice sa kS sc) rfl
        have u1 := cell_blk HC7.out 1 (.int .i64 (nth l k).n) rfl
        have d0 : w7.drew.cell? ⟨g5, 0, none⟩ = some (.bool mS) := t0
        have d1 : w7.drew.cell? ⟨g5, 1, none⟩ = some (.slice sa kS sc) := t1
        have d2 : w7.drew.cell? ⟨bx, 1, none⟩ = some (.int .i64 (nth l k).n) := u1
        go_upto_region 6 with fail
        go_region_with (first
            | (go_at_call 117; refine (of_any hn1).mono ?_; rintro e wo ⟨r1, rfl, hr1, fo⟩; have t2 := fo.cell d0 (by simp); have t3 := fo.cell d1 (by simp); have FO := Lib.hid (F7.out.drew.trans fo); have FF := Lib.hid (HF7.out.drew.trans fo.nil); have HR1 := Lib.hid hr1; have HRo := Lib.hid ((Big7.out.fr (Fr.refl [] w7).drew).fr fo); have bo := fo.heap (a := w7.drew) HB7.out (by simp); have BO := Lib.hid bo; clear hr1 fo bo)
            | (go_at_call 116; refine (bplus_any HRo.out HR1.out (dg_bound (by have := HBd.out; omega)) (dg_bound (by omega))).mono ?_; rintro e wp ⟨r2, rfl, hr2, fp⟩; obtain ⟨rb, rd', rfl, -⟩ := hr2.shape; have HR2 := Lib.hid hr2; have FP := Lib.hid (FO.out.trans fp); have FFP := Lib.hid (FF.out.trans fp.nil); have bp := fp.heap BO.out (by simp); have t4 := cell_blk bp 0 (.bool mS) rfl; have t5 := cell_blk bp 1 (.slice sa kS sc) rfl; have t6 : wp.frozen? ⟨g5, 0, none⟩ = false := (by simp [World.frozen?, bp]); have t7 : wp.frozen? ⟨g5, 1, none⟩ = false := (by simp [World.frozen?, bp]); have BP := Lib.hid bp; clear hr2 fp bp))
        all_goals
          go_wp2_with fail
          go_roundw
          case rel => exact ⟨k + 1, by go_num, by omega, by rw [HSt.out]; exact VarBig.put FP.out HGG.out.2 BP.out HR2.out, (FFP.out.setCell (by simp) _).setCell (by simp) _⟩
          case measure => simp [intOf] <;> omega
      · rw [if_neg hc, Int.add_zero] at hst
        have hsame := (rsame_any RW.out R2.out (by have := HLen.out; omega)).mono fun e w' (hh : e = .returned (.bool (decide (cmpR (nth l k).rd rd = 0))) ∧ Fr [] wa w') => (⟨by rw [hh.1, decide_eq_false (fun h0 => hc (cmpR_eq h0))], hh.2⟩ : e = .returned (.bool false) ∧ Fr [] wa w')
        have HSame := Lib.hid hsame
        have HSt := Lib.hid hst
        clear hsame hst hc hbd
        go_wp2_with (go_at_call 36; refine HSame.out.mono ?_; rintro e w7 ⟨rfl, f7⟩)
        go_roundw
        case rel => exact ⟨k + 1, by go_num, by omega, by rw [HSt.out]; exact HV6.out.fr f7, HF6.out.trans f7.nil⟩
        case measure => simp [intOf] <;> omega
    · obtain rfl : k = l.length := by omega
      rw [List.take_length] at hv
      obtain ⟨sa, sc, b5, big5, f5⟩ := hv
      have b4 := hf.heap B1.out (by simpa using hne)
      have t0 := cell_blk b5 0 (.bool (decide (sumK (l.map pr) rd < 0))) rfl
      have t1 := cell_blk b5 1 (.slice sa (dg (sumK (l.map pr) rd).natAbs).length sc) rfl
      have z0 := cell_blk b4 0 (.bool false) rfl
      have z1 := cell_blk b4 1 (.slice none 0 0) rfl
      have z2 : wr.frozen? ⟨g4, 0, none⟩ = false := by simp [World.frozen?, b4]
      have z3 : wr.frozen? ⟨g4, 1, none⟩ = false := by simp [World.frozen?, b4]
      have hd5 := big5
      obtain ⟨s5, hv5, hd5⟩ := hd5
      simp only [Value.agg.injEq, Array.mk.injEq, List.cons.injEq, and_true, true_and] at hv5
      subst hv5
      obtain ⟨hbig, hfr, t2, t3⟩ := ret_big f5 HGG.out.1 b4 rfl rfl hd5
      have HBig := Lib.hid hbig
      have HFr := Lib.hid hfr
      clear hf b5 big5 f5 b4 hd5 HV HF hbig hfr hk hlt
      generalize (dg (sumK (l.map pr) rd).natAbs).length = kS at *
      generalize decide (sumK (l.map pr) rd < 0) = mS at *
      go_wp2_with fail
      refine bodyPost_ret (v := .agg #[.bool mS, .slice sa kS sc]) (by simp [results, Try.results92, go_sem, t2, t3]) rfl ⟨_, rfl, HBig.out, HFr.out⟩
end Go.Proofs.Ytmionipeoffnhaa
