/- One call of both oracles: they answer alike. No condition but that both are well. -/
import Derived.Test.YtdmhiefjmejfpaaRefF
import Derived.Test.YtdmhiefjmejfpaaClone
import Derived.Deep.RegionWith
namespace Go.Proofs.Ytdmhiefjmejfpaa
open Go.RowKit Go.Maps

/-- What a call of both leaves. -/
def StepPost (w : World) (bx bm br : Nat) (s : Orc) (e : Ending) (w' : World) : Prop :=
  e = .returned (.bool true) ∧ ∃ s' : Orc, Own w' bx bm s' ∧ RefOwn w' br s' ∧ Good s' ∧ s'.made ≤ s.made + 1 ∧ Fr [bx, bm, br] w w'

/-- Both stand as s, in blocks of their own. -/
structure Both (w : World) (bx bm br : Nat) (v : Value) (s : Orc) : Prop where
  own : Own w bx bm s
  ref : RefAt w br v s
  n1 : bx ≠ br
  n2 : bm ≠ br

theorem Both.fr {w w' : World} {bx bm br : Nat} {v : Value} {s : Orc} (h : Both w bx bm br v s) (f : Fr [] w w') : Both w' bx bm br v s :=
  ⟨h.own.fr f (by simp) (by simp), h.ref.fr f (by simp) (NoRow.nil _), h.n1, h.n2⟩

theorem Own.noRow {w : World} {bx bm : Nat} {s : Orc} (h : Own w bx bm s) : NoRow w [bx, bm] := by
  intro x hx cs fz e
  simp at hx
  rcases hx with rfl | rfl
  · rw [h.blk] at e; simp at e
  · obtain ⟨es, clock, hb, -⟩ := h.map
    rw [hb] at e; simp at e

theorem NoRow.sub {w : World} {S T : List Nat} (h : NoRow w S) (hT : ∀ x ∈ T, x ∈ S) : NoRow w T := fun x hx => h x (hT x hx)

/-- The reference's oracle behind a step of the other. -/
theorem RefAt.aside {w w' : World} {bx bm br : Nat} {v : Value} {s s0 : Orc} {S : List Nat} (h : RefAt w br v s) (ho : Own w bx bm s0) (f : Fr S w w') (hS : ∀ x ∈ S, x ∈ [bx, bm]) (n1 : bx ≠ br) (n2 : bm ≠ br) : RefAt w' br v s :=
  h.fr f (fun hx => by have := hS br hx; simp at this; rcases this with e | e; exact n1 e.symm; exact n2 e.symm) (ho.noRow.sub hS)


set_option maxHeartbeats 1600000 in
set_option maxRecDepth 100000 in
theorem step_write (kd on no t : Int) (fm : Bool) {w : World} {bx bm br : Nat} {v : Value} {s : Orc} (hB : Both w bx bm br v s) (hg : Good s) (hwf : OpV.wf ⟨kd, on, no, t, fm⟩) (hk : kd = 1) :
    Calls Try.prog 21 #[.pointer (some ⟨bx, 0, none⟩), .pointer (some ⟨br, 0, none⟩), .agg (OpV.cells ⟨kd, on, no, t, fm⟩)] w (StepPost w bx bm br s) := by
  have HK := Lib.hid hk
  clear hk
  obtain ⟨hox, href, n1, n2⟩ := hB
  obtain ⟨-, r1, -, -, -⟩ := href.cells
  have hrlt : br < w.heap.size := (Array.getElem?_eq_some_iff.1 href.blk).1
  have hblk := heap_alloc_new w (.cells #[.int .i64 kd, .int .i64 on, .int .i64 no, .int .i64 t, .bool fm] 32)
  have fa := (Fr.refl [] w).alloc (.cells #[.int .i64 kd, .int .i64 on, .int .i64 no, .int .i64 t, .bool fm] 32)
  have hox1 := hox.fr fa (by simp) (by simp)
  have href1 := href.fr fa (by simp) (NoRow.nil _)
  have r11 := fa.cell r1 (by simp)
  unfold OpV.cells
  go_enter Try.func21, Try.ntmps21
  go_upto_region 1 with fail
  generalize w.alloc (.cells #[.int .i64 kd, .int .i64 on, .int .i64 no, .int .i64 t, .bool fm] 32) = w1 at *
  generalize w.heap.size = bo at *
  have n1' := n1
  go_cut [7] (fun a7 wx => a7 = .int .i64 (OpV.at ⟨kd, on, no, t, fm⟩ s.read) ∧ Fr [] w1 wx)
  case first =>
    have d0 : w1.cell? ⟨bo, 0, none⟩ = some (.int .i64 kd) := by simp [World.cell?, hblk]
    have d1 : w1.cell? ⟨bo, 1, none⟩ = some (.int .i64 on) := by simp [World.cell?, hblk]
    have d2 : w1.cell? ⟨bo, 2, none⟩ = some (.int .i64 no) := by simp [World.cell?, hblk]
    have d3 : w1.cell? ⟨bo, 3, none⟩ = some (.int .i64 t) := by simp [World.cell?, hblk]
    have d4 : w1.cell? ⟨bo, 4, none⟩ = some (.bool fm) := by simp [World.cell?, hblk]
    go_region_with (go_at_call 11; refine (time_any ⟨kd, on, no, t, fm⟩ s.read _).mono ?_; rintro e w5 ⟨rfl, f5⟩)
    all_goals (go_wp2_with fail; go_meet; exact ⟨rfl, (Fr.drew (Fr.refl [] _)).trans f5⟩)
  generalize wc = wx at *
  obtain ⟨rfl, f5⟩ := hcut
  have ox := hox1.fr f5 (by simp) (by simp)
  have rf := href1.fr f5 (by simp) (NoRow.nil _)
  have hb5 := f5.heap hblk (by simp)
  have d0 : wx.cell? ⟨bo, 0, none⟩ = some (.int .i64 kd) := by simp [World.cell?, hb5]
  have d2 : wx.cell? ⟨bo, 2, none⟩ = some (.int .i64 no) := by simp [World.cell?, hb5]
  have fx := fa.trans f5
  have hno := hwf.no
  simp only at hno
  obtain ⟨tt, htt⟩ : ∃ tt, OpV.at ⟨kd, on, no, t, fm⟩ s.read = tt := ⟨_, rfl⟩
  rw [htt]
  have q0 := hg.r0
  have q1 := hg.rl
  have q2 := hg.lm
  have q3 := leastLo hg
  have q4 := (leastOf_le s.L s.read).1
  have q5 := hg.few
  have q6 := hg.m0
  clear htt f5 hox1 href1 hwf hblk fa hox href r1 r11 hb5 n1'
  have hk := HK.out
  subst hk
  by_cases hl : s.last < 1099511627776
  · go_wp2_with fail
    refine (write_some ox hl (by omega)).mono ?_
    rintro e w6 ⟨rfl, o6, f6⟩
    have rf6 := rf.aside ox f6 (by simp) n1 n2
    go_wp2_with fail
    refine (rwrite_some rf6 hl (by omega)).mono ?_
    rintro e w7 ⟨rfl, r7, f7⟩
    have o7 := o6.fr f7 (by simp; exact n1) (by simp; exact n2)
    have hb : (s.last + 1 == s.last + 1) = true := by simp
    have F : Fr [bx, bm, br] w w7 := ((fx.mono (by simp)).trans (f6.mono (by simp))).trans (f7.mono (by simp))
    go_wp2_with fail
    go_ret
    exact ⟨rfl, { s with last := s.last + 1 }, o7, ⟨_, r7⟩, hg.write hl, by simp only; omega, F⟩
  · go_wp2_with fail
    refine (write_full ox (by omega)).mono ?_
    rintro e w6 ⟨rfl, rfl⟩
    go_wp2_with fail
    refine (rwrite_full rf (by omega)).mono ?_
    rintro e w7 ⟨rfl, rfl⟩
    go_wp2_with fail
    go_ret
    exact ⟨rfl, s, ox, ⟨_, rf⟩, hg, by omega, fx.mono (by simp)⟩

set_option maxHeartbeats 1600000 in
set_option maxRecDepth 100000 in
theorem step_settle (kd on no t : Int) (fm : Bool) {w : World} {bx bm br : Nat} {v : Value} {s : Orc} (hB : Both w bx bm br v s) (hg : Good s) (hwf : OpV.wf ⟨kd, on, no, t, fm⟩) (hk : kd = 2) :
    Calls Try.prog 21 #[.pointer (some ⟨bx, 0, none⟩), .pointer (some ⟨br, 0, none⟩), .agg (OpV.cells ⟨kd, on, no, t, fm⟩)] w (StepPost w bx bm br s) := by
  have HK := Lib.hid hk
  clear hk
  obtain ⟨hox, href, n1, n2⟩ := hB
  obtain ⟨-, r1, -, -, -⟩ := href.cells
  have hrlt : br < w.heap.size := (Array.getElem?_eq_some_iff.1 href.blk).1
  have hblk := heap_alloc_new w (.cells #[.int .i64 kd, .int .i64 on, .int .i64 no, .int .i64 t, .bool fm] 32)
  have fa := (Fr.refl [] w).alloc (.cells #[.int .i64 kd, .int .i64 on, .int .i64 no, .int .i64 t, .bool fm] 32)
  have hox1 := hox.fr fa (by simp) (by simp)
  have href1 := href.fr fa (by simp) (NoRow.nil _)
  have r11 := fa.cell r1 (by simp)
  unfold OpV.cells
  go_enter Try.func21, Try.ntmps21
  go_upto_region 1 with fail
  generalize w.alloc (.cells #[.int .i64 kd, .int .i64 on, .int .i64 no, .int .i64 t, .bool fm] 32) = w1 at *
  generalize w.heap.size = bo at *
  have n1' := n1
  go_cut [7] (fun a7 wx => a7 = .int .i64 (OpV.at ⟨kd, on, no, t, fm⟩ s.read) ∧ Fr [] w1 wx)
  case first =>
    have d0 : w1.cell? ⟨bo, 0, none⟩ = some (.int .i64 kd) := by simp [World.cell?, hblk]
    have d1 : w1.cell? ⟨bo, 1, none⟩ = some (.int .i64 on) := by simp [World.cell?, hblk]
    have d2 : w1.cell? ⟨bo, 2, none⟩ = some (.int .i64 no) := by simp [World.cell?, hblk]
    have d3 : w1.cell? ⟨bo, 3, none⟩ = some (.int .i64 t) := by simp [World.cell?, hblk]
    have d4 : w1.cell? ⟨bo, 4, none⟩ = some (.bool fm) := by simp [World.cell?, hblk]
    go_region_with (go_at_call 11; refine (time_any ⟨kd, on, no, t, fm⟩ s.read _).mono ?_; rintro e w5 ⟨rfl, f5⟩)
    all_goals (go_wp2_with fail; go_meet; exact ⟨rfl, (Fr.drew (Fr.refl [] _)).trans f5⟩)
  generalize wc = wx at *
  obtain ⟨rfl, f5⟩ := hcut
  have ox := hox1.fr f5 (by simp) (by simp)
  have rf := href1.fr f5 (by simp) (NoRow.nil _)
  have hb5 := f5.heap hblk (by simp)
  have d0 : wx.cell? ⟨bo, 0, none⟩ = some (.int .i64 kd) := by simp [World.cell?, hb5]
  have d2 : wx.cell? ⟨bo, 2, none⟩ = some (.int .i64 no) := by simp [World.cell?, hb5]
  have fx := fa.trans f5
  have hno := hwf.no
  simp only at hno
  obtain ⟨tt, htt⟩ : ∃ tt, OpV.at ⟨kd, on, no, t, fm⟩ s.read = tt := ⟨_, rfl⟩
  rw [htt]
  have q0 := hg.r0
  have q1 := hg.rl
  have q2 := hg.lm
  have q3 := leastLo hg
  have q4 := (leastOf_le s.L s.read).1
  have q5 := hg.few
  have q6 := hg.m0
  clear htt f5 hox1 href1 hwf hblk fa hox href r1 r11 hb5 n1'
  have hk := HK.out
  subst hk
  by_cases hl : s.read ≤ tt ∧ tt ≤ s.last
  · obtain ⟨hl, hl2⟩ := hl
    go_wp2_with fail
    refine (settle_yes ox tt hl hl2).mono ?_
    rintro e w6 ⟨rfl, o6, f6⟩
    have rf6 := rf.aside ox f6 (by simp) n1 n2
    go_wp2_with fail
    refine (rsettle_yes rf6 tt hl hl2).mono ?_
    rintro e w7 ⟨rfl, r7, f7⟩
    have o7 := o6.fr f7 (by simp; exact n1) (by simp; exact n2)
    have F : Fr [bx, bm, br] w w7 := ((fx.mono (by simp)).trans (f6.mono (by simp))).trans (f7.mono (by simp))
    go_wp2_with fail
    go_ret
    exact ⟨rfl, { s with read := tt }, o7, ⟨_, r7⟩, (hg.settle tt hl hl2).1, by simp only; omega, F⟩
  · have hl' : tt < s.read ∨ s.last < tt := by omega
    clear hl
    go_wp2_with fail
    refine (settle_no ox tt hl').mono ?_
    rintro e w6 ⟨rfl, rfl⟩
    go_wp2_with fail
    refine (rsettle_no rf tt hl').mono ?_
    rintro e w7 ⟨rfl, rfl⟩
    go_wp2_with fail
    go_ret
    exact ⟨rfl, s, ox, ⟨_, rf⟩, hg, by omega, fx.mono (by simp)⟩

set_option maxHeartbeats 1600000 in
set_option maxRecDepth 100000 in
theorem step_hold (kd on no t : Int) (fm : Bool) {w : World} {bx bm br : Nat} {v : Value} {s : Orc} (hB : Both w bx bm br v s) (hg : Good s) (hm : s.made < 1099511627776) (hwf : OpV.wf ⟨kd, on, no, t, fm⟩) (hk : kd = 3) :
    Calls Try.prog 21 #[.pointer (some ⟨bx, 0, none⟩), .pointer (some ⟨br, 0, none⟩), .agg (OpV.cells ⟨kd, on, no, t, fm⟩)] w (StepPost w bx bm br s) := by
  have HK := Lib.hid hk
  clear hk
  obtain ⟨hox, href, n1, n2⟩ := hB
  obtain ⟨-, r1, -, -, -⟩ := href.cells
  have hrlt : br < w.heap.size := (Array.getElem?_eq_some_iff.1 href.blk).1
  have hblk := heap_alloc_new w (.cells #[.int .i64 kd, .int .i64 on, .int .i64 no, .int .i64 t, .bool fm] 32)
  have fa := (Fr.refl [] w).alloc (.cells #[.int .i64 kd, .int .i64 on, .int .i64 no, .int .i64 t, .bool fm] 32)
  have hox1 := hox.fr fa (by simp) (by simp)
  have href1 := href.fr fa (by simp) (NoRow.nil _)
  have r11 := fa.cell r1 (by simp)
  unfold OpV.cells
  go_enter Try.func21, Try.ntmps21
  go_upto_region 1 with fail
  generalize w.alloc (.cells #[.int .i64 kd, .int .i64 on, .int .i64 no, .int .i64 t, .bool fm] 32) = w1 at *
  generalize w.heap.size = bo at *
  have n1' := n1
  go_cut [7] (fun a7 wx => a7 = .int .i64 (OpV.at ⟨kd, on, no, t, fm⟩ s.read) ∧ Fr [] w1 wx)
  case first =>
    have d0 : w1.cell? ⟨bo, 0, none⟩ = some (.int .i64 kd) := by simp [World.cell?, hblk]
    have d1 : w1.cell? ⟨bo, 1, none⟩ = some (.int .i64 on) := by simp [World.cell?, hblk]
    have d2 : w1.cell? ⟨bo, 2, none⟩ = some (.int .i64 no) := by simp [World.cell?, hblk]
    have d3 : w1.cell? ⟨bo, 3, none⟩ = some (.int .i64 t) := by simp [World.cell?, hblk]
    have d4 : w1.cell? ⟨bo, 4, none⟩ = some (.bool fm) := by simp [World.cell?, hblk]
    go_region_with (go_at_call 11; refine (time_any ⟨kd, on, no, t, fm⟩ s.read _).mono ?_; rintro e w5 ⟨rfl, f5⟩)
    all_goals (go_wp2_with fail; go_meet; exact ⟨rfl, (Fr.drew (Fr.refl [] _)).trans f5⟩)
  generalize wc = wx at *
  obtain ⟨rfl, f5⟩ := hcut
  have ox := hox1.fr f5 (by simp) (by simp)
  have rf := href1.fr f5 (by simp) (NoRow.nil _)
  have hb5 := f5.heap hblk (by simp)
  have d0 : wx.cell? ⟨bo, 0, none⟩ = some (.int .i64 kd) := by simp [World.cell?, hb5]
  have d2 : wx.cell? ⟨bo, 2, none⟩ = some (.int .i64 no) := by simp [World.cell?, hb5]
  have fx := fa.trans f5
  have hno := hwf.no
  simp only at hno
  obtain ⟨tt, htt⟩ : ∃ tt, OpV.at ⟨kd, on, no, t, fm⟩ s.read = tt := ⟨_, rfl⟩
  rw [htt]
  have q0 := hg.r0
  have q1 := hg.rl
  have q2 := hg.lm
  have q3 := leastLo hg
  have q4 := (leastOf_le s.L s.read).1
  have q5 := hg.few
  have q6 := hg.m0
  clear htt f5 hox1 href1 hwf hblk fa hox href r1 r11 hb5 n1'
  have hk := HK.out
  subst hk
  by_cases hl : tt < leastOf s.read s.L
  · go_wp2_with fail
    refine (hold_since ox hg tt hl).mono ?_
    rintro e w6 ⟨rfl, f6⟩
    have rf6 := rf.fr f6 (by simp) (NoRow.nil _)
    have o6 := ox.fr f6 (by simp) (by simp)
    go_wp2_with fail
    refine (rhold_since rf6 hg tt hl).mono ?_
    rintro e w7 ⟨rfl, f7⟩
    have rf7 := rf6.fr f7 (by simp) (NoRow.nil _)
    have o7 := o6.fr f7 (by simp) (by simp)
    go_wp2_with fail
    go_ret
    exact ⟨rfl, s, o7, ⟨_, rf7⟩, hg, by omega, ((fx.trans f6).trans f7).mono (by simp)⟩
  by_cases hl2 : s.read < tt
  · go_wp2_with fail
    refine (hold_upper ox hg tt (by omega) hl2).mono ?_
    rintro e w6 ⟨rfl, f6⟩
    have rf6 := rf.fr f6 (by simp) (NoRow.nil _)
    have o6 := ox.fr f6 (by simp) (by simp)
    go_wp2_with fail
    refine (rhold_upper rf6 hg tt (by omega) hl2).mono ?_
    rintro e w7 ⟨rfl, f7⟩
    have rf7 := rf6.fr f7 (by simp) (NoRow.nil _)
    have o7 := o6.fr f7 (by simp) (by simp)
    go_wp2_with fail
    go_ret
    exact ⟨rfl, s, o7, ⟨_, rf7⟩, hg, by omega, ((fx.trans f6).trans f7).mono (by simp)⟩
  by_cases hl3 : 64 ≤ s.L.length
  · go_wp2_with fail
    refine (hold_long ox hg tt (by omega) (by omega) hl3).mono ?_
    rintro e w6 ⟨rfl, f6⟩
    have rf6 := rf.fr f6 (by simp) (NoRow.nil _)
    have o6 := ox.fr f6 (by simp) (by simp)
    go_wp2_with fail
    refine (rhold_long rf6 hg tt (by omega) (by omega) hl3).mono ?_
    rintro e w7 ⟨rfl, f7⟩
    have rf7 := rf6.fr f7 (by simp) (NoRow.nil _)
    have o7 := o6.fr f7 (by simp) (by simp)
    go_wp2_with fail
    go_ret
    exact ⟨rfl, s, o7, ⟨_, rf7⟩, hg, by omega, ((fx.trans f6).trans f7).mono (by simp)⟩
  go_wp2_with fail
  refine (hold_yes ox hg tt (by omega) (by omega) (by omega) hm).mono ?_
  rintro e w6 ⟨rfl, o6, f6⟩
  have rf6 := rf.aside ox f6 (by simp) n1 n2
  go_wp2_with fail
  refine (rhold_yes rf6 hg tt (by omega) (by omega) (by omega) hm).mono ?_
  rintro e w7 ⟨rfl, r7, f7⟩
  have o7 := o6.fr f7 (by simp; exact n1) (by simp; exact n2)
  have hb : (s.made + 1 == s.made + 1) = true := by simp
  have F : Fr [bx, bm, br] w w7 := ((fx.mono (by simp)).trans (f6.mono (by simp))).trans (f7.mono (by simp))
  go_wp2_with fail
  go_ret
  exact ⟨rfl, { s with L := s.L ++ [(s.made + 1, tt)], made := s.made + 1 }, o7, r7, (hg.hold tt (by omega) (by omega) (by omega) hm).1, by simp only; omega, F⟩

end Go.Proofs.Ytdmhiefjmejfpaa
