/- One call of both oracles, continued: Move, Free; and whatever call. -/
import Derived.Test.YtdmhiefjmejfpaaStep
import Derived.Deep.RegionHeld3
namespace Go.Proofs.Ytdmhiefjmejfpaa
open Go.RowKit Go.Maps

theorem Calls.toFr {P : Program} {f : FuncId} {args : Array Value} {w : World} {r : Ending} (h : Calls P f args w fun e w' => e = r ∧ w = w') : Calls P f args w fun e w' => e = r ∧ Fr [] w w' :=
  h.mono fun _ _ ⟨h1, h2⟩ => ⟨h1, h2 ▸ Fr.refl _ _⟩

set_option maxHeartbeats 1600000 in
set_option maxRecDepth 100000 in
theorem step_move (kd on no t : Int) (fm : Bool) {w : World} {bx bm br : Nat} {v : Value} {s : Orc} (hB : Both w bx bm br v s) (hg : Good s) (hwf : OpV.wf ⟨kd, on, no, t, fm⟩) (hk : kd = 4) :
    Calls Try.prog 21 #[.pointer (some ⟨bx, 0, none⟩), .pointer (some ⟨br, 0, none⟩), .agg (OpV.cells ⟨kd, on, no, t, fm⟩)] w (StepPost w bx bm br s) := by
  have HK := Lib.hid hk
  clear hk
  obtain ⟨hox, href, n1, n2⟩ := hB
  obtain ⟨-, r1, -, -, -⟩ := href.cells
  have hxlt : bx < w.heap.size := (Array.getElem?_eq_some_iff.1 hox.blk).1
  have hmlt : bm < w.heap.size := hox.map.lt
  have hrlt : br < w.heap.size := (Array.getElem?_eq_some_iff.1 href.blk).1
  have hblk := heap_alloc_new w (.cells #[.int .i64 kd, .int .i64 on, .int .i64 no, .int .i64 t, .bool fm] 32)
  have fa := (Fr.refl [] w).alloc (.cells #[.int .i64 kd, .int .i64 on, .int .i64 no, .int .i64 t, .bool fm] 32)
  have hox1 := hox.fr fa (by simp) (by simp)
  have href1 := href.fr fa (by simp) (NoRow.nil _)
  have r11 := fa.cell r1 (by simp)
  unfold OpV.cells
  go_enter Try.func21, Try.ntmps21
  go_upto_region 1 with fail
  generalize w.alloc (.cells #[.int .i64 kd, .int .i64 on, .int .i64 no, .int .i64 t, .bool fm] 32) = w1 at *
  generalize w.heap.size = bo at *
  have n1' := n1
  go_cut [7] (fun a7 wx => a7 = .int .i64 (OpV.at ⟨kd, on, no, t, fm⟩ s.read) ∧ Fr [] w1 wx)
  case first =>
    have d0 : w1.cell? ⟨bo, 0, none⟩ = some (.int .i64 kd) := by simp [World.cell?, hblk]
    have d1 : w1.cell? ⟨bo, 1, none⟩ = some (.int .i64 on) := by simp [World.cell?, hblk]
    have d2 : w1.cell? ⟨bo, 2, none⟩ = some (.int .i64 no) := by simp [World.cell?, hblk]
    have d3 : w1.cell? ⟨bo, 3, none⟩ = some (.int .i64 t) := by simp [World.cell?, hblk]
    have d4 : w1.cell? ⟨bo, 4, none⟩ = some (.bool fm) := by simp [World.cell?, hblk]
    go_region_with (go_at_call 11; refine (time_any ⟨kd, on, no, t, fm⟩ s.read _).mono ?_; rintro e w5 ⟨rfl, f5⟩)
    all_goals (go_wp2_with fail; go_meet; exact ⟨rfl, (Fr.drew (Fr.refl [] _)).trans f5⟩)
  generalize wc = wx at *
  obtain ⟨rfl, f5⟩ := hcut
  have ox := hox1.fr f5 (by simp) (by simp)
  have rf := href1.fr f5 (by simp) (NoRow.nil _)
  have hb5 := f5.heap hblk (by simp)
  have d0 : wx.cell? ⟨bo, 0, none⟩ = some (.int .i64 kd) := by simp [World.cell?, hb5]
  have d2 : wx.cell? ⟨bo, 2, none⟩ = some (.int .i64 no) := by simp [World.cell?, hb5]
  have fx := fa.trans f5
  have hno := hwf.no
  simp only at hno
  obtain ⟨tt, htt⟩ : ∃ tt, OpV.at ⟨kd, on, no, t, fm⟩ s.read = tt := ⟨_, rfl⟩
  rw [htt]
  have q0 := hg.r0
  have q1 := hg.rl
  have q2 := hg.lm
  have q3 := leastLo hg
  have q4 := (leastOf_le s.L s.read).1
  have q5 := hg.few
  have q6 := hg.m0
  clear htt f5 hox1 href1 hwf hblk fa hox href r1 r11 hb5 n1'
  have hk := HK.out
  subst hk
  cases hT : timeOf s.L no with
  | none =>
    have HT := Lib.hid hT
    clear hT
    go_wp2_with fail
    go_region_held3 (fun w' => w'.cell? ⟨bo, 2, none⟩ = some (.int .i64 no) ∧ Fr [] wx w')
      (first
        | exact ⟨d2, Fr.drew (Fr.refl _ _)⟩
        | (go_split_ands; exact ⟨d2, (by assumption)⟩)
        | (go_split_ands; exact ⟨g6.cell d2 (by simp), g6⟩)
        | (go_split_ands; exact ⟨g7.cell d2 (by simp), g7⟩))
      (first
        | (go_at_call 15; refine (Calls.toFr (move_none (ox.fr (Fr.drew (Fr.refl [] _)) (by simp) (by simp)) no tt hno HT.out)).mono ?_; rintro e w6 ⟨rfl, f6⟩; have g6 : Fr [] wx w6 := (Fr.drew (Fr.refl _ _)).trans f6; have o6 := ox.fr g6 (by simp) (by simp); have rf6 := rf.fr g6 (by simp) (NoRow.nil _))
        | (go_at_call 27; refine (rmove_none rf6 hg no tt HT.out).mono ?_; rintro e w7 ⟨rfl, f7⟩; have g7 : Fr [] wx w7 := g6.trans f7))
    go_wp2_with fail
    go_ret
    exact ⟨rfl, s, ox.fr g7 (by simp) (by simp), ⟨_, rf.fr g7 (by simp) (NoRow.nil _)⟩, hg, by omega, (fx.trans g7).mono (by simp)⟩

  | some t0 =>
    have HT := Lib.hid hT
    clear hT
    by_cases hl : tt < t0
    · go_wp2_with fail
      go_region_held3 (fun w' => w'.cell? ⟨bo, 2, none⟩ = some (.int .i64 no) ∧ Fr [] wx w')
        (first
          | exact ⟨d2, Fr.drew (Fr.refl _ _)⟩
          | (go_split_ands; exact ⟨d2, (by assumption)⟩)
          | (go_split_ands; exact ⟨g6.cell d2 (by simp), g6⟩)
          | (go_split_ands; exact ⟨g7.cell d2 (by simp), g7⟩))
        (first
          | (go_at_call 15; refine (Calls.toFr (move_since (ox.fr (Fr.drew (Fr.refl [] _)) (by simp) (by simp)) no tt t0 hno HT.out hl)).mono ?_; rintro e w6 ⟨rfl, f6⟩; have g6 : Fr [] wx w6 := (Fr.drew (Fr.refl _ _)).trans f6; have o6 := ox.fr g6 (by simp) (by simp); have rf6 := rf.fr g6 (by simp) (NoRow.nil _))
          | (go_at_call 27; refine (rmove_since rf6 hg no tt t0 HT.out hl).mono ?_; rintro e w7 ⟨rfl, f7⟩; have g7 : Fr [] wx w7 := g6.trans f7))
      go_wp2_with fail
      go_ret
      exact ⟨rfl, s, ox.fr g7 (by simp) (by simp), ⟨_, rf.fr g7 (by simp) (NoRow.nil _)⟩, hg, by omega, (fx.trans g7).mono (by simp)⟩

    by_cases hl2 : s.read < tt
    · go_wp2_with fail
      go_region_held3 (fun w' => w'.cell? ⟨bo, 2, none⟩ = some (.int .i64 no) ∧ Fr [] wx w')
        (first
          | exact ⟨d2, Fr.drew (Fr.refl _ _)⟩
          | (go_split_ands; exact ⟨d2, (by assumption)⟩)
          | (go_split_ands; exact ⟨g6.cell d2 (by simp), g6⟩)
          | (go_split_ands; exact ⟨g7.cell d2 (by simp), g7⟩))
        (first
          | (go_at_call 15; refine (Calls.toFr (move_upper (ox.fr (Fr.drew (Fr.refl [] _)) (by simp) (by simp)) no tt t0 hno HT.out (by omega) hl2)).mono ?_; rintro e w6 ⟨rfl, f6⟩; have g6 : Fr [] wx w6 := (Fr.drew (Fr.refl _ _)).trans f6; have o6 := ox.fr g6 (by simp) (by simp); have rf6 := rf.fr g6 (by simp) (NoRow.nil _))
          | (go_at_call 27; refine (rmove_upper rf6 hg no tt t0 HT.out (by omega) hl2).mono ?_; rintro e w7 ⟨rfl, f7⟩; have g7 : Fr [] wx w7 := g6.trans f7))
      go_wp2_with fail
      go_ret
      exact ⟨rfl, s, ox.fr g7 (by simp) (by simp), ⟨_, rf.fr g7 (by simp) (NoRow.nil _)⟩, hg, by omega, (fx.trans g7).mono (by simp)⟩

    go_wp2_with fail
    go_region_held3 (fun w' => w'.cell? ⟨bo, 2, none⟩ = some (.int .i64 no) ∧ Fr [bx, bm, br] wx w')
      (first
        | exact ⟨d2, Fr.drew (Fr.refl _ _)⟩
        | (go_split_ands; exact ⟨d2, (by assumption)⟩)
        | (go_split_ands; exact ⟨g6.cell d2 (by simp; omega), g6⟩)
        | (go_split_ands; exact ⟨g7.cell d2 (by simp; omega), g7⟩))
      (first
        | (go_at_call 15; refine (move_yes (ox.fr (Fr.drew (Fr.refl [] _)) (by simp) (by simp)) hg no tt t0 hno HT.out (by omega) (by omega)).mono ?_; rintro e w6 ⟨rfl, o6, f6⟩; have f6' := (Fr.drew (Fr.refl [] wx)).nil.trans f6; have g6 : Fr [bx, bm, br] wx w6 := f6'.mono (by simp); have rf6 := rf.aside ox f6' (by simp) n1 n2)
        | (go_at_call 27; refine (rmove_yes rf6 hg no tt t0 HT.out (by omega) (by omega)).mono ?_; rintro e w7 ⟨rfl, r7, f7⟩; have g7 : Fr [bx, bm, br] wx w7 := g6.trans (f7.mono (by simp)); have o7 := o6.fr f7 (by simp; exact n1) (by simp; exact n2)))
    go_wp2_with fail
    go_ret
    exact ⟨rfl, { s with L := setT s.L no tt }, o7, r7, (hg.move no tt t0 HT.out (by omega) (by omega)).1, by simp only; omega, (fx.mono (by simp)).trans g7⟩

set_option maxHeartbeats 1600000 in
set_option maxRecDepth 100000 in
theorem step_free (kd on no t : Int) (fm : Bool) {w : World} {bx bm br : Nat} {v : Value} {s : Orc} (hB : Both w bx bm br v s) (hg : Good s) (hwf : OpV.wf ⟨kd, on, no, t, fm⟩) (hk : kd = 5) :
    Calls Try.prog 21 #[.pointer (some ⟨bx, 0, none⟩), .pointer (some ⟨br, 0, none⟩), .agg (OpV.cells ⟨kd, on, no, t, fm⟩)] w (StepPost w bx bm br s) := by
  have HK := Lib.hid hk
  clear hk
  obtain ⟨hox, href, n1, n2⟩ := hB
  obtain ⟨-, r1, -, -, -⟩ := href.cells
  have hxlt : bx < w.heap.size := (Array.getElem?_eq_some_iff.1 hox.blk).1
  have hmlt : bm < w.heap.size := hox.map.lt
  have hrlt : br < w.heap.size := (Array.getElem?_eq_some_iff.1 href.blk).1
  have hblk := heap_alloc_new w (.cells #[.int .i64 kd, .int .i64 on, .int .i64 no, .int .i64 t, .bool fm] 32)
  have fa := (Fr.refl [] w).alloc (.cells #[.int .i64 kd, .int .i64 on, .int .i64 no, .int .i64 t, .bool fm] 32)
  have hox1 := hox.fr fa (by simp) (by simp)
  have href1 := href.fr fa (by simp) (NoRow.nil _)
  have r11 := fa.cell r1 (by simp)
  unfold OpV.cells
  go_enter Try.func21, Try.ntmps21
  go_upto_region 1 with fail
  generalize w.alloc (.cells #[.int .i64 kd, .int .i64 on, .int .i64 no, .int .i64 t, .bool fm] 32) = w1 at *
  generalize w.heap.size = bo at *
  have n1' := n1
  go_cut [7] (fun a7 wx => a7 = .int .i64 (OpV.at ⟨kd, on, no, t, fm⟩ s.read) ∧ Fr [] w1 wx)
  case first =>
    have d0 : w1.cell? ⟨bo, 0, none⟩ = some (.int .i64 kd) := by simp [World.cell?, hblk]
    have d1 : w1.cell? ⟨bo, 1, none⟩ = some (.int .i64 on) := by simp [World.cell?, hblk]
    have d2 : w1.cell? ⟨bo, 2, none⟩ = some (.int .i64 no) := by simp [World.cell?, hblk]
    have d3 : w1.cell? ⟨bo, 3, none⟩ = some (.int .i64 t) := by simp [World.cell?, hblk]
    have d4 : w1.cell? ⟨bo, 4, none⟩ = some (.bool fm) := by simp [World.cell?, hblk]
    go_region_with (go_at_call 11; refine (time_any ⟨kd, on, no, t, fm⟩ s.read _).mono ?_; rintro e w5 ⟨rfl, f5⟩)
    all_goals (go_wp2_with fail; go_meet; exact ⟨rfl, (Fr.drew (Fr.refl [] _)).trans f5⟩)
  generalize wc = wx at *
  obtain ⟨rfl, f5⟩ := hcut
  have ox := hox1.fr f5 (by simp) (by simp)
  have rf := href1.fr f5 (by simp) (NoRow.nil _)
  have hb5 := f5.heap hblk (by simp)
  have d0 : wx.cell? ⟨bo, 0, none⟩ = some (.int .i64 kd) := by simp [World.cell?, hb5]
  have d2 : wx.cell? ⟨bo, 2, none⟩ = some (.int .i64 no) := by simp [World.cell?, hb5]
  have fx := fa.trans f5
  have hno := hwf.no
  simp only at hno
  obtain ⟨tt, htt⟩ : ∃ tt, OpV.at ⟨kd, on, no, t, fm⟩ s.read = tt := ⟨_, rfl⟩
  rw [htt]
  have q0 := hg.r0
  have q1 := hg.rl
  have q2 := hg.lm
  have q3 := leastLo hg
  have q4 := (leastOf_le s.L s.read).1
  have q5 := hg.few
  have q6 := hg.m0
  clear htt f5 hox1 href1 hwf hblk fa hox href r1 r11 hb5 n1'
  have hk := HK.out
  subst hk
  cases hT : timeOf s.L no with
  | none =>
    have HT := Lib.hid hT
    clear hT
    go_wp2_with fail
    go_region_held3 (fun w' => w'.cell? ⟨bo, 2, none⟩ = some (.int .i64 no) ∧ Fr [] wx w')
      (first
        | exact ⟨d2, Fr.drew (Fr.refl _ _)⟩
        | (go_split_ands; exact ⟨d2, (by assumption)⟩)
        | (go_split_ands; exact ⟨g6.cell d2 (by simp), g6⟩)
        | (go_split_ands; exact ⟨g7.cell d2 (by simp), g7⟩))
      (first
        | (go_at_call 16; refine (free_no (ox.fr (Fr.drew (Fr.refl [] _)) (by simp) (by simp)) no hno HT.out).mono ?_; rintro e w6 ⟨rfl, f6⟩; have g6 : Fr [] wx w6 := (Fr.drew (Fr.refl _ _)).trans f6; have o6 := ox.fr g6 (by simp) (by simp); have rf6 := rf.fr g6 (by simp) (NoRow.nil _))
        | (go_at_call 28; refine (rfree_no rf6 hg no HT.out).mono ?_; rintro e w7 ⟨rfl, f7⟩; have g7 : Fr [] wx w7 := g6.trans f7))
    go_wp2_with fail
    go_ret
    exact ⟨rfl, s, ox.fr g7 (by simp) (by simp), ⟨_, rf.fr g7 (by simp) (NoRow.nil _)⟩, hg, by omega, (fx.trans g7).mono (by simp)⟩

  | some t0 =>
    have HT := Lib.hid hT
    clear hT
    go_wp2_with fail
    go_region_held3 (fun w' => w'.cell? ⟨bo, 2, none⟩ = some (.int .i64 no) ∧ Fr [bx, bm, br] wx w')
      (first
        | exact ⟨d2, Fr.drew (Fr.refl _ _)⟩
        | (go_split_ands; exact ⟨d2, (by assumption)⟩)
        | (go_split_ands; exact ⟨g6.cell d2 (by simp; omega), g6⟩)
        | (go_split_ands; exact ⟨g7.cell d2 (by simp; omega), g7⟩))
      (first
        | (go_at_call 16; refine (free_yes (ox.fr (Fr.drew (Fr.refl [] _)) (by simp) (by simp)) no t0 hno HT.out).mono ?_; rintro e w6 ⟨rfl, o6, f6⟩; have f6' := (Fr.drew (Fr.refl [] wx)).nil.trans f6; have g6 : Fr [bx, bm, br] wx w6 := f6'.mono (by simp); have rf6 := rf.aside ox f6' (by simp) n1 n2)
        | (go_at_call 28; refine (rfree_yes rf6 hg no t0 HT.out).mono ?_; rintro e w7 ⟨rfl, r7, f7⟩; have g7 : Fr [bx, bm, br] wx w7 := g6.trans (f7.mono (by simp)); have o7 := o6.fr f7 (by simp; exact n1) (by simp; exact n2)))
    go_wp2_with fail
    go_ret
    exact ⟨rfl, { s with L := without s.L no }, o7, r7, (hg.free no).1, by simp only; omega, (fx.mono (by simp)).trans g7⟩


set_option maxHeartbeats 1600000 in
set_option maxRecDepth 100000 in
theorem step_other (kd on no t : Int) (fm : Bool) {w : World} {bx bm br : Nat} {v : Value} {s : Orc} (hB : Both w bx bm br v s) (hg : Good s) (k1 : kd ≠ 1) (k2 : kd ≠ 2) (k3 : kd ≠ 3) (k4 : kd ≠ 4) (k5 : kd ≠ 5) :
    Calls Try.prog 21 #[.pointer (some ⟨bx, 0, none⟩), .pointer (some ⟨br, 0, none⟩), .agg (OpV.cells ⟨kd, on, no, t, fm⟩)] w (StepPost w bx bm br s) := by
  have h1 : (kd == 1) = false := by simpa using k1
  have h2 : (kd == 2) = false := by simpa using k2
  have h3 : (kd == 3) = false := by simpa using k3
  have h4 : (kd == 4) = false := by simpa using k4
  have h5 : (kd == 5) = false := by simpa using k5
  clear k1 k2 k3 k4 k5
  obtain ⟨hox, href, n1, n2⟩ := hB
  obtain ⟨-, r1, -, -, -⟩ := href.cells
  have hrlt : br < w.heap.size := (Array.getElem?_eq_some_iff.1 href.blk).1
  have hblk := heap_alloc_new w (.cells #[.int .i64 kd, .int .i64 on, .int .i64 no, .int .i64 t, .bool fm] 32)
  have fa := (Fr.refl [] w).alloc (.cells #[.int .i64 kd, .int .i64 on, .int .i64 no, .int .i64 t, .bool fm] 32)
  have hox1 := hox.fr fa (by simp) (by simp)
  have href1 := href.fr fa (by simp) (NoRow.nil _)
  have r11 := fa.cell r1 (by simp)
  unfold OpV.cells
  go_enter Try.func21, Try.ntmps21
  go_upto_region 1 with fail
  generalize w.alloc (.cells #[.int .i64 kd, .int .i64 on, .int .i64 no, .int .i64 t, .bool fm] 32) = w1 at *
  generalize w.heap.size = bo at *
  have n1' := n1
  go_cut [7] (fun a7 wx => a7 = .int .i64 (OpV.at ⟨kd, on, no, t, fm⟩ s.read) ∧ Fr [] w1 wx)
  case first =>
    have d0 : w1.cell? ⟨bo, 0, none⟩ = some (.int .i64 kd) := by simp [World.cell?, hblk]
    have d1 : w1.cell? ⟨bo, 1, none⟩ = some (.int .i64 on) := by simp [World.cell?, hblk]
    have d2 : w1.cell? ⟨bo, 2, none⟩ = some (.int .i64 no) := by simp [World.cell?, hblk]
    have d3 : w1.cell? ⟨bo, 3, none⟩ = some (.int .i64 t) := by simp [World.cell?, hblk]
    have d4 : w1.cell? ⟨bo, 4, none⟩ = some (.bool fm) := by simp [World.cell?, hblk]
    go_region_with (go_at_call 11; refine (time_any ⟨kd, on, no, t, fm⟩ s.read _).mono ?_; rintro e w5 ⟨rfl, f5⟩)
    all_goals (go_wp2_with fail; go_meet; exact ⟨rfl, (Fr.drew (Fr.refl [] _)).trans f5⟩)
  generalize wc = wx at *
  obtain ⟨rfl, f5⟩ := hcut
  have ox := hox1.fr f5 (by simp) (by simp)
  have rf := href1.fr f5 (by simp) (NoRow.nil _)
  have hb5 := f5.heap hblk (by simp)
  have d0 : wx.cell? ⟨bo, 0, none⟩ = some (.int .i64 kd) := by simp [World.cell?, hb5]
  have d2 : wx.cell? ⟨bo, 2, none⟩ = some (.int .i64 no) := by simp [World.cell?, hb5]
  have fx := fa.trans f5
  obtain ⟨tt, htt⟩ : ∃ tt, OpV.at ⟨kd, on, no, t, fm⟩ s.read = tt := ⟨_, rfl⟩
  rw [htt]
  have q0 := hg.r0
  have q1 := hg.rl
  have q2 := hg.lm
  have q3 := leastLo hg
  have q4 := (leastOf_le s.L s.read).1
  have q5 := hg.few
  have q6 := hg.m0
  clear htt f5 hox1 href1 hblk fa hox href r1 r11 hb5 n1'
  go_wp2_with fail
  go_ret
  exact ⟨rfl, s, ox, ⟨_, rf⟩, hg, by omega, fx.mono (by simp)⟩

theorem step_any (kd on no t : Int) (fm : Bool) {w : World} {bx bm br : Nat} {v : Value} {s : Orc} (hB : Both w bx bm br v s) (hg : Good s) (hm : s.made < 1099511627776) (hwf : OpV.wf ⟨kd, on, no, t, fm⟩) :
    Calls Try.prog 21 #[.pointer (some ⟨bx, 0, none⟩), .pointer (some ⟨br, 0, none⟩), .agg (OpV.cells ⟨kd, on, no, t, fm⟩)] w (StepPost w bx bm br s) := by
  by_cases k1 : kd = 1
  · exact step_write kd on no t fm hB hg hwf k1
  by_cases k2 : kd = 2
  · exact step_settle kd on no t fm hB hg hwf k2
  by_cases k3 : kd = 3
  · exact step_hold kd on no t fm hB hg hm hwf k3
  by_cases k4 : kd = 4
  · exact step_move kd on no t fm hB hg hwf k4
  by_cases k5 : kd = 5
  · exact step_free kd on no t fm hB hg hwf k5
  exact step_other kd on no t fm hB hg k1 k2 k3 k4 k5

end Go.Proofs.Ytdmhiefjmejfpaa
