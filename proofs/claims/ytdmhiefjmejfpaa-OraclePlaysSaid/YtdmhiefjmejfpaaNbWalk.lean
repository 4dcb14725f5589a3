/- The walk of OracleNeverBack. -/
import Derived.Test.YtdmhiefjmejfpaaNbPlain
import Derived.Deep.DeepCutAuto
import Derived.Deep.CutBlock
import Derived.Deep.RegionWith
namespace Go.Proofs.Ytdmhiefjmejfpaa
open Go.RowKit Go.Maps

/-- A call of the script, as its five cells hold it. -/
structure OpV where
  kind : Int
  on : Int
  no : Int
  time : Int
  frm : Bool

def OpV.cells (o : OpV) : Array Value := #[.int .i64 o.kind, .int .i64 o.on, .int .i64 o.no, .int .i64 o.time, .bool o.frm]
structure OpV.wf (o : OpV) : Prop where
  kind : (Lit.int .i64 o.kind).wf = true
  on : (Lit.int .i64 o.on).wf = true
  no : (Lit.int .i64 o.no).wf = true
  time : (Lit.int .i64 o.time).wf = true

def OpV.at (o : OpV) (r : Int) : Int := if o.frm then wrap64 (r + o.time) else o.time

theorem time_any (o : OpV) (r : Int) (w : World) : Calls Try.prog 11 #[.agg o.cells, .int .i64 r] w fun e w' => e = .returned (.int .i64 (o.at r)) ∧ Fr [] w w' := by
  obtain ⟨k, on, no, t, f⟩ := o
  unfold OpV.cells
  cases f
  · go_enter Try.func11, Try.ntmps11
    go_wp2
    go_ret
    exact ⟨rfl, (Fr.refl _ _).alloc _⟩
  · go_enter Try.func11, Try.ntmps11
    go_wp2
    go_ret
    exact ⟨ret_int (by simp [OpV.at]), (Fr.refl _ _).alloc _⟩

theorem cut_le (ad : Option Addr) (len cap : Nat) (w : World) (h : len ≤ 400) : Calls Try.prog 10 #[.slice ad len cap, .int .i64 400] w fun e w' => e = .returned (.slice ad len cap) ∧ w = w' := by
  go_enter Try.func10, Try.ntmps10
  go_wp2
  go_ret
  exact ⟨rfl, rfl⟩

theorem cut_gt (ad : Addr) (len cap : Nat) (w : World) (h : 400 < len) (hc : len ≤ cap) (hm : cap ≤ maxLen) : Calls Try.prog 10 #[.slice (some ad) len cap, .int .i64 400] w fun e w' => e = .returned (.slice (some ad) 400 cap) ∧ w = w' := by
  unfold maxLen at hm
  go_enter Try.func10, Try.ntmps10
  go_wp2
  go_ret
  exact ⟨rfl, rfl⟩

theorem info40 : (Try.prog.info? 40).map (fun i => (i.zero, i.size, i.bytes)) = some (some (.agg #[.int .i64 0, .int .i64 0]), 2, 16) := by kernel_rfl

theorem cell_two_new (w : World) (x y : Value) (t : TypeId) : ∀ j u, [x, y][j]? = some u → (w.alloc (.cells #[x, y] t)).cell? ((⟨w.heap.size, 0, none⟩ : Addr).add j) = some u := by
  intro j u hj
  match j, hj with
  | 0, hj => simp at hj; subst hj; simp [Addr.add]
  | 1, hj => simp at hj; subst hj; simp [Addr.add]

theorem row_ne {w : World} {base e e' size n g c b : Nat} {xs : List Value} {cs : Array Value} {fz : Nat × Nat} (h : w.ownsRow base e size (.slice (some ⟨g, 0, none⟩) n c) n xs) (hb : w.heap[b]? = some (.cells cs e' fz)) (hne : e ≠ e') : g ≠ b := by
  obtain ⟨h1, h2⟩ := h
  rcases h2 with ⟨h2, -⟩ | ⟨g', cap, cur, hv, hg, hh, -⟩
  · simp at h2
  · simp at hv
    obtain ⟨rfl, rfl⟩ := hv
    rintro rfl
    rw [hh] at hb
    simp at hb
    exact hne hb.2.1

theorem Fr.drewN {S : List Nat} {a b : World} (h : Fr S a b) {n : Nat} : Fr S a (b.drewN n) := ⟨h.os, h.tape, h.output, h.size, h.block⟩

theorem store_step {w0 w : World} {base n g c j : Nat} {xs : List Value} {u : Value} (hrow : w.ownsRow base 40 2 (.slice (some ⟨g, 0, none⟩) n c) n xs) (hfr : Fr [] w0 w) (hB : base ≤ g) (hb0 : w0.heap.size ≤ base) :
    Fr [] w0 (w.setCell ⟨g, j, none⟩ u) ∧ (w.setCell ⟨g, j, none⟩ u).heap.size = w.heap.size ∧ (w.setCell ⟨g, j, none⟩ u).ownsRow base 40 2 (.slice (some ⟨g, 0, none⟩) n c) n (xs.set j u) ∧
      (∀ b, b ≠ g → (w.setCell ⟨g, j, none⟩ u).heap[b]? = w.heap[b]?) ∧ ∀ {bx bm : Nat} {s : Orc}, Own w bx bm s → bx < base → bm < base → Own (w.setCell ⟨g, j, none⟩ u) bx bm s := by
  have hf : Fr [g] w (w.setCell ⟨g, j, none⟩ u) := (Fr.refl _ _).setCell (by simp) _
  refine ⟨hfr.past hf (by simp; omega), by simp [World.setCell], (hrow.stored j u).1, fun b hb => Below.heap_setCell _ _ _ _ hb, ?_⟩
  intro bx bm s ho h1 h2
  exact ho.fr hf (by simp; omega) (by simp; omega)

theorem row_base {w : World} {base base' e size n : Nat} {v : Value} {xs : List Value} (h : w.ownsRow base e size v n xs) (hb : base' ≤ base) : w.ownsRow base' e size v n xs := by
  obtain ⟨h1, h2⟩ := h
  refine ⟨h1, ?_⟩
  rcases h2 with h2 | ⟨g, cap, cur, hv, hg, r⟩
  · exact Or.inl h2
  · exact Or.inr ⟨g, cap, cur, hv, by omega, r⟩

theorem cell_two_next (w : World) (o : Obj) (x y : Value) (t : TypeId) : ∀ j u, [x, y][j]? = some u → ((w.alloc o).alloc (.cells #[x, y] t)).cell? ((⟨w.heap.size + 1, 0, none⟩ : Addr).add j) = some u := by
  have e : w.heap.size + 1 = (w.alloc o).heap.size := by simp
  rw [e]
  exact cell_two_new _ x y t

theorem row_slice {w : World} {base e size n : Nat} {v : Value} {xs : List Value} (h : w.ownsRow base e size v n xs) : ∃ ad cap, v = .slice ad n cap ∧ (0 < n → ∃ g, ad = some ⟨g, 0, none⟩ ∧ base ≤ g) := by
  obtain ⟨h1, h2⟩ := h
  rcases h2 with ⟨rfl, rfl⟩ | ⟨g, cap, cur, rfl, hg, _⟩
  · exact ⟨none, 0, rfl, fun h => by omega⟩
  · exact ⟨_, cap, rfl, fun _ => ⟨g, rfl, hg⟩⟩

set_option maxRecDepth 100000 in
theorem nb_bad (F : Int) (v : Value) (w : World) (hF : F < 0 ∨ 1099511627776 < F) :
    Calls Try.prog 3 #[.int .i64 F, v] w fun e w' => e = .returned (.bool true) ∧ Below w.heap.size w w' := by
  by_cases h1 : F < 0
  · clear hF
    go_enter Try.func3, Try.ntmps3
    go_wp2_with (go_at_call 6; refine (known_any _).mono ?_; rintro e w1 ⟨rfl, f1⟩)
    go_ret
    exact ⟨rfl, f1.below (Nat.le_refl _) (by simp)⟩
  · have h2 : 1099511627776 < F := by omega
    clear hF
    go_enter Try.func3, Try.ntmps3
    go_wp2_with (go_at_call 6; refine (known_any _).mono ?_; rintro e w1 ⟨rfl, f1⟩)
    go_ret
    exact ⟨rfl, f1.below (Nat.le_refl _) (by simp)⟩

set_option maxHeartbeats 16000000 in
set_option maxRecDepth 100000 in
theorem nb_good (F : Int) (ad : Option Addr) (len cap : Nat) (ops : Nat → OpV) (w : World) (h0 : 0 ≤ F) (h1 : F ≤ 1099511627776) (hcut : ∀ w0 : World, Calls Try.prog 10 #[.slice ad len cap, .int .i64 400] w0 fun e w' => e = .returned (.slice ad (min len 400) cap) ∧ w0 = w')
    (hops : ∀ i, i < min len 400 → (ops i).wf ∧ ∃ b off, ad = some ⟨b, off, none⟩ ∧ b < w.heap.size ∧ ∀ j, j < 5 → w.cell? ⟨b, off + i * 5 + j, none⟩ = (ops i).cells[j]?) :
    Calls Try.prog 3 #[.int .i64 F, .slice ad len cap] w fun e w' => e = .returned (.bool true) ∧ Below w.heap.size w w' := by
  obtain ⟨i0, hi, hz0, hz1, hz2⟩ := info_parts info40
  have HC := Lib.hid hcut
  have HO := Lib.hid hops
  clear hcut hops
  obtain ⟨n, hn⟩ : ∃ n, min len 400 = n := ⟨_, rfl⟩
  have hn400 : n ≤ 400 := by omega
  rw [hn] at HC HO
  clear hn
  go_enter Try.func3, Try.ntmps3
  go_wp2_with fail
  refine (new_yes F h0 (by omega)).mono ?_
  rintro e w1 ⟨bx, bm, rfl, hbx, hbm, o1, f1⟩
  go_wp2_with fail
  refine (known_any _).mono ?_
  rintro e w2 ⟨rfl, f2⟩
  have o2 := o1.fr f2 (by simp) (by simp)
  have f12 := f1.trans f2
  clear f1 f2 o1
  go_wp2_with fail
  refine (read_any o2).mono ?_
  rintro e w' ⟨rfl, rfl⟩
  go_wp2_with fail
  refine (least_any o2 (new_good F h0 h1)).mono ?_
  rintro e w3 ⟨rfl, f3⟩
  have o3 := o2.fr f3 (by simp) (by simp)
  have f13 := f12.trans f3
  clear f12 f3 o2
  go_wp2_with fail
  refine (HC.out _).mono ?_
  rintro e w' ⟨rfl, rfl⟩
  have hB1 : bx < w3.heap.size := (Array.getElem?_eq_some_iff.1 o3.blk).1
  have hB2 : bm < w3.heap.size := o3.map.lt
  have hS : ∀ x ∈ [bx, bm], w.heap.size ≤ x ∨ x ∈ ([] : List Nat) := by simp; omega
  have hR : ∀ x ∈ [bx, bm], x < w3.heap.size := by simp; omega
  go_wp2_with fail
  go_loopw [7, 8, 9, 10, 56] (fun a7 a8 a9 a10 i wr => ∃ (k : Nat) (s : Orc), k ≤ n ∧ i = .int .i64 k ∧ a7 = .int .i64 s.last ∧ a8 = .int .i64 s.read ∧ a9 = .int .i64 (leastOf s.read s.L) ∧ Own wr bx bm s ∧ Good s ∧ s.made ≤ k ∧
      wr.ownsRow w3.heap.size 40 2 a10 s.L.length (flat s.L) ∧ Fr [] w wr ∧ w3.heap.size ≤ wr.heap.size)
    (fun _ _ _ _ i _ => n - (intOf i).toNat)
  case atStart => exact ⟨0, _, by omega, rfl, rfl, rfl, rfl, o3, new_good F h0 h1, Int.le_refl _, World.ownsRow_nil _ _ _ _, f13, Nat.le_refl _⟩
  case round =>
    obtain ⟨k, s, hk, rfl, rfl, rfl, rfl, hox, hg, hmk, hrow, hfr, hsz⟩ := hrel
    by_cases hlt : k < n
    · obtain ⟨hwf, b, off, had, hbw, hcs⟩ := HO.out k hlt
      subst had
      have hbf : ∀ j, j < 5 → wr.cell? ⟨b, off + k * 5 + j, none⟩ = (ops k).cells[j]? := fun j hj => (World.cell?_of_block (hfr.block b hbw (by simp))).trans (hcs j hj)
      have hc0 := hbf 0 (by omega)
      have hc1 := hbf 1 (by omega)
      have hc2 := hbf 2 (by omega)
      have hc3 := hbf 3 (by omega)
      have hc4 := hbf 4 (by omega)
      generalize ops k = o at *
      obtain ⟨kd, on, no, t, fm⟩ := o
      simp [OpV.cells] at hc0 hc1 hc2 hc3 hc4
      clear hbf hcs
      go_upto_region 11 with fail
      have hblk := heap_alloc_new wr (.cells #[.int .i64 kd, .int .i64 on, .int .i64 no, .int .i64 t, .bool fm] 32)
      have hox1 := hox.fr ((Fr.refl [] wr).alloc (.cells #[.int .i64 kd, .int .i64 on, .int .i64 no, .int .i64 t, .bool fm] 32)) (by simp) (by simp)
      have hrow1 := hrow.alloc (.cells #[.int .i64 kd, .int .i64 on, .int .i64 no, .int .i64 t, .bool fm] 32)
      have hfr1 := hfr.alloc (.cells #[.int .i64 kd, .int .i64 on, .int .i64 no, .int .i64 t, .bool fm] 32)
      have hsz1 : w3.heap.size ≤ (wr.alloc (.cells #[.int .i64 kd, .int .i64 on, .int .i64 no, .int .i64 t, .bool fm] 32)).heap.size := by simp; omega
      have hsz2 : w3.heap.size ≤ wr.heap.size := hsz
      generalize wr.alloc (.cells #[.int .i64 kd, .int .i64 on, .int .i64 no, .int .i64 t, .bool fm] 32) = w4 at *
      clear hc0 hc1 hc2 hc3 hc4 hox hrow hfr hsz
      generalize wr.heap.size = bo at *
      go_cut [13] (fun a13 wx => a13 = .int .i64 (OpV.at ⟨kd, on, no, t, fm⟩ s.read) ∧ Fr [] w4 wx)
      case first =>
        as_aux_lemma =>
        have d0 : w4.cell? ⟨bo, 0, none⟩ = some (.int .i64 kd) := by simp [World.cell?, hblk]
        have d1 : w4.cell? ⟨bo, 1, none⟩ = some (.int .i64 on) := by simp [World.cell?, hblk]
        have d2 : w4.cell? ⟨bo, 2, none⟩ = some (.int .i64 no) := by simp [World.cell?, hblk]
        have d3 : w4.cell? ⟨bo, 3, none⟩ = some (.int .i64 t) := by simp [World.cell?, hblk]
        have d4 : w4.cell? ⟨bo, 4, none⟩ = some (.bool fm) := by simp [World.cell?, hblk]
        go_region_with (first
          | (go_at_call 8; refine (read_any (hox1.fr (Fr.drew (Fr.refl [] _)) (by simp) (by simp))).mono ?_; rintro e w' ⟨rfl, rfl⟩)
          | (go_at_call 11; refine (time_any ⟨kd, on, no, t, fm⟩ s.read _).mono ?_; rintro e w5 ⟨rfl, f5⟩))
        all_goals (go_wp2_with fail; go_meet; exact ⟨rfl, (Fr.drew (Fr.refl [] _)).trans f5⟩)
      case rest =>
        generalize wc = wx at *
        obtain ⟨rfl, hf5⟩ := hcut
        have hox5 := hox1.fr hf5 (by simp) (by simp)
        have hrow5 := ownsRow_fr hrow1 hf5 (by simp)
        have hfr5 := hfr1.trans hf5
        have hblk5 := hf5.heap hblk (by simp)
        have hsz5 := hf5.size
        have d0 : wx.cell? ⟨bo, 0, none⟩ = some (.int .i64 kd) := by simp [World.cell?, hblk5]
        have d2 : wx.cell? ⟨bo, 2, none⟩ = some (.int .i64 no) := by simp [World.cell?, hblk5]
        obtain ⟨tt, htt⟩ : ∃ tt, OpV.at ⟨kd, on, no, t, fm⟩ s.read = tt := ⟨_, rfl⟩
        rw [htt]
        have hno := hwf.no
        simp only at hno
        clear htt hf5 hox1 hrow1 hfr1 hwf
        go_upto_block 2 with fail
        go_cut [7, 10] (fun a7 a10 wy => ∃ s' : Orc, a7 = .int .i64 s'.last ∧ Own wy bx bm s' ∧ Good s' ∧ s'.made ≤ k + 1 ∧ s.read ≤ s'.read ∧ leastOf s.read s.L ≤ leastOf s'.read s'.L ∧
          wy.ownsRow w3.heap.size 40 2 a10 s'.L.length (flat s'.L) ∧ Fr [] w wy ∧ w3.heap.size ≤ wy.heap.size)
        case first =>
          have q0 := hg.r0
          have q1 := hg.rl
          have q2 := hg.lm
          have q3 := leastLo hg
          have q4 := (leastOf_le s.L s.read).1
          have q5 := hg.few
          have q6 := hg.m0
          by_cases k1 : kd = 1
          · as_aux_lemma =>
            subst k1
            by_cases hl : s.last < 1099511627776
            · go_wp2_with fail
              refine (write_some hox5 hl (by omega)).mono ?_
              rintro e w6 ⟨rfl, o6, f6⟩
              have r6 := ownsRow_fr hrow5 f6 (by simp; omega)
              have fr6 := hfr5.past f6 (by simp; omega)
              have hs6 := f6.size
              go_wp2_with fail
              go_meet
              exact ⟨{ s with last := s.last + 1 }, rfl, o6, hg.write hl, by simp only; omega, Int.le_refl _, Int.le_refl _, r6, fr6, by omega⟩
            · go_wp2_with fail
              refine (write_full hox5 (by omega)).mono ?_
              rintro e w6 ⟨rfl, rfl⟩
              go_wp2_with fail
              go_meet
              exact ⟨s, rfl, hox5, hg, by omega, Int.le_refl _, Int.le_refl _, hrow5, hfr5, by omega⟩
          by_cases k2 : kd = 2
          · as_aux_lemma =>
            subst k2
            by_cases hl : s.read ≤ tt
            · by_cases hl2 : tt ≤ s.last
              · go_wp2_with fail
                refine (settle_yes hox5 tt hl hl2).mono ?_
                rintro e w6 ⟨rfl, o6, f6⟩
                have r6 := ownsRow_fr hrow5 f6 (by simp; omega)
                have fr6 := hfr5.past f6 (by simp; omega)
                have hs6 := f6.size
                go_wp2_with fail
                refine (read_any o6).mono ?_
                rintro e w' ⟨rfl, rfl⟩
                have hb : (tt != tt) = false := by simp
                go_wp2_with fail
                go_meet
                exact ⟨{ s with read := tt }, rfl, o6, (hg.settle tt hl hl2).1, by simp only; omega, hl, (hg.settle tt hl hl2).2, r6, fr6, by omega⟩
              · go_wp2_with fail
                refine (settle_no hox5 tt (Or.inr (by omega))).mono ?_
                rintro e w6 ⟨rfl, rfl⟩
                go_wp2_with fail
                go_meet
                exact ⟨s, rfl, hox5, hg, by omega, Int.le_refl _, Int.le_refl _, hrow5, hfr5, by omega⟩
            · go_wp2_with fail
              refine (settle_no hox5 tt (Or.inl (by omega))).mono ?_
              rintro e w6 ⟨rfl, rfl⟩
              go_wp2_with fail
              go_meet
              exact ⟨s, rfl, hox5, hg, by omega, Int.le_refl _, Int.le_refl _, hrow5, hfr5, by omega⟩
          by_cases k3 : kd = 3
          · as_aux_lemma =>
            subst k3
            by_cases hl : tt < leastOf s.read s.L
            · go_wp2_with fail
              refine (hold_since hox5 hg tt hl).mono ?_
              rintro e w6 ⟨rfl, f6⟩
              go_wp2_with fail
              go_meet
              exact ⟨s, rfl, hox5.fr f6 (by simp) (by simp), hg, by omega, Int.le_refl _, Int.le_refl _, ownsRow_fr hrow5 f6 (by simp), hfr5.trans f6, by have := f6.size; omega⟩
            by_cases hl2 : s.read < tt
            · go_wp2_with fail
              refine (hold_upper hox5 hg tt (by omega) hl2).mono ?_
              rintro e w6 ⟨rfl, f6⟩
              go_wp2_with fail
              go_meet
              exact ⟨s, rfl, hox5.fr f6 (by simp) (by simp), hg, by omega, Int.le_refl _, Int.le_refl _, ownsRow_fr hrow5 f6 (by simp), hfr5.trans f6, by have := f6.size; omega⟩
            by_cases hl3 : 64 ≤ s.L.length
            · go_wp2_with fail
              refine (hold_long hox5 hg tt (by omega) (by omega) hl3).mono ?_
              rintro e w6 ⟨rfl, f6⟩
              go_wp2_with fail
              go_meet
              exact ⟨s, rfl, hox5.fr f6 (by simp) (by simp), hg, by omega, Int.le_refl _, Int.le_refl _, ownsRow_fr hrow5 f6 (by simp), hfr5.trans f6, by have := f6.size; omega⟩
            go_wp2_with fail
            refine (hold_yes hox5 hg tt (by omega) (by omega) (by omega) (by omega)).mono ?_
            rintro e w6 ⟨rfl, o6, f6⟩
            have r6 := ownsRow_fr hrow5 f6 hR
            have fr6 := hfr5.past f6 hS
            have hs6 := f6.size
            go_wp2_with (at_builtin; refine wpList_append_own _ rfl _ _ 29 rfl w3.heap.size 40 i0 (.agg #[.int .i64 0, .int .i64 0]) 2 16 Try.underlying29 hi hz0 hz1 hz2 rfl (by decide) _ _ _ rfl (r6.alloc _) ⟨w6.heap.size, 0, none⟩ 1 1 [.int .i64 (s.made + 1), .int .i64 tt] rfl rfl (cell_two_new _ _ _ _) (ints_oneCell .i64 [s.made + 1, tt]) (by unfold maxLen; omega) (by omega) (by simp; omega) ?_; intro v' w7 r7 hgrow7 _)
            obtain ⟨fr7, hs7, ho7⟩ := append_step r6 hgrow7 fr6 f13.size
            go_meet
            exact ⟨{ s with L := s.L ++ [(s.made + 1, tt)], made := s.made + 1 }, rfl, ho7 o6 hB1 hB2, (hg.hold tt (by omega) (by omega) (by omega) (by omega)).1, by simp only; omega, Int.le_refl _, (hg.hold tt (by omega) (by omega) (by omega) (by omega)).2, by simp only [List.length_append, List.length_singleton, flat_append, flat_one]; exact r7, fr7, by omega⟩
          by_cases k4 : kd = 4
          · as_aux_lemma =>
            subst k4
            cases hT : timeOf s.L no with
            | none =>
              go_wp2_with fail
              refine (move_none hox5 no tt hno hT).mono ?_
              rintro e w6 ⟨rfl, rfl⟩
              clear hT
              go_wp2_with fail
              go_meet
              exact ⟨s, rfl, hox5, hg, by omega, Int.le_refl _, Int.le_refl _, hrow5, hfr5, by omega⟩
            | some t0 =>
              by_cases hl : tt < t0
              · go_wp2_with fail
                refine (move_since hox5 no tt t0 hno hT hl).mono ?_
                rintro e w6 ⟨rfl, rfl⟩
                clear hT
                go_wp2_with fail
                go_meet
                exact ⟨s, rfl, hox5, hg, by omega, Int.le_refl _, Int.le_refl _, hrow5, hfr5, by omega⟩
              by_cases hl2 : s.read < tt
              · go_wp2_with fail
                refine (move_upper hox5 no tt t0 hno hT (by omega) hl2).mono ?_
                rintro e w6 ⟨rfl, rfl⟩
                clear hT
                go_wp2_with fail
                go_meet
                exact ⟨s, rfl, hox5, hg, by omega, Int.le_refl _, Int.le_refl _, hrow5, hfr5, by omega⟩
              have HT := Lib.hid hT
              clear hT
              go_wp2_with fail
              refine (move_yes hox5 hg no tt t0 hno HT.out (by omega) (by omega)).mono ?_
              rintro e w6 ⟨rfl, o6, f6⟩
              have r6 := ownsRow_fr hrow5 f6 (by simp; omega)
              have fr6 := hfr5.past f6 (by simp; omega)
              have hs6 := f6.size
              have hblk6 := f6.heap hblk5 (by simp; omega)
              obtain ⟨ad10, cap10, rfl, hg10⟩ := row_slice r6
              clear f6 hox5 hrow5 hfr5 hblk5 d0 d2
              go_wp2_with fail
              obtain ⟨wz, rfl⟩ : ∃ wz : World, wz = wr := ⟨_, rfl⟩
              go_loopw [19, 143] (fun a19 i wr => ∃ q : Nat, q ≤ s.L.length ∧ i = .int .i64 q ∧ a19 = .bool (seenNo s.L no q) ∧ Own wr bx bm { s with L := setT s.L no tt } ∧
                  wr.ownsRow w3.heap.size 40 2 (.slice ad10 s.L.length cap10) s.L.length (flat (movT s.L no tt q)) ∧ Fr [] w wr ∧ w3.heap.size ≤ wr.heap.size ∧ wr.heap[bo]? = w6.heap[bo]?)
                (fun _ i _ => s.L.length - (intOf i).toNat)
              case atStart => exact ⟨0, by omega, rfl, by rw [seenNo_zero], o6, by rw [movT_zero]; exact r6, fr6, by omega, rfl⟩
              case round =>
                obtain ⟨q, hq, rfl, rfl, hoq, hrq, hfq, hsq, hbq⟩ := hrel
                have HS := Lib.hid (seenNo_end HT.out)
                by_cases hlq : q < s.L.length
                · obtain ⟨g, rfl, hgB⟩ := hg10 (by omega)
                  have hcq := (row_cells hrq).1
                  have hfz := (row_cells hrq).2 (q * 2 + 1)
                  have e0 := hcq (q * 2) (by omega)
                  have e1 := hcq (q * 2 + 1) (by omega)
                  have hlm : q < (movT s.L no tt q).length := by rw [movT_len]; exact hlq
                  rw [(flat_get hlm).1, movT_get hlq] at e0
                  rw [(flat_get hlm).2, movT_get hlq] at e1
                  have d2 : wr.cell? ⟨bo, 2, none⟩ = some (.int .i64 no) := by simp [World.cell?, hbq, hblk6]
                  have hne := row_ne hrq (hbq.trans hblk6) (by decide)
                  have HM := Lib.hid (List.getElem_mem hlq)
                  have HQ := Lib.hid hbq
                  have HH := Lib.hid (fun hk => movT_hit (k := no) (t := tt) hlq hk)
                  have HI := Lib.hid (fun hk => movT_miss (k := no) (t := tt) hlq hk)
                  have HJ := Lib.hid (fun hk => seenNo_hit (k := no) hlq hk)
                  have HK := Lib.hid (fun hk => seenNo_miss (k := no) hlq hk)
                  have HF : Hid ((flat (movT s.L no tt q)).set (q * 2 + 1) (.int .i64 tt) = flat ((movT s.L no tt q).set q ((s.L[q]).1, tt))) := by
                    have hf0 := flat_set tt hlm
                    rw [movT_get hlq] at hf0
                    exact hf0
                  generalize hpq : s.L[q] = p at *
                  clear hcq hblk6 hbq hpq
                  obtain ⟨p1, p2⟩ := p
                  simp only at e0 e1
                  by_cases hp : p1 = no
                  · subst hp
                    have hpt : p2 = t0 := by
                      have := timeOf_mem hg.rise HM.out
                      rw [HT.out] at this
                      simpa using this.symm
                    subst hpt
                    have hple : p2 ≤ tt := by omega
                    have hbb : (p1 == p1) = true := by simp
                    go_wp2_with fail
                    go_quiet (fail)
                    go_wp2_with fail
                    go_roundw
                    case rel =>
                      obtain ⟨x1, x2, x3, x4, x5⟩ := store_step (j := q * 2 + 1) (u := .int .i64 tt) (ownsRow_fr hrq (Fr.drewN (Fr.refl [] _)) (by simp)) (hfq.trans (Fr.drewN (Fr.refl [] _))) hgB f13.size
                      exact ⟨q + 1, by omega, by go_num, by rw [HJ.out (by trivial)], x5 (hoq.fr (Fr.drewN (Fr.refl [] _)) (by simp) (by simp)) hB1 hB2, by rw [← HH.out (by trivial), ← HF.out]; exact x3, x1, Nat.le_trans hsq (Nat.le_of_eq x2.symm), (x4 bo (Ne.symm hne)).trans HQ.out⟩
                    case measure => simp [intOf]; omega
                  · have hbb : (p1 == no) = false := by simp; exact hp
                    go_wp2_with fail
                    go_quiet (fail)
                    go_wp2_with fail
                    go_roundw
                    case rel =>
                      exact ⟨q + 1, by omega, by go_num, by rw [HK.out hp], hoq.fr (Fr.drewN (Fr.refl [] _)) (by simp) (by simp), by rw [← HI.out hp]; exact ownsRow_fr hrq (Fr.drewN (Fr.refl [] _)) (by simp), hfq.trans (Fr.drewN (Fr.refl [] _)), hsq, HQ.out⟩
                    case measure => simp [intOf]; omega
                · obtain rfl : q = s.L.length := by omega
                  rw [HS.out]
                  rw [movT_end] at hrq
                  go_wp2_with fail
                  go_meet
                  exact ⟨{ s with L := setT s.L no tt }, rfl, hoq, (hg.move no tt t0 HT.out (by omega) (by omega)).1, by simp only; omega, Int.le_refl _, (hg.move no tt t0 HT.out (by omega) (by omega)).2, by simp only [setT_length]; exact hrq, hfq, hsq⟩
          by_cases k5 : kd = 5
          · as_aux_lemma =>
            subst k5
            cases hT : timeOf s.L no with
            | none =>
              go_wp2_with fail
              refine (free_no hox5 no hno hT).mono ?_
              rintro e w6 ⟨rfl, f6⟩
              clear hT
              go_wp2_with fail
              go_meet
              exact ⟨s, rfl, hox5.fr f6 (by simp) (by simp), hg, by omega, Int.le_refl _, Int.le_refl _, ownsRow_fr hrow5 f6 (by simp), hfr5.trans f6, by have := f6.size; omega⟩
            | some t0 =>
              have HT := Lib.hid hT
              clear hT
              go_wp2_with fail
              refine (free_yes hox5 no t0 hno HT.out).mono ?_
              rintro e w6 ⟨rfl, o6, f6⟩
              have r6 := ownsRow_fr hrow5 f6 (by simp; omega)
              have fr6 := hfr5.past f6 (by simp; omega)
              have hs6 := f6.size
              have hblk6 := f6.heap hblk5 (by simp; omega)
              obtain ⟨ad10, cap10, rfl, hg10⟩ := row_slice r6
              clear f6 hox5 hrow5 hfr5 hblk5 d0 d2
              go_wp2_with fail
              obtain ⟨wz, rfl⟩ : ∃ wz : World, wz = wr := ⟨_, rfl⟩
              have hbo6 : bo < w6.heap.size := (Array.getElem?_eq_some_iff.1 hblk6).1
              go_loopw [21, 178] (fun a21 i wr => ∃ q : Nat, q ≤ s.L.length ∧ i = .int .i64 q ∧ wr.ownsRow w6.heap.size 40 2 a21 (without (s.L.take q) no).length (flat (without (s.L.take q) no)) ∧ Fr [] w6 wr)
                (fun _ i _ => s.L.length - (intOf i).toNat)
              case atStart => exact ⟨0, by omega, rfl, by simpa [without, flat] using World.ownsRow_nil _ _ _ _, Fr.refl _ _⟩
              case round =>
                obtain ⟨q, hq, rfl, hrest, hf6⟩ := hrel
                have hwl := without_len_le (s.L.take q) no
                have hwt : (s.L.take q).length ≤ q := List.length_take_le _ _
                have hsq := hf6.size
                by_cases hlq : q < s.L.length
                · obtain ⟨g, rfl, hgB⟩ := hg10 (by omega)
                  have hcq := (row_cells (ownsRow_fr r6 hf6 (by simp))).1
                  have e0 := hcq (q * 2) (by omega)
                  have e1 := hcq (q * 2 + 1) (by omega)
                  rw [(flat_get hlq).1] at e0
                  rw [(flat_get hlq).2] at e1
                  have hbq := hf6.heap hblk6 (by simp)
                  have d2 : wr.cell? ⟨bo, 2, none⟩ = some (.int .i64 no) := by simp [World.cell?, hbq]
                  have ea1 : bo < wr.heap.size := by omega
                  have ea2 : bo ≠ wr.heap.size := by omega
                  have HH := Lib.hid (fun hk => without_take_hit (k := no) hlq hk)
                  have HI := Lib.hid (fun hk => without_take_miss (k := no) hlq hk)
                  generalize hpq : s.L[q] = p at *
                  clear hcq hblk6 hbq hpq
                  obtain ⟨p1, p2⟩ := p
                  simp only at e0 e1
                  by_cases hp : p1 = no
                  · subst hp
                    have hbb : (p1 != p1) = false := by simp
                    go_wp2_with fail
                    go_roundw
                    case rel => exact ⟨q + 1, by omega, by go_num, by rw [HH.out (by trivial)]; exact hrest.alloc _, hf6.alloc _⟩
                    case measure => simp [intOf]; omega
                  · have hbb : (p1 != no) = true := by simp; exact hp
                    go_wp2_with (at_builtin; refine wpList_append_own _ rfl _ _ 29 rfl w6.heap.size 40 i0 (.agg #[.int .i64 0, .int .i64 0]) 2 16 Try.underlying29 hi hz0 hz1 hz2 rfl (by decide) _ _ _ rfl ((hrest.alloc _).alloc _) ⟨wr.heap.size + 1, 0, none⟩ 1 1 [.int .i64 p1, .int .i64 p2] rfl rfl (cell_two_next _ _ _ _ _) (ints_oneCell .i64 [p1, p2]) (by unfold maxLen; omega) (by omega) (by simp; omega) ?_; intro v' w7 r7 hgrow7 _)
                    go_roundw
                    case rel =>
                      have y1 := (append_step (hrest.alloc (.cells #[.int .i64 p1, .int .i64 p2] 40)) hgrow7 (hf6.alloc _) (Nat.le_refl _)).1
                      exact ⟨q + 1, by omega, by go_num, by rw [HI.out hp]; simpa [flat_append, flat_one] using r7, y1⟩
                    case measure => simp [intOf]; omega
                · obtain rfl : q = s.L.length := by omega
                  rw [List.take_length] at hrest
                  obtain ⟨ad21, cap21, rfl, -⟩ := row_slice hrest
                  have hw1 := without_len hg.rise HT.out
                  have hw2 : (((without s.L no).length : Int) != (s.L.length : Int) - 1) = false := by simp; omega
                  go_wp2_with fail
                  go_meet
                  exact ⟨{ s with L := without s.L no }, rfl, o6.fr hf6 (by simp) (by simp), (hg.free no).1, by simp only; omega, Int.le_refl _, (hg.free no).2, row_base hrest (by omega), fr6.trans hf6, by omega⟩
          as_aux_lemma =>
          have hb1 : (kd == 1) = false := by simp; exact k1
          have hb2 : (kd == 2) = false := by simp; exact k2
          have hb3 : (kd == 3) = false := by simp; exact k3
          have hb4 : (kd == 4) = false := by simp; exact k4
          have hb5 : (kd == 5) = false := by simp; exact k5
          go_wp2_with fail
          go_meet
          exact ⟨s, rfl, hox5, hg, by omega, Int.le_refl _, Int.le_refl _, hrow5, hfr5, by omega⟩
        case rest =>
          as_aux_lemma =>
          generalize wc = wy at *
          obtain ⟨s', rfl, hox, hg', hmk', hrd, hls, hrow, hfr, hsz⟩ := hcut
          obtain ⟨ad10, cap10, rfl, hg10⟩ := row_slice hrow
          have hl1 := (leastOf_le s'.L s'.read)
          have hl2 := hl1.1
          have hl3 := hl1.2.1
          have hl4 := hg'.rl
          have hl5 := hg'.few
          have hl6 := leastLo hg'
          have hrow' := hrow
          clear hl1 hblk hblk5 d0 d2 hrow5 hox5 hfr5 hg hrow hmk
          go_wp2_with fail
          refine (read_any hox).mono ?_
          rintro e w' ⟨rfl, rfl⟩
          go_wp2_with fail
          refine (least_any hox hg').mono ?_
          rintro e w6 ⟨rfl, f6⟩
          have hox6 := hox.fr f6 (by simp) (by simp)
          go_wp2_with fail
          refine (least_any hox6 hg').mono ?_
          rintro e w7 ⟨rfl, f7⟩
          have hox7 := hox6.fr f7 (by simp) (by simp)
          go_wp2_with fail
          refine (read_any hox7).mono ?_
          rintro e w' ⟨rfl, rfl⟩
          go_wp2_with fail
          refine (read_any hox7).mono ?_
          rintro e w' ⟨rfl, rfl⟩
          go_wp2_with fail
          refine (read_any hox7).mono ?_
          rintro e w' ⟨rfl, rfl⟩
          go_wp2_with fail
          refine (least_any hox7 hg').mono ?_
          rintro e w8 ⟨rfl, f8⟩
          have hox8 := hox7.fr f8 (by simp) (by simp)
          have f48 := (f6.trans f7).trans f8
          have hrow8 := ownsRow_fr hrow' f48 (by simp)
          have hfr8 := hfr.trans f48
          have hsz8 := Nat.le_trans hsz f48.size
          clear hox hox6 hox7 f6 f7 f8 f48 hrow' hfr hsz
          go_wp2_with fail
          obtain ⟨wz, rfl⟩ : ∃ wz : World, wz = wr := ⟨_, rfl⟩
          go_loopw [233] (fun i wr => ∃ q : Nat, q ≤ s'.L.length ∧ i = .int .i64 q ∧ Fr [] w8 wr)
            (fun i _ => s'.L.length - (intOf i).toNat)
          case atStart => exact ⟨0, by omega, rfl, Fr.refl _ _⟩
          case round =>
            obtain ⟨q, hq, rfl, hfq⟩ := hrel
            by_cases hlq : q < s'.L.length
            · obtain ⟨g, rfl, hgB⟩ := hg10 (by omega)
              have hrq := ownsRow_fr hrow8 hfq (by simp)
              have hcq := (row_cells hrq).1
              have e0 := hcq (q * 2) (by omega)
              have e1 := hcq (q * 2 + 1) (by omega)
              rw [(flat_get hlq).1] at e0
              rw [(flat_get hlq).2] at e1
              have hle := hl3 _ (List.getElem_mem hlq)
              generalize s'.L[q] = p at *
              clear hcq hl3
              go_wp2_with fail
              go_roundw
              case rel => exact ⟨q + 1, by omega, by go_num, hfq.alloc _⟩
              case measure => simp [intOf]; omega
            · obtain rfl : q = s'.L.length := by omega
              go_wp2_with fail
              go_roundw
              case rel => exact ⟨k + 1, s', by omega, by go_num, rfl, rfl, rfl, hox8.fr hfq (by simp) (by simp), hg', by omega, ownsRow_fr hrow8 hfq (by simp), hfr8.trans hfq, by have := hfq.size; omega⟩
              case measure => simp [intOf]; omega
    · obtain rfl : k = n := by omega
      go_wp2_with fail
      go_ret
      exact ⟨rfl, hfr.below (Nat.le_refl _) (by simp)⟩

end Go.Proofs.Ytdmhiefjmejfpaa
