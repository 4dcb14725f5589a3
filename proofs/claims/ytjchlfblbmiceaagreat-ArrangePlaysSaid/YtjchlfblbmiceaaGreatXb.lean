/- The reference's spine: Add. No condition but the sizes. -/
import Derived.Test.YtjchlfblbmiceaaGreatXa
namespace Go.Proofs.YtjchlfblbmiceaaGreat
open Go.RowKit srt grp

/-- An update that may not be added ends Add's loop with its error. -/
def RAddPost (w : World) (p : Nat) (wb : Option Nat) (s : Spn) (upper : Int) (l : List upd.El) (e : Ending) (w' : World) : Prop :=
  e = .returned (.int .i64 (addE s upper l)) ∧ ((addE s upper l = 0 ∧ ∃ (b : Bt) (wb' : Option Nat) (va : Option Addr) (vc : Nat), Canon upd.cmpU (b.l.map upd.pr) (fun q => 1 * sumK (l.map upd.pr) q) ∧ b.l.length ≤ l.length ∧ RfAt w' p wb' { s with va := va, vc := vc, upper := upper, bs := more s.bs b } ∧ Fr (wbL p wb) w w' ∧ (wb' = wb ∨ ∃ g, wb' = some g ∧ w.heap.size ≤ g) ∧ NewB w.heap.size b) ∨
    (addE s upper l ≠ 0 ∧ Fr [] w w'))
set_option maxRecDepth 100000
set_option maxHeartbeats 6400000 in
theorem radd_any {w : World} {p : Nat} {wb : Option Nat} {s : Spn} {a : Option Addr} {c : Nat} {l : List upd.El} (h : RfAt w p wb s) (hl : upd.Cts w (.slice a l.length c) l) (hk : s.key.length ≤ 16) (hb : s.bs.length ≤ 100000) (hn : l.length ≤ 1000) (t : Int) :
    Calls Tryz.prog 45 #[.pointer (some ⟨p, 0, none⟩), .int .i64 t, .slice a l.length c] w (RAddPost w p wb s t l) := by
  have H := Lib.hid h
  have HL := Lib.hid hl
  obtain ⟨-, -, -, x3, -, -⟩ := h.cell
  clear h hl
  by_cases h1 : 1099511627777 < t
  · have HE := Lib.hid (show addE s t l = 2 by unfold addE; rw [if_pos h1])
    go_enter Tryz.func45, Tryz.ntmps45
    go_wp2_with fail
    go_ret
    exact ⟨ret_int HE.out.symm, Or.inr ⟨by rw [HE.out]; decide, Fr.refl _ _⟩⟩
  · by_cases h2 : t ≤ s.upper
    · have HE := Lib.hid (show addE s t l = 120 by unfold addE; rw [if_neg h1, if_pos h2])
      go_enter Tryz.func45, Tryz.ntmps45
      go_wp2_with fail
      go_ret
      exact ⟨ret_int HE.out.symm, Or.inr ⟨by rw [HE.out]; decide, Fr.refl _ _⟩⟩
    · have HE := Lib.hid (show addE s t l = firstE (mayE s.key s.upper t) l by unfold addE; rw [if_neg h1, if_neg h2])
      go_enter Tryz.func45, Tryz.ntmps45
      go_wp2_with fail
      go_loopw [21] (fun x wr => ∃ k : Nat, x = .int .i64 k ∧ k ≤ l.length ∧ Fr [] w wr ∧ Hid (addE s t l = firstE (mayE s.key s.upper t) (l.drop k))) (fun x _ => l.length - (intOf x).toNat)
      case atStart => exact ⟨0, rfl, Nat.zero_le _, Fr.refl _ _, HE⟩
      case round =>
        clear HE x3
        obtain ⟨k, rfl, hkl, hf, HA⟩ := hrel
        have HF := Lib.hid hf
        by_cases hlt : k < l.length
        · as_aux_lemma =>
          obtain ⟨b, off, e1, y0, y1, y2⟩ := (HL.out.fr hf).cell hlt
          subst e1
          have hok := (HL.out.row _ (upd.nth_mem hlt))
          have hrl : (upd.nth l k).rl = (upd.nth l k).rd.length := by
            obtain ⟨a9, c9, hv, -⟩ := hok.1.shape
            unfold upd.El.rv at hv
            simp only [Value.slice.injEq] at hv
            exact hv.2.1
          have hst := firstE_step (f := mayE s.key s.upper t) hlt
          have HSt := Lib.hid hst
          have HRl := Lib.hid hrl
          clear hok hrl hst
          generalize upd.nth l k = u at *
          have hgo : Hid (mayE s.key s.upper t u = 0 → addE s t l = firstE (mayE s.key s.upper t) (l.drop (k + 1))) := Lib.hid (fun h9 => by rw [HA.out, HSt.out, if_neg (by simp [h9])])
          have hno : Hid (∀ v : Int, mayE s.key s.upper t u = v → v ≠ 0 → addE s t l = v) := Lib.hid (fun v h9 h8 => by rw [HA.out, HSt.out, h9, if_pos h8])
          clear HA HSt
          go_upto_region 8 with fail
          have fa : Fr [] wr (wr.alloc (.cells #[.slice u.ra u.rl u.rc, .int .i64 u.t, .int .i64 u.n] 65)) := (Fr.refl [] wr).alloc _
          have hb1 := heap_alloc_new wr (.cells #[.slice u.ra u.rl u.rc, .int .i64 u.t, .int .i64 u.n] 65)
          have HA := Lib.hid (H.out.fr (HF.out.trans fa))
          have FA := Lib.hid (HF.out.trans fa)
          clear fa HF hf y0 y1 y2
          generalize wr.heap.size = ub at *
          generalize wr.alloc (.cells #[.slice u.ra u.rl u.rc, .int .i64 u.t, .int .i64 u.n] 65) = wa at *
          obtain ⟨-, -, -, s3, -, -⟩ := HA.out.cell
          have q1 : ∀ q : FrBy wa, q.wn.cell? ⟨ub, 1, none⟩ = some (.int .i64 u.t) := fun q => q.fr.cell (cell_blk hb1 1 _ rfl) (by simp)
          have q3 : ∀ q : FrBy wa, q.wn.cell? ⟨p, 3, none⟩ = some (.int .i64 s.upper) := fun q => q.fr.cell s3 (by simp)
          have HB := Lib.hid hb1
          clear hb1 s3
          by_cases h3 : u.t < s.upper
          · have HE := Lib.hid (hno.out 120 (by unfold mayE; rw [if_pos (Or.inl h3)]) (by decide))
            refine wp_region_fr (by kernel_rfl) (by kernel_rfl) ?_
            repeat (go_big_quiet_step (fail))
            refine wpQuiet_nil ?_
            intro wn hwn
            have fn : Fr [] wa wn := by obtain ⟨q, rfl⟩ := hwn; exact q.fr
            clear hwn q1 q3
            go_wp2_with fail
            go_ret
            exact ⟨ret_int HE.out.symm, Or.inr ⟨by rw [HE.out]; decide, FA.out.trans fn⟩⟩
          · by_cases h4 : t ≤ u.t
            · have HE := Lib.hid (hno.out 120 (by unfold mayE; rw [if_pos (Or.inr h4)]) (by decide))
              refine wp_region_fr (by kernel_rfl) (by kernel_rfl) ?_
              repeat (go_big_quiet_step (fail))
              refine wpQuiet_nil ?_
              intro wn hwn
              have fn : Fr [] wa wn := by obtain ⟨q, rfl⟩ := hwn; exact q.fr
              clear hwn q1 q3
              go_wp2_with fail
              go_ret
              exact ⟨ret_int HE.out.symm, Or.inr ⟨by rw [HE.out]; decide, FA.out.trans fn⟩⟩
            · refine wp_region_fr (by kernel_rfl) (by kernel_rfl) ?_
              repeat (go_big_quiet_step (fail))
              refine wpQuiet_nil ?_
              intro wn hwn
              have fn : Fr [] wa wn := by obtain ⟨q, rfl⟩ := hwn; exact q.fr
              have z0 := fn.cell (cell_blk HB.out 0 _ rfl) (by simp)
              have z2 := fn.cell (cell_blk HB.out 2 _ rfl) (by simp)
              have FN := Lib.hid (FA.out.trans fn)
              have HN := Lib.hid (HA.out.fr fn)
              clear hwn q1 q3 fn HA FA HB
              by_cases h5 : 1099511627776 < u.n
              · have HE := Lib.hid (hno.out 30 (by unfold mayE; rw [if_neg (by omega), if_pos (Or.inl h5)]) (by decide))
                go_wp2_with fail
                go_ret
                exact ⟨ret_int HE.out.symm, Or.inr ⟨by rw [HE.out]; decide, FN.out⟩⟩
              · by_cases h6 : u.n < -1099511627776
                · have HE := Lib.hid (hno.out 30 (by unfold mayE; rw [if_neg (by omega), if_pos (Or.inr h6)]) (by decide))
                  go_wp2_with fail
                  go_ret
                  exact ⟨ret_int HE.out.symm, Or.inr ⟨by rw [HE.out]; decide, FN.out⟩⟩
                · have hs := wide_any HN.out (by omega) u.ra u.rl u.rc
                  rw [HRl.out] at hs
                  by_cases h7 : s.key.any (noCol u.rd.length) = true
                  · have HE := Lib.hid (hno.out 132 (by unfold mayE; rw [if_neg (by omega), if_neg (by omega), if_pos h7]) (by decide))
                    have h8 : wideB s.key u.rd.length = false := by unfold wideB; rw [h7]; rfl
                    rw [h8, ← HRl.out] at hs
                    have HS := Lib.hid hs
                    clear hs h7 h8
                    go_wp2_with (go_at_call 77; refine HS.out.mono ?_; rintro e w' ⟨rfl, rfl⟩)
                    go_ret
                    exact ⟨ret_int HE.out.symm, Or.inr ⟨by rw [HE.out]; decide, FN.out⟩⟩
                  · have HE := Lib.hid (hgo.out (by unfold mayE; rw [if_neg (by omega), if_neg (by omega), if_neg h7]))
                    have h8 : wideB s.key u.rd.length = true := by
                      have h9 : s.key.any (noCol u.rd.length) = false := by simpa using h7
                      unfold wideB; rw [h9]; rfl
                    rw [h8, ← HRl.out] at hs
                    have HS := Lib.hid hs
                    clear hs h7 h8
                    go_wp2_with (go_at_call 77; refine HS.out.mono ?_; rintro e w' ⟨rfl, rfl⟩)
                    go_roundw
                    case rel => exact ⟨k + 1, by go_num, by omega, FN.out, HE⟩
                    case measure => simp [intOf] <;> omega
        · as_aux_lemma =>
          have hkM : k = l.length := by omega
          have HZ := Lib.hid (show addE s t l = 0 by rw [HA.out, hkM, List.drop_length]; rfl)
          have hall := firstE_zero.1 (show firstE (mayE s.key s.upper t) l = 0 by have := HZ.out; unfold addE at this; rwa [if_neg (by omega), if_neg (by omega)] at this)
          have hse := rsettleFit (HL.out.fr hf) (by omega) (fit_many (by omega) (fun u hu => by have := mayE_zero (hall u hu); omega))
          have HS := Lib.hid hse
          clear hf hse hall hkM HA
          go_upto_region 18 with (go_at_call 14; refine HS.out.mono ?_; rintro e w5 ⟨outs, oa, oc, rfl, f5, k5, n5, m5⟩)
          have h5 := H.out.fr (HF.out.trans f5)
          obtain ⟨-, -, -, x3, -, z5⟩ := h5.cell
          have z3 := z5 3
          have h6 := h5.setP (o := 3) (v := .int .i64 t) (s' := { s with upper := t }) rfl ⟨rfl, rfl, rfl, rfl, rfl, rfl⟩
          have f6 : Fr [p] w5 (w5.setCell ⟨p, 3, none⟩ (.int .i64 t)) := (Fr.refl [p] w5).setCell (by simp) _
          have F6 := Lib.hid ((HF.out.trans f5).nil.trans f6)
          have H6 := Lib.hid h6
          have K6 := Lib.hid ((k5.frC f6 h5.tyP).base (Nat.zero_le _))
          have N5 := Lib.hid n5
          have NB := Lib.hid (NewB.of k5 HF.out.size)
          clear f5 k5 n5 h5 z5 h6 f6 HF HS
          go_upto_region 19 with fail
          clear x3 z3
          generalize w5.setCell ⟨p, 3, none⟩ (.int .i64 t) = w6 at *
          by_cases ho : outs = []
          · subst ho
            go_wp2_with fail
            go_ret
            exact ⟨ret_int HZ.out.symm, Or.inl ⟨HZ.out, ⟨oa, oc, []⟩, wb, s.va, s.vc, N5.out, Nat.zero_le _, H6.out, F6.out.mono (wbL_one p wb), Or.inl rfl, NB.out⟩⟩
          · have HO := Lib.hid ho
            have hpos : (0 : Int) < (outs.length : Int) := by have := List.length_pos_iff.2 ho; omega
            obtain ⟨-, x1, -⟩ := H6.out.cell
            clear ho
            have hsrc : Src (w6.alloc (.cells #[.slice oa outs.length oc] 27)) 1 (.slice (some ⟨w6.heap.size, 0, none⟩) 1 1) 1 (btsC [⟨oa, oc, outs⟩]) := Src.block (heap_alloc_new w6 _) rfl (by intro u hu; simp at hu; rw [hu]; rfl)
            have HSrc := Lib.hid hsrc
            have fa : Fr [] w6 (w6.alloc (.cells #[.slice oa outs.length oc] 27)) := (Fr.refl [] w6).alloc _
            have HA6 := Lib.hid (H6.out.fr fa)
            have FA6 := Lib.hid fa
            clear hsrc fa
            go_wp2_with (at_builtin; refine wpList_append_bs _ rfl (.tmp 74) (.tmp 76) rfl wb (.slice s.va s.bs.length s.vc) s.bs [⟨oa, oc, outs⟩] rfl HA6.out.own (.slice (some ⟨w6.heap.size, 0, none⟩) 1 1) rfl HSrc.out (by simp; omega) ?_; intro va vc w7 wb' hb7 hg7; have f7 : Fr wb.toList (w6.alloc (.cells #[.slice oa outs.length oc] 27)) w7 := Fr.grown hg7.1; have hp7 : p ∉ wb.toList := fun hx => HA6.out.ne p (by simpa using hx) (by simp); have ht7 : TyC (w6.alloc (.cells #[.slice oa outs.length oc] 27)) wb.toList := fun x hx => HA6.out.tyB x (by simp [wbL] at *; exact Or.inr hx); have b7 := f7.heap HA6.out.blk hp7; have c7 : w7.cell? ⟨p, 1, none⟩ = some (.slice s.va s.bs.length s.vc) := (by simp [World.cell?, b7, Spn.cells]); have z7 : w7.frozen? ⟨p, 1, none⟩ = false := (by simp [World.frozen?, b7]); have B7 := Lib.hid b7; have G7 := Lib.hid hg7; have O7 := Lib.hid hb7; have F7 := Lib.hid f7; have T7 := Lib.hid ht7; clear f7 hp7 ht7 b7 hg7 hb7)
            go_ret
            refine ⟨ret_int HZ.out.symm, Or.inl ⟨HZ.out, ⟨oa, oc, outs⟩, wb', va, vc, N5.out, m5, ?_, ?_, ?_, NB.out⟩⟩
            · have e1 : more s.bs ⟨oa, oc, outs⟩ = s.bs ++ [⟨oa, oc, outs⟩] := by unfold more; rw [if_neg HO.out]
              rw [e1]
              refine RfAt.store (s := { s with upper := t }) B7.out (HA6.out.key.frC F7.out T7.out) (by simp) O7.out fun b hb9 => ?_
              rcases List.mem_append.1 hb9 with hb9 | hb9
              · exact (HA6.out.bts b hb9).frC F7.out T7.out
              · rw [List.mem_singleton.1 hb9]
                exact (K6.out.frC FA6.out (TyC.nil _)).frC F7.out T7.out
            · exact (((F6.out.trans FA6.out.nil).mono (wbL_one p wb)).trans (F7.out.mono (wbL_wb p wb))).setCell (wbL_p p wb) _
            · rcases G7.out.2 with h9 | h9
              · exact Or.inl h9
              · exact Or.inr ⟨_, h9, Nat.le_trans F6.out.size FA6.out.size⟩
end Go.Proofs.YtjchlfblbmiceaaGreat
