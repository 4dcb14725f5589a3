/- pieces of ArrangeLazy: the walk. No condition but the sizes. -/
import Derived.Test.YtmionipeoffnhaaAy
import Derived.Deep.CutRange
import Derived.Deep.DeepCutAuto
namespace Go.Proofs.Ytmionipeoffnhaa
open Go.RowKit srt grp

set_option maxRecDepth 100000
set_option maxHeartbeats 12800000 in
theorem pieces_any {w0 w : World} {p k0 : Nat} {wb : Option Nat} {key : List Int} {s : Spn} {all : List upd.El} {o : OpE} (f0 : Fr [] w0 w) (h : SpAt w p wb s) (hp0 : w0.heap.size ≤ p) (hwb : ∀ g, wb = some g → w0.heap.size ≤ g) (ho : OpIn w0 o) (hn : o.l.length ≤ 100) (g : Gl key k0 s all) (hk0 : k0 + 1 ≤ 60) :
    Calls Try.prog 47 #[.pointer (some ⟨p, 0, none⟩), .agg #[.int .i64 o.kind, .int .i64 o.on, .int .i64 o.fuel, .int .i64 o.upper, .int .i64 o.time, .slice o.ka o.kr.length o.kc, .slice o.la o.l.length o.lc]] w (PcPost w0 w p wb key k0 s all o) := by
  obtain ⟨i1, hj, hy0, hy1, hy2⟩ := info_parts upd.infoU
  have hfew := g.ok.few
  have hk16 := g.ok.key
  have HS := Lib.hid h
  have HO := Lib.hid (ho.fr f0)
  have HOw := Lib.hid (ho.fr f0)
  have HO0 := Lib.hid ho
  have HG := Lib.hid g
  have HWb := Lib.hid hwb
  have HF0 := Lib.hid f0
  have HP := Lib.hid hp0
  clear f0 h hwb ho g hp0
  go_enter Try.func47, Try.ntmps47
  go_upto_region 1 with fail
  have fa : Fr [] w (w.alloc (.cells #[.int .i64 o.kind, .int .i64 o.on, .int .i64 o.fuel, .int .i64 o.upper, .int .i64 o.time, .slice o.ka o.kr.length o.kc, .slice o.la o.l.length o.lc] 67)) := (Fr.refl [] w).alloc _
  have hb := heap_alloc_new w (.cells #[.int .i64 o.kind, .int .i64 o.on, .int .i64 o.fuel, .int .i64 o.upper, .int .i64 o.time, .slice o.ka o.kr.length o.kc, .slice o.la o.l.length o.lc] 67)
  have FA := Lib.hid fa
  have HSA := Lib.hid (HS.out.fr fa)
  have HOA := Lib.hid (HO.out.fr fa)
  have HB := Lib.hid hb
  clear fa hb HS HO
  generalize w.heap.size = ub at *
  generalize w.alloc (.cells #[.int .i64 o.kind, .int .i64 o.on, .int .i64 o.fuel, .int .i64 o.upper, .int .i64 o.time, .slice o.ka o.kr.length o.kc, .slice o.la o.l.length o.lc] 67) = wa at *
  have hcl := spClone_any HSA.out (by omega)
  have HCl := Lib.hid hcl
  clear hcl
  go_upto_region 2 with (go_at_call 51; refine HCl.out.mono ?_; rintro e w1 ⟨p2, wb2, vb2, vd2, rfl, hp2, hw2, hs2, f1⟩)
  have hnew : ∀ x ∈ wbL p2 wb2, wa.heap.size ≤ x := fun x hx => by
    rcases List.mem_cons.1 hx with rfl | hx
    · exact hp2
    · exact hw2 x (by simpa using hx)
  have hpl : p < wa.heap.size := (Array.getElem?_eq_some_iff.1 HSA.out.blk).1
  have hgl : ∀ g, wb = some g → g < wa.heap.size := fun g hg => by obtain ⟨c, hc⟩ := HSA.out.own.ty hg; exact (Array.getElem?_eq_some_iff.1 hc).1
  have HNew := Lib.hid hnew
  have HGl := Lib.hid hgl
  have HS1 := Lib.hid (HSA.out.fr f1)
  have HO1 := Lib.hid (HOA.out.fr f1)
  have F1 := Lib.hid (FA.out.trans f1)
  have HB1 := Lib.hid (f1.heap HB.out (by simp))
  have HC1 := Lib.hid hs2
  have y3 := cell_blk HB1.out 3 (.int .i64 o.upper) rfl
  have y6 := cell_blk HB1.out 6 (.slice o.la o.l.length o.lc) rfl
  have HLa := Lib.hid FA.out.size
  clear hs2 hw2 hp2 hnew hgl f1 HSA HOA HB HCl FA
  by_cases haz : addE s o.upper o.l = 0
  · have hay := addy (t := o.upper) HC1.out HO1.out.up (by show s.key.length ≤ 16; exact hk16) (by show s.bs.length ≤ 100000; omega) hn haz
    have HAy := Lib.hid hay
    have HAz := Lib.hid haz
    have hau := addE_ok haz
    have ha1 := hau.1
    have ha2 := hau.2.1
    have hs0 := HG.out.since
    have hs1 := HG.out.lt
    clear hay hau haz
    go_upto_region 6 with (go_at_call 76; refine HAy.out.mono ?_; rintro e w2 ⟨rfl, bt, wb3, va3, vc3, -, -, -, f2, -, -⟩)
    have HS2 := Lib.hid (HS1.out.frT f2 HC1.out.tyB (fun hx => by have := HNew.out _ hx; omega) (fun g hg hx => by have := HNew.out _ hx; have := HGl.out g hg; omega))
    have F2 := Lib.hid (F1.out.past f2 (fun x hx => Or.inl (Nat.le_trans HLa.out (HNew.out x hx))))
    have HB2 := Lib.hid (f2.heap HB1.out (HC1.out.tyB.not HB1.out (by decide) (by decide)))
    have HO2 := Lib.hid (HOw.out.up.fr F2.out)
    clear f2 HS1 HC1 HO1 F1 HB1 y3 y6 HAy HNew HGl HLa
    have hu2 : ∀ q : FrBy w2, Calls Try.prog 50 #[.pointer (some ⟨p, 0, none⟩)] q.wn (fun e w' => e = .returned (.int .i64 s.upper) ∧ Fr [] q.wn w') := fun q => (upper_any (HS2.out.fr q.fr)).mono (fun e w' ⟨he, hx⟩ => ⟨he, by rw [← hx]; exact Fr.refl _ _⟩)
    have HU2 := Lib.hid hu2
    have hb3 := cell_blk HB2.out 3 (.int .i64 o.upper) rfl
    have q3 : ∀ q : FrBy w2, q.wn.cell? ⟨ub, 3, none⟩ = some (.int .i64 o.upper) := fun q => q.fr.cell hb3 (by simp)
    clear hu2 hb3
    refine wp_region_fr (by kernel_rfl) (by kernel_rfl) ?_
    repeat (go_big_quiet_step ((go_at_call 50; exact Calls.fr_of (HU2.out _))))
    refine wpQuiet_nil ?_
    intro w3 hwn
    have fn : Fr [] w2 w3 := by obtain ⟨q, rfl⟩ := hwn; exact q.fr
    clear hwn q3 HU2
    have hm1 : s.upper ≤ s.upper + (o.upper - s.upper) / 2 := by omega
    have hm2 : s.upper + (o.upper - s.upper) / 2 < o.upper := by omega
    generalize s.upper + (o.upper - s.upper) / 2 = m at *
    have HS3 := Lib.hid (HS2.out.fr fn)
    have HO3 := Lib.hid (HO2.out.fr fn)
    have F3 := Lib.hid (F2.out.trans fn)
    have HB3 := Lib.hid (fn.heap HB2.out (by simp))
    have y6 := cell_blk HB3.out 6 (.slice o.la o.l.length o.lc) rfl
    clear fn HS2 HO2 F2 HB2
    go_wp2_with fail
    go_loopw [7, 8, 34] (fun a b x wr => PcR w3 o.l m a b x wr) (fun _ _ x _ => o.l.length - (intOf x).toNat)
    case atStart => exact ⟨0, rfl, Nat.zero_le _, Fr.refl _ _, World.ownsRow_nil _ _ _ _, World.ownsRow_nil _ _ _ _, fun r e => by cases e⟩
    case round =>
      obtain ⟨k, rfl, hk, hf, hoe, hol, hdj⟩ := hrel
      obtain ⟨va, vc, rfl⟩ := ownsRow_shape hoe
      obtain ⟨vb, vd, rfl⟩ := ownsRow_shape hol
      have hle := two_len m (o.l.take k)
      rw [List.length_take] at hle
      have HOe := Lib.hid hoe
      have HOl := Lib.hid hol
      have HF := Lib.hid hf
      have HDj := Lib.hid hdj
      by_cases hlt : k < o.l.length
      · as_aux_lemma =>
        obtain ⟨b, off, e1, x0, x1, x2⟩ := (HO3.out.fr hf).cell hlt
        clear y6 HB3
        rw [e1]
        have hts : o.l.take (k + 1) = o.l.take k ++ [upd.nth o.l k] := by rw [List.take_add_one, upd.nth_at hlt]; rfl
        have HTs := Lib.hid hts
        clear hf hoe hol hdj hts
        generalize hne : (erl m (o.l.take k)).length = ne at *
        generalize hnl : (ltl m (o.l.take k)).length = nl at *
        have HNe := Lib.hid hne
        have HNl := Lib.hid hnl
        clear hne hnl
        go_upto_region 11 with fail
        have fa : Fr [] wr (wr.alloc (.cells #[.slice (upd.nth o.l k).ra (upd.nth o.l k).rl (upd.nth o.l k).rc, .int .i64 (upd.nth o.l k).t, .int .i64 (upd.nth o.l k).n] 41)) := (Fr.refl [] wr).alloc _
        have hb4 := heap_alloc_new wr (.cells #[.slice (upd.nth o.l k).ra (upd.nth o.l k).rl (upd.nth o.l k).rc, .int .i64 (upd.nth o.l k).t, .int .i64 (upd.nth o.l k).n] 41)
        have HOA := Lib.hid (ownsRow_fr HOe.out fa (by simp))
        have HOB := Lib.hid (ownsRow_fr HOl.out fa (by simp))
        have HFA := Lib.hid (HF.out.trans fa)
        clear fa HOe HOl HF x0 x1 x2
        generalize wr.heap.size = bx at *
        generalize wr.alloc (.cells #[.slice (upd.nth o.l k).ra (upd.nth o.l k).rl (upd.nth o.l k).rc, .int .i64 (upd.nth o.l k).t, .int .i64 (upd.nth o.l k).n] 41) = wa4 at *
        have hszA := HFA.out.size
        have z0 := cell_blk hb4 0 (.slice (upd.nth o.l k).ra (upd.nth o.l k).rl (upd.nth o.l k).rc) rfl
        have z1 := cell_blk hb4 1 (.int .i64 (upd.nth o.l k).t) rfl
        have z2 := cell_blk hb4 2 (.int .i64 (upd.nth o.l k).n) rfl
        clear hb4
        by_cases h1 : (upd.nth o.l k).t < m
        · have HC := Lib.hid h1
          go_wp2_with (at_builtin; refine wpList_append_src _ rfl (.tmp 42) (.tmp 44) 39 rfl w3.heap.size 41 i1 _ 3 40 Try.underlying39 hj hy0 hy1 hy2 rfl (by decide) (.slice va ne vc) ne _ rfl (ownsRow_fr HOA.out ((Fr.refl [] wa4).alloc _) (by simp)) (.slice (some ⟨wa4.heap.size, 0, none⟩) 1 1) 1 [.slice (upd.nth o.l k).ra (upd.nth o.l k).rl (upd.nth o.l k).rc, .int .i64 (upd.nth o.l k).t, .int .i64 (upd.nth o.l k).n] rfl (Src.block (heap_alloc_new wa4 _) rfl (by intro u hu; simp at hu; rcases hu with rfl | rfl | rfl <;> rfl)) (by unfold maxLen; omega) (by omega) (by simp; omega) ?_; intro v5 w5 hown5 hgrow5 hblk5; have HOwn5 := Lib.hid hown5; have HG5 := Lib.hid hgrow5; have HBlk5 := Lib.hid hblk5; clear hown5 hgrow5 hblk5)
          go_roundw
          case rel =>
            have fb := (Fr.refl [] wa4).alloc (.cells #[.slice (upd.nth o.l k).ra (upd.nth o.l k).rl (upd.nth o.l k).rc, .int .i64 (upd.nth o.l k).t, .int .i64 (upd.nth o.l k).n] 41)
            refine ⟨k + 1, by go_num, by omega, (HFA.out.trans fb).fresh HG5.out (fun r e => Or.inl (HOA.out.lt r e).1), ?_, ?_, fun r e1 e2 => ?_⟩
            · rw [HTs.out, erl_snoc, if_pos (show (upd.nth o.l k).t < m from HC.out), List.length_append, HNe.out, upd.elsC_append]
              simpa [upd.elsC, upd.El.cells] using HOwn5.out
            · rw [HTs.out, ltl_snoc, if_pos (show (upd.nth o.l k).t < m from HC.out), HNl.out]
              exact (apart_own (ownsRow_fr HOB.out fb (by simp)) HG5.out (fun r e1 e2 => HDj.out r e2 e1))
            · rcases HBlk5.out with h | h
              · exact HDj.out r (h.symm.trans e1) e2
              · have h7 := (HOB.out.lt r e2).2; have h8 := h.symm.trans e1; simp at h8; omega
          case measure => simp [intOf] <;> omega
        · have HC := Lib.hid h1
          go_wp2_with (at_builtin; refine wpList_append_src _ rfl (.tmp 46) (.tmp 48) 39 rfl w3.heap.size 41 i1 _ 3 40 Try.underlying39 hj hy0 hy1 hy2 rfl (by decide) (.slice vb nl vd) nl _ rfl (ownsRow_fr HOB.out ((Fr.refl [] wa4).alloc _) (by simp)) (.slice (some ⟨wa4.heap.size, 0, none⟩) 1 1) 1 [.slice (upd.nth o.l k).ra (upd.nth o.l k).rl (upd.nth o.l k).rc, .int .i64 (upd.nth o.l k).t, .int .i64 (upd.nth o.l k).n] rfl (Src.block (heap_alloc_new wa4 _) rfl (by intro u hu; simp at hu; rcases hu with rfl | rfl | rfl <;> rfl)) (by unfold maxLen; omega) (by omega) (by simp; omega) ?_; intro v5 w5 hown5 hgrow5 hblk5; have HOwn5 := Lib.hid hown5; have HG5 := Lib.hid hgrow5; have HBlk5 := Lib.hid hblk5; clear hown5 hgrow5 hblk5)
          go_roundw
          case rel =>
            have fb := (Fr.refl [] wa4).alloc (.cells #[.slice (upd.nth o.l k).ra (upd.nth o.l k).rl (upd.nth o.l k).rc, .int .i64 (upd.nth o.l k).t, .int .i64 (upd.nth o.l k).n] 41)
            refine ⟨k + 1, by go_num, by omega, (HFA.out.trans fb).fresh HG5.out (fun r e => Or.inl (HOB.out.lt r e).1), ?_, ?_, fun r e1 e2 => ?_⟩
            · rw [HTs.out, erl_snoc, if_neg (show ¬ (upd.nth o.l k).t < m from HC.out), HNe.out]
              exact (apart_own (ownsRow_fr HOA.out fb (by simp)) HG5.out (fun r e1 e2 => HDj.out r e1 e2))
            · rw [HTs.out, ltl_snoc, if_neg (show ¬ (upd.nth o.l k).t < m from HC.out), List.length_append, HNl.out, upd.elsC_append]
              simpa [upd.elsC, upd.El.cells] using HOwn5.out
            · rcases HBlk5.out with h | h
              · exact HDj.out r e1 (h.symm.trans e2)
              · have h7 := (HOA.out.lt r e1).2; have h8 := h.symm.trans e2; simp at h8; omega
          case measure => simp [intOf] <;> omega
      · as_aux_lemma =>
        have hkk : k = o.l.length := by omega
        subst hkk
        rw [List.take_length] at hoe hol hle
        rw [List.take_length]
        have f4 := F3.out.trans hf
        have HB4 := Lib.hid (hf.heap HB3.out (by simp))
        have HS4 := Lib.hid (HS3.out.fr hf)
        have F4 := Lib.hid f4
        have hrow : ∀ u ∈ o.l, RowAt wr u.rv u.rd ∧ upd.ElOk u := ((HO0.out.up.fr (HF0.out.trans f4))).row
        have KE := Lib.hid (upd.own_cts hoe (fun u hu => hrow u (List.mem_filter.1 hu).1))
        have KL := Lib.hid (upd.own_cts hol (fun u hu => hrow u (List.mem_filter.1 hu).1))
        have HOl9 := Lib.hid hol
        have hle1 : (erl m o.l).length ≤ 100 := by omega
        have hle2 : (ltl m o.l).length ≤ 100 := by omega
        clear hf hoe hol hdj hrow hlt hk HOe HOl HF HDj HO3 F3 HB3 HS3 y6 f4
        have HU4 := Lib.hid (upper_any HS4.out)
        have y3 := cell_blk HB4.out 3 (.int .i64 o.upper) rfl
        by_cases hm : s.upper < m
        · have hay := addy (t := m) HS4.out KE.out hk16 (by omega) hle1 (addE_early HAz.out hm (by omega))
          have HAy := Lib.hid hay
          clear hay
          go_upto_region 17 with (first
            | (go_at_call 50; refine HU4.out.mono ?_; rintro e w' ⟨rfl, rfl⟩)
            | (go_at_call 76; refine HAy.out.mono ?_; rintro e w5 ⟨rfl, b1, wb5, va5, vc5, hc5, hb5, hs5, f5, hw5, -⟩))
          have f05 := (HF0.out.trans F4.out).past f5 (fun x hx => Or.inl (by
            rcases List.mem_cons.1 hx with rfl | hx
            · exact HP.out
            · exact HWb.out x (by simpa using hx)))
          have HB5 := Lib.hid (f5.heap HB4.out (HS4.out.tyB.not HB4.out (by decide) (by decide)))
          have y35 := cell_blk HB5.out 3 (.int .i64 o.upper) rfl
          have KL5 := Lib.hid (upd.own_cts (ownsRow_frT HOl9.out f5 HS4.out.tyB (by decide) (by decide)) (fun u hu => ((HO0.out.up.fr f05)).row u (List.mem_filter.1 hu).1))
          have hml := more_len s.bs b1
          have hal := addy (t := o.upper) hs5 KL5.out hk16 (by show (more s.bs b1).length ≤ 100000; omega) hle2 (addE_late HAz.out rfl rfl hm2)
          have HAl := Lib.hid hal
          have HC5 := Lib.hid hc5
          have HB15 := Lib.hid hb5
          have F05 := Lib.hid f05
          have F5 := Lib.hid (F4.out.nil.trans f5)
          have HW5 := Lib.hid hw5
          have hsz4 := F4.out.size
          have HSz := Lib.hid hsz4
          clear hal hc5 hb5 hs5 f5 f05 hw5 hml hsz4 y3 HB4 HAy HU4 KE KL HOl9 HS4 F4
          go_wp2_with (go_at_call 76; refine HAl.out.mono ?_; rintro e w6 ⟨rfl, b2, wb6, va6, vc6, hc6, hb6, hs6, f6, hw6, -⟩; have HC6 := Lib.hid hc6; have HB6 := Lib.hid hb6; have HS6 := Lib.hid hs6; have F6 := Lib.hid f6; have HW6 := Lib.hid hw6; clear hc6 hb6 hs6 f6 hw6)
          go_ret
          refine ⟨rfl, _, wb6, all ++ o.l, HS6.out, fun g hg => ?_, F5.out.past F6.out (fun x hx => ?_), HG.out.both HAz.out hn hk0 (Or.inl ⟨rfl, HC5.out, HB15.out⟩) HC6.out HB6.out, Lib.hid (Or.inl ⟨HAz.out, rfl, rfl⟩)⟩
          · rcases HW6.out with h | ⟨g', h, h8⟩
            · rcases HW5.out with h7 | ⟨g', h7, h8⟩
              · exact HWb.out g (h7.symm.trans (h.symm.trans hg))
              · have h9 := h7.symm.trans (h.symm.trans hg)
                rw [← Option.some.inj h9]
                exact Nat.le_trans HF0.out.size (Nat.le_trans HSz.out h8)
            · rw [← Option.some.inj (h.symm.trans hg)]
              exact Nat.le_trans F05.out.size h8
          · rcases List.mem_cons.1 hx with rfl | hx
            · exact Or.inr (wbL_p _ _)
            · rcases HW5.out with h7 | ⟨g', h7, h8⟩
              · rw [h7] at hx; exact Or.inr (wbL_wb _ _ x hx)
              · rw [h7] at hx
                simp at hx
                exact Or.inl (by rw [hx]; exact Nat.le_trans HSz.out h8)
        · have hme : m = s.upper := by omega
          have hal := addy (t := o.upper) HS4.out KL.out hk16 (by omega) hle2 (addE_late HAz.out rfl hme.symm hm2)
          have HMe := Lib.hid hme
          have HAl := Lib.hid hal
          clear hme hal
          go_wp2_with (first
            | (go_at_call 50; refine HU4.out.mono ?_; rintro e w' ⟨rfl, rfl⟩)
            | (go_at_call 76; refine HAl.out.mono ?_; rintro e w6 ⟨rfl, b2, wb6, va6, vc6, hc6, hb6, hs6, f6, hw6, -⟩; have HC6 := Lib.hid hc6; have HB6 := Lib.hid hb6; have HS6 := Lib.hid hs6; have F6 := Lib.hid f6; have HW6 := Lib.hid hw6; clear hc6 hb6 hs6 f6 hw6))
          go_ret
          refine ⟨rfl, _, wb6, all ++ o.l, HS6.out, fun g hg => ?_, F4.out.nil.trans F6.out, HG.out.both (b := default) HAz.out hn hk0 (Or.inr ⟨rfl, erl_none HAz.out (by have := HMe.out; omega)⟩) HC6.out HB6.out, Lib.hid (Or.inl ⟨HAz.out, rfl, rfl⟩)⟩
          rcases HW6.out with h | ⟨g', h, h8⟩
          · exact HWb.out g (h.symm.trans hg)
          · rw [← Option.some.inj (h.symm.trans hg)]
            exact Nat.le_trans HF0.out.size (Nat.le_trans F4.out.size h8)
  · have han := addn (t := o.upper) HC1.out HO1.out.up (by show s.key.length ≤ 16; exact hk16) (by show s.bs.length ≤ 100000; omega) hn haz
    have HAz := Lib.hid haz
    generalize hae : addE s o.upper o.l = av at *
    have hae2 : addE { s with va := vb2, vc := vd2 } o.upper o.l = av := hae
    rw [hae2] at han
    have HAe := Lib.hid hae
    have hav : (av == 0) = false := by simpa using haz
    have HAn := Lib.hid han
    clear han hae hae2
    go_wp2_with (go_at_call 76; refine HAn.out.mono ?_; rintro e w2 ⟨rfl, f2⟩)
    go_ret
    exact ⟨rfl, s, wb, all, HS1.out.fr f2, HWb.out, (F1.out.trans f2).nil, HG.out.mono (by omega) hk0, Lib.hid (Or.inr ⟨by rw [HAe.out]; exact HAz.out, rfl, rfl⟩)⟩
end Go.Proofs.Ytmionipeoffnhaa
