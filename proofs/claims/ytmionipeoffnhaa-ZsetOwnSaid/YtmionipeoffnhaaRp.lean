/- freshetref03.Positive, Distinct; what two answers are to one another. No condition but the sizes. -/
import Derived.Test.YtmionipeoffnhaaRt
import Derived.Test.YtmionipeoffnhaaPo
namespace Go.Proofs.Ytmionipeoffnhaa
open Go.RowKit srt grp big

/-- An answer: it lies in new memory; what it tells is G of the sums, or an error just if one has no room. -/
def Ans (w : World) (l : List El) (s : Int) (G : List (List Dt × Int) → List (List Dt × Int)) (e : Ending) (w' : World) : Prop :=
  ∃ (outs : List El) (a : Option Addr) (c : Nat) (er : Int), e = .returned (.tuple #[.slice a outs.length c, .int .i64 er]) ∧ Fr [] w w' ∧ ListIn w.heap.size w' (.slice a outs.length c) outs ∧ outs.length ≤ l.length ∧
    Hid (((∀ r, fitB (s * sumK (l.map pr) r) = true) ∧ er = 0 ∧ ∃ os, Canon cmpR os (fun r => s * sumK (l.map pr) r) ∧ outs.map pr = G os) ∨ ((∃ r, fitB (s * sumK (l.map pr) r) = false) ∧ er = 30 ∧ outs = []))
def ansR (l : List El) (s : Int) (G : List (List Dt × Int) → List (List Dt × Int)) (er : Int) (outs : List El) : Prop :=
  ((∀ r, fitB (s * sumK (l.map pr) r) = true) ∧ er = 0 ∧ ∃ os, Canon cmpR os (fun r => s * sumK (l.map pr) r) ∧ outs.map pr = G os) ∨ ((∃ r, fitB (s * sumK (l.map pr) r) = false) ∧ er = 30 ∧ outs = [])
theorem ansR.pair {l : List El} {s : Int} {G : List (List Dt × Int) → List (List Dt × Int)} {e1 e2 : Int} {o1 o2 : List El} (h : ansR l s G e1 o1) (k : ansR l s G e2 o2) : e2 = e1 ∧ o1.map pr = o2.map pr := by
  rcases h with ⟨h1, rfl, q1, c1, p1⟩ | ⟨⟨r, hr⟩, rfl, rfl⟩
  · rcases k with ⟨-, rfl, q2, c2, p2⟩ | ⟨⟨r, hr⟩, -⟩
    · exact ⟨rfl, by rw [p1, p2, c1.uniq cmpRS c2]⟩
    · rw [h1 r] at hr; cases hr
  · rcases k with ⟨k1, -⟩ | ⟨-, rfl, rfl⟩
    · rw [k1 r] at hr; cases hr
    · exact ⟨rfl, rfl⟩
theorem nil_in (base : Nat) (w : World) : ListIn base w (.slice none 0 0) [] := ⟨Or.inl ⟨none, 0, rfl, fun _ => rfl, rfl⟩, by simp⟩
theorem ResPost.ans {w w' : World} {l : List El} {s : Int} {e : Ending} (h : ResPost w l s e w') : Ans w l s id e w' := by
  obtain ⟨f, ⟨h1, outs, a, c, rfl, h3, h4, h5⟩ | ⟨h1, rfl⟩⟩ := h
  · exact ⟨outs, a, c, 0, rfl, f, h3, h5, Lib.hid (Or.inl ⟨h1, rfl, _, h4, rfl⟩)⟩
  · exact ⟨[], none, 0, 30, rfl, f, nil_in _ _, Nat.zero_le _, Lib.hid (Or.inr ⟨h1, rfl, rfl⟩)⟩
def posG (os : List (List Dt × Int)) : List (List Dt × Int) := os.filter fun p => decide (0 < p.2)
def distG (os : List (List Dt × Int)) : List (List Dt × Int) := (os.filter fun p => decide (0 < p.2)).map fun p => (p.1, 1)
theorem PosPost.ans {w w' : World} {l : List El} {e : Ending} (h : PosPost w l e w') : Ans w l 1 posG e w' := by
  obtain ⟨f, ⟨h1, os, outs, a, c, rfl, h3, h4, h5, h6⟩ | ⟨h1, rfl⟩⟩ := h
  · exact ⟨outs, a, c, 0, rfl, f, h3, h6, Lib.hid (Or.inl ⟨h1, rfl, _, h4, h5⟩)⟩
  · exact ⟨[], none, 0, 30, rfl, f, nil_in _ _, Nat.zero_le _, Lib.hid (Or.inr ⟨h1, rfl, rfl⟩)⟩
theorem DistPost.ans {w w' : World} {l : List El} {e : Ending} (h : DistPost w l e w') : Ans w l 1 distG e w' := by
  obtain ⟨f, ⟨h1, os, outs, a, c, rfl, h3, h4, h5, h6⟩ | ⟨h1, rfl⟩⟩ := h
  · exact ⟨outs, a, c, 0, rfl, f, h3, h6, Lib.hid (Or.inl ⟨h1, rfl, _, h4, h5⟩)⟩
  · exact ⟨[], none, 0, 30, rfl, f, nil_in _ _, Nat.zero_le _, Lib.hid (Or.inr ⟨h1, rfl, rfl⟩)⟩

def PosR (w1 : World) (outs : List El) (v x : Value) (wr : World) : Prop :=
  ∃ k : Nat, x = .int .i64 (k : Int) ∧ k ≤ outs.length ∧ Fr [] w1 wr ∧ wr.ownsRow w1.heap.size 31 2 v ((outs.take k).filter posB).length (elsC ((outs.take k).filter posB))

set_option maxRecDepth 100000
set_option maxHeartbeats 3200000 in
theorem rPositive_any {w : World} {aa : Option Addr} {ac : Nat} {l : List El} (h : Cts w (.slice aa l.length ac) l) (hn : l.length ≤ 10000) :
    Calls Try.prog 33 #[.slice aa l.length ac] w (Ans w l 1 posG) := by
  obtain ⟨i0, hi, hz0, hz1, hz2⟩ := info_parts infoC
  have ht := (rTidy_any h hn).mono fun e w' h => ResPost.ans h
  have HT := Lib.hid ht
  clear h ht
  go_enter Try.func33, Try.ntmps33
  go_wp2_with (go_at_call 15; refine HT.out.mono ?_; rintro e w1 ⟨outs, a, c, er, rfl, f1, l1, hl1, HA⟩; have F1 := Lib.hid f1; have L1 := Lib.hid l1; have hsz1 := f1.size; clear f1 l1)
  go_loopw [6, 17] (fun v x wr => PosR w1 outs v x wr) (fun _ x _ => outs.length - (intOf x).toNat)
  case atStart => exact ⟨0, rfl, Nat.zero_le _, (Fr.refl [] w1).alloc _, World.ownsRow_made w1 #[] 0 (Nat.le_refl _) (by decide) rfl⟩
  case round =>
    obtain ⟨k, rfl, hk, hf, ho⟩ := hrel
    obtain ⟨va, vc, rfl⟩ := ownsRow_shape ho
    have HF := Lib.hid hf
    have HO := Lib.hid ho
    have hsz := hf.size
    by_cases hlt : k < outs.length
    · obtain ⟨b, off, e1, z0, z1⟩ := (L1.out.cts.fr hf).cell hlt
      subst e1
      have hts : (outs.take (k + 1)).filter posB = (outs.take k).filter posB ++ if 0 < (nth outs k).n then [nth outs k] else [] := by
        rw [List.take_add_one, nth_at hlt, List.filter_append]
        congr 1
        by_cases h0 : 0 < (nth outs k).n <;> simp [posB, h0]
      have HTs := Lib.hid hts
      have hfl : ((outs.take k).filter posB).length ≤ 10000 := by
        have h1 := List.length_filter_le posB (outs.take k)
        rw [List.length_take] at h1
        omega
      clear hts hf ho
      generalize (outs.take k).filter posB = al at *
      go_upto_region 6 with fail
      have fa : Fr [] wr (wr.alloc (.cells #[.slice (nth outs k).ra (nth outs k).rl (nth outs k).rc, .int .i64 (nth outs k).n] 31)) := (Fr.refl [] wr).alloc _
      have hb1 := heap_alloc_new wr (.cells #[.slice (nth outs k).ra (nth outs k).rl (nth outs k).rc, .int .i64 (nth outs k).n] 31)
      have HOA := Lib.hid (ownsRow_fr HO.out fa (by simp))
      have HFA := Lib.hid (HF.out.trans fa)
      have hszA := (HF.out.trans fa).size
      clear fa HO HF z0 z1
      generalize wr.heap.size = bx at *
      generalize wr.alloc (.cells #[.slice (nth outs k).ra (nth outs k).rl (nth outs k).rc, .int .i64 (nth outs k).n] 31) = wa at *
      have y0 := cell_blk hb1 0 (.slice (nth outs k).ra (nth outs k).rl (nth outs k).rc) rfl
      have y1 := cell_blk hb1 1 (.int .i64 (nth outs k).n) rfl
      clear hb1
      by_cases h0 : 0 < (nth outs k).n
      · have H0 := Lib.hid h0
        go_wp2_with (at_builtin; refine wpList_append_src _ rfl (.tmp 24) (.tmp 26) 22 rfl w1.heap.size 31 i0 _ 2 32 Try.underlying22 hi hz0 hz1 hz2 rfl (by decide) (.slice va al.length vc) al.length _ rfl (HOA.out.alloc _) (.slice (some ⟨wa.heap.size, 0, none⟩) 1 1) 1 [.slice (nth outs k).ra (nth outs k).rl (nth outs k).rc, .int .i64 (nth outs k).n] rfl (Src.block (heap_alloc_new wa _) rfl (by intro u hu; simp at hu; rcases hu with rfl | rfl <;> rfl)) (by unfold maxLen; omega) (by omega) (by simp; omega) ?_; intro v' w2 hown1 hgrow1 _; have HOwn1 := Lib.hid hown1; have HG1 := Lib.hid hgrow1; clear hown1 hgrow1)
        go_roundw
        case rel => exact ⟨k + 1, by go_num, by omega, (HFA.out.alloc _).fresh HG1.out (fun r e => Or.inl (HOA.out.lt r e).1), by
          rw [HTs.out, if_pos H0.out, elsC_snoc, List.length_append]
          exact HOwn1.out⟩
        case measure => simp [intOf] <;> omega
      · have H0 := Lib.hid h0
        go_wp2_with fail
        go_roundw
        case rel => exact ⟨k + 1, by go_num, by omega, HFA.out, by rw [HTs.out, if_neg H0.out, List.append_nil]; exact HOA.out⟩
        case measure => simp [intOf] <;> omega
    · obtain rfl : k = outs.length := by omega
      rw [List.take_length] at ho
      have hfin : Ans w l 1 posG (.returned (.tuple #[.slice va (outs.filter posB).length vc, .int .i64 er])) wr := by
        refine ⟨outs.filter posB, va, vc, er, rfl, F1.out.trans hf, ⟨?_, fun e he => ?_⟩, Nat.le_trans (List.length_filter_le _ _) hl1, Lib.hid ?_⟩
        · rcases ho.2 with ⟨hv, h2⟩ | ⟨g, cap, cur, hv, hb, hg, hcl, hmx, hszc, htk⟩
          · simp only [Value.slice.injEq] at hv
            exact Or.inl ⟨va, vc, by rw [h2], fun _ => hv.2.2, List.length_eq_zero_iff.1 h2⟩
          · exact Or.inr ⟨g, cap, cur, by omega, hv, hcl, hg, htk⟩
        · have h1 := L1.out.2 e (List.mem_filter.1 he).1
          exact ⟨h1.1.fr hf (by simp), h1.2⟩
        · rcases HA.out with ⟨h1, h2, os, h3, h4⟩ | ⟨h1, h2, h3⟩
          · exact Or.inl ⟨h1, h2, os, h3, by rw [filt_pr, h4]; rfl⟩
          · exact Or.inr ⟨h1, h2, by rw [h3]; rfl⟩
      have HFin := Lib.hid hfin
      clear hfin ho hf
      rw [List.take_length] at *
      go_wp2_with fail
      go_ret2
      exact HFin.out

set_option maxHeartbeats 3200000 in
theorem rDistinct_any {w : World} {aa : Option Addr} {ac : Nat} {l : List El} (h : Cts w (.slice aa l.length ac) l) (hn : l.length ≤ 10000) :
    Calls Try.prog 35 #[.slice aa l.length ac] w (Ans w l 1 distG) := by
  have ht := rPositive_any h hn
  have HT := Lib.hid ht
  clear h ht
  go_enter Try.func35, Try.ntmps35
  go_upto_region 2 with (go_at_call 33; refine HT.out.mono ?_; rintro e w1 ⟨outs, a, c, er, rfl, f1, h2, hl1, HA⟩)
  rcases h2.srt with rfl | ⟨g, cur, rfl, hg, hc, hs, hgb⟩
  · have H2 := Lib.hid h2
    have F1 := Lib.hid f1
    clear h2 f1
    go_wp2_with fail
    refine wp_loop_rounds 1 ?_
    rw [rounds_succ]
    go_wp2_with fail
    go_ret2
    exact ⟨[], a, c, er, rfl, F1.out, H2.out, Nat.zero_le _, Lib.hid (by
      rcases HA.out with ⟨h1, h2, os, h3, h4⟩ | ⟨h1, h2, h3⟩
      · exact Or.inl ⟨h1, h2, os, h3, by
          have h5 : os.filter (fun p => decide (0 < p.2)) = [] := h4.symm
          unfold distG
          rw [h5]; rfl⟩
      · exact Or.inr ⟨h1, h2, rfl⟩)⟩
  · have H2 := Lib.hid h2
    have HG := Lib.hid hgb
    have HS := Lib.hid hs
    have F1 := Lib.hid f1
    have hN : outs.length ≤ 4398046511102 := by omega
    clear h2 hgb hs f1
    go_wp2_with fail
    go_loopw [14] (fun x wr => ∃ k : Nat, x = .int .i64 k ∧ k ≤ outs.length ∧ Srt g outs.length wr (ones (nth outs) k) ∧ Fr [g] w1 wr) (fun x _ => outs.length - (intOf x).toNat)
    case atStart => exact ⟨0, rfl, Nat.zero_le _, by have : ones (nth outs) 0 = nth outs := by { funext k; unfold ones; rw [if_neg (by omega)] }; rw [this]; exact HS.out, Fr.refl _ _⟩
    case round =>
      obtain ⟨k, rfl, hk, hs, hf⟩ := hrel
      by_cases hlt : k < outs.length
      · obtain ⟨x0, x1, x2, x3⟩ := hs.cell hlt
        have HS2 := Lib.hid hs
        have HF2 := Lib.hid hf
        clear hs hf
        go_wp2_with fail
        go_roundw
        case rel => exact ⟨k + 1, by go_num, by omega, HS2.out.one hlt, HF2.out.setCell (by simp) _⟩
        case measure => simp [intOf] <;> omega
      · have hkn := Lib.hid (show k = outs.length by omega)
        have HS2 := Lib.hid hs
        have HF2 := Lib.hid hf
        clear hs hf
        go_wp2_with fail
        go_ret2
        have hfl : (List.range outs.length).map (ones (nth outs) k) = outs.map one := by
          conv => rhs; rw [← range_nth outs, List.map_map]
          refine List.map_congr_left fun q hq => ?_
          have := List.mem_range.1 hq
          unfold ones; rw [if_pos (by have := hkn.out; omega)]; rfl
        have hml : (outs.map one).length = outs.length := by simp
        have h9 := ListIn.put (c := c) H2.out HG.out hg HF2.out HS2.out hfl.symm hc (fun e he => by
          obtain ⟨e0, h0, rfl⟩ := List.mem_map.1 he
          exact ⟨e0, h0, rfl, rfl, rfl, rfl, ⟨(H2.out.2 e0 h0).2.len, by simp [one]⟩⟩)
        refine ⟨outs.map one, some ⟨g, 0, none⟩, c, er, by rw [hml]; rfl, F1.out.past HF2.out (by simpa using hg), h9, by omega, Lib.hid ?_⟩
        rcases HA.out with ⟨h1, h2, os, h3, h4⟩ | ⟨h1, h2, h3⟩
        · refine Or.inl ⟨h1, h2, os, h3, ?_⟩
          have h5 : os.filter (fun p => decide (0 < p.2)) = outs.map pr := h4.symm
          unfold distG
          rw [h5, List.map_map, List.map_map]
          rfl
        · exact Or.inr ⟨h1, h2, by rw [h3]; rfl⟩
end Go.Proofs.Ytmionipeoffnhaa
