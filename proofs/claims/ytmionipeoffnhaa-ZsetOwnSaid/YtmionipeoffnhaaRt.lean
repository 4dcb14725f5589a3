/- freshetref03.tidy, Tidy, Negate: counted rows added up, by the reference. No condition but the sizes. -/
import Derived.Test.YtmionipeoffnhaaRi
import Derived.Test.YtmionipeoffnhaaRs
namespace Go.Proofs.Ytmionipeoffnhaa
open Go.RowKit srt grp big

set_option maxRecDepth 100000
/-- freshetref02.Copy. -/
theorem copy_any {w : World} {ra : Option Addr} {rc : Nat} {ds : List Dt} (h : RowAt w (.slice ra ds.length rc) ds) (hn : ds.length ≤ 4398046511103) :
    Calls Try.prog 95 #[.slice ra ds.length rc] w fun e w' => (∃ a c, e = .returned (.slice a ds.length c) ∧ RowIn w.heap.size w' (.slice a ds.length c) ds) ∧ Fr [] w w' := by
  obtain ⟨i0, hi, hz0, hz1, hz2⟩ := info_parts infoD
  have HS := Lib.hid (src_row h)
  clear h
  go_enter Try.func95, Try.ntmps95
  go_wp2_with (at_builtin; refine wpList_append_src _ rfl (.tmp 3) (.tmp 4) 29 rfl w.heap.size 33 i0 _ 3 32 Try.underlying29 hi hz0 hz1 hz2 rfl (by decide) _ _ _ rfl (World.ownsRow_made w #[] 0 (Nat.le_refl _) (by decide) rfl) _ ds.length _ rfl (HS.out.alloc _) (by unfold maxLen; omega) (by omega) (by simp) ?_; intro v' w1 hown hgrow _)
  go_ret
  have ho : w1.ownsRow w.heap.size 33 3 v' ds.length (dtsC ds) := by simpa using hown
  obtain ⟨a, c, rfl⟩ := ownsRow_shape ho
  exact ⟨⟨a, c, rfl, RowIn.of ho⟩, ((Fr.refl [] w).alloc _).fresh hgrow (fun r e => Or.inl (by simp [Act.eval, Value.ownBlock] at e; omega))⟩

/-- What both answer. -/
def ResPost (w : World) (l : List El) (s : Int) (e : Ending) (w' : World) : Prop :=
  Fr [] w w' ∧ (((∀ r, fitB (s * sumK (l.map pr) r) = true) ∧ ∃ (outs : List El) (a : Option Addr) (c : Nat), e = .returned (.tuple #[.slice a outs.length c, .int .i64 0]) ∧ ListIn w.heap.size w' (.slice a outs.length c) outs ∧ Canon cmpR (outs.map pr) (fun r => s * sumK (l.map pr) r) ∧ outs.length ≤ l.length) ∨
    ((∃ r, fitB (s * sumK (l.map pr) r) = false) ∧ e = .returned (.tuple #[.slice none 0 0, .int .i64 30])))
theorem TidyPost.res {w w' : World} {l : List El} {s : Int} {e : Ending} (h : TidyPost w l s e w') : ResPost w l s e w' := by
  obtain ⟨f, ⟨h1, outs, a, c, h2, h3, h4, h5, -⟩ | h⟩ := h
  · exact ⟨f, Or.inl ⟨h1, outs, a, c, h2, h3, h4, h5⟩⟩
  · exact ⟨f, Or.inr h⟩

/-! ### plain -/
def kept (S : List Dt → Int) (R : List El) : List (List Dt × Int) := (R.map fun e => (e.rd, S e.rd)).filter fun p => decide (p.2 ≠ 0)
theorem kept_snoc (S : List Dt → Int) (R : List El) (e : El) : kept S (R ++ [e]) = kept S R ++ if S e.rd = 0 then [] else [(e.rd, S e.rd)] := by
  unfold kept
  rw [List.map_append, List.filter_append]
  congr 1
  by_cases h : S e.rd = 0 <;> simp [h]
theorem kept_canon {w : World} {l R : List El} {s : Int} (h : RowsOf w l R) : Canon cmpR (kept (fun r => s * sumK (l.map pr) r) R) (fun r => s * sumK (l.map pr) r) := by
  have hup : (R.map fun e => (e.rd, s * sumK (l.map pr) e.rd)).Pairwise fun a b => cmpR a.1 b.1 < 0 := List.pairwise_map.2 h.up
  refine ⟨hup.filter _, fun p hp => of_decide_eq_true (List.mem_filter.1 hp).2, fun r => ?_⟩
  have h0 : ∀ (Q : List El), (Q.Pairwise fun a b => cmpR a.rd b.rd < 0) → sumK (kept (fun r => s * sumK (l.map pr) r) Q) r = if r ∈ Q.map (·.rd) then s * sumK (l.map pr) r else 0 := by
    intro Q
    induction Q with
    | nil => intro _; rfl
    | cons e Q ih =>
      intro hq
      obtain ⟨h1, h2⟩ := List.pairwise_cons.1 hq
      have hi := ih h2
      have hk : kept (fun r => s * sumK (l.map pr) r) (e :: Q) = (if s * sumK (l.map pr) e.rd = 0 then [] else [(e.rd, s * sumK (l.map pr) e.rd)]) ++ kept (fun r => s * sumK (l.map pr) r) Q := by
        unfold kept
        rw [List.map_cons, List.filter_cons]
        by_cases hz : s * sumK (l.map pr) e.rd = 0 <;> simp [hz]
      rw [hk, sumK_append, hi]
      by_cases hr : e.rd = r
      · have hnq : r ∉ Q.map (·.rd) := fun hm => by
          obtain ⟨q, hq, e1⟩ := List.mem_map.1 hm
          have := h1 q hq
          rw [hr, show q.rd = r from e1, cmpR_self] at this
          omega
        have hmm : r ∈ (e :: Q).map (·.rd) := by simp [hr]
        rw [if_neg hnq, if_pos hmm, ← hr]
        by_cases hz : s * sumK (l.map pr) e.rd = 0
        · rw [if_pos hz, hz]; rfl
        · rw [if_neg hz, sumK_cons, if_pos rfl, sumK_nil]; omega
      · have : sumK (if s * sumK (l.map pr) e.rd = 0 then [] else [(e.rd, s * sumK (l.map pr) e.rd)]) r = 0 := by
          split
          · rfl
          · rw [sumK_cons, if_neg hr, sumK_nil]; rfl
        rw [this, Int.zero_add]
        have hm : r ∈ (e :: Q).map (·.rd) ↔ r ∈ Q.map (·.rd) := by
          rw [List.map_cons, List.mem_cons]
          constructor
          · rintro (h | h)
            · exact absurd h.symm hr
            · exact h
          · exact Or.inr
        by_cases hq2 : r ∈ Q.map (·.rd)
        · rw [if_pos hq2, if_pos (hm.2 hq2)]
        · rw [if_neg hq2, if_neg (fun h => hq2 (hm.1 h))]
  rw [h0 R h.up]
  by_cases hr : r ∈ R.map (·.rd)
  · rw [if_pos hr]
  · rw [if_neg hr, sumK_none (fun p hp e => hr ((h.mem r).2 (by
      obtain ⟨q, hq, rfl⟩ := List.mem_map.1 hp
      exact List.mem_map.2 ⟨q, hq, e⟩)))]
    simp
theorem fit_all {w : World} {l R : List El} {s : Int} (h : RowsOf w l R) (hf : ∀ e ∈ R, fitB (s * sumK (l.map pr) e.rd) = true) (r : List Dt) : fitB (s * sumK (l.map pr) r) = true := by
  by_cases hr : r ∈ R.map (·.rd)
  · obtain ⟨e, he, rfl⟩ := List.mem_map.1 hr
    exact hf e he
  · rw [sumK_none (fun p hp e => hr ((h.mem r).2 (by
      obtain ⟨q, hq, rfl⟩ := List.mem_map.1 hp
      exact List.mem_map.2 ⟨q, hq, e⟩)))]
    rw [Int.mul_zero]; rfl

def TidR (w : World) (l R : List El) (ra : Option Addr) (rc : Nat) (s : Int) (v x : Value) (wr : World) : Prop :=
  ∃ (k : Nat) (outs : List El), x = .int .i64 (k : Int) ∧ k ≤ R.length ∧ outs.length ≤ k ∧ Fr [] w wr ∧ wr.ownsRow w.heap.size 31 2 v outs.length (elsC outs) ∧ Hid (outs.map pr = kept (fun r => s * sumK (l.map pr) r) (R.take k)) ∧ Hid (∀ e ∈ outs, RowIn w.heap.size wr e.rv e.rd ∧ ElOk e) ∧ Hid (∀ e ∈ R.take k, fitB (s * sumK (l.map pr) e.rd) = true) ∧ Hid (wr.ownsRow w.heap.size 29 1 (.slice ra R.length rc) R.length (rowsC R))

set_option maxHeartbeats 6400000 in
theorem rtidy_any {w : World} {aa : Option Addr} {ac : Nat} {l : List El} {ms : Bool} (h : Cts w (.slice aa l.length ac) l) (hn : l.length ≤ 10000) :
    Calls Try.prog 56 #[.slice aa l.length ac, .bool ms] w (ResPost w l (sgn ms)) := by
  obtain ⟨i0, hi, hz0, hz1, hz2⟩ := info_parts infoC
  have HC := Lib.hid h
  have fe : Fr [] w (w.alloc (.cells #[] 31)) := (Fr.refl [] w).alloc _
  have hrows := rows_any (h.fr fe) hn
  have HRows := Lib.hid hrows
  have HFe := Lib.hid fe
  have hoe := World.ownsRow_made (e := 31) (size := 2) w #[] 0 (Nat.le_refl _) (by decide) rfl
  have HOe := Lib.hid hoe
  clear h hrows fe hoe
  go_enter Try.func56, Try.ntmps56
  go_wp2_with (go_at_call 91; refine HRows.out.mono ?_; rintro e w1 ⟨R, ra, rc, rfl, f1, o1, hR⟩; have F1 := Lib.hid (HFe.out.trans f1); have HO1 := Lib.hid (ownsRow_fr HOe.out f1 (by simp)); have HO2 := Lib.hid (ownsRow_base o1 (by simp : w.heap.size ≤ _)); have HRO := Lib.hid hR; clear f1 o1 hR)
  have hRl := HRO.out.len
  go_loopw [6, 16] (fun v x wr => TidR w l R ra rc (sgn ms) v x wr) (fun _ x _ => R.length - (intOf x).toNat)
  case atStart => exact ⟨0, [], rfl, Nat.zero_le _, Nat.le_refl _, F1.out, HO1.out, Lib.hid rfl, Lib.hid (by simp), Lib.hid (by simp), HO2.out⟩
  case round =>
    obtain ⟨k, outs, rfl, hk, hol, hf, ho, HKept, HIn, HFits, HRo⟩ := hrel
    obtain ⟨va, vc, rfl⟩ := ownsRow_shape ho
    have HO := Lib.hid ho
    have HF := Lib.hid hf
    have hsz := hf.size
    by_cases hlt : k < R.length
    · have hrws : Rws wr (.slice ra R.length rc) R := own_rws HRo.out fun e he => by
        have h1 := HC.out.row e (HRO.out.sub e he)
        exact ⟨h1.1.fr hf, h1.2.len⟩
      obtain ⟨b, off, e1, z0⟩ := hrws.cell hlt
      subst e1
      have hrw := hrws.row _ (nth_mem hlt)
      have hel := (HC.out.row _ (HRO.out.sub _ (nth_mem hlt)))
      have hS := take_bound hn (fun e he => (HC.out.row e he).2) l.length (nth R k).rd
      rw [List.take_length] at hS
      have hts : R.take (k + 1) = R.take k ++ [nth R k] := by rw [List.take_add_one, nth_at hlt]; rfl
      have HTs := Lib.hid hts
      have hrl : (nth R k).rl = (nth R k).rd.length := by
        obtain ⟨a', c', hv, -⟩ := hrw.1.shape
        simp only [El.rv, Value.slice.injEq] at hv
        exact hv.2.1
      have HEl := Lib.hid (⟨hrw.1, hel.2⟩ : RowAt wr (nth R k).rv (nth R k).rd ∧ ElOk (nth R k))
      clear ho hf hrws hrw hel hts
      generalize hr : nth R k = r at *
      obtain ⟨qa, ql, qc, qn, qd⟩ := r
      obtain rfl : ql = qd.length := hrl
      have z0 : wr.cell? ⟨b, off + k, none⟩ = some (.slice qa qd.length qc) := z0
      have hRow : RowAt wr (.slice qa qd.length qc) qd := HEl.out.1
      have hsm := sum_any (HC.out.fr HF.out) hn hRow
      have HRow := Lib.hid hRow
      have HLen := Lib.hid HEl.out.2.len
      have HSm := Lib.hid hsm
      have hS2 : -100000000000000000000000 ≤ sumK (l.map pr) qd ∧ sumK (l.map pr) qd ≤ 100000000000000000000000 := hS
      have HTs2 : Hid (R.take (k + 1) = R.take k ++ [⟨qa, qd.length, qc, qn, qd⟩]) := Lib.hid (by rw [HTs.out])
      have HKept2 := Lib.hid (fun _ : Unit => kept_snoc (fun r => sgn ms * sumK (l.map pr) r) (R.take k) ⟨qa, qd.length, qc, qn, qd⟩)
      clear hsm hRow hS hr HTs HEl
      go_upto_if 23 with (go_at_call 92; refine HSm.out.mono ?_; rintro e w5 ⟨v, rfl, hb5, f5⟩; obtain ⟨sa, sc, rfl, -⟩ := hb5.shape; have HB5 := Lib.hid hb5; have F5 := Lib.hid f5; clear hb5 f5)
      have fa : Fr [] w5 (w5.alloc (.cells #[.bool (decide (sumK (l.map pr) qd < 0)), .slice sa (dg (sumK (l.map pr) qd).natAbs).length sc] 117)) := (Fr.refl [] w5).alloc _
      have hv6 : VarBig wr (w5.alloc (.cells #[.bool (decide (sumK (l.map pr) qd < 0)), .slice sa (dg (sumK (l.map pr) qd).natAbs).length sc] 117)) w5.heap.size (sumK (l.map pr) qd) := ⟨sa, sc, heap_alloc_new w5 _, HB5.out.fr fa, F5.out.trans fa⟩
      have hg9 : wr.heap.size ≤ w5.heap.size := F5.out.size
      have HV6 := Lib.hid hv6
      clear fa hv6 HB5 F5 HSm z0
      generalize w5.alloc (.cells #[.bool (decide (sumK (l.map pr) qd < 0)), .slice sa (dg (sumK (l.map pr) qd).natAbs).length sc] 117) = w6 at *
      generalize w5.heap.size = g9 at *
      generalize hSe : sumK (l.map pr) qd = S at *
      have HSe := Lib.hid hSe
      clear hSe
      go_cut [] (fun wx => VarBig wr wx g9 (sgn ms * S))
      case first =>
        cases ms with
        | false =>
          go_wp2_with fail
          go_meet
          case rel => rw [show sgn false * S = S by unfold sgn; simp]; exact HV6.out
        | true =>
          obtain ⟨sa, sc, b6, big6, f6⟩ := HV6.out
          have t0 := cell_blk b6 0 (.bool (decide (S < 0))) rfl
          have t1 := cell_blk b6 1 (.slice sa (dg S.natAbs).length sc) rfl
          have Big6 := Lib.hid big6
          have B6 := Lib.hid b6
          have F6 := Lib.hid f6
          clear b6 big6 f6
          have hmin := bminus_any Big6.out
          generalize hZ : -S = Z at hmin
          have HZ := Lib.hid hZ
          have HMin := Lib.hid hmin
          clear hmin hZ
          generalize (dg S.natAbs).length = kS at *
          generalize decide (S < 0) = mS at *
          go_wp2_with (go_at_call 93; refine HMin.out.mono ?_; rintro e w7 ⟨v, rfl, hb7, f7⟩; obtain ⟨ta, tc, rfl, -⟩ := hb7.shape; have HB7 := Lib.hid hb7; have F7 := Lib.hid f7; have b7 := f7.heap B6.out (by simp); have t2 := cell_blk b7 0 (.bool mS) rfl; have t3 := cell_blk b7 1 (.slice sa kS sc) rfl; have t4 : w7.frozen? ⟨g9, 0, none⟩ = false := (by simp [World.frozen?, b7]); have t5 : w7.frozen? ⟨g9, 1, none⟩ = false := (by simp [World.frozen?, b7]); have B7 := Lib.hid b7; clear hb7 f7 b7)
          go_meet
          case rel =>
            rw [show sgn true * S = Z by rw [← HZ.out]; unfold sgn; simp]
            exact VarBig.put (F6.out.trans F7.out) hg9 B7.out HB7.out
      case rest =>
        have hXb : -100000000000000000000000 ≤ sgn ms * S ∧ sgn ms * S ≤ 100000000000000000000000 := by
          cases ms
          · rw [show sgn false * S = S by unfold sgn; simp]; exact hS2
          · rw [show sgn true * S = -S by unfold sgn; simp]; omega
        have HXe := Lib.hid (show sgn ms * sumK (l.map pr) qd = sgn ms * S by rw [HSe.out])
        clear HSe HV6 hS2
        generalize sgn ms * S = X at *
        obtain ⟨sa, sc, b6, big6, f6⟩ := hcut
        have hft := bfits_any big6 (dg_bound hXb)
        have t0 := cell_blk b6 0 (.bool (decide (X < 0))) rfl
        have t1 := cell_blk b6 1 (.slice sa (dg X.natAbs).length sc) rfl
        have F6 := Lib.hid f6
        clear b6 big6 f6
        generalize (dg X.natAbs).length = kX at *
        generalize decide (X < 0) = mX at *
        have hsz6 := (HF.out.trans F6.out).size
        by_cases hfx : fitB X = true
        · rw [hfx, if_pos rfl] at hft
          have hX64 := (fitB_iff X).1 hfx
          have HFx := Lib.hid hfx
          have HFt := Lib.hid hft
          clear hfx hft
          by_cases hX0 : X = 0
          · subst hX0
            go_wp2_with (go_at_call 94; refine HFt.out.mono ?_; rintro e w7 ⟨rfl, f7⟩; have F7 := Lib.hid (F6.out.trans f7); clear f7)
            go_roundw
            case rel => exact ⟨k + 1, outs, by go_num, by omega, by omega, HF.out.trans F7.out, ownsRow_fr HO.out F7.out (by simp), Lib.hid (by rw [HTs2.out, HKept2.out (), if_pos (by trivial), List.append_nil]; exact HKept.out), Lib.hid (fun e he => ⟨(HIn.out e he).1.fr F7.out (by simp), (HIn.out e he).2⟩), Lib.hid (fun e he => by
              rw [HTs2.out] at he
              rcases List.mem_append.1 he with he | he
              · exact HFits.out e he
              · rw [List.mem_singleton.1 he]; show fitB (sgn ms * sumK (l.map pr) qd) = true; rw [HXe.out]; exact HFx.out), Lib.hid (ownsRow_fr HRo.out F7.out (by simp))⟩
            case measure => simp [intOf] <;> omega
          · have hXb2 : (X != 0) = true := by simpa using hX0
            have HX0 := Lib.hid hX0
            clear hX0
            go_upto_region 12 with (go_at_call 94; refine HFt.out.mono ?_; rintro e w7 ⟨rfl, f7⟩; have F7 := Lib.hid (F6.out.trans f7); have hsz7 := (HF.out.trans (F6.out.trans f7)).size; clear f7 t0 t1)
            go_wp2_with (first
              | (go_at_call 95; refine (copy_any (HRow.out.fr F7.out) HLen.out).mono ?_; rintro e w8 ⟨⟨ca, cc, rfl, hin8⟩, f8⟩; have F8 := Lib.hid (F7.out.trans f8); have HIn8 := Lib.hid (hin8.base hsz7); have hsz8 := (HF.out.trans (F7.out.trans f8)).size; clear hin8 f8)
              | (at_builtin; refine wpList_append_src _ rfl (.tmp 35) (.tmp 40) 22 rfl w.heap.size 31 i0 _ 2 32 Try.underlying22 hi hz0 hz1 hz2 rfl (by decide) (.slice va outs.length vc) outs.length _ rfl (ownsRow_fr HO.out (F8.out.alloc _) (by simp)) (.slice (some ⟨w8.heap.size, 0, none⟩) 1 1) 1 [.slice ca qd.length cc, .int .i64 X] rfl (Src.block (heap_alloc_new w8 _) rfl (by intro u hu; simp at hu; rcases hu with rfl | rfl <;> rfl)) (by unfold maxLen; omega) (by omega) (by simp; omega) ?_; intro v9 w9 hown9 hgrow9 _; have HOwn9 := Lib.hid hown9; have HG9 := Lib.hid hgrow9; clear hown9 hgrow9))
            go_roundw
            case rel =>
              have ho8 := ownsRow_fr HO.out (F8.out.alloc (.cells #[.slice ca qd.length cc, .int .i64 X] 31)) (by simp)
              exact ⟨k + 1, outs ++ [⟨ca, qd.length, cc, X, qd⟩], by go_num, by omega, by simp; omega, (HF.out.trans (F8.out.alloc _)).fresh HG9.out (fun q e => Or.inl (HO.out.lt q e).1), by
                rw [elsC_snoc, List.length_append]
                exact HOwn9.out, Lib.hid (by rw [HTs2.out, HKept2.out (), if_neg HX0.out, List.map_append, HKept.out]; rfl), Lib.hid (fun e he => by
                rcases List.mem_append.1 he with he | he
                · exact ⟨((HIn.out e he).1.fr (F8.out.alloc _) (by simp)).grown ho8 HG9.out, (HIn.out e he).2⟩
                · rw [List.mem_singleton.1 he]
                  exact ⟨(HIn8.out.fr ((Fr.refl [] w8).alloc _) (by simp)).grown ho8 HG9.out, ⟨HLen.out, hX64⟩⟩), Lib.hid (fun e he => by
                rw [HTs2.out] at he
                rcases List.mem_append.1 he with he | he
                · exact HFits.out e he
                · rw [List.mem_singleton.1 he]; show fitB (sgn ms * sumK (l.map pr) qd) = true; rw [HXe.out]; exact HFx.out), Lib.hid (own_far (by decide) (ownsRow_fr HRo.out (F8.out.alloc _) (by simp)) ho8 HG9.out)⟩
            case measure => simp [intOf] <;> omega
        · have hfx2 : fitB X = false := by simpa using hfx
          rw [hfx2] at hft
          have HBad := Lib.hid (⟨qd, by rw [HXe.out]; exact hfx2⟩ : ∃ r, fitB (sgn ms * sumK (l.map pr) r) = false)
          have HFt := Lib.hid hft
          clear hfx hfx2 hft
          go_wp2_with (go_at_call 94; refine HFt.out.mono ?_; rintro e w7 ⟨rfl, f7⟩; have F7 := Lib.hid (F6.out.trans f7); clear f7)
          go_ret2
          exact ⟨HF.out.trans F7.out, Or.inr ⟨HBad.out, rfl⟩⟩
    · obtain rfl : k = R.length := by omega
      rw [List.take_length] at HKept HFits
      have hfin : ListIn w.heap.size wr (.slice va outs.length vc) outs := ⟨by
        rcases ho.2 with ⟨hv, h2⟩ | ⟨g, cap, cur, hv, hb, hg, hcl, hmx, hszc, htk⟩
        · simp only [Value.slice.injEq] at hv
          exact Or.inl ⟨va, vc, by rw [h2], fun _ => hv.2.2, List.length_eq_zero_iff.1 h2⟩
        · exact Or.inr ⟨g, cap, cur, hb, hv, hcl, hg, htk⟩, HIn.out⟩
      have HFin := Lib.hid hfin
      have HCanon := Lib.hid (kept_canon (s := sgn ms) HRO.out)
      rw [← HKept.out] at HCanon
      clear hfin ho hf hlt hk
      go_wp2_with fail
      go_ret2
      exact ⟨HF.out, Or.inl ⟨fit_all HRO.out HFits.out, outs, va, vc, rfl, HFin.out, HCanon.out, by omega⟩⟩

set_option maxHeartbeats 3200000 in
theorem rTidy_any {w : World} {aa : Option Addr} {ac : Nat} {l : List El} (h : Cts w (.slice aa l.length ac) l) (hn : l.length ≤ 10000) :
    Calls Try.prog 15 #[.slice aa l.length ac] w (ResPost w l 1) := by
  have ht := rtidy_any (ms := false) h hn
  have es : sgn false = 1 := rfl
  rw [es] at ht
  clear h es
  go_enter Try.func15, Try.ntmps15
  go_wp2_with (go_at_call 56; refine ht.mono ?_; rintro e w1 ⟨f1, ⟨h1, outs, a, c, rfl, h2⟩ | ⟨h1, rfl⟩⟩)
  · go_ret2
    exact ⟨f1, Or.inl ⟨h1, outs, a, c, rfl, h2⟩⟩
  · go_ret2
    exact ⟨f1, Or.inr ⟨h1, rfl⟩⟩
theorem rNegate_any {w : World} {aa : Option Addr} {ac : Nat} {l : List El} (h : Cts w (.slice aa l.length ac) l) (hn : l.length ≤ 10000) :
    Calls Try.prog 31 #[.slice aa l.length ac] w (ResPost w l (-1)) := by
  have ht := rtidy_any (ms := true) h hn
  have es : sgn true = -1 := rfl
  rw [es] at ht
  clear h es
  go_enter Try.func31, Try.ntmps31
  go_wp2_with (go_at_call 56; refine ht.mono ?_; rintro e w1 ⟨f1, ⟨h1, outs, a, c, rfl, h2⟩ | ⟨h1, rfl⟩⟩)
  · go_ret2
    exact ⟨f1, Or.inl ⟨h1, outs, a, c, rfl, h2⟩⟩
  · go_ret2
    exact ⟨f1, Or.inr ⟨h1, rfl⟩⟩
end Go.Proofs.Ytmionipeoffnhaa
