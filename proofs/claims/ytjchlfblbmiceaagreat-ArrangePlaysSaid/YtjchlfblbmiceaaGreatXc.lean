/- The reference's spine: Work. No condition but the sizes. -/
import Derived.Test.YtjchlfblbmiceaaGreatXa
import Derived.Deep.LoopGhost
namespace Go.Proofs.YtjchlfblbmiceaaGreat
open Go.RowKit srt grp

set_option maxRecDepth 100000
theorem rlaterFit {w : World} {aa : Option Addr} {ac n : Nat} {l : List upd.El} {t : Int} (h : upd.Cts w (.slice aa n ac) l) (hnl : l.length = n) (hn : n ≤ 10000) (ht : -9223372036854775808 ≤ t ∧ t ≤ 9223372036854775807) (hf : ∀ q, fitB (1 * sumK ((l.map (lt1 t)).map upd.pr) q) = true) :
    Calls Tryz.prog 79 #[.slice aa n ac, .int .i64 t] w fun e w' => ∃ (outs : List upd.El) (a : Option Addr) (c : Nat), e = .returned (.tuple #[.slice a outs.length c, .int .i64 0]) ∧ Fr [] w w' ∧ upd.ListIn w.heap.size w' (.slice a outs.length c) outs ∧ Canon upd.cmpU (outs.map upd.pr) (fun q => 1 * sumK ((l.map (lt1 t)).map upd.pr) q) ∧ outs.length ≤ (l.map (lt1 t)).length := by
  subst hnl
  refine (rLater_any h hn ht).mono fun e w' ⟨f, hx⟩ => ?_
  rcases hx with ⟨-, outs, a, c, he, hl, hc, hm⟩ | ⟨⟨r, hr⟩, -⟩
  · exact ⟨outs, a, c, he, f, hl, hc, hm⟩
  · rw [hf r] at hr; cases hr
/-- Batches put behind a list of batches, the length told. -/
theorem wpList_append_bsN (n : Nat) (w : World) {ops : Array Oper} {rest : List Oper} {o : Oper} {a : Act} {Q : Exit → Act → World → Prop} (hgd : o.guard = none) (s x : Operand)
    (ho : o.op = .call { callee := .builtin .append, args := #[s, x], argTypes := #[71, 71] })
    (wb : Option Nat) (v : Value) (bs ns : List Bt) (hn : bs.length + ns.length = n) (hs : a.eval s = v) (hb : BsAt w wb v bs) (xv : Value) (hx : a.eval x = xv) (hsrc : Src w 1 xv ns.length (btsC ns)) (h63 : bs.length + ns.length ≤ 1000000)
    (h : ∀ va vc w' wb', BsAt w' wb' (.slice va n vc) (bs ++ ns) → BsGrew w w' wb wb' → wpList Tryz.prog ops Q rest (a.put o.dst (.slice va n vc)) w') : wpList Tryz.prog ops Q (o :: rest) a w := by
  subst hn
  exact wpList_append_bs w hgd s x ho wb v bs ns hs hb xv hx hsrc h63 h
def RWorkR (w : World) (p : Nat) (wb : Option Nat) (s0 : Spn) (k : Nat) (wr : World) : Prop :=
  ∃ (s : Spn) (wb' : Option Nat), RfAt wr p wb' s ∧ Fr [p] w wr ∧ WbNew w wb wb' ∧ Works s0 s ∧ s.bs.length ≤ k ∧ Hid (∀ b ∈ s.bs, b ∈ s0.bs ∨ NewB w.heap.size b)
def RWorkPost (w : World) (p : Nat) (wb : Option Nat) (s0 : Spn) (e : Ending) (w' : World) : Prop :=
  ∃ (s : Spn) (wb' : Option Nat) (left : Int), e = .returned (.int .i64 left) ∧ Fr [p] w w' ∧ WbNew w wb wb' ∧ Works s0 s ∧ Hid (∀ b ∈ s.bs, b ∈ s0.bs ∨ NewB w.heap.size b) ∧
    ((dueI (szs s.bs) = none ∧ left = s.credit ∧ RfAt w' p wb' { s with credit := 0 }) ∨ (∃ i, dueI (szs s.bs) = some i ∧ s.credit < ((nbt s.bs i).l.length + (nbt s.bs (i + 1)).l.length : Int) ∧ left = 0 ∧ RfAt w' p wb' s))
theorem rwork_round {w w6 wx w9 : World} {p : Nat} {wb wb1 xb nb9 : Option Nat} {s0 s1 : Spn} {i gk vc9 : Nat} {oa va9 : Option Addr} {oc : Nat} {outs : List upd.El} {cr : Int}
    (hq : dueI (szs s1.bs) = some i) (hco : ((nbt s1.bs i).l.length + (nbt s1.bs (i + 1)).l.length : Int) ≤ s1.credit) (hcd : s1.credit - ((nbt s1.bs i).l.length + (nbt s1.bs (i + 1)).l.length : Int) = cr)
    (hn : Canon upd.cmpU (outs.map upd.pr) (fun q => 1 * sumK ((((nbt s1.bs i).l ++ (nbt s1.bs (i + 1)).l).map (lt1 s1.since)).map upd.pr) q)) (hm : outs.length ≤ ((nbt s1.bs i).l ++ (nbt s1.bs (i + 1)).l).length)
    (hw : Works s0 s1) (hl : s1.bs.length ≤ gk) (f6 : Fr [p] w w6) (fx : Fr [] w6 wx) (hxb : ∀ g, xb = some g → w6.heap.size ≤ g)
    (hx : RfAt wx p wb1 { s1 with credit := cr }) (lx : upd.ListIn 0 wx (.slice oa outs.length oc) outs) (tx : TyC wx xb.toList)
    (b9 : w9.heap[p]? = some (.cells ({ s1 with credit := cr } : Spn).cells 85))
    (o9 : BsAt w9 nb9 (.slice va9 ((nextL s1.bs i ⟨oa, oc, outs⟩).length + (s1.bs.drop (i + 2)).length) vc9) (nextL s1.bs i ⟨oa, oc, outs⟩ ++ s1.bs.drop (i + 2))) (g9 : BsGrew wx w9 xb nb9) (f9 : Fr xb.toList wx w9) (ho : Hid (∀ b ∈ s1.bs, b ∈ s0.bs ∨ NewB w.heap.size b)) (hnb : NewB w.heap.size ⟨oa, oc, outs⟩) :
    RWorkR w p wb s0 (gk - 1) (w9.setCell ⟨p, 1, none⟩ (.slice va9 ((nextL s1.bs i ⟨oa, oc, outs⟩).length + (s1.bs.drop (i + 2)).length) vc9)) := by
  have hM : Merged s1 { s1 with credit := cr, va := va9, vc := vc9, bs := nextL s1.bs i ⟨oa, oc, outs⟩ ++ s1.bs.drop (i + 2) } :=
    ⟨⟨rfl, rfl, rfl⟩, i, ⟨oa, oc, outs⟩, hq, hco, hcd.symm, hn, hm, rfl⟩
  have hlen := hM.len
  refine ⟨_, nb9, RfAt.store (s := { s1 with credit := cr }) b9 (hx.key.frC f9 tx) (by simp) o9 (fun b hb => ?_), ?_, ?_, hw.step hM, by show (nextL s1.bs i ⟨oa, oc, outs⟩ ++ s1.bs.drop (i + 2)).length ≤ _; simp only at hlen; omega, Lib.hid fun b hb => ?_⟩
  · refine upd.ListIn.frC ?_ f9 tx
    rcases List.mem_append.1 hb with hb | hb
    · unfold nextL at hb
      split at hb
      · exact hx.bts b (List.mem_of_mem_take hb)
      · rcases List.mem_append.1 hb with hb | hb
        · exact hx.bts b (List.mem_of_mem_take hb)
        · rw [List.mem_singleton.1 hb]; exact lx
    · exact hx.bts b (List.mem_of_mem_drop hb)
  · refine Fr.setCell ?_ (by simp) _
    exact (f6.trans fx.nil).past f9 (fun x hx9 => Or.inl (Nat.le_trans f6.size (hxb x (by simpa using hx9))))
  · refine Or.inr fun g hg => ?_
    rcases g9.2 with h9 | h9
    · exact Nat.le_trans f6.size (hxb g (h9.symm.trans hg))
    · have e9 := Option.some.inj (h9.symm.trans hg)
      rw [← e9]
      exact Nat.le_trans f6.size fx.size
  · rcases List.mem_append.1 hb with hb | hb
    · unfold nextL at hb
      split at hb
      · exact ho.out b (List.mem_of_mem_take hb)
      · rcases List.mem_append.1 hb with hb | hb
        · exact ho.out b (List.mem_of_mem_take hb)
        · rw [List.mem_singleton.1 hb]; exact Or.inr hnb
    · exact ho.out b (List.mem_of_mem_drop hb)
set_option maxHeartbeats 6400000 in
theorem rwork_any {w : World} {p : Nat} {wb : Option Nat} {s : Spn} (h : RfAt w p wb s) (hk : SpOk s) (hc : s.credit ≤ 1000000000) (n : Int) :
    Calls Tryz.prog 47 #[.pointer (some ⟨p, 0, none⟩), .int .i64 n] w (RWorkPost w p wb { s with credit := s.credit + fuelE n }) := by
  obtain ⟨i0, hi, hz0, hz1, hz2⟩ := info_parts infoB
  obtain ⟨j0, hj, hy0, hy1, hy2⟩ := info_parts upd.infoU
  have hc0 := hk.c0
  have hfl : 0 ≤ fuelE n ∧ fuelE n ≤ 1048576 := by unfold fuelE; omega
  have hfe : min (max n 0) 1048576 = fuelE n := rfl
  have hk0 : SpOk { s with credit := s.credit + fuelE n } := ⟨hk.ne, hk.len, hk.mass, by show 0 ≤ s.credit + fuelE n; omega, by show s.credit + fuelE n ≤ _; omega, hk.t, hk.key⟩
  obtain ⟨-, -, -, -, x4, z4⟩ := h.cell
  have z := z4 4
  have H := Lib.hid h
  have HK := Lib.hid hk0
  clear h hk hk0 z4
  go_enter Tryz.func47, Tryz.ntmps47
  go_wp2_with fail
  have h1 := H.out.setP (o := 4) (v := .int .i64 (s.credit + fuelE n)) (s' := { s with credit := s.credit + fuelE n }) rfl ⟨rfl, rfl, rfl, rfl, rfl, rfl⟩
  have f1 : Fr [p] w (w.setCell ⟨p, 4, none⟩ (.int .i64 (s.credit + fuelE n))) := (Fr.refl [p] w).setCell (by simp) _
  have H1 := Lib.hid h1
  have F1 := Lib.hid f1
  have HC1 := Lib.hid HK.out.c1
  clear h1 f1 x4 z H hc hc0 hfl hfe
  generalize w.setCell ⟨p, 4, none⟩ (.int .i64 (s.credit + fuelE n)) = w1 at *
  generalize hs0 : ({ s with credit := s.credit + fuelE n } : Spn) = s0 at *
  clear hs0
  go_loopg [5] s0.bs.length (fun k _ wr => RWorkR w p wb s0 k wr)
  case atStart => exact ⟨s0, wb, H1.out, F1.out, Or.inl rfl, .refl _, Nat.le_refl _, Lib.hid fun b hb => Or.inl hb⟩
  case round =>
    obtain ⟨s1, wb1, hsp, hf, hwb, hw, hl, HOld⟩ := hrel
    have hok := hw.ok HK.out
    have hdu := rdue_any hsp (by have := hok.few; omega) (fun b hb => by have := hok.one b hb; omega)
    have HSp := Lib.hid hsp
    have HF := Lib.hid hf
    have HWb := Lib.hid hwb
    have HW := Lib.hid hw
    have HOk := Lib.hid hok
    clear hsp hf hwb hw hok
    rcases hq : dueI (szs s1.bs) with _ | i
    · have hd2 : Calls Tryz.prog 78 #[.pointer (some ⟨p, 0, none⟩)] wr fun e w' => e = .returned (.int .i64 (-1)) ∧ Fr [] wr w' := hdu.mono fun e w' ⟨hf, hx⟩ => by
        rcases hx with ⟨i, hi, -⟩ | ⟨-, he⟩
        · rw [hq] at hi; cases hi
        · exact ⟨he, hf⟩
      have HD := Lib.hid hd2
      have HQ := Lib.hid hq
      clear hdu hd2 hq
      go_upto_region 4 with (go_at_call 78; refine HD.out.mono ?_; rintro e w2 ⟨rfl, f2⟩)
      have h2 := HSp.out.fr f2
      obtain ⟨-, -, -, -, x4, z4⟩ := h2.cell
      have z := z4 4
      have h3 := h2.setP (o := 4) (v := .int .i64 0) (s' := { s1 with credit := 0 }) rfl ⟨rfl, rfl, rfl, rfl, rfl, rfl⟩
      have f3 : Fr [p] w (w2.setCell ⟨p, 4, none⟩ (.int .i64 0)) := (HF.out.trans f2.nil).setCell (by simp) _
      have H3 := Lib.hid h3
      have F3 := Lib.hid f3
      clear h2 h3 f2 f3 z4
      go_wp2_with fail
      go_ret
      exact ⟨s1, wb1, s1.credit, rfl, F3.out, HWb.out, HW.out, HOld, Or.inl ⟨HQ.out, rfl, H3.out⟩⟩
    · have hd2 : Calls Tryz.prog 78 #[.pointer (some ⟨p, 0, none⟩)] wr fun e w' => e = .returned (.int .i64 i) ∧ Fr [] wr w' := hdu.mono fun e w' ⟨hf, hx⟩ => by
        rcases hx with ⟨j, hj, he⟩ | ⟨hn, -⟩
        · rw [hq] at hj; cases hj; exact ⟨he, hf⟩
        · rw [hq] at hn; cases hn
      obtain ⟨hi1, -⟩ := due_split hq
      have HD := Lib.hid hd2
      have HQ := Lib.hid hq
      clear hdu hd2 hq
      obtain ⟨g, hva, hwb1, hvc, hvm, hcell⟩ := HSp.out.own.block (by omega)
      have hl0 := HOk.out.one _ (nbt_mem (show i < s1.bs.length by omega))
      have hl1 := HOk.out.one _ (nbt_mem hi1)
      have hfew := HOk.out.few
      go_upto_region 7 with (go_at_call 78; refine HD.out.mono ?_; rintro e w2 ⟨rfl, f2⟩)
      have c0 := f2.cell (hcell i (by omega)) (by simp)
      have c1 := f2.cell (hcell (i + 1) hi1) (by simp)
      have H2 := Lib.hid (HSp.out.fr f2)
      have F2 := Lib.hid (HF.out.trans f2.nil)
      obtain ⟨-, x1, -⟩ := H2.out.cell
      rw [hva] at x1
      have HVa := Lib.hid hva
      have HWb1 := Lib.hid hwb1
      have HCell := Lib.hid (fun j hj => f2.cell (hcell j hj) (by simp))
      clear hcell f2 HSp HF hva hwb1
      have u1 : ∀ q : FrBy w2, q.wn.cell? ⟨p, 1, none⟩ = some (.slice (some ⟨g, 0, none⟩) s1.bs.length s1.vc) := fun q => q.fr.cell x1 (by simp)
      have v0 : ∀ q : FrBy w2, q.wn.cell? ⟨g, i, none⟩ = some (.slice (nbt s1.bs i).ba (nbt s1.bs i).l.length (nbt s1.bs i).bc) := fun q => q.fr.cell c0 (by simp)
      have v1 : ∀ q : FrBy w2, q.wn.cell? ⟨g, i + 1, none⟩ = some (.slice (nbt s1.bs (i + 1)).ba (nbt s1.bs (i + 1)).l.length (nbt s1.bs (i + 1)).bc) := fun q => q.fr.cell c1 (by simp)
      have i1 : (i : Int) < (s1.bs.length : Int) := by omega
      have i2 : (i : Int) + 1 < (s1.bs.length : Int) := by omega
      have i3 : ((i : Int) + 1).toNat = i + 1 := by omega
      have i4 : (0 : Int) ≤ (i : Int) + 1 := by omega
      clear c0 c1 x1
      refine wp_region_fr (by kernel_rfl) (by kernel_rfl) ?_
      repeat (go_big_quiet_step (fail))
      refine wpQuiet_nil ?_
      intro w3 hwn
      have fn : Fr [] w2 w3 := by obtain ⟨q, rfl⟩ := hwn; exact q.fr
      have H3 := Lib.hid (H2.out.fr fn)
      have F3 := Lib.hid (F2.out.trans fn.nil)
      have HCell3 := Lib.hid (fun j hj => fn.cell (HCell.out j hj) (by simp))
      clear hwn u1 v0 v1 fn H2 F2 HCell
      obtain ⟨-, -, -, -, x4, z4⟩ := H3.out.cell
      have z := z4 4
      clear z4
      have hcr := HOk.out.c0
      have hcr1 := HOk.out.c1
      by_cases hcost : s1.credit < ((nbt s1.bs i).l.length + (nbt s1.bs (i + 1)).l.length : Int)
      · have HCo := Lib.hid hcost
        go_wp2_with fail
        go_ret
        exact ⟨s1, wb1, 0, rfl, F3.out, HWb.out, HW.out, HOld, Or.inr ⟨i, HQ.out, HCo.out, rfl, H3.out⟩⟩
      · go_upto_region 11 with fail
        have HCo := Lib.hid (show ((nbt s1.bs i).l.length + (nbt s1.bs (i + 1)).l.length : Int) ≤ s1.credit by omega)
        generalize hcd : s1.credit - ((nbt s1.bs i).l.length + (nbt s1.bs (i + 1)).l.length : Int) = cr at *
        have HCd := Lib.hid hcd
        have h4 := H3.out.setP (o := 4) (v := .int .i64 cr) (s' := { s1 with credit := cr }) rfl ⟨rfl, rfl, rfl, rfl, rfl, rfl⟩
        have f4 : Fr [p] w3 (w3.setCell ⟨p, 4, none⟩ (.int .i64 cr)) := (Fr.refl [p] w3).setCell (by simp) _
        have hg : g ∉ [p] := H3.out.ne g HWb1.out
        have HCell4 := Lib.hid (fun j hj => f4.cell (HCell3.out j hj) hg)
        have H4 := Lib.hid h4
        have F4 := Lib.hid (F3.out.trans f4)
        clear hcd hcost h4 f4 hg x4 z H3 F3 HCell3 hcr hcr1 HD
        generalize w3.setCell ⟨p, 4, none⟩ (.int .i64 cr) = w4 at *
        obtain ⟨-, x1, -, -, -, -⟩ := H4.out.cell
        simp only [HVa.out] at x1
        have c0 := HCell4.out i (by omega)
        have c1 := HCell4.out (i + 1) hi1
        have HX := Lib.hid (fun wi (f : Fr [] w4 wi) => ((H4.out.bts _ (nbt_mem (show i < s1.bs.length by omega))).cts.fr f))
        have HY := Lib.hid (fun wi (f : Fr [] w4 wi) => ((H4.out.bts _ (nbt_mem hi1)).cts.fr f))
        have HFit := Lib.hid (pair_fit HQ.out HOk.out.mass s1.since)
        have HT := Lib.hid HOk.out.t
        have HN2 := Lib.hid (show (nbt s1.bs i).l.length + (nbt s1.bs (i + 1)).l.length ≤ 10000 from Nat.le_trans (pair_len HQ.out) (Nat.le_trans HOk.out.len (by decide)))
        have hn2 := HN2.out
        have i5 : IntKind.i64.wrap ((i : Int) + 1) = (i : Int) + 1 := by rw [IntKind.wrap_i64]; omega
        go_region_held3 (fun W => W.cell? ⟨p, 1, none⟩ = some (.slice (some ⟨g, 0, none⟩) s1.bs.length s1.vc) ∧ W.cell? ⟨g, i, none⟩ = some (.slice (nbt s1.bs i).ba (nbt s1.bs i).l.length (nbt s1.bs i).bc) ∧ W.cell? ⟨g, i + 1, none⟩ = some (.slice (nbt s1.bs (i + 1)).ba (nbt s1.bs (i + 1)).l.length (nbt s1.bs (i + 1)).bc))
          (first | exact ⟨x1, c0, c1⟩ | exact ⟨x16, c06, c16⟩ | exact ⟨x15, c05, c15⟩ | go_keep)
          (first
            | (refine step_append_src _ (by rfl) (.tmp 66) (.tmp 73) 27 (by rfl) w4.heap.size 65 j0 _ 3 40 Tryz.underlying27 hj hy0 hy1 hy2 rfl (by omega) (.slice (some ⟨w4.heap.size, 0, none⟩) 0 0) 0 [] (by rfl) (World.ownsRow_made w4.drew #[] 0 (Nat.le_refl _) (by decide) rfl) (.slice (nbt s1.bs i).ba (nbt s1.bs i).l.length (nbt s1.bs i).bc) (nbt s1.bs i).l.length _ (by rfl) ((HX.out _ (((Fr.refl [] w4).drew).alloc _)).src) (by unfold maxLen; omega) (by omega) (by simp) ?_; intro va5 wa5 ho5 hg5 hb5; simp only [Nat.zero_add, List.nil_append] at ho5; have fa5 : Fr [] w4 wa5 := (((Fr.refl [] w4).drew).alloc _).fresh hg5 (fun r e => Or.inl (by simp [Value.ownBlock] at e; omega)); have hs5 := fa5.size; have OA5 := Lib.hid ho5; have x15 := fa5.cell x1 (by simp); have c05 := fa5.cell c0 (by simp); have c15 := fa5.cell c1 (by simp); clear ho5 hg5 hb5)
            | (refine step_append_src _ (by rfl) (.tmp 74) (.tmp 82) 27 (by rfl) w4.heap.size 65 j0 _ 3 40 Tryz.underlying27 hj hy0 hy1 hy2 rfl (by omega) va5 (nbt s1.bs i).l.length _ (by rfl) OA5.out (.slice (nbt s1.bs (i + 1)).ba (nbt s1.bs (i + 1)).l.length (nbt s1.bs (i + 1)).bc) (nbt s1.bs (i + 1)).l.length _ (by rfl) ((HY.out _ fa5).src) (by unfold maxLen; omega) (by omega) (by omega) ?_; intro vb5 w5 ho6 hg6 hb6; have f5 : Fr [] w4 w5 := fa5.fresh hg6 (fun r e => Or.inl ((OA5.out.lt r e).1)); have O5 := Lib.hid ho6; have x16 := f5.cell x1 (by simp); have c06 := f5.cell c0 (by simp); have c16 := f5.cell c1 (by simp); clear ho6 hg6 hb6 x15 c05 c15))
        have O5x := O5.out
        obtain ⟨ga, gc, rfl⟩ := ownsRow_shape O5x
        have k5 : upd.Cts w5 (.slice ga ((nbt s1.bs i).l.length + (nbt s1.bs (i + 1)).l.length) gc) ((nbt s1.bs i).l ++ (nbt s1.bs (i + 1)).l) := by
          have h9 := upd.own_cts (w := w5) (base := w4.heap.size) (v := .slice ga ((nbt s1.bs i).l.length + (nbt s1.bs (i + 1)).l.length) gc) (l := (nbt s1.bs i).l ++ (nbt s1.bs (i + 1)).l) (by rw [List.length_append, upd.elsC_append]; exact O5x) (fun u hu => by
            rcases List.mem_append.1 hu with hu | hu
            · exact (HX.out _ f5).row u hu
            · exact (HY.out _ f5).row u hu)
          exact h9
        have K5 := Lib.hid k5
        obtain ⟨-, -, x25, -, -, -⟩ := (H4.out.fr f5).cell
        clear O5x k5 x16 c06 c16 O5 OA5 fa5 hs5
        go_upto_region 13 with (go_at_call 79; refine (rlaterFit K5.out List.length_append HN2.out HT.out HFit.out).mono ?_; rintro e w6 ⟨outs, oa, oc, rfl, f6a, k6, n6, m6⟩; have f6 : Fr [] w4 w6 := f5.trans f6a; have K6 := Lib.hid k6; have N6 := Lib.hid n6; clear f6a k6 n6)
        have H6 := Lib.hid (H4.out.fr f6)
        have HNB := Lib.hid (NewB.of K6.out (Nat.le_trans F4.out.size f5.size))
        have F6 := Lib.hid (F4.out.trans f6.nil)
        have HCell6 := Lib.hid (fun j hj => f6.cell (HCell4.out j hj) (by simp))
        have L6 := Lib.hid (K6.out.base (Nat.zero_le _))
        rw [List.length_map] at m6
        have hsA := src_part (c := s1.vc) (o := 0) (m := i) (l := s1.bs.take i) HCell6.out (by rw [List.length_take]; omega) (fun j hj => ⟨by omega, take_at (by omega) hj⟩)
        have HsA := Lib.hid hsA
        have i6 : (i : Int) ≤ (s1.vc : Int) := by omega
        have hti : (s1.bs.take i).length = i := by rw [List.length_take]; omega
        have HTi := Lib.hid hti
        obtain ⟨-, y1, -⟩ := H6.out.cell
        simp only [HVa.out] at y1
        clear f5 f6 hsA x1 c0 c1 x25 HX HY HFit HN2 hn2 K5 K6 HT H4 F4 HCell4 i5 hti
        go_upto_if 103 with (at_builtin; refine wpList_append_bsN i _ rfl (.tmp 93) (.tmp 99) rfl none (.slice none 0 0) [] (s1.bs.take i) (by rw [HTi.out]; simp) rfl ⟨World.ownsRow_nil _ _ _ _, rfl⟩ (.slice (some ⟨g, 0, none⟩) i s1.vc) rfl HsA.out (by rw [HTi.out]; simp; omega) ?_; intro na nc w7 nb hn7 hg7; have N7 : Hid (BsAt w7 nb (.slice na i nc) (s1.bs.take i)) := Lib.hid hn7; have W7 : Hid (∀ g, nb = some g → w6.heap.size ≤ g) := Lib.hid (fun g9 hg9 => by rcases hg7.2 with h9 | h9 <;> (rw [h9] at hg9; first | (cases hg9; done) | (rw [← Option.some.inj hg9]; exact Nat.le_refl _))); have F7 : Hid (Fr [] w6 w7) := Lib.hid (Fr.grown hg7.1); clear hn7 hg7)
        clear HsA
        go_cut [11] (fun v wx => NextR w6 s1.bs i ⟨oa, oc, outs⟩ v wx)
        case first =>
          by_cases ho : outs = []
          · subst ho
            go_wp2_with fail
            go_meet
            case rel => exact ⟨na, nc, nb, by rw [nextL_nil rfl, HTi.out], by rw [nextL_nil rfl, HTi.out]; exact N7.out, W7.out, F7.out⟩
          · have HO := Lib.hid ho
            have hpos : (0 : Int) < (outs.length : Int) := by have := List.length_pos_iff.2 ho; omega
            have hsrc : Src (w7.alloc (.cells #[.slice oa outs.length oc] 27)) 1 (.slice (some ⟨w7.heap.size, 0, none⟩) 1 1) 1 (btsC [⟨oa, oc, outs⟩]) := Src.block (heap_alloc_new w7 _) rfl (by intro u hu; simp at hu; rw [hu]; rfl)
            have HSrc := Lib.hid hsrc
            have fa : Fr [] w7 (w7.alloc (.cells #[.slice oa outs.length oc] 27)) := (Fr.refl [] w7).alloc _
            have FA7 := Lib.hid fa
            have NA7 := Lib.hid (N7.out.frS fa (by simp))
            have hle : (s1.bs.take i).length + [(⟨oa, oc, outs⟩ : Bt)].length ≤ 1000000 := by rw [HTi.out]; simp; omega
            have HLe := Lib.hid hle
            clear ho hsrc fa hle
            go_wp2_with (at_builtin; refine wpList_append_bs _ rfl (.tmp 104) (.tmp 106) rfl nb (.slice na i nc) (s1.bs.take i) [⟨oa, oc, outs⟩] rfl NA7.out (.slice (some ⟨w7.heap.size, 0, none⟩) 1 1) rfl HSrc.out HLe.out ?_; intro va8 vc8 w8 nb8 hb8 hg8; have B8 := Lib.hid hb8; have G8 := Lib.hid hg8; clear hb8 hg8)
            go_meet
            case rel =>
              have f8 : Fr [] w6 w8 := (F7.out.trans FA7.out).past (Fr.grown G8.out.1) (fun x hx => Or.inl (W7.out x (by simpa using hx)))
              refine ⟨va8, vc8, nb8, by rw [nextL_cons HO.out, List.length_append, List.length_take]; rfl, by rw [nextL_cons HO.out, List.length_append]; exact B8.out, fun g hg => ?_, f8⟩
              rcases G8.out.2 with h9 | h9
              · exact W7.out g (h9.symm.trans hg)
              · have e9 := Option.some.inj (h9.symm.trans hg)
                rw [← e9]
                exact Nat.le_trans F7.out.size FA7.out.size
        case rest =>
          obtain ⟨xa, xc, xb, rfl, hbx, hnx, hfx⟩ := hcut
          obtain ⟨wx, rfl⟩ : ∃ wx, wx = wc := ⟨wc, rfl⟩
          have HX := Lib.hid (H6.out.fr hfx)
          have FX := Lib.hid hfx
          have BX := Lib.hid hbx
          have WX := Lib.hid hnx
          have TX : Hid (TyC wx xb.toList) := Lib.hid (fun x hx => by obtain ⟨c9, h9⟩ := hbx.ty (g := x) (by simpa using hx); exact ⟨c9, _, h9, Or.inr (Or.inl rfl)⟩)
          have PX : Hid (p ∉ xb.toList) := Lib.hid (fun hx => by
            obtain ⟨cur, hc⟩ := hbx.ty (g := p) (by simpa using hx)
            rw [HX.out.blk] at hc
            simp at hc)
          have LX := Lib.hid (L6.out.frC hfx (TyC.nil _))
          have yx := hfx.cell y1 (by simp)
          have hcx := fun j hj => hfx.cell (HCell6.out j hj) (by simp)
          have hszx := hfx.size
          have HLx := Lib.hid (show (nextL s1.bs i ⟨oa, oc, outs⟩).length + (s1.bs.drop (i + 2)).length ≤ 1000000 by
            have h9 : (nextL s1.bs i ⟨oa, oc, outs⟩).length ≤ i + 1 := by unfold nextL; split <;> simp <;> omega
            rw [List.length_drop]; omega)
          have hdl : (s1.bs.drop (i + 2)).length = s1.bs.length - (i + 2) := List.length_drop
          by_cases hcap : s1.vc = i + 2
          · have hnn : s1.bs.length = i + 2 := by omega
            have hsB := fun c => src_part (c := c) (o := 0) (m := s1.bs.length - (i + 2)) (l := s1.bs.drop (i + 2)) hcx hdl (fun j hj => absurd hj (by omega))
            have HsB := Lib.hid hsB
            have HCap := Lib.hid hcap
            have j1 : (i : Int) + 2 ≤ (s1.bs.length : Int) := by omega
            have j2 : (s1.bs.length : Int) ≤ (s1.vc : Int) := by omega
            have j3 : ((i : Int) + 2).toNat = i + 2 := by omega
            clear hbx hnx hfx hcx hsB hdl hnn
            go_wp2_with (at_builtin; refine wpList_append_bs _ rfl (.tmp 109) (.tmp 116) rfl xb (.slice xa (nextL s1.bs i ⟨oa, oc, outs⟩).length xc) (nextL s1.bs i ⟨oa, oc, outs⟩) (s1.bs.drop (i + 2)) rfl BX.out (.slice (some ⟨g, 0, none⟩) (s1.bs.length - (i + 2)) _) rfl (HsB.out _) HLx.out ?_; intro va9 vc9 w9 nb9 hb9 hg9; have f9 : Fr xb.toList wx w9 := Fr.grown hg9.1; have b9 := f9.heap HX.out.blk PX.out; have c9 : w9.cell? ⟨p, 1, none⟩ = some (.slice s1.va s1.bs.length s1.vc) := (by simp [World.cell?, b9, Spn.cells]); have z9 : w9.frozen? ⟨p, 1, none⟩ = false := (by simp [World.frozen?, b9]); have B9 := Lib.hid b9; have G9 := Lib.hid hg9; have O9 := Lib.hid hb9; have F9 := Lib.hid f9; clear f9 b9 hg9 hb9)
            go_roundg (gk - 1)
            case measure => omega
            case rel =>
              have h9 := rwork_round (wb := wb) HQ.out HCo.out HCd.out N6.out m6 HW.out hl F6.out FX.out WX.out HX.out LX.out TX.out B9.out O9.out G9.out F9.out HOld HNB.out
              rw [List.length_drop] at h9
              exact h9
          · have hsB := src_part (c := s1.vc - (i + 2)) (o := i + 2) (m := s1.bs.length - (i + 2)) (l := s1.bs.drop (i + 2)) hcx hdl (fun j hj => ⟨by omega, drop_at (by omega)⟩)
            have HsB := Lib.hid hsB
            have j1 : (i : Int) + 2 ≤ (s1.bs.length : Int) := by omega
            have j2 : (s1.bs.length : Int) ≤ (s1.vc : Int) := by omega
            have j3 : ((i : Int) + 2).toNat = i + 2 := by omega
            have j4 : (i : Int) + 2 < (s1.vc : Int) := by omega
            clear hbx hnx hfx hcx hsB hdl
            go_wp2_with (at_builtin; refine wpList_append_bs _ rfl (.tmp 109) (.tmp 116) rfl xb (.slice xa (nextL s1.bs i ⟨oa, oc, outs⟩).length xc) (nextL s1.bs i ⟨oa, oc, outs⟩) (s1.bs.drop (i + 2)) rfl BX.out (.slice (some ⟨g, i + 2, none⟩) (s1.bs.length - (i + 2)) (s1.vc - (i + 2))) rfl HsB.out HLx.out ?_; intro va9 vc9 w9 nb9 hb9 hg9; have f9 : Fr xb.toList wx w9 := Fr.grown hg9.1; have b9 := f9.heap HX.out.blk PX.out; have c9 : w9.cell? ⟨p, 1, none⟩ = some (.slice s1.va s1.bs.length s1.vc) := (by simp [World.cell?, b9, Spn.cells]); have z9 : w9.frozen? ⟨p, 1, none⟩ = false := (by simp [World.frozen?, b9]); have B9 := Lib.hid b9; have G9 := Lib.hid hg9; have O9 := Lib.hid hb9; have F9 := Lib.hid f9; clear f9 b9 hg9 hb9)
            go_roundg (gk - 1)
            case measure => omega
            case rel =>
              have h9 := rwork_round (wb := wb) HQ.out HCo.out HCd.out N6.out m6 HW.out hl F6.out FX.out WX.out HX.out LX.out TX.out B9.out O9.out G9.out F9.out HOld HNB.out
              rw [List.length_drop] at h9
              exact h9
end Go.Proofs.YtjchlfblbmiceaaGreat
