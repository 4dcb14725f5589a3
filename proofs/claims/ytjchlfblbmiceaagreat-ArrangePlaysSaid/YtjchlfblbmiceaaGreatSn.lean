/- ArrangeSame: the reference's answers to all that was added. No condition but the sizes. -/
import Derived.Test.YtjchlfblbmiceaaGreatMc
import Derived.Test.YtjchlfblbmiceaaGreatWb
namespace Go.Proofs.YtjchlfblbmiceaaGreat
open Go.RowKit srt grp

theorem frL_snoc (l : List upd.El) (u : upd.El) (t : Int) : frL (l ++ [u]) t = if t ≤ u.t then frL l t ++ [u] else frL l t := by
  unfold frL; rw [List.filter_append]; by_cases h : t ≤ u.t <;> simp [h]
theorem frL_len (l : List upd.El) (t : Int) : (frL l t).length ≤ l.length := List.length_filter_le _ _
def LaR (w : World) (l : List upd.El) (t : Int) (a x : Value) (wr : World) : Prop :=
  ∃ k : Nat, x = .int .i64 (k : Int) ∧ k ≤ l.length ∧ Fr [] w wr ∧ wr.ownsRow w.heap.size 65 3 a (frL (l.take k) t).length (upd.elsC (frL (l.take k) t))

set_option maxRecDepth 100000
set_option maxHeartbeats 3200000 in
theorem rLater13_any {w : World} {aa : Option Addr} {ac : Nat} {l : List upd.El} {t : Int} (h : upd.Cts w (.slice aa l.length ac) l) (hn : l.length ≤ 10000) :
    Calls Tryz.prog 15 #[.slice aa l.length ac, .int .i64 t] w fun e w' => ∃ a c, e = .returned (.slice a (frL l t).length c) ∧ upd.Cts w' (.slice a (frL l t).length c) (frL l t) ∧ Fr [] w w' := by
  obtain ⟨i1, hj, hy0, hy1, hy2⟩ := info_parts upd.infoU
  have H := Lib.hid h
  clear h
  go_enter Tryz.func15, Tryz.ntmps15
  go_wp2_with fail
  go_loopw [5, 10] (fun a x wr => LaR w l t a x wr) (fun _ x _ => l.length - (intOf x).toNat)
  case atStart => exact ⟨0, rfl, Nat.zero_le _, Fr.refl _ _, World.ownsRow_nil _ _ _ _⟩
  case round =>
    obtain ⟨k, rfl, hk, hf, ho⟩ := hrel
    obtain ⟨va, vc, rfl⟩ := ownsRow_shape ho
    have hle := frL_len (l.take k) t
    rw [List.length_take] at hle
    have HO := Lib.hid ho
    have HF := Lib.hid hf
    by_cases hlt : k < l.length
    · as_aux_lemma =>
      obtain ⟨b, off, e1, x0, x1, x2⟩ := (H.out.fr hf).cell hlt
      subst e1
      have hts : l.take (k + 1) = l.take k ++ [upd.nth l k] := by rw [List.take_add_one, upd.nth_at hlt]; rfl
      have HTs := Lib.hid hts
      clear hf ho hts
      generalize hne : (frL (l.take k) t).length = ne at *
      have HNe := Lib.hid hne
      clear hne
      generalize upd.nth l k = u at *
      go_upto_region 5 with fail
      have fa : Fr [] wr (wr.alloc (.cells #[.slice u.ra u.rl u.rc, .int .i64 u.t, .int .i64 u.n] 65)) := (Fr.refl [] wr).alloc _
      have hb4 := heap_alloc_new wr (.cells #[.slice u.ra u.rl u.rc, .int .i64 u.t, .int .i64 u.n] 65)
      have HOA := Lib.hid (ownsRow_fr HO.out fa (by simp))
      have HFA := Lib.hid (HF.out.trans fa)
      clear fa HO HF x0 x1 x2
      generalize wr.heap.size = bx at *
      generalize wr.alloc (.cells #[.slice u.ra u.rl u.rc, .int .i64 u.t, .int .i64 u.n] 65) = wa at *
      have hszA := HFA.out.size
      have z0 := cell_blk hb4 0 (.slice u.ra u.rl u.rc) rfl
      have z1 := cell_blk hb4 1 (.int .i64 u.t) rfl
      have z2 := cell_blk hb4 2 (.int .i64 u.n) rfl
      clear hb4
      by_cases h1 : t ≤ u.t
      · have HC := Lib.hid h1
        go_wp2_with (at_builtin; refine wpList_append_src _ rfl (.tmp 18) (.tmp 20) 27 rfl w.heap.size 65 i1 _ 3 40 Tryz.underlying27 hj hy0 hy1 hy2 rfl (by decide) (.slice va ne vc) ne _ rfl (ownsRow_fr HOA.out ((Fr.refl [] wa).alloc _) (by simp)) (.slice (some ⟨wa.heap.size, 0, none⟩) 1 1) 1 [.slice u.ra u.rl u.rc, .int .i64 u.t, .int .i64 u.n] rfl (Src.block (heap_alloc_new wa _) rfl (by intro v hv; simp at hv; rcases hv with rfl | rfl | rfl <;> rfl)) (by unfold maxLen; omega) (by omega) (by simp; omega) ?_; intro v5 w5 hown5 hgrow5 hblk5; have HOwn5 := Lib.hid hown5; have HG5 := Lib.hid hgrow5; clear hown5 hgrow5 hblk5)
        go_roundw
        case rel =>
          have fb := (Fr.refl [] wa).alloc (.cells #[.slice u.ra u.rl u.rc, .int .i64 u.t, .int .i64 u.n] 65)
          refine ⟨k + 1, by go_num, by omega, (HFA.out.trans fb).fresh HG5.out (fun r e => Or.inl (HOA.out.lt r e).1), ?_⟩
          rw [HTs.out, frL_snoc, if_pos HC.out, List.length_append, HNe.out, upd.elsC_append]
          simpa [upd.elsC, upd.El.cells] using HOwn5.out
        case measure => simp [intOf] <;> omega
      · have HC := Lib.hid h1
        go_wp2_with fail
        go_roundw
        case rel =>
          refine ⟨k + 1, by go_num, by omega, HFA.out, ?_⟩
          rw [HTs.out, frL_snoc, if_neg HC.out, HNe.out]
          exact HOA.out
        case measure => simp [intOf] <;> omega
    · as_aux_lemma =>
      obtain rfl : k = l.length := by omega
      rw [List.take_length] at ho
      rw [List.take_length]
      have KE := Lib.hid (upd.own_cts ho (fun u hu => (H.out.fr hf).row u (List.mem_filter.1 hu).1))
      clear hf ho HO
      go_wp2_with fail
      go_ret
      exact ⟨_, _, rfl, KE.out, HF.out⟩
end Go.Proofs.YtjchlfblbmiceaaGreat
namespace Go.Proofs.YtjchlfblbmiceaaGreat
open Go.RowKit srt grp

theorem fit_mass {l : List El} (h : mass (l.map pr) ≤ 4611686018427387904) (r : List Dt) : fitB (1 * sumK (l.map pr) r) = true := by
  have h1 := sumK_mass (l.map pr) r
  rw [fitB_iff]
  omega
theorem fit_massU {l : List upd.El} (h : massU l ≤ 4611686018427387904) (q : Int × List Dt) : fitB (1 * sumK (l.map upd.pr) q) = true := by
  have h1 := sumK_mass (l.map upd.pr) q
  unfold massU at h
  rw [fitB_iff]
  omega
theorem Gd.all_len {key : List Int} {k : Nat} {s : Spn} {all : List upd.El} (g : Gd key k s all) : all.length ≤ 6000 := by
  have := g.len
  have := g.few
  omega
theorem rAt_good {w : World} {a : Option Addr} {c : Nat} {key : List Int} {k : Nat} {s : Spn} {all : List upd.El} {t : Int} (g : Gd key k s all) (h : upd.Cts w (.slice a all.length c) all) :
    Calls Tryz.prog 11 #[.slice a all.length c, .int .i64 t] w fun e w' => ∃ (outs : List El) (a : Option Addr) (c : Nat), e = .returned (.tuple #[.slice a outs.length c, .int .i64 0]) ∧ Fr [] w w' ∧ Cts w' (.slice a outs.length c) outs ∧ Canon cmpR (outs.map pr) (fun r => 1 * sumK ((atL all t).map pr) r) ∧ outs.length ≤ 6000 :=
  (rAt_any h (by have := g.all_len; omega)).mono fun e w' ⟨f, hx⟩ => by
    rcases hx with ⟨-, outs, a, c, he, hl, hc, hn⟩ | ⟨⟨r, hr⟩, -⟩
    · exact ⟨outs, a, c, he, f, hl.cts, hc, Nat.le_trans hn (Nat.le_trans (atL_len _ _) g.all_len)⟩
    · rw [fit_mass (by have := massU_atL all t; have := g.mass; omega) r] at hr; cases hr
theorem rSettle_good {w : World} {a : Option Addr} {c : Nat} {key : List Int} {k : Nat} {s : Spn} {all : List upd.El} {t : Int} (g : Gd key k s all) (h : upd.Cts w (.slice a (frL all t).length c) (frL all t)) :
    Calls Tryz.prog 14 #[.slice a (frL all t).length c] w fun e w' => ∃ (outs : List upd.El) (a : Option Addr) (c : Nat), e = .returned (.tuple #[.slice a outs.length c, .int .i64 0]) ∧ Fr [] w w' ∧ upd.Cts w' (.slice a outs.length c) outs ∧ Canon upd.cmpU (outs.map upd.pr) (fun q => 1 * sumK ((frL all t).map upd.pr) q) ∧ outs.length ≤ 6000 :=
  (rSettle_any h (by have := g.all_len; have := frL_len all t; omega)).mono fun e w' ⟨f, hx⟩ => by
    rcases hx with ⟨-, outs, a, c, he, hl, hc, hn⟩ | ⟨⟨r, hr⟩, -⟩
    · exact ⟨outs, a, c, he, f, hl.cts, hc, Nat.le_trans hn (Nat.le_trans (frL_len _ _) g.all_len)⟩
    · rw [fit_massU (by have := massU_frL all t; have := g.mass; omega) r] at hr; cases hr
theorem at_ref {key : List Int} {k : Nat} {s : Spn} {all : List upd.El} {t : Int} {o o2 : List El} (g : Gd key k s all) (h : s.since ≤ t) (c : Canon cmpR (o.map pr) (fun r => 1 * sumK ((atL s.fl t).map pr) r)) (c2 : Canon cmpR (o2.map pr) (fun r => 1 * sumK ((atL all t).map pr) r)) : o.map pr = o2.map pr := by
  refine c.uniq cmpRS (c2.of fun r => ?_)
  have e1 : sumK ((atL s.fl t).map pr) r = _ := (g.inv.same).at h r
  rw [e1]
theorem from_ref {key : List Int} {k : Nat} {s : Spn} {all : List upd.El} {t : Int} {o o2 : List upd.El} (g : Gd key k s all) (h : s.since < t) (c : Canon upd.cmpU (o.map upd.pr) (fun q => 1 * sumK ((frL s.fl t).map upd.pr) q)) (c2 : Canon upd.cmpU (o2.map upd.pr) (fun q => 1 * sumK ((frL all t).map upd.pr) q)) : o.map upd.pr = o2.map upd.pr := by
  refine c.uniq upd.cmpUS (c2.of fun q => ?_)
  have e1 : sumK ((frL s.fl t).map upd.pr) q = _ := (g.inv.same).fr h q
  rw [e1]
def PlayedAll (w : World) (key : List Int) (e : Ending) (w' : World) : Prop :=
  ∃ (p : Nat) (wb : Option Nat) (s : Spn) (all : List upd.El) (a : Option Addr) (c : Nat), e = .returned (.tuple #[.pointer (some ⟨p, 0, none⟩), .slice a all.length c]) ∧ Fr [] w w' ∧ SpAt w' p wb s ∧ Gd key 40 s all ∧ upd.Cts w' (.slice a all.length c) all
theorem PlayedPost.all {w w' : World} {key : List Int} {ops : List OpE} {calm : Bool} {e : Ending} (h : PlayedPost w key ops calm e w') (hk : keyOk key = true) : PlayedAll w key e w' := by
  obtain ⟨f, ⟨h9, -⟩ | ⟨-, p, wb, s, all, a, c, he, hp, hs, hw, hg, hpl, hc, hall⟩⟩ := h
  · rw [hk] at h9; cases h9
  · exact ⟨p, wb, s, all, a, c, he, f, hs, hg, hall⟩
end Go.Proofs.YtjchlfblbmiceaaGreat
