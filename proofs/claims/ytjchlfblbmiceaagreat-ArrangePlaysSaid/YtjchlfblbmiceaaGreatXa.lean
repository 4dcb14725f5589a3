/- The reference's spine in memory; its New, Compact, due, wide, Sizes, All, Clone. No condition but the sizes. -/
import Derived.Test.YtjchlfblbmiceaaGreatSn
import Derived.Deep.CutRange
import Derived.Deep.DeepCutAuto
namespace Go.Proofs.YtjchlfblbmiceaaGreat
open Go.RowKit srt grp

/-! ### frames of blocks that no list lies in -/
/-- Blocks of spines, the program's or the reference's, or of lists of batches. -/
def TyC (w : World) (S : List Nat) : Prop := ∀ x ∈ S, ∃ cur t, w.heap[x]? = some (.cells cur t) ∧ (t = 73 ∨ t = 27 ∨ t = 85 ∨ t = 26 ∨ t = 45)
theorem TyC.nil (w : World) : TyC w [] := by intro x hx; simp at hx
theorem TyC.not {w : World} {S : List Nat} (h : TyC w S) {b : Nat} {cur : Array Value} {t : Nat} (hb : w.heap[b]? = some (.cells cur t)) (h1 : t ≠ 73 ∧ t ≠ 27 ∧ t ≠ 85 ∧ t ≠ 26 ∧ t ≠ 45) : b ∉ S := by
  intro hx
  obtain ⟨c, t', hc, ht⟩ := h b hx
  rw [hb] at hc
  simp only [Option.some.injEq, Obj.cells.injEq] at hc
  obtain ⟨-, rfl, -⟩ := hc
  obtain ⟨h1, h2, h3, h4, h5⟩ := h1
  rcases ht with ht | ht | ht | ht | ht
  · exact h1 ht
  · exact h2 ht
  · exact h3 ht
  · exact h4 ht
  · exact h5 ht
theorem TyB.c {w : World} {S : List Nat} (h : TyB w S) : TyC w S := fun x hx => by
  rcases h x hx with ⟨c, hc⟩ | ⟨c, hc⟩
  · exact ⟨c, _, hc, Or.inl rfl⟩
  · exact ⟨c, _, hc, Or.inr (Or.inl rfl)⟩
theorem TyC.app {w : World} {S T : List Nat} (h : TyC w S) (h' : TyC w T) : TyC w (S ++ T) := fun x hx => by
  rcases List.mem_append.1 hx with hx | hx
  · exact h x hx
  · exact h' x hx
theorem RowIn.frC {w w' : World} {S : List Nat} {base : Nat} {v : Value} {ds : List Dt} (h : RowIn base w v ds) (f : Fr S w w') (hS : TyC w S) : RowIn base w' v ds := by
  rcases h with h | ⟨g, cap, cur, hb, hv, hc, hg, htk⟩
  · exact Or.inl h
  · exact Or.inr ⟨g, cap, cur, hb, hv, hc, f.heap hg (hS.not hg (by decide)), htk⟩
theorem upd.ListIn.frC {w w' : World} {S : List Nat} {base : Nat} {v : Value} {l : List upd.El} (h : upd.ListIn base w v l) (f : Fr S w w') (hS : TyC w S) : upd.ListIn base w' v l := by
  refine ⟨?_, fun e he => ⟨(h.2 e he).1.frC f hS, (h.2 e he).2⟩⟩
  rcases h.1 with h | ⟨g, c, cur, hb, hv, hc, hg, htk⟩
  · exact Or.inl h
  · exact Or.inr ⟨g, c, cur, hb, hv, hc, f.heap hg (hS.not hg (by decide)), htk⟩
theorem KeyAt.frC {w w' : World} {S : List Nat} {v : Value} {l : List Int} (h : KeyAt w v l) (f : Fr S w w') (hS : TyC w S) : KeyAt w' v l := by
  rcases h with h | ⟨g, cap, cur, hv, hc, hg, htk⟩
  · exact Or.inl h
  · exact Or.inr ⟨g, cap, cur, hv, hc, f.heap hg (hS.not hg (by decide)), htk⟩
theorem SpAt.frC {w w' : World} {S : List Nat} {p : Nat} {wb : Option Nat} {s : Spn} (h : SpAt w p wb s) (f : Fr S w w') (hS : TyC w S) (hp : p ∉ S) (hwb : ∀ g, wb = some g → g ∉ S) : SpAt w' p wb s :=
  ⟨f.heap h.blk hp, h.key.frC f hS, h.own.frS f hwb, fun b hb => (h.bts b hb).frC f hS⟩

/-! ### the reference's spine -/
structure RfAt (w : World) (p : Nat) (wb : Option Nat) (s : Spn) : Prop where
  blk : w.heap[p]? = some (.cells s.cells 85)
  key : KeyAt w (.slice s.ka s.key.length s.kc) s.key
  own : BsAt w wb (.slice s.va s.bs.length s.vc) s.bs
  bts : ∀ b ∈ s.bs, upd.ListIn 0 w b.v b.l
theorem RfAt.frC {w w' : World} {S : List Nat} {p : Nat} {wb : Option Nat} {s : Spn} (h : RfAt w p wb s) (f : Fr S w w') (hS : TyC w S) (hp : p ∉ S) (hwb : ∀ g, wb = some g → g ∉ S) : RfAt w' p wb s :=
  ⟨f.heap h.blk hp, h.key.frC f hS, h.own.frS f hwb, fun b hb => (h.bts b hb).frC f hS⟩
theorem RfAt.fr {w w' : World} {p : Nat} {wb : Option Nat} {s : Spn} (h : RfAt w p wb s) (f : Fr [] w w') : RfAt w' p wb s := h.frC f (TyC.nil _) (by simp) (by simp)
theorem RfAt.cell {w : World} {p : Nat} {wb : Option Nat} {s : Spn} (h : RfAt w p wb s) : w.cell? ⟨p, 0, none⟩ = some (.slice s.ka s.key.length s.kc) ∧ w.cell? ⟨p, 1, none⟩ = some (.slice s.va s.bs.length s.vc) ∧ w.cell? ⟨p, 2, none⟩ = some (.int .i64 s.since) ∧ w.cell? ⟨p, 3, none⟩ = some (.int .i64 s.upper) ∧
    w.cell? ⟨p, 4, none⟩ = some (.int .i64 s.credit) ∧ ∀ o, w.frozen? ⟨p, o, none⟩ = false := by
  have hb := h.blk
  refine ⟨?_, ?_, ?_, ?_, ?_, ?_⟩
  · simp [World.cell?, hb, Spn.cells]
  · simp [World.cell?, hb, Spn.cells]
  · simp [World.cell?, hb, Spn.cells]
  · simp [World.cell?, hb, Spn.cells]
  · simp [World.cell?, hb, Spn.cells]
  · intro o; simp [World.frozen?, hb]
theorem RfAt.tyB {w : World} {p : Nat} {wb : Option Nat} {s : Spn} (h : RfAt w p wb s) : TyC w (wbL p wb) := by
  intro x hx
  rcases List.mem_cons.1 hx with rfl | hx
  · exact ⟨_, _, h.blk, Or.inr (Or.inr (Or.inl rfl))⟩
  · obtain ⟨c, hc⟩ := h.own.ty (g := x) (by simpa using hx)
    exact ⟨c, _, hc, Or.inr (Or.inl rfl)⟩
theorem RfAt.tyP {w : World} {p : Nat} {wb : Option Nat} {s : Spn} (h : RfAt w p wb s) : TyC w [p] := by
  intro x hx
  rw [List.mem_singleton.1 hx]
  exact ⟨_, _, h.blk, Or.inr (Or.inr (Or.inl rfl))⟩
theorem RfAt.ne {w : World} {p : Nat} {wb : Option Nat} {s : Spn} (h : RfAt w p wb s) : ∀ g, wb = some g → g ∉ [p] := by
  intro g hg hx
  obtain ⟨cur, hc⟩ := h.own.ty hg
  rw [List.mem_singleton.1 hx, h.blk] at hc
  simp at hc
theorem RfAt.setP {w : World} {p o : Nat} {wb : Option Nat} {s s' : Spn} {v : Value} (h : RfAt w p wb s) (hc : s.cells.setIfInBounds o v = s'.cells) (hk : s'.ka = s.ka ∧ s'.key = s.key ∧ s'.kc = s.kc ∧ s'.va = s.va ∧ s'.bs = s.bs ∧ s'.vc = s.vc) : RfAt (w.setCell ⟨p, o, none⟩ v) p wb s' := by
  have f : Fr [p] w (w.setCell ⟨p, o, none⟩ v) := (Fr.refl [p] w).setCell (by simp) v
  obtain ⟨k1, k2, k3, k4, k5, k6⟩ := hk
  refine ⟨?_, ?_, ?_, ?_⟩
  · rw [← hc]; exact heap_set h.blk
  · rw [k1, k2, k3]; exact h.key.frC f h.tyP
  · rw [k4, k5, k6]; exact h.own.frS f h.ne
  · rw [k5]; exact fun b hb => (h.bts b hb).frC f h.tyP

theorem RfAt.store {w : World} {p : Nat} {wb' : Option Nat} {s : Spn} {va : Option Addr} {vc n : Nat} {bs' : List Bt} (hb : w.heap[p]? = some (.cells s.cells 85)) (hk : KeyAt w (.slice s.ka s.key.length s.kc) s.key) (hn : bs'.length = n) (ho : BsAt w wb' (.slice va n vc) bs') (ht : ∀ b ∈ bs', upd.ListIn 0 w b.v b.l) :
    RfAt (w.setCell ⟨p, 1, none⟩ (.slice va n vc)) p wb' { s with va := va, vc := vc, bs := bs' } := by
  subst hn
  have f : Fr [p] w (w.setCell ⟨p, 1, none⟩ (.slice va bs'.length vc)) := (Fr.refl [p] w).setCell (by simp) _
  have hT : TyC w [p] := fun x hx => by rw [List.mem_singleton.1 hx]; exact ⟨_, _, hb, Or.inr (Or.inr (Or.inl rfl))⟩
  refine ⟨heap_set hb, hk.frC f hT, ho.frS f fun g hg hx => ?_, fun b h9 => (ht b h9).frC f hT⟩
  obtain ⟨cur, hc⟩ := ho.ty hg
  rw [List.mem_singleton.1 hx, hb] at hc
  simp at hc


set_option maxRecDepth 100000
def RCompPost (w : World) (p : Nat) (wb : Option Nat) (s : Spn) (t : Int) (e : Ending) (w' : World) : Prop :=
  e = .returned (.int .i64 (askE s t)) ∧ ((askE s t = 0 ∧ RfAt w' p wb { s with since := t } ∧ Fr [p] w w') ∨ (askE s t ≠ 0 ∧ w = w'))
theorem rcompact_any {w : World} {p : Nat} {wb : Option Nat} {s : Spn} (h : RfAt w p wb s) (t : Int) : Calls Tryz.prog 46 #[.pointer (some ⟨p, 0, none⟩), .int .i64 t] w (RCompPost w p wb s t) := by
  obtain ⟨-, -, c2, c3, -, c5⟩ := h.cell
  have H := Lib.hid h
  have cz := c5 2
  clear h c5
  by_cases h1 : t < s.since
  · have HE := Lib.hid (show askE s t = 130 by unfold askE; rw [if_pos h1])
    go_enter Tryz.func46, Tryz.ntmps46
    go_wp2
    go_ret
    exact ⟨ret_int HE.out.symm, Or.inr ⟨by rw [HE.out]; decide, rfl⟩⟩
  · by_cases h2 : s.upper ≤ t
    · have HE := Lib.hid (show askE s t = 131 by unfold askE; rw [if_neg h1, if_pos h2])
      go_enter Tryz.func46, Tryz.ntmps46
      go_wp2
      go_ret
      exact ⟨ret_int HE.out.symm, Or.inr ⟨by rw [HE.out]; decide, rfl⟩⟩
    · have HE := Lib.hid (show askE s t = 0 by unfold askE; rw [if_neg h1, if_neg h2])
      go_enter Tryz.func46, Tryz.ntmps46
      go_wp2
      go_ret
      exact ⟨ret_int HE.out.symm, Or.inl ⟨HE.out, H.out.setP (s' := { s with since := t }) (by rfl) ⟨rfl, rfl, rfl, rfl, rfl, rfl⟩, (Fr.refl [p] w).setCell (by simp) _⟩⟩
def RDuePost (w : World) (bs : List Bt) (e : Ending) (w' : World) : Prop :=
  Fr [] w w' ∧ ((∃ i : Nat, dueI (szs bs) = some i ∧ e = .returned (.int .i64 i)) ∨ (dueI (szs bs) = none ∧ e = .returned (.int .i64 (-1))))
theorem rdue_any {w : World} {p : Nat} {wb : Option Nat} {s : Spn} (h : RfAt w p wb s) (hb : s.bs.length ≤ 1000000) (hlen : ∀ b ∈ s.bs, b.l.length ≤ 1000000) : Calls Tryz.prog 78 #[.pointer (some ⟨p, 0, none⟩)] w (RDuePost w s.bs) := by
  have H := Lib.hid h
  have HLen := Lib.hid hlen
  clear h hlen
  go_enter Tryz.func78, Tryz.ntmps78
  go_wp2_with fail
  go_loopw [3] (fun x wr => ∃ j : Nat, x = .int .i64 j ∧ j ≤ s.bs.length ∧ Fr [] w wr ∧ Hid (dueI (szs s.bs) = (dueI ((szs s.bs).drop j)).map (· + j))) (fun x _ => s.bs.length + 1 - (intOf x).toNat)
  case atStart => exact ⟨0, rfl, Nat.zero_le _, Fr.refl _ _, Lib.hid (by simp)⟩
  case round =>
    obtain ⟨j, rfl, hj, hf, HD⟩ := hrel
    have HF := Lib.hid hf
    obtain ⟨-, x1, -⟩ := (H.out.fr hf).cell
    by_cases hlt : j + 1 < s.bs.length
    · obtain ⟨b, off, e1, y0⟩ := src_bts (H.out.fr hf).own.src (show j < s.bs.length by omega)
      obtain ⟨b', off', e2, y1⟩ := src_bts (H.out.fr hf).own.src hlt
      rw [e1] at e2
      simp only [Option.some.injEq, Addr.mk.injEq, and_true] at e2
      obtain ⟨rfl, rfl⟩ := e2
      rw [e1] at x1
      have l0 := HLen.out _ (nbt_mem (show j < s.bs.length by omega))
      have l1 := HLen.out _ (nbt_mem hlt)
      have HSt := Lib.hid (due_step hlt)
      have u1 : ∀ q : FrBy wr, q.wn.cell? ⟨p, 1, none⟩ = some (.slice (some ⟨b, off, none⟩) s.bs.length s.vc) := fun q => q.fr.cell x1 (by simp)
      have v0 : ∀ q : FrBy wr, q.wn.cell? ⟨b, off + j, none⟩ = some (.slice (nbt s.bs j).ba (nbt s.bs j).l.length (nbt s.bs j).bc) := fun q => q.fr.cell y0 (by simp)
      have v1 : ∀ q : FrBy wr, q.wn.cell? ⟨b, off + (j + 1), none⟩ = some (.slice (nbt s.bs (j + 1)).ba (nbt s.bs (j + 1)).l.length (nbt s.bs (j + 1)).bc) := fun q => q.fr.cell y1 (by simp)
      have i1 : (j : Int) + 1 < (s.bs.length : Int) := by omega
      have i2 : (j : Int) < (s.bs.length : Int) := by omega
      have i3 : IntKind.i64.wrap (j : Int) = (j : Int) := by rw [IntKind.wrap_i64]; omega
      have i4 : ((j : Int) + 1).toNat = j + 1 := by omega
      have i5 : (0 : Int) ≤ (j : Int) + 1 := by omega
      clear hf y0 y1 e1
      generalize (nbt s.bs j).l.length = m0 at *
      generalize (nbt s.bs (j + 1)).l.length = m1 at *
      go_upto_region 4 with fail
      by_cases hd : m0 < 2 * m1
      · have HE := Lib.hid (show dueI (szs s.bs) = some j by rw [HD.out, HSt.out, if_pos hd]; simp)
        have hd2 : (m0 : Int) < 2 * (m1 : Int) := by omega
        refine wp_region_fr (by kernel_rfl) (by kernel_rfl) ?_
        repeat (go_big_quiet_step (fail))
        refine wpQuiet_nil ?_
        intro wn hwn
        have fn : Fr [] wr wn := by obtain ⟨p, rfl⟩ := hwn; exact p.fr
        clear hwn u1 v0 v1
        go_wp2_with fail
        go_ret
        exact ⟨HF.out.trans fn, Or.inl ⟨j, HE.out, rfl⟩⟩
      · have HE := Lib.hid (show dueI (szs s.bs) = (dueI ((szs s.bs).drop (j + 1))).map (· + (j + 1)) by
          rw [HD.out, HSt.out, if_neg hd, Option.map_map]
          congr 1
          funext x
          simp only [Function.comp_apply]
          omega)
        have hd2 : ¬ (m0 : Int) < 2 * (m1 : Int) := by omega
        refine wp_region_fr (by kernel_rfl) (by kernel_rfl) ?_
        repeat (go_big_quiet_step (fail))
        refine wpQuiet_nil ?_
        intro wn hwn
        have fn : Fr [] wr wn := by obtain ⟨p, rfl⟩ := hwn; exact p.fr
        clear hwn u1 v0 v1
        go_wp2_with fail
        go_roundw
        case rel => exact ⟨j + 1, by go_num, by omega, HF.out.trans fn, HE⟩
        case measure => simp [intOf] <;> omega
    · have HE := Lib.hid (show dueI (szs s.bs) = none by rw [HD.out, due_end (by omega)]; rfl)
      clear hf
      go_wp2_with fail
      go_ret
      exact ⟨HF.out, Or.inr ⟨HE.out, rfl⟩⟩
set_option maxHeartbeats 1600000 in
theorem rsizes_any {w : World} {p : Nat} {wb : Option Nat} {s : Spn} (h : RfAt w p wb s) (hb : s.bs.length ≤ 1000000) :
    Calls Tryz.prog 55 #[.pointer (some ⟨p, 0, none⟩)] w (SizesPost w (szs s.bs)) := by
  obtain ⟨i0, hi, hz0, hz1, hz2⟩ := info_parts infoK
  obtain ⟨-, x1, -⟩ := h.cell
  have HS := Lib.hid h.own.src
  clear h
  generalize s.va = va at *
  go_enter Tryz.func55, Tryz.ntmps55
  go_wp2_with fail
  go_loopw [3, 11] (fun v x wr => ∃ k : Nat, x = .int .i64 k ∧ k ≤ s.bs.length ∧ Fr [] w wr ∧ wr.ownsRow w.heap.size 3 1 v k (kiC (natI ((szs s.bs).take k)))) (fun _ x _ => s.bs.length - (intOf x).toNat)
  case atStart => exact ⟨0, rfl, Nat.zero_le _, Fr.refl _ _, World.ownsRow_nil _ _ _ _⟩
  case round =>
    obtain ⟨k, rfl, hk, hf, ho⟩ := hrel
    obtain ⟨xa, xc, rfl⟩ := ownsRow_shape ho
    have HF := Lib.hid hf
    have HO := Lib.hid ho
    have hsz := hf.size
    by_cases hlt : k < s.bs.length
    · obtain ⟨b, off, e1, y0⟩ := src_bts (HS.out.fr hf) hlt
      subst e1
      have hts : (szs s.bs).take (k + 1) = (szs s.bs).take k ++ [(nbt s.bs k).l.length] := by
        have h1 : (szs s.bs)[k]? = some (nbt s.bs k).l.length := by unfold szs; rw [List.getElem?_map, nbt_at hlt]; rfl
        rw [List.take_add_one, h1]; rfl
      have HTs := Lib.hid hts
      generalize (nbt s.bs k).l.length = m at *
      have hsrc : Src (wr.alloc (.cells #[.int .i64 m] 3)) 1 (.slice (some ⟨wr.heap.size, 0, none⟩) 1 1) 1 [.int .i64 m] := Src.block (heap_alloc_new wr _) rfl (by intro u hu; simp at hu; rw [hu]; rfl)
      have HSrc := Lib.hid hsrc
      clear hf ho hts hsrc
      go_wp2_with (at_builtin; refine wpList_append_src _ rfl (.tmp 15) (.tmp 18) 22 rfl w.heap.size 3 i0 _ 1 8 Tryz.underlying22 hi hz0 hz1 hz2 rfl (by decide) (.slice xa k xc) k _ rfl (HO.out.alloc _) (.slice (some ⟨wr.heap.size, 0, none⟩) 1 1) 1 [.int .i64 m] rfl HSrc.out (by unfold maxLen; omega) (by omega) (by simp; omega) ?_; intro v' w6 hown6 hgrow6 _)
      have HOwn6 := Lib.hid hown6
      have HG6 := Lib.hid hgrow6
      clear hown6 hgrow6
      go_roundw
      case rel => exact ⟨k + 1, by go_num, by omega, (HF.out.alloc _).fresh HG6.out (fun r e => Or.inl (HO.out.lt r e).1), by
        rw [HTs.out]
        have h9 := HOwn6.out
        simpa [natI, kiC] using h9⟩
      case measure => simp [intOf] <;> omega
    · have hkk : k = s.bs.length := by omega
      have h9 := ho
      rw [hkk, List.take_of_length_le (by rw [szs_len]; omega)] at h9
      have H9 := Lib.hid h9
      have HKK := Lib.hid hkk
      clear hf ho hkk h9
      go_wp2_with fail
      go_ret
      have el : (szs s.bs).length = s.bs.length := szs_len _
      refine ⟨⟨xa, xc, ret_slice (by rw [el]; exact HKK.out), ?_⟩, HF.out⟩
      have h8 := H9.out
      rw [← natI_len]
      refine own_key (base := w.heap.size) ?_
      rw [natI_len, el]
      exact h8

def SizesO (w : World) (ns : List Nat) (e : Ending) (w' : World) : Prop := (∃ a c, e = .returned (.slice a ns.length c) ∧ w'.ownsRow w.heap.size 3 1 (.slice a ns.length c) ns.length (kiC (natI ns))) ∧ Fr [] w w'
set_option maxHeartbeats 1600000 in
theorem sizesO_any {w : World} {p : Nat} {wb : Option Nat} {s : Spn} (h : SpAt w p wb s) (hb : s.bs.length ≤ 1000000) :
    Calls Tryz.prog 28 #[.pointer (some ⟨p, 0, none⟩)] w (SizesO w (szs s.bs)) := by
  obtain ⟨i0, hi, hz0, hz1, hz2⟩ := info_parts infoK
  obtain ⟨-, x1, -⟩ := h.cell
  have HS := Lib.hid h.own.src
  clear h
  generalize s.va = va at *
  go_enter Tryz.func28, Tryz.ntmps28
  go_wp2_with fail
  go_loopw [3, 11] (fun v x wr => ∃ k : Nat, x = .int .i64 k ∧ k ≤ s.bs.length ∧ Fr [] w wr ∧ wr.ownsRow w.heap.size 3 1 v k (kiC (natI ((szs s.bs).take k)))) (fun _ x _ => s.bs.length - (intOf x).toNat)
  case atStart => exact ⟨0, rfl, Nat.zero_le _, Fr.refl _ _, World.ownsRow_nil _ _ _ _⟩
  case round =>
    obtain ⟨k, rfl, hk, hf, ho⟩ := hrel
    obtain ⟨xa, xc, rfl⟩ := ownsRow_shape ho
    have HF := Lib.hid hf
    have HO := Lib.hid ho
    have hsz := hf.size
    by_cases hlt : k < s.bs.length
    · obtain ⟨b, off, e1, y0⟩ := src_bts (HS.out.fr hf) hlt
      subst e1
      have hts : (szs s.bs).take (k + 1) = (szs s.bs).take k ++ [(nbt s.bs k).l.length] := by
        have h1 : (szs s.bs)[k]? = some (nbt s.bs k).l.length := by unfold szs; rw [List.getElem?_map, nbt_at hlt]; rfl
        rw [List.take_add_one, h1]; rfl
      have HTs := Lib.hid hts
      generalize (nbt s.bs k).l.length = m at *
      have hsrc : Src (wr.alloc (.cells #[.int .i64 m] 3)) 1 (.slice (some ⟨wr.heap.size, 0, none⟩) 1 1) 1 [.int .i64 m] := Src.block (heap_alloc_new wr _) rfl (by intro u hu; simp at hu; rw [hu]; rfl)
      have HSrc := Lib.hid hsrc
      clear hf ho hts hsrc
      go_wp2_with (at_builtin; refine wpList_append_src _ rfl (.tmp 15) (.tmp 18) 22 rfl w.heap.size 3 i0 _ 1 8 Tryz.underlying22 hi hz0 hz1 hz2 rfl (by decide) (.slice xa k xc) k _ rfl (HO.out.alloc _) (.slice (some ⟨wr.heap.size, 0, none⟩) 1 1) 1 [.int .i64 m] rfl HSrc.out (by unfold maxLen; omega) (by omega) (by simp; omega) ?_; intro v' w6 hown6 hgrow6 _)
      have HOwn6 := Lib.hid hown6
      have HG6 := Lib.hid hgrow6
      clear hown6 hgrow6
      go_roundw
      case rel => exact ⟨k + 1, by go_num, by omega, (HF.out.alloc _).fresh HG6.out (fun r e => Or.inl (HO.out.lt r e).1), by
        rw [HTs.out]
        have h9 := HOwn6.out
        simpa [natI, kiC] using h9⟩
      case measure => simp [intOf] <;> omega
    · have hkk : k = s.bs.length := by omega
      have h9 := ho
      rw [hkk, List.take_of_length_le (by rw [szs_len]; omega)] at h9
      have H9 := Lib.hid h9
      have HKK := Lib.hid hkk
      clear hf ho hkk h9
      go_wp2_with fail
      go_ret
      have el : (szs s.bs).length = s.bs.length := szs_len _
      refine ⟨⟨xa, xc, ret_slice (by rw [el]; exact HKK.out), ?_⟩, HF.out⟩
      have h8 := H9.out
      rw [el]
      exact h8

def RNewAt (w : World) (l : List Int) (e : Ending) (w' : World) : Prop :=
  Fr [] w w' ∧ ((keyOk l = true ∧ ∃ q a c, e = .returned (.tuple #[.pointer (some ⟨q, 0, none⟩), .int .i64 0]) ∧ w.heap.size ≤ q ∧ RfAt w' q none (spn0 a c l)) ∨ (keyOk l = false ∧ e = .returned (.tuple #[.pointer none, .int .i64 132])))
set_option maxHeartbeats 1600000 in
theorem rnewAt_any {w : World} {a : Option Addr} {c : Nat} {l : List Int} (h : Src w 1 (.slice a l.length c) l.length (kiC l)) (hl : l.length ≤ 17592186043904) :
    Calls Tryz.prog 18 #[.slice a l.length c] w (RNewAt w l) := by
  obtain ⟨i0, hi, hz0, hz1, hz2⟩ := info_parts infoK
  have H := Lib.hid h
  clear h
  by_cases h1 : l.length ≤ 16
  · have h1' : ¬ (16 : Int) < (l.length : Int) := by omega
    go_enter Tryz.func18, Tryz.ntmps18
    go_wp2_with fail
    go_loop [11] (fun x => ∃ k : Nat, x = .int .i64 k ∧ k ≤ l.length ∧ Hid (∀ j, j < k → keyBad (nki l j) = false)) (fun x => l.length - (intOf x).toNat)
    case atStart => exact ⟨0, rfl, Nat.zero_le _, Lib.hid (fun j hj => absurd hj (by omega))⟩
    case round =>
      obtain ⟨k, rfl, hk, HA⟩ := hrel
      by_cases hlt : k < l.length
      · obtain ⟨b, off, e1, x0⟩ := src_key H.out hlt
        subst e1
        have HLo := Lib.hid (fun (h9 : keyBad (nki l k) = true) => show keyOk l = false by unfold keyOk; rw [any_yes hlt h9]; simp)
        have HHi : Hid (keyBad (nki l k) = false → ∀ j, j < k + 1 → keyBad (nki l j) = false) := Lib.hid (fun h9 j hj => by
          by_cases h8 : j = k
          · rw [h8]; exact h9
          · exact HA.out j (by omega))
        clear HA
        generalize nki l k = m at *
        by_cases hm0 : m < 0
        · have HN := Lib.hid (HLo.out (by unfold keyBad; simp [hm0]))
          go_wp2_with fail
          go_ret2
          exact ⟨Fr.refl _ _, Or.inr ⟨HN.out, rfl⟩⟩
        · by_cases hm1 : 999 < m
          · have HN := Lib.hid (HLo.out (by unfold keyBad; simp [hm1]))
            go_wp2_with fail
            go_ret2
            exact ⟨Fr.refl _ _, Or.inr ⟨HN.out, rfl⟩⟩
          · have HN := Lib.hid (HHi.out (by unfold keyBad; simp; omega))
            go_wp2_with fail
            go_round
            case rel => exact ⟨k + 1, by go_num, by omega, HN⟩
            case measure => simp [intOf] <;> omega
      · have HN := Lib.hid (show keyOk l = true by unfold keyOk; rw [any_no (fun j hj => HA.out j (by omega))]; simp [h1])
        go_wp2_with (at_builtin; refine wpList_append_src _ rfl (.tmp 22) (.tmp 23) 22 rfl w.heap.size 3 i0 _ 1 8 Tryz.underlying22 hi hz0 hz1 hz2 rfl (by decide) _ _ _ rfl (World.ownsRow_made w #[] 0 (Nat.le_refl _) (by decide) rfl) _ l.length _ rfl (H.out.alloc _) (by unfold maxLen; omega) (by omega) (by simp) ?_; intro v' w1 hown hgrow _; have ho : w1.ownsRow w.heap.size 3 1 v' l.length (kiC l) := (by simpa using hown); obtain ⟨a9, c9, rfl⟩ := ownsRow_shape ho; have F1 := Lib.hid (((Fr.refl [] w).alloc _).fresh hgrow (fun r e => Or.inl (by simp [Act.eval, Value.ownBlock] at e; omega))); have K1 := Lib.hid (own_key ho); clear hown hgrow ho)
        go_ret2
        have fq : Fr [] w1 (w1.alloc (.cells (spn0 a9 c9 l).cells 85)) := (Fr.refl [] w1).alloc _
        exact ⟨F1.out.trans fq, Or.inl ⟨HN.out, _, a9, c9, rfl, F1.out.size, ⟨heap_alloc_new w1 _, K1.out.fr fq, ⟨World.ownsRow_nil _ _ _ _, rfl⟩, fun b hb => by simp [spn0] at hb⟩⟩⟩
  · have h1' : (16 : Int) < (l.length : Int) := by omega
    have HK := Lib.hid (show keyOk l = false by unfold keyOk; simp [h1])
    go_enter Tryz.func18, Tryz.ntmps18
    go_wp2_with fail
    go_ret2
    exact ⟨Fr.refl _ _, Or.inr ⟨HK.out, rfl⟩⟩
/-! ### wide, All, Clone -/
def wideB (key : List Int) (n : Nat) : Bool := !(key.any (noCol n))
theorem wide_any {w : World} {p : Nat} {wb : Option Nat} {s : Spn} (h : RfAt w p wb s) (hk : s.key.length ≤ 1000000) (a : Option Addr) (n c : Nat) :
    Calls Tryz.prog 77 #[.pointer (some ⟨p, 0, none⟩), .slice a n c] w fun e w' => e = .returned (.bool (wideB s.key n)) ∧ w = w' := by
  obtain ⟨x0, -⟩ := h.cell
  have HS := Lib.hid h.key.src
  clear h
  generalize s.ka = va at *
  go_enter Tryz.func77, Tryz.ntmps77
  go_wp2_with fail
  go_loop [12] (fun x => ∃ k : Nat, x = .int .i64 k ∧ k ≤ s.key.length ∧ Hid (∀ j, j < k → noCol n (nki s.key j) = false)) (fun x => s.key.length - (intOf x).toNat)
  case atStart => exact ⟨0, rfl, Nat.zero_le _, Lib.hid (fun j hj => absurd hj (by omega))⟩
  case round =>
    obtain ⟨k, rfl, hkk, HA⟩ := hrel
    by_cases hlt : k < s.key.length
    · obtain ⟨b, off, e1, y0⟩ := src_key HS.out hlt
      subst e1
      have HLo := Lib.hid (fun (h9 : noCol n (nki s.key k) = true) => show wideB s.key n = false by unfold wideB; rw [any_yes hlt h9]; rfl)
      have HHi : Hid (noCol n (nki s.key k) = false → ∀ j, j < k + 1 → noCol n (nki s.key j) = false) := Lib.hid (fun h9 j hj => by
        by_cases h8 : j = k
        · rw [h8]; exact h9
        · exact HA.out j (by omega))
      clear HA
      generalize nki s.key k = m at *
      by_cases hm : (n : Int) ≤ m
      · have HN := Lib.hid (HLo.out (by unfold noCol; simpa using hm))
        go_wp2_with fail
        go_ret
        exact ⟨ret_bool HN.out.symm, rfl⟩
      · have HN := Lib.hid (HHi.out (by unfold noCol; simpa using hm))
        go_wp2_with fail
        go_round
        case rel => exact ⟨k + 1, by go_num, by omega, HN⟩
        case measure => simp [intOf] <;> omega
    · have HN := Lib.hid (show wideB s.key n = true by unfold wideB; rw [any_no (fun j hj => HA.out j (by omega))]; rfl)
      go_wp2_with fail
      go_ret
      exact ⟨ret_bool HN.out.symm, rfl⟩
theorem fl_step {bs : List Bt} {k : Nat} (h : k < bs.length) : ((bs.take (k + 1)).map Bt.l).flatten = ((bs.take k).map Bt.l).flatten ++ (nbt bs k).l := by
  rw [List.take_add_one, nbt_at h]; simp
theorem fl_le {bs : List Bt} (k : Nat) : ((bs.take k).map Bt.l).flatten.length ≤ (bs.map Bt.l).flatten.length := by
  have h := congrArg (fun l : List Bt => (l.map Bt.l).flatten.length) (List.take_append_drop k bs)
  simp only [List.map_append, List.flatten_append, List.length_append] at h
  omega
set_option maxHeartbeats 1600000 in
theorem all_any {w : World} {p : Nat} {wb : Option Nat} {s : Spn} (h : RfAt w p wb s) (hb : s.bs.length ≤ 1000000) (hn : s.fl.length ≤ 10000) :
    Calls Tryz.prog 80 #[.pointer (some ⟨p, 0, none⟩)] w fun e w' => (∃ a c, e = .returned (.slice a s.fl.length c) ∧ upd.Cts w' (.slice a s.fl.length c) s.fl) ∧ Fr [] w w' := by
  obtain ⟨i0, hi, hz0, hz1, hz2⟩ := info_parts upd.infoU
  obtain ⟨-, x1, -⟩ := h.cell
  have HS := Lib.hid h.own.src
  have HB := Lib.hid h.bts
  have HFl := Lib.hid (show s.fl = (s.bs.map Bt.l).flatten from rfl)
  clear h
  generalize s.va = va at *
  generalize s.fl = fl at *
  go_enter Tryz.func80, Tryz.ntmps80
  go_wp2_with fail
  go_loopw [3, 11] (fun v x wr => ∃ k : Nat, x = .int .i64 k ∧ k ≤ s.bs.length ∧ Fr [] w wr ∧ wr.ownsRow w.heap.size 65 3 v ((s.bs.take k).map Bt.l).flatten.length (upd.elsC ((s.bs.take k).map Bt.l).flatten)) (fun _ x _ => s.bs.length - (intOf x).toNat)
  case atStart => exact ⟨0, rfl, Nat.zero_le _, Fr.refl _ _, World.ownsRow_nil _ _ _ _⟩
  case round =>
    obtain ⟨k, rfl, hk, hf, ho⟩ := hrel
    obtain ⟨xa, xc, rfl⟩ := ownsRow_shape ho
    have HF := Lib.hid hf
    have HO := Lib.hid ho
    have hsz := hf.size
    by_cases hlt : k < s.bs.length
    · obtain ⟨b, off, e1, y0⟩ := src_bts (HS.out.fr hf) hlt
      subst e1
      have hts := fl_step hlt
      have hle := fl_le (bs := s.bs) (k + 1)
      rw [← HFl.out, hts, List.length_append] at hle
      have HTs := Lib.hid hts
      have hsrc := ((HB.out _ (nbt_mem hlt)).cts.fr hf).src
      have HSrc := Lib.hid hsrc
      clear hf ho hts hsrc
      generalize ((s.bs.take k).map Bt.l).flatten = pre at *
      generalize nbt s.bs k = bt at *
      obtain ⟨ba, bc, bl⟩ := bt
      simp only [Bt.v] at y0 HSrc HTs hle
      go_wp2_with (at_builtin; refine wpList_append_src _ rfl (.tmp 15) (.tmp 16) 27 rfl w.heap.size 65 i0 _ 3 40 Tryz.underlying27 hi hz0 hz1 hz2 rfl (by decide) (.slice xa pre.length xc) pre.length _ rfl HO.out (.slice ba bl.length bc) bl.length _ rfl HSrc.out (by unfold maxLen; omega) (by omega) (by omega) ?_; intro v' w6 hown6 hgrow6 _)
      have HOwn6 := Lib.hid hown6
      have HG6 := Lib.hid hgrow6
      clear hown6 hgrow6
      go_roundw
      case rel => exact ⟨k + 1, by go_num, by omega, HF.out.fresh HG6.out (fun r e => Or.inl (HO.out.lt r e).1), by
        rw [HTs.out, List.length_append, upd.elsC_append]
        exact HOwn6.out⟩
      case measure => simp [intOf] <;> omega
    · have hkk : k = s.bs.length := by omega
      have h9 := ho
      rw [hkk, List.take_length, ← HFl.out] at h9
      have hKE := upd.own_cts h9 (fun u hu => by
        rw [HFl.out] at hu
        obtain ⟨l9, hl9, hu9⟩ := List.mem_flatten.1 hu
        obtain ⟨b9, hb9, rfl⟩ := List.mem_map.1 hl9
        exact ((HB.out b9 hb9).cts.fr hf).row u hu9)
      have hlen : ((s.bs.take k).map Bt.l).flatten.length = fl.length := by rw [hkk, List.take_length, HFl.out]
      have HL := Lib.hid hlen
      have HKE := Lib.hid hKE
      clear hf ho hkk h9 hKE hlen
      go_wp2_with fail
      go_ret
      exact ⟨⟨xa, xc, ret_slice HL.out, HKE.out⟩, HF.out⟩
theorem rsettleFit {w : World} {a : Option Addr} {c : Nat} {l : List upd.El} (h : upd.Cts w (.slice a l.length c) l) (hn : l.length ≤ 10000) (hf : ∀ q, fitB (1 * sumK (l.map upd.pr) q) = true) :
    Calls Tryz.prog 14 #[.slice a l.length c] w fun e w' => ∃ (outs : List upd.El) (a : Option Addr) (c : Nat), e = .returned (.tuple #[.slice a outs.length c, .int .i64 0]) ∧ Fr [] w w' ∧ upd.ListIn w.heap.size w' (.slice a outs.length c) outs ∧ Canon upd.cmpU (outs.map upd.pr) (fun q => 1 * sumK (l.map upd.pr) q) ∧ outs.length ≤ l.length :=
  (rSettle_any h hn).mono fun e w' ⟨f, hx⟩ => by
    rcases hx with ⟨-, outs, a, c, he, hl, hc, hn⟩ | ⟨⟨r, hr⟩, -⟩
    · exact ⟨outs, a, c, he, f, hl, hc, hn⟩
    · rw [hf r] at hr; cases hr

def RClonePost (w : World) (s : Spn) (e : Ending) (w' : World) : Prop :=
  ∃ (p : Nat) (wb : Option Nat) (va : Option Addr) (vc : Nat), e = .returned (.pointer (some ⟨p, 0, none⟩)) ∧ w.heap.size ≤ p ∧ (∀ g, wb = some g → w.heap.size ≤ g) ∧ RfAt w' p wb { s with va := va, vc := vc } ∧ Fr [] w w'
set_option maxHeartbeats 1600000 in
theorem rfClone_any {w : World} {p : Nat} {wb : Option Nat} {s : Spn} (h : RfAt w p wb s) (hb : s.bs.length ≤ 1000000) :
    Calls Tryz.prog 23 #[.pointer (some ⟨p, 0, none⟩)] w (RClonePost w s) := by
  obtain ⟨x0, x1, x2, x3, x4, -⟩ := h.cell
  have H := Lib.hid h
  clear h
  go_enter Tryz.func23, Tryz.ntmps23
  go_upto_region 2 with fail
  have fa : Fr [] w (w.alloc (.cells s.cells 85)) := (Fr.refl [] w).alloc _
  have hbk := heap_alloc_new w (.cells s.cells 85)
  unfold Spn.cells at fa hbk
  have HA := Lib.hid (H.out.fr fa)
  have FA := Lib.hid fa
  obtain ⟨-, y1, -⟩ := HA.out.cell
  have HB := Lib.hid hbk
  clear fa H x0 x1 x2 x3 x4 hbk
  generalize hq : w.heap.size = q at *
  have HQ := Lib.hid hq
  clear hq
  generalize w.alloc (.cells #[.slice s.ka s.key.length s.kc, .slice s.va s.bs.length s.vc, .int .i64 s.since, .int .i64 s.upper, .int .i64 s.credit] 85) = wa at *
  have f0 : Fr [] wa (wa.alloc (.cells #[] 27)) := (Fr.refl [] wa).alloc _
  have hb0 : BsAt (wa.alloc (.cells #[] 27)) (some wa.heap.size) (.slice (some ⟨wa.heap.size, 0, none⟩) 0 0) [] := ⟨World.ownsRow_made wa #[] 0 (Nat.zero_le _) (by decide) rfl, rfl⟩
  have F0 := Lib.hid f0
  have B0 := Lib.hid hb0
  have S0 := Lib.hid (HA.out.own.src.fr f0)
  have y2 := f0.cell y1 (by simp)
  clear f0 hb0
  go_wp2_with (at_builtin; refine wpList_append_bs _ rfl (.tmp 7) (.tmp 11) rfl (some wa.heap.size) (.slice (some ⟨wa.heap.size, 0, none⟩) 0 0) [] s.bs rfl B0.out (.slice s.va s.bs.length s.vc) rfl S0.out (by simp; omega) ?_; intro na nc w7 nb hn7 hg7; have f7 : Fr [wa.heap.size] (wa.alloc (.cells #[] 27)) w7 := (Fr.grown hg7.1); have g7 : Fr [] wa w7 := F0.out.past f7 (fun x hx => Or.inl (by rw [List.mem_singleton.1 hx]; exact Nat.le_refl _)); have b7 := g7.heap HB.out (by simp); have c7 : w7.cell? ⟨q, 1, none⟩ = some (.slice s.va s.bs.length s.vc) := (by simp [World.cell?, b7]); have z7 : w7.frozen? ⟨q, 1, none⟩ = false := (by simp [World.frozen?, b7]); have B7 := Lib.hid b7; have N7 := Lib.hid hn7; have W7 : Hid (∀ g, nb = some g → wa.heap.size ≤ g) := Lib.hid (fun g hg => by rcases hg7.2 with h9 | h9 <;> (rw [h9] at hg; rw [← Option.some.inj hg]; first | exact Nat.le_refl _ | exact F0.out.size)); have F7 := Lib.hid g7; clear b7 hn7 hg7 f7 g7)
  go_ret
  refine ⟨q, nb, na, nc, rfl, by rw [HQ.out]; exact Nat.le_refl _, fun g hg => Nat.le_trans FA.out.size (W7.out g hg), RfAt.store (s := s) (bs' := s.bs) (by exact B7.out) (HA.out.key.fr F7.out) rfl (by simpa using N7.out) (fun b hb => (HA.out.bts b hb).frC F7.out (TyC.nil _)), ?_⟩
  exact (FA.out.trans F7.out).past ((Fr.refl [q] w7).setCell (by simp) _) (fun x hx => Or.inl (by rw [List.mem_singleton.1 hx, HQ.out]; exact Nat.le_refl _))
end Go.Proofs.YtjchlfblbmiceaaGreat
