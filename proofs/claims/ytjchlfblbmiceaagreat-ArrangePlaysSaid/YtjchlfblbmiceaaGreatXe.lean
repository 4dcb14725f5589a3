/- The reference's spine: Find. No condition but the sizes. -/
import Derived.Test.YtjchlfblbmiceaaGreatXd
namespace Go.Proofs.YtjchlfblbmiceaaGreat
open Go.RowKit srt grp

theorem atL_cons (e : upd.El) (l : List upd.El) (t : Int) : atL (e :: l) t = if e.t ≤ t then toC e :: atL l t else atL l t := by
  unfold atL
  rw [List.filter_cons]
  by_cases h : e.t ≤ t <;> simp [h]
theorem sum_find {P : upd.El → Bool} {r : List Dt} {t : Int} : ∀ {l : List upd.El}, (∀ e ∈ l, e.rd = r → e.t ≤ t → P e = true) → sumK ((atL (l.filter P) t).map pr) r = sumK ((atL l t).map pr) r
  | [], _ => rfl
  | e :: l, h => by
    have ih := sum_find (P := P) (r := r) (t := t) (l := l) (fun x hx => h x (by simp [hx]))
    rw [List.filter_cons]
    by_cases hp : P e = true
    · rw [if_pos hp, atL_cons, atL_cons]
      split
      · rw [List.map_cons, List.map_cons, sumK_cons, sumK_cons, ih]
      · exact ih
    · rw [if_neg hp, atL_cons, ih]
      split
      · rename_i ht
        rw [List.map_cons, sumK_cons, if_neg (show ¬ (pr (toC e)).1 = r from fun e9 => hp (h e (by simp) e9 ht))]
        omega
      · rfl
theorem RowAt.cap {w : World} {a : Option Addr} {n c : Nat} {ds : List Dt} (h : RowAt w (.slice a n c) ds) : ds.length ≤ c := by
  obtain ⟨a', c', hv, hc⟩ := h.shape
  simp only [Value.slice.injEq] at hv
  omega

def hitR (key : List Int) (kr row : List Dt) (i : Nat) : Bool := decide (cmpR [nd row (nki key i).toNat] [nd kr i] = 0)
/-- Has a row these values in these columns? -/
def keyedR (key : List Int) (kr row : List Dt) : Bool := (List.range key.length).all (hitR key kr row)
theorem keyedB_eq (key : List Int) (kr : List Dt) (e : upd.El) : keyedB key kr e = keyedR key kr e.rd := rfl
theorem keyedR_no {key : List Int} {kr row : List Dt} {i : Nat} (hi : i < key.length) (h : hitR key kr row i = false) : keyedR key kr row = false := by
  unfold keyedR
  rw [List.all_eq_false]
  exact ⟨i, List.mem_range.2 hi, by simp [h]⟩
theorem keyedR_yes {key : List Int} {kr row : List Dt} (h : ∀ i, i < key.length → hitR key kr row i = true) : keyedR key kr row = true := by
  unfold keyedR
  rw [List.all_eq_true]
  exact fun i hi => h i (List.mem_range.1 hi)
theorem sumK_keep {P : List Dt → Bool} : ∀ (l : List (List Dt × Int)) (r : List Dt), sumK (l.filter fun p => P p.1) r = if P r = true then sumK l r else 0
  | [], r => by simp [sumK_nil]
  | p :: l, r => by
    have ih := sumK_keep (P := P) l r
    rw [List.filter_cons]
    by_cases hp : P p.1 = true
    · rw [if_pos hp, sumK_cons, sumK_cons, ih]
      by_cases he : p.1 = r
      · rw [if_pos he]
        rw [he] at hp
        rw [if_pos hp, if_pos hp]
      · rw [if_neg he]
        split <;> omega
    · rw [if_neg hp, ih, sumK_cons]
      by_cases he : p.1 = r
      · rw [he] at hp
        rw [if_neg hp, if_neg hp]
      · rw [if_neg he]
        split <;> omega
theorem canon_keep {os : List (List Dt × Int)} {S : List Dt → Int} (h : Canon cmpR os S) (P : List Dt → Bool) : Canon cmpR (os.filter fun p => P p.1) (fun r => if P r = true then S r else 0) :=
  ⟨h.up.filter _, fun p hp => h.nz p (List.mem_filter.1 hp).1, fun r => by
    rw [sumK_keep]
    by_cases hp : P r = true
    · rw [if_pos hp, if_pos hp, h.sum]
    · rw [if_neg hp, if_neg hp]⟩
theorem pr_keep (l : List El) (P : List Dt → Bool) : (l.filter fun c => P c.rd).map pr = (l.map pr).filter fun p => P p.1 := by
  rw [List.filter_map]; rfl
theorem sum_found {key : List Int} {kr r : List Dt} {t : Int} (l : List upd.El) : sumK ((atL (l.filter (findB key kr t)) t).map pr) r = if keyedR key kr r = true then sumK ((atL l t).map pr) r else 0 := by
  by_cases hk : keyedR key kr r = true
  · rw [if_pos hk]
    exact sum_find fun e he hr ht => by unfold findB; rw [keyedB_eq, hr, hk]; simpa using ht
  · rw [if_neg hk]
    refine sumK_none fun p hp => ?_
    obtain ⟨c, hc, rfl⟩ := List.mem_map.1 hp
    unfold atL at hc
    obtain ⟨e, he, rfl⟩ := List.mem_map.1 hc
    have h1 := (List.mem_filter.1 (List.mem_filter.1 he).1).2
    unfold findB at h1
    rw [Bool.and_eq_true, keyedB_eq] at h1
    exact fun e9 => hk (by rw [← e9]; exact h1.1)
/-- What the program finds and what the reference finds. -/
theorem found_same {key : List Int} {kr : List Dt} {t : Int} {l m : List upd.El} {o o2 : List El} (hs : ∀ r, sumK ((atL l t).map pr) r = sumK ((atL m t).map pr) r) (c : Canon cmpR (o.map pr) (fun r => 1 * sumK ((atL (l.filter (findB key kr t)) t).map pr) r)) (c2 : Canon cmpR (o2.map pr) (fun r => 1 * sumK ((atL m t).map pr) r)) :
    o.map pr = (o2.filter fun c => keyedR key kr c.rd).map pr := by
  rw [pr_keep]
  refine c.uniq cmpRS ((canon_keep c2 (keyedR key kr)).of fun r => ?_)
  rw [sum_found, hs r]
  split <;> omega

set_option maxRecDepth 100000
set_option maxHeartbeats 3200000 in
theorem keyedG_any {w : World} {ra ka xa : Option Addr} {rc kc xc : Nat} {row kr : List Dt} {key : List Int} (hr : RowAt w (.slice ra row.length rc) row) (hrl : row.length ≤ 4398046511103) (hk : Src w 1 (.slice ka key.length kc) key.length (kiC key)) (hkl : key.length ≤ 17592186043904) (hx : RowAt w (.slice xa kr.length xc) kr) (hn : kr.length = key.length) (hp : ∀ x ∈ key, 0 ≤ x ∧ x < (row.length : Int)) :
    Calls Tryz.prog 82 #[.slice ra row.length rc, .slice ka key.length kc, .slice xa kr.length xc] w fun e w' => e = .returned (.bool (keyedR key kr row)) ∧ Fr [] w w' := by
  have hrc := hr.cap
  have hxc := hx.cap
  have HR := Lib.hid hr
  have HK := Lib.hid hk
  have HX := Lib.hid hx
  have HN := Lib.hid hn
  have HP := Lib.hid hp
  clear hr hk hx hn hp
  go_enter Tryz.func82, Tryz.ntmps82
  go_wp2_with fail
  go_loopw [11] (fun x wr => ∃ i : Nat, x = .int .i64 i ∧ i ≤ key.length ∧ Fr [] w wr ∧ Hid (∀ j, j < i → hitR key kr row j = true)) (fun x _ => key.length - (intOf x).toNat)
  case atStart => exact ⟨0, rfl, Nat.zero_le _, Fr.refl _ _, Lib.hid (fun j hj => absurd hj (by omega))⟩
  case round =>
    obtain ⟨i, rfl, hi, hf, HA2⟩ := hrel
    have HF := Lib.hid hf
    by_cases hlt : i < key.length
    · obtain ⟨b, off, e1, v0⟩ := src_key (HK.out.fr hf) hlt
      subst e1
      obtain ⟨k0, k1⟩ := HP.out _ (nki_mem hlt)
      have HHit := Lib.hid (show hitR key kr row i = decide (cmpR [nd row (nki key i).toNat] [nd kr i] = 0) from rfl)
      have HNo := Lib.hid (fun h9 => keyedR_no (key := key) (kr := kr) (row := row) hlt h9)
      generalize nki key i = kk at *
      obtain ⟨m, rfl⟩ := Int.eq_ofNat_of_zero_le k0
      have hm : m < row.length := by omega
      rw [Int.toNat_natCast] at HHit
      have hik : i < kr.length := by rw [HN.out]; exact hlt
      obtain ⟨b1, o1, e2, r1⟩ := (HR.out.fr hf).sub (k := m) (by exact hm)
      obtain ⟨b2, o2, e3, r2⟩ := (HX.out.fr hf).sub hik
      subst e2
      subst e3
      have hsm : ∀ q : FrBy wr, Calls Tryz.prog 36 #[.slice (some ⟨b1, o1 + m * 3, none⟩) 1 (rc - m), .slice (some ⟨b2, o2 + i * 3, none⟩) 1 (xc - i)] q.wn fun x w' => x = .returned (.bool (decide (cmpR [nd row m] [nd kr i] = 0))) ∧ Fr [] q.wn w' := fun q => rsame_any ((r1 _ (by omega)).fr q.fr) ((r2 _ (by omega)).fr q.fr) (by simp)
      generalize decide (cmpR [nd row m] [nd kr i] = 0) = sb at *
      have HSm := Lib.hid hsm
      clear hf r1 r2 hsm k0
      have hmm : ¬ (row.length : Int) ≤ (m : Int) := by omega
      have g1 : (m : Int) + 1 ≤ (rc : Int) := by omega
      have g2 : (i : Int) + 1 ≤ (xc : Int) := by omega
      have g3 : ((m : Int) + 1).toNat = m + 1 := by omega
      have g4 : ((i : Int) + 1).toNat = i + 1 := by omega
      have g5 : m + 1 - m = 1 := by omega
      have g6 : i + 1 - i = 1 := by omega
      go_upto_region 4 with fail
      have g7 : IntKind.i64.wrap ((m : Int) + 1) = (m : Int) + 1 := by rw [IntKind.wrap_i64]; omega
      have g8 : IntKind.i64.wrap ((i : Int) + 1) = (i : Int) + 1 := by rw [IntKind.wrap_i64]; omega
      cases sb with
      | true =>
        refine wp_region_fr (by kernel_rfl) (by kernel_rfl) ?_
        repeat (go_big_quiet_step ((go_at_call 36; exact Calls.fr_of (HSm.out _))))
        refine wpQuiet_nil ?_
        intro wn hwn
        have fn : Fr [] wr wn := by obtain ⟨q, rfl⟩ := hwn; exact q.fr
        have FN := Lib.hid (HF.out.trans fn)
        have HA3 : Hid (∀ j, j < i + 1 → hitR key kr row j = true) := Lib.hid (fun j hj => by
          by_cases h9 : j = i
          · rw [h9]; exact HHit.out
          · exact HA2.out j (by omega))
        clear hwn fn HSm g7 g8
        go_wp2_with fail
        go_roundw
        case rel => exact ⟨i + 1, by go_num, by omega, FN.out, HA3⟩
        case measure => simp [intOf] <;> omega
      | false =>
        refine wp_region_fr (by kernel_rfl) (by kernel_rfl) ?_
        repeat (go_big_quiet_step ((go_at_call 36; exact Calls.fr_of (HSm.out _))))
        refine wpQuiet_nil ?_
        intro wn hwn
        have fn : Fr [] wr wn := by obtain ⟨q, rfl⟩ := hwn; exact q.fr
        have FN := Lib.hid (HF.out.trans fn)
        have HZ := Lib.hid (HNo.out HHit.out)
        clear hwn fn HSm g7 g8
        go_wp2_with fail
        go_ret
        exact ⟨ret_bool HZ.out.symm, FN.out⟩
    · have HZ := Lib.hid (show keyedR key kr row = true from keyedR_yes fun j hj => HA2.out j (by omega))
      clear hf
      go_wp2_with fail
      go_ret
      exact ⟨ret_bool HZ.out.symm, HF.out⟩

/-- What the reference's Find tells. -/
def RfFindPost (w : World) (s : Spn) (kr : List Dt) (t : Int) (e : Ending) (w' : World) : Prop :=
  Fr [] w w' ∧ ((kr.length ≠ s.key.length ∧ e = .returned (.tuple #[.slice none 0 0, .int .i64 132])) ∨ (kr.length = s.key.length ∧ askE s t ≠ 0 ∧ e = .returned (.tuple #[.slice none 0 0, .int .i64 (askE s t)])) ∨
    (kr.length = s.key.length ∧ askE s t = 0 ∧ ∃ (o : List El) (a : Option Addr) (c : Nat), e = .returned (.tuple #[.slice a (o.filter fun c => keyedR s.key kr c.rd).length c, .int .i64 0]) ∧ Cts w' (.slice a (o.filter fun c => keyedR s.key kr c.rd).length c) (o.filter fun c => keyedR s.key kr c.rd) ∧ Canon cmpR (o.map pr) (fun r => 1 * sumK ((atL s.fl t).map pr) r) ∧ o.length ≤ 8000))
theorem keep_step {P : El → Bool} {l : List El} {k : Nat} (h : k < l.length) : (l.take (k + 1)).filter P = (l.take k).filter P ++ (if P (nth l k) = true then [nth l k] else []) := by
  have e : l.take (k + 1) = l.take k ++ [nth l k] := by rw [List.take_add_one, nth_at h]; rfl
  rw [e, List.filter_append]
  by_cases h1 : P (nth l k) = true <;> simp [h1]
theorem keep_le {P : El → Bool} {l : List El} (k : Nat) : ((l.take k).filter P).length ≤ l.length := Nat.le_trans (List.length_filter_le _ _) (by rw [List.length_take]; omega)
theorem at_wide {s : Spn} {t : Int} {o : List El} (c : Canon cmpR (o.map pr) (fun r => 1 * sumK ((atL s.fl t).map pr) r)) (hw : ∀ e ∈ s.fl, ∀ k ∈ s.key, 0 ≤ k ∧ k < (e.rd.length : Int)) : ∀ x ∈ o, ∀ k ∈ s.key, 0 ≤ k ∧ k < (x.rd.length : Int) := by
  intro x hx
  obtain ⟨p, hp, hpe⟩ := c.src cmpRS (l := (atL s.fl t).map pr) (fun r => by omega) (List.mem_map_of_mem (f := pr) hx)
  obtain ⟨y, hy, rfl⟩ := List.mem_map.1 hp
  unfold atL at hy
  obtain ⟨e, he, rfl⟩ := List.mem_map.1 hy
  have h1 : e.rd = x.rd := hpe
  intro k hk
  rw [← h1]
  exact hw e (List.mem_filter.1 he).1 k hk
set_option maxHeartbeats 6400000 in
theorem rfFind_any {w : World} {p : Nat} {wb : Option Nat} {s : Spn} {ka : Option Addr} {kc : Nat} {kr : List Dt} (h : RfAt w p wb s) (hk : SpOk s) (hw : ∀ e ∈ s.fl, ∀ k ∈ s.key, 0 ≤ k ∧ k < (e.rd.length : Int)) (hr : RowAt w (.slice ka kr.length kc) kr) (t : Int) :
    Calls Tryz.prog 51 #[.pointer (some ⟨p, 0, none⟩), .slice ka kr.length kc, .int .i64 t] w (RfFindPost w s kr t) := by
  obtain ⟨i0, hi, hz0, hz1, hz2⟩ := info_parts infoC
  obtain ⟨x0, -⟩ := h.cell
  have hkey := hk.key
  have hlen := hk.len
  have HAt := Lib.hid (rfAt_any h hk t)
  have H := Lib.hid h
  have HR := Lib.hid hr
  have HW := Lib.hid hw
  clear h hk hr hw
  by_cases h1 : kr.length = s.key.length
  · have HL := Lib.hid h1
    have h1' : ((kr.length : Int) != (s.key.length : Int)) = false := by simp [h1]
    clear h1
    go_enter Tryz.func51, Tryz.ntmps51
    go_upto_region 4 with (go_at_call 48; refine HAt.out.mono ?_; rintro e w1 ⟨o, a1, c1, er, rfl, f1, k1, A1⟩; have F1 := Lib.hid f1; have K1 := Lib.hid k1.cts; clear f1 k1)
    have hA := A1.out
    clear A1
    rcases hA with ⟨g1, rfl, rfl⟩ | ⟨g1, rfl, cn, hn⟩
    · have HG := Lib.hid g1
      have hne : (askE s t != 0) = true := by simp [g1]
      clear g1
      generalize hae : askE s t = ae at *
      have HAe := Lib.hid hae
      clear hae
      go_wp2_with fail
      go_ret2
      exact ⟨F1.out, Or.inr (Or.inl ⟨HL.out, by rw [HAe.out]; exact HG.out, by rw [HAe.out]; rfl⟩)⟩
    · have HG := Lib.hid g1
      have HCn := Lib.hid cn
      have HWo := Lib.hid (at_wide cn HW.out)
      clear g1 cn
      go_wp2_with fail
      go_loopw [10, 32] (fun v x wr => ∃ k : Nat, x = .int .i64 k ∧ k ≤ o.length ∧ Fr [] w1 wr ∧ wr.ownsRow w1.heap.size 68 2 v ((o.take k).filter fun c => keyedR s.key kr c.rd).length (elsC ((o.take k).filter fun c => keyedR s.key kr c.rd))) (fun _ x _ => o.length - (intOf x).toNat)
      case atStart => exact ⟨0, rfl, Nat.zero_le _, Fr.refl _ _, World.ownsRow_nil _ _ _ _⟩
      case round =>
        obtain ⟨k, rfl, hk, hf, ho⟩ := hrel
        obtain ⟨va, vc, rfl⟩ := ownsRow_shape ho
        have HF := Lib.hid hf
        have HO := Lib.hid ho
        have hsz := hf.size
        have hle := keep_le (P := fun c => keyedR s.key kr c.rd) (l := o) k
        by_cases hlt : k < o.length
        · obtain ⟨b, off, e1, y0, y1⟩ := (K1.out.fr hf).cell hlt
          subst e1
          have hts := keep_step (P := fun c => keyedR s.key kr c.rd) hlt
          have HTs := Lib.hid hts
          have hrow := K1.out.row _ (nth_mem hlt)
          have hwd := HWo.out _ (nth_mem hlt)
          clear hts ho hf
          generalize ((o.take k).filter fun c => keyedR s.key kr c.rd) = pre at *
          generalize nth o k = c0 at *
          have hrl : c0.rl = c0.rd.length := by
            obtain ⟨a9, c9, hv, -⟩ := hrow.1.shape
            unfold El.rv at hv
            simp only [Value.slice.injEq] at hv
            exact hv.2.1
          obtain ⟨ra, rl, rc, rn, rd⟩ := c0
          simp only at hrl
          subst hrl
          simp only at y0 y1 hwd HTs
          go_upto_region 10 with fail
          have fa : Fr [] wr (wr.alloc (.cells #[.slice ra rd.length rc, .int .i64 rn] 68)) := (Fr.refl [] wr).alloc _
          have hb1 := heap_alloc_new wr (.cells #[.slice ra rd.length rc, .int .i64 rn] 68)
          have FA := Lib.hid (HF.out.trans fa)
          have HOA := Lib.hid (ownsRow_fr HO.out fa (by simp))
          clear fa HF HO y0 y1
          generalize wr.heap.size = ub at *
          generalize wr.alloc (.cells #[.slice ra rd.length rc, .int .i64 rn] 68) = wa at *
          have xa := (F1.out.trans FA.out).cell x0 (by simp)
          have hsza := FA.out.size
          have u0 : ∀ q : FrBy wa, q.wn.cell? ⟨ub, 0, none⟩ = some (.slice ra rd.length rc) := fun q => q.fr.cell (cell_blk hb1 0 _ rfl) (by simp)
          have u1 : ∀ q : FrBy wa, q.wn.cell? ⟨p, 0, none⟩ = some (.slice s.ka s.key.length s.kc) := fun q => q.fr.cell xa (by simp)
          have hkd : ∀ q : FrBy wa, Calls Tryz.prog 82 #[.slice ra rd.length rc, .slice s.ka s.key.length s.kc, .slice ka kr.length kc] q.wn fun e w' => e = .returned (.bool (keyedR s.key kr rd)) ∧ Fr [] q.wn w' := fun q => keyedG_any (hrow.1.fr (FA.out.trans q.fr)) (by have := hrow.2.len; simp only at this; omega) ((H.out.fr ((F1.out.trans FA.out).trans q.fr)).key.src) (by omega) (HR.out.fr ((F1.out.trans FA.out).trans q.fr)) HL.out hwd
          have HB := Lib.hid hb1
          generalize keyedR s.key kr rd = kb at *
          have HKd := Lib.hid hkd
          clear hkd hb1 xa hrow hwd
          cases kb with
          | true =>
            refine wp_region_fr (by kernel_rfl) (by kernel_rfl) ?_
            repeat (go_big_quiet_step ((go_at_call 82; exact Calls.fr_of (HKd.out _))))
            refine wpQuiet_nil ?_
            intro wn hwn
            have fn : Fr [] wa wn := by obtain ⟨q, rfl⟩ := hwn; exact q.fr
            have FN := Lib.hid (FA.out.trans fn)
            have HON := Lib.hid (ownsRow_fr HOA.out fn (by simp))
            have z0 := fn.cell (cell_blk HB.out 0 _ rfl) (by simp)
            have z1 := fn.cell (cell_blk HB.out 1 _ rfl) (by simp)
            have hszn := FN.out.size
            clear hwn fn HKd u0 u1
            have hsrc : Src (wn.alloc (.cells #[.slice ra rd.length rc, .int .i64 rn] 68)) 2 (.slice (some ⟨wn.heap.size, 0, none⟩) 1 1) 1 [.slice ra rd.length rc, .int .i64 rn] := Src.block (heap_alloc_new wn _) rfl (by intro u hu; simp at hu; rcases hu with rfl | rfl <;> rfl)
            have HSrc := Lib.hid hsrc
            clear hsrc
            go_wp2_with (at_builtin; refine wpList_append_src _ rfl (.tmp 44) (.tmp 46) 31 rfl w1.heap.size 68 i0 _ 2 32 Tryz.underlying31 hi hz0 hz1 hz2 rfl (by decide) (.slice va pre.length vc) pre.length _ rfl (HON.out.alloc _) (.slice (some ⟨wn.heap.size, 0, none⟩) 1 1) 1 [.slice ra rd.length rc, .int .i64 rn] rfl HSrc.out (by unfold maxLen; omega) (by omega) (by simp; omega) ?_; intro v' w6 hown6 hgrow6 _)
            have HOwn6 := Lib.hid hown6
            have HG6 := Lib.hid hgrow6
            clear hown6 hgrow6
            go_roundw
            case rel => exact ⟨k + 1, by go_num, by omega, (FN.out.alloc _).fresh HG6.out (fun r e => Or.inl (HON.out.lt r e).1), by
              rw [HTs.out, if_pos rfl, List.length_append, elsC_append]
              exact HOwn6.out⟩
            case measure => simp [intOf] <;> omega
          | false =>
            refine wp_region_fr (by kernel_rfl) (by kernel_rfl) ?_
            repeat (go_big_quiet_step ((go_at_call 82; exact Calls.fr_of (HKd.out _))))
            refine wpQuiet_nil ?_
            intro wn hwn
            have fn : Fr [] wa wn := by obtain ⟨q, rfl⟩ := hwn; exact q.fr
            have FN := Lib.hid (FA.out.trans fn)
            have HON := Lib.hid (ownsRow_fr HOA.out fn (by simp))
            clear hwn fn HKd u0 u1
            go_wp2_with fail
            go_roundw
            case rel => exact ⟨k + 1, by go_num, by omega, FN.out, by
              rw [HTs.out, if_neg (by simp), List.append_nil]
              exact HON.out⟩
            case measure => simp [intOf] <;> omega
        · obtain rfl : k = o.length := by omega
          rw [List.take_length] at ho
          have hKE := own_cts ho (fun u hu => by
            have h9 := K1.out.row u (List.mem_filter.1 hu).1
            exact ⟨h9.1.fr hf, h9.2⟩)
          have HKE := Lib.hid hKE
          clear hf ho hKE HO hle
          go_wp2_with fail
          go_ret2
          rw [List.take_length]
          exact ⟨F1.out.trans HF.out, Or.inr (Or.inr ⟨HL.out, HG.out, o, va, vc, rfl, HKE.out, HCn.out, hn⟩)⟩
  · have HL := Lib.hid h1
    have h1' : ((kr.length : Int) != (s.key.length : Int)) = true := by simp; omega
    clear h1
    go_enter Tryz.func51, Tryz.ntmps51
    go_wp2_with fail
    go_ret2
    exact ⟨Fr.refl _ _, Or.inl ⟨HL.out, rfl⟩⟩
end Go.Proofs.YtjchlfblbmiceaaGreat
