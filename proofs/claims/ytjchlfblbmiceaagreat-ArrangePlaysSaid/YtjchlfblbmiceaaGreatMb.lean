/- arrange, the middle part -/
import Derived.Test.YtjchlfblbmiceaaGreatMa
import Derived.Deep.RegionWith
namespace Go.Proofs.YtjchlfblbmiceaaGreat
open Go.RowKit srt grp

def picked (f : upd.El → Bool) (bs : List Bt) (k : Nat) : List upd.El := (((bs.take k).map Bt.l).flatten).filter f
def picked2 (f : upd.El → Bool) (bs : List Bt) (k j : Nat) : List upd.El := picked f bs k ++ ((nbt bs k).l.take j).filter f
theorem picked2_zero (f : upd.El → Bool) (bs : List Bt) (k : Nat) : picked2 f bs k 0 = picked f bs k := by simp [picked2]
theorem picked2_succ {f : upd.El → Bool} {bs : List Bt} {k j : Nat} (h : j < (nbt bs k).l.length) : picked2 f bs k (j + 1) = picked2 f bs k j ++ if f (upd.nth (nbt bs k).l j) = true then [upd.nth (nbt bs k).l j] else [] := by
  unfold picked2
  have hts : (nbt bs k).l.take (j + 1) = (nbt bs k).l.take j ++ [upd.nth (nbt bs k).l j] := by rw [List.take_add_one, upd.nth_at h]; rfl
  rw [hts, List.filter_append, List.append_assoc]
  congr 2
  by_cases h1 : f (upd.nth (nbt bs k).l j) = true <;> simp [h1]
theorem picked2_all {f : upd.El → Bool} {bs : List Bt} {k : Nat} (h : k < bs.length) : picked2 f bs k (nbt bs k).l.length = picked f bs (k + 1) := by
  unfold picked2 picked
  have hts : bs.take (k + 1) = bs.take k ++ [nbt bs k] := by rw [List.take_add_one, nbt_at h]; rfl
  rw [hts, List.take_length, List.map_append, List.flatten_append, List.filter_append]
  simp
theorem pick_len {f : upd.El → Bool} {bs : List Bt} {k : Nat} (h : k < bs.length) (hn : (bs.map Bt.l).flatten.length ≤ 10000) : ∀ j, j ≤ (nbt bs k).l.length → (picked2 f bs k j).length ≤ 10000 := by
  intro j _
  unfold picked2 picked
  have h1 := List.length_filter_le f (((bs.take k).map Bt.l).flatten)
  have h2 := List.length_filter_le f ((nbt bs k).l.take j)
  have h3 : ((nbt bs k).l.take j).length ≤ (nbt bs k).l.length := by rw [List.length_take]; omega
  have e : (bs.map Bt.l).flatten.length = ((bs.take k).map Bt.l).flatten.length + ((bs.drop k).map Bt.l).flatten.length := by
    rw [← List.length_append, ← List.flatten_append, ← List.map_append, List.take_append_drop]
  have h4 : (nbt bs k).l.length ≤ ((bs.drop k).map Bt.l).flatten.length := by
    refine flatten_one ?_
    have h0 := nbt_at h
    rw [List.getElem?_eq_getElem h] at h0
    rw [← Option.some.inj h0, List.drop_eq_getElem_cons h]
    exact List.mem_cons_self
  rw [List.length_append]
  omega
theorem ret_slice {a : Option Addr} {n m c : Nat} (h : n = m) : Ending.returned (.slice a n c) = .returned (.slice a m c) := by rw [h]
def PickPost (w : World) (L : List upd.El) (e : Ending) (w' : World) : Prop := (∃ a c, e = .returned (.slice a L.length c) ∧ upd.Cts w' (.slice a L.length c) L) ∧ Fr [] w w'

set_option maxRecDepth 100000

set_option maxHeartbeats 3200000 in
theorem pickAt_any {w : World} {va : Option Addr} {vc tb : Nat} {bs : List Bt} {f : upd.El → Bool} (h : Src w 1 (.slice va bs.length vc) bs.length (btsC bs)) (hb : ∀ b ∈ bs, upd.Cts w b.v b.l) (hn : (bs.map Bt.l).flatten.length ≤ 10000) (hm : bs.length ≤ 1000000)
    (hf : ∀ wi, Fr [] w wi → ∀ e ∈ (bs.map Bt.l).flatten, Calls Tryz.prog 34 #[.agg #[.slice e.ra e.rl e.rc, .int .i64 e.t, .int .i64 e.n], .pointer (some ⟨tb, 0, none⟩)] wi fun x w' => x = .returned (.bool (f e)) ∧ Fr [] wi w') :
    Calls Tryz.prog 61 #[.slice va bs.length vc, .func (.func 34) #[] #[.pointer (some ⟨tb, 0, none⟩)]] w (PickPost w ((bs.map Bt.l).flatten.filter f)) := by
  obtain ⟨i0, hi, hz0, hz1, hz2⟩ := info_parts upd.infoU
  have H := Lib.hid h
  have HB := Lib.hid hb
  have HF0 := Lib.hid hf
  clear h hb hf
  go_enter Tryz.func61, Tryz.ntmps61
  go_wp2_with fail
  go_loopw [5, 12] (fun v x wr => ∃ k : Nat, x = .int .i64 k ∧ k ≤ bs.length ∧ Fr [] w wr ∧ wr.ownsRow w.heap.size 65 3 v (picked f bs k).length (upd.elsC (picked f bs k))) (fun _ x _ => bs.length - (intOf x).toNat)
  case atStart => exact ⟨0, rfl, Nat.zero_le _, Fr.refl _ _, World.ownsRow_nil _ _ _ _⟩
  case round =>
    obtain ⟨k, rfl, hk, hf, ho⟩ := hrel
    obtain ⟨xa, xc, rfl⟩ := ownsRow_shape ho
    have HF := Lib.hid hf
    have HO := Lib.hid ho
    by_cases hlt : k < bs.length
    · obtain ⟨b, off, e1, y0⟩ := src_bts (H.out.fr hf) hlt
      subst e1
      have HL := Lib.hid (HB.out _ (nbt_mem hlt))
      have hl9 := pick_len (f := f) hlt hn
      have hl8 : (nbt bs k).l.length ≤ 10000 := Nat.le_trans (flatten_one (nbt_mem hlt)) hn
      clear hf ho
      obtain ⟨wo, rfl⟩ : ∃ wo, wo = wr := ⟨wr, rfl⟩
      go_wp2_with fail
      go_loopw [5, 18] (fun v y wi => ∃ j : Nat, y = .int .i64 j ∧ j ≤ (nbt bs k).l.length ∧ Fr [] w wi ∧ wi.ownsRow w.heap.size 65 3 v (picked2 f bs k j).length (upd.elsC (picked2 f bs k j))) (fun _ y _ => (nbt bs k).l.length - (intOf y).toNat)
      case atStart => exact ⟨0, rfl, Nat.zero_le _, HF.out, by rw [picked2_zero]; exact HO.out⟩
      case round =>
        clear HF HO y0
        obtain ⟨j, rfl, hj, hf, ho⟩ := hrel
        obtain ⟨va2, vc2, rfl⟩ := ownsRow_shape ho
        have HF := Lib.hid hf
        have HO := Lib.hid ho
        by_cases hjl : j < (nbt bs k).l.length
        · as_aux_lemma =>
          obtain ⟨b1, off1, e1, x0, x1, x2⟩ := (HL.out.fr hf).cell (by exact hjl)
          have hmem : upd.nth (nbt bs k).l j ∈ (bs.map Bt.l).flatten := List.mem_flatten.2 ⟨_, List.mem_map_of_mem (nbt_mem hlt), upd.nth_mem hjl⟩
          have hcl := fun wi (f9 : Fr [] w wi) => HF0.out wi f9 _ hmem
          have hsn := picked2_succ (f := f) (bs := bs) hjl
          have hl2 := hl9 j (by omega)
          have HCl := Lib.hid hcl
          have HSn := Lib.hid hsn
          clear hf ho hmem hcl hsn
          generalize hpk : picked2 f bs k j = pk at *
          generalize hel : upd.nth (nbt bs k).l j = el at *
          generalize hba : (nbt bs k).ba = ba at *
          subst e1
          have HPk := Lib.hid hpk
          clear hpk hel hba
          go_upto_region 8 with fail
          have fa : Fr [] wr (wr.alloc (.cells #[.slice el.ra el.rl el.rc, .int .i64 el.t, .int .i64 el.n] 65)) := (Fr.refl [] wr).alloc _
          have hb1 := heap_alloc_new wr (.cells #[.slice el.ra el.rl el.rc, .int .i64 el.t, .int .i64 el.n] 65)
          have HOA := Lib.hid (ownsRow_fr HO.out fa (by simp))
          have HFA := Lib.hid (HF.out.trans fa)
          clear fa HO HF x0 x1 x2
          generalize wr.heap.size = bx at *
          generalize wr.alloc (.cells #[.slice el.ra el.rl el.rc, .int .i64 el.t, .int .i64 el.n] 65) = wa at *
          have z0 := cell_blk hb1 0 (.slice el.ra el.rl el.rc) rfl
          have z1 := cell_blk hb1 1 (.int .i64 el.t) rfl
          have z2 := cell_blk hb1 2 (.int .i64 el.n) rfl
          have HB1 := Lib.hid hb1
          clear hb1
          by_cases hfe : f el = true
          · have hc := HCl.out wa HFA.out
            rw [hfe] at hc
            have HC := Lib.hid hc
            have HFe := Lib.hid hfe
            clear hc hfe HCl
            go_upto_region 9 with (go_at_call 34; refine HC.out.mono ?_; rintro e w5 ⟨rfl, f5⟩)
            have u0 := f5.cell z0 (by simp)
            have u1 := f5.cell z1 (by simp)
            have u2 := f5.cell z2 (by simp)
            have HO5 := Lib.hid (ownsRow_fr HOA.out f5 (by simp))
            have HF5 := Lib.hid (HFA.out.trans f5)
            have hsz := (HFA.out.trans f5).size
            clear f5 z0 z1 z2 HOA HFA
            have hsrc : Src (w5.alloc (.cells #[.slice el.ra el.rl el.rc, .int .i64 el.t, .int .i64 el.n] 65)) 3 (.slice (some ⟨w5.heap.size, 0, none⟩) 1 1) 1 [.slice el.ra el.rl el.rc, .int .i64 el.t, .int .i64 el.n] := Src.block (heap_alloc_new w5 _) rfl (by intro u hu; simp at hu; rcases hu with rfl | rfl | rfl <;> rfl)
            have HSrc := Lib.hid hsrc
            clear hsrc
            go_wp2_with (at_builtin; refine wpList_append_src _ rfl (.tmp 25) (.tmp 27) 27 rfl w.heap.size 65 i0 _ 3 40 Tryz.underlying27 hi hz0 hz1 hz2 rfl (by decide) (.slice va2 pk.length vc2) pk.length _ rfl (HO5.out.alloc _) (.slice (some ⟨w5.heap.size, 0, none⟩) 1 1) 1 [.slice el.ra el.rl el.rc, .int .i64 el.t, .int .i64 el.n] rfl HSrc.out (by unfold maxLen; omega) (by omega) (by simp; omega) ?_; intro v' w6 hown6 hgrow6 _)
            have HOwn6 := Lib.hid hown6
            have HG6 := Lib.hid hgrow6
            clear hown6 hgrow6
            go_roundw
            case rel => exact ⟨j + 1, by go_num, by omega, (HF5.out.alloc _).fresh HG6.out (fun r e => Or.inl (HO5.out.lt r e).1), by
              rw [HSn.out, if_pos HFe.out, upd.elsC_append, List.length_append]
              simpa [upd.elsC, upd.El.cells] using HOwn6.out⟩
            case measure => simp [intOf] <;> omega
          · have hfe2 : f el = false := by simpa using hfe
            have hc := HCl.out wa HFA.out
            rw [hfe2] at hc
            have HC := Lib.hid hc
            have HFe := Lib.hid hfe
            clear hc hfe hfe2 HCl
            go_wp2_with (go_at_call 34; refine HC.out.mono ?_; rintro e w5 ⟨rfl, f5⟩; have HO5 := Lib.hid (ownsRow_fr HOA.out f5 (by simp)); have HF5 := Lib.hid (HFA.out.trans f5); clear f5)
            go_roundw
            case rel => exact ⟨j + 1, by go_num, by omega, HF5.out, by rw [HSn.out, if_neg HFe.out, List.append_nil]; exact HO5.out⟩
            case measure => simp [intOf] <;> omega
        · have hjj : j = (nbt bs k).l.length := by omega
          have HN := Lib.hid (show picked2 f bs k j = picked f bs (k + 1) by rw [hjj]; exact picked2_all hlt)
          clear hf ho hjj
          go_wp2_with fail
          go_roundw
          case rel => exact ⟨k + 1, by go_num, by omega, HF.out, by rw [← HN.out]; exact HO.out⟩
          case measure => simp [intOf] <;> omega
    · have hkk : k = bs.length := by omega
      have HN := Lib.hid (show picked f bs k = (bs.map Bt.l).flatten.filter f by rw [hkk]; unfold picked; rw [List.take_length])
      clear hf ho hkk
      go_wp2_with fail
      go_ret
      have h9 := HO.out
      rw [HN.out] at h9
      exact ⟨⟨xa, xc, ret_slice (by rw [HN.out]), upd.own_cts h9 fun e he => by
        obtain ⟨l9, hl9, he9⟩ := List.mem_flatten.1 (List.mem_filter.1 he).1
        obtain ⟨b9, hb9, rfl⟩ := List.mem_map.1 hl9
        exact ((HB.out b9 hb9).fr HF.out).row e he9⟩, HF.out⟩

set_option maxHeartbeats 3200000 in
theorem pickFrom_any {w : World} {va : Option Addr} {vc tb : Nat} {bs : List Bt} {f : upd.El → Bool} (h : Src w 1 (.slice va bs.length vc) bs.length (btsC bs)) (hb : ∀ b ∈ bs, upd.Cts w b.v b.l) (hn : (bs.map Bt.l).flatten.length ≤ 10000) (hm : bs.length ≤ 1000000)
    (hf : ∀ wi, Fr [] w wi → ∀ e ∈ (bs.map Bt.l).flatten, Calls Tryz.prog 38 #[.agg #[.slice e.ra e.rl e.rc, .int .i64 e.t, .int .i64 e.n], .pointer (some ⟨tb, 0, none⟩)] wi fun x w' => x = .returned (.bool (f e)) ∧ Fr [] wi w') :
    Calls Tryz.prog 61 #[.slice va bs.length vc, .func (.func 38) #[] #[.pointer (some ⟨tb, 0, none⟩)]] w (PickPost w ((bs.map Bt.l).flatten.filter f)) := by
  obtain ⟨i0, hi, hz0, hz1, hz2⟩ := info_parts upd.infoU
  have H := Lib.hid h
  have HB := Lib.hid hb
  have HF0 := Lib.hid hf
  clear h hb hf
  go_enter Tryz.func61, Tryz.ntmps61
  go_wp2_with fail
  go_loopw [5, 12] (fun v x wr => ∃ k : Nat, x = .int .i64 k ∧ k ≤ bs.length ∧ Fr [] w wr ∧ wr.ownsRow w.heap.size 65 3 v (picked f bs k).length (upd.elsC (picked f bs k))) (fun _ x _ => bs.length - (intOf x).toNat)
  case atStart => exact ⟨0, rfl, Nat.zero_le _, Fr.refl _ _, World.ownsRow_nil _ _ _ _⟩
  case round =>
    obtain ⟨k, rfl, hk, hf, ho⟩ := hrel
    obtain ⟨xa, xc, rfl⟩ := ownsRow_shape ho
    have HF := Lib.hid hf
    have HO := Lib.hid ho
    by_cases hlt : k < bs.length
    · obtain ⟨b, off, e1, y0⟩ := src_bts (H.out.fr hf) hlt
      subst e1
      have HL := Lib.hid (HB.out _ (nbt_mem hlt))
      have hl9 := pick_len (f := f) hlt hn
      have hl8 : (nbt bs k).l.length ≤ 10000 := Nat.le_trans (flatten_one (nbt_mem hlt)) hn
      clear hf ho
      obtain ⟨wo, rfl⟩ : ∃ wo, wo = wr := ⟨wr, rfl⟩
      go_wp2_with fail
      go_loopw [5, 18] (fun v y wi => ∃ j : Nat, y = .int .i64 j ∧ j ≤ (nbt bs k).l.length ∧ Fr [] w wi ∧ wi.ownsRow w.heap.size 65 3 v (picked2 f bs k j).length (upd.elsC (picked2 f bs k j))) (fun _ y _ => (nbt bs k).l.length - (intOf y).toNat)
      case atStart => exact ⟨0, rfl, Nat.zero_le _, HF.out, by rw [picked2_zero]; exact HO.out⟩
      case round =>
        clear HF HO y0
        obtain ⟨j, rfl, hj, hf, ho⟩ := hrel
        obtain ⟨va2, vc2, rfl⟩ := ownsRow_shape ho
        have HF := Lib.hid hf
        have HO := Lib.hid ho
        by_cases hjl : j < (nbt bs k).l.length
        · as_aux_lemma =>
          obtain ⟨b1, off1, e1, x0, x1, x2⟩ := (HL.out.fr hf).cell (by exact hjl)
          have hmem : upd.nth (nbt bs k).l j ∈ (bs.map Bt.l).flatten := List.mem_flatten.2 ⟨_, List.mem_map_of_mem (nbt_mem hlt), upd.nth_mem hjl⟩
          have hcl := fun wi (f9 : Fr [] w wi) => HF0.out wi f9 _ hmem
          have hsn := picked2_succ (f := f) (bs := bs) hjl
          have hl2 := hl9 j (by omega)
          have HCl := Lib.hid hcl
          have HSn := Lib.hid hsn
          clear hf ho hmem hcl hsn
          generalize hpk : picked2 f bs k j = pk at *
          generalize hel : upd.nth (nbt bs k).l j = el at *
          generalize hba : (nbt bs k).ba = ba at *
          subst e1
          have HPk := Lib.hid hpk
          clear hpk hel hba
          go_upto_region 8 with fail
          have fa : Fr [] wr (wr.alloc (.cells #[.slice el.ra el.rl el.rc, .int .i64 el.t, .int .i64 el.n] 65)) := (Fr.refl [] wr).alloc _
          have hb1 := heap_alloc_new wr (.cells #[.slice el.ra el.rl el.rc, .int .i64 el.t, .int .i64 el.n] 65)
          have HOA := Lib.hid (ownsRow_fr HO.out fa (by simp))
          have HFA := Lib.hid (HF.out.trans fa)
          clear fa HO HF x0 x1 x2
          generalize wr.heap.size = bx at *
          generalize wr.alloc (.cells #[.slice el.ra el.rl el.rc, .int .i64 el.t, .int .i64 el.n] 65) = wa at *
          have z0 := cell_blk hb1 0 (.slice el.ra el.rl el.rc) rfl
          have z1 := cell_blk hb1 1 (.int .i64 el.t) rfl
          have z2 := cell_blk hb1 2 (.int .i64 el.n) rfl
          have HB1 := Lib.hid hb1
          clear hb1
          by_cases hfe : f el = true
          · have hc := HCl.out wa HFA.out
            rw [hfe] at hc
            have HC := Lib.hid hc
            have HFe := Lib.hid hfe
            clear hc hfe HCl
            go_upto_region 9 with (go_at_call 38; refine HC.out.mono ?_; rintro e w5 ⟨rfl, f5⟩)
            have u0 := f5.cell z0 (by simp)
            have u1 := f5.cell z1 (by simp)
            have u2 := f5.cell z2 (by simp)
            have HO5 := Lib.hid (ownsRow_fr HOA.out f5 (by simp))
            have HF5 := Lib.hid (HFA.out.trans f5)
            have hsz := (HFA.out.trans f5).size
            clear f5 z0 z1 z2 HOA HFA
            have hsrc : Src (w5.alloc (.cells #[.slice el.ra el.rl el.rc, .int .i64 el.t, .int .i64 el.n] 65)) 3 (.slice (some ⟨w5.heap.size, 0, none⟩) 1 1) 1 [.slice el.ra el.rl el.rc, .int .i64 el.t, .int .i64 el.n] := Src.block (heap_alloc_new w5 _) rfl (by intro u hu; simp at hu; rcases hu with rfl | rfl | rfl <;> rfl)
            have HSrc := Lib.hid hsrc
            clear hsrc
            go_wp2_with (at_builtin; refine wpList_append_src _ rfl (.tmp 25) (.tmp 27) 27 rfl w.heap.size 65 i0 _ 3 40 Tryz.underlying27 hi hz0 hz1 hz2 rfl (by decide) (.slice va2 pk.length vc2) pk.length _ rfl (HO5.out.alloc _) (.slice (some ⟨w5.heap.size, 0, none⟩) 1 1) 1 [.slice el.ra el.rl el.rc, .int .i64 el.t, .int .i64 el.n] rfl HSrc.out (by unfold maxLen; omega) (by omega) (by simp; omega) ?_; intro v' w6 hown6 hgrow6 _)
            have HOwn6 := Lib.hid hown6
            have HG6 := Lib.hid hgrow6
            clear hown6 hgrow6
            go_roundw
            case rel => exact ⟨j + 1, by go_num, by omega, (HF5.out.alloc _).fresh HG6.out (fun r e => Or.inl (HO5.out.lt r e).1), by
              rw [HSn.out, if_pos HFe.out, upd.elsC_append, List.length_append]
              simpa [upd.elsC, upd.El.cells] using HOwn6.out⟩
            case measure => simp [intOf] <;> omega
          · have hfe2 : f el = false := by simpa using hfe
            have hc := HCl.out wa HFA.out
            rw [hfe2] at hc
            have HC := Lib.hid hc
            have HFe := Lib.hid hfe
            clear hc hfe hfe2 HCl
            go_wp2_with (go_at_call 38; refine HC.out.mono ?_; rintro e w5 ⟨rfl, f5⟩; have HO5 := Lib.hid (ownsRow_fr HOA.out f5 (by simp)); have HF5 := Lib.hid (HFA.out.trans f5); clear f5)
            go_roundw
            case rel => exact ⟨j + 1, by go_num, by omega, HF5.out, by rw [HSn.out, if_neg HFe.out, List.append_nil]; exact HO5.out⟩
            case measure => simp [intOf] <;> omega
        · have hjj : j = (nbt bs k).l.length := by omega
          have HN := Lib.hid (show picked2 f bs k j = picked f bs (k + 1) by rw [hjj]; exact picked2_all hlt)
          clear hf ho hjj
          go_wp2_with fail
          go_roundw
          case rel => exact ⟨k + 1, by go_num, by omega, HF.out, by rw [← HN.out]; exact HO.out⟩
          case measure => simp [intOf] <;> omega
    · have hkk : k = bs.length := by omega
      have HN := Lib.hid (show picked f bs k = (bs.map Bt.l).flatten.filter f by rw [hkk]; unfold picked; rw [List.take_length])
      clear hf ho hkk
      go_wp2_with fail
      go_ret
      have h9 := HO.out
      rw [HN.out] at h9
      exact ⟨⟨xa, xc, ret_slice (by rw [HN.out]), upd.own_cts h9 fun e he => by
        obtain ⟨l9, hl9, he9⟩ := List.mem_flatten.1 (List.mem_filter.1 he).1
        obtain ⟨b9, hb9, rfl⟩ := List.mem_map.1 hl9
        exact ((HB.out b9 hb9).fr HF.out).row e he9⟩, HF.out⟩

set_option maxHeartbeats 3200000 in
theorem pickFind_any {w : World} {va : Option Addr} {vc sb kb tb : Nat} {bs : List Bt} {f : upd.El → Bool} (h : Src w 1 (.slice va bs.length vc) bs.length (btsC bs)) (hb : ∀ b ∈ bs, upd.Cts w b.v b.l) (hn : (bs.map Bt.l).flatten.length ≤ 10000) (hm : bs.length ≤ 1000000)
    (hf : ∀ wi, Fr [] w wi → ∀ e ∈ (bs.map Bt.l).flatten, Calls Tryz.prog 81 #[.agg #[.slice e.ra e.rl e.rc, .int .i64 e.t, .int .i64 e.n], .pointer (some ⟨sb, 0, none⟩), .pointer (some ⟨kb, 0, none⟩), .pointer (some ⟨tb, 0, none⟩)] wi fun x w' => x = .returned (.bool (f e)) ∧ Fr [] wi w') :
    Calls Tryz.prog 61 #[.slice va bs.length vc, .func (.func 81) #[] #[.pointer (some ⟨sb, 0, none⟩), .pointer (some ⟨kb, 0, none⟩), .pointer (some ⟨tb, 0, none⟩)]] w (PickPost w ((bs.map Bt.l).flatten.filter f)) := by
  obtain ⟨i0, hi, hz0, hz1, hz2⟩ := info_parts upd.infoU
  have H := Lib.hid h
  have HB := Lib.hid hb
  have HF0 := Lib.hid hf
  clear h hb hf
  go_enter Tryz.func61, Tryz.ntmps61
  go_wp2_with fail
  go_loopw [5, 12] (fun v x wr => ∃ k : Nat, x = .int .i64 k ∧ k ≤ bs.length ∧ Fr [] w wr ∧ wr.ownsRow w.heap.size 65 3 v (picked f bs k).length (upd.elsC (picked f bs k))) (fun _ x _ => bs.length - (intOf x).toNat)
  case atStart => exact ⟨0, rfl, Nat.zero_le _, Fr.refl _ _, World.ownsRow_nil _ _ _ _⟩
  case round =>
    obtain ⟨k, rfl, hk, hf, ho⟩ := hrel
    obtain ⟨xa, xc, rfl⟩ := ownsRow_shape ho
    have HF := Lib.hid hf
    have HO := Lib.hid ho
    by_cases hlt : k < bs.length
    · obtain ⟨b, off, e1, y0⟩ := src_bts (H.out.fr hf) hlt
      subst e1
      have HL := Lib.hid (HB.out _ (nbt_mem hlt))
      have hl9 := pick_len (f := f) hlt hn
      have hl8 : (nbt bs k).l.length ≤ 10000 := Nat.le_trans (flatten_one (nbt_mem hlt)) hn
      clear hf ho
      obtain ⟨wo, rfl⟩ : ∃ wo, wo = wr := ⟨wr, rfl⟩
      go_wp2_with fail
      go_loopw [5, 18] (fun v y wi => ∃ j : Nat, y = .int .i64 j ∧ j ≤ (nbt bs k).l.length ∧ Fr [] w wi ∧ wi.ownsRow w.heap.size 65 3 v (picked2 f bs k j).length (upd.elsC (picked2 f bs k j))) (fun _ y _ => (nbt bs k).l.length - (intOf y).toNat)
      case atStart => exact ⟨0, rfl, Nat.zero_le _, HF.out, by rw [picked2_zero]; exact HO.out⟩
      case round =>
        clear HF HO y0
        obtain ⟨j, rfl, hj, hf, ho⟩ := hrel
        obtain ⟨va2, vc2, rfl⟩ := ownsRow_shape ho
        have HF := Lib.hid hf
        have HO := Lib.hid ho
        by_cases hjl : j < (nbt bs k).l.length
        · as_aux_lemma =>
          obtain ⟨b1, off1, e1, x0, x1, x2⟩ := (HL.out.fr hf).cell (by exact hjl)
          have hmem : upd.nth (nbt bs k).l j ∈ (bs.map Bt.l).flatten := List.mem_flatten.2 ⟨_, List.mem_map_of_mem (nbt_mem hlt), upd.nth_mem hjl⟩
          have hcl := fun wi (f9 : Fr [] w wi) => HF0.out wi f9 _ hmem
          have hsn := picked2_succ (f := f) (bs := bs) hjl
          have hl2 := hl9 j (by omega)
          have HCl := Lib.hid hcl
          have HSn := Lib.hid hsn
          clear hf ho hmem hcl hsn
          generalize hpk : picked2 f bs k j = pk at *
          generalize hel : upd.nth (nbt bs k).l j = el at *
          generalize hba : (nbt bs k).ba = ba at *
          subst e1
          have HPk := Lib.hid hpk
          clear hpk hel hba
          go_upto_region 8 with fail
          have fa : Fr [] wr (wr.alloc (.cells #[.slice el.ra el.rl el.rc, .int .i64 el.t, .int .i64 el.n] 65)) := (Fr.refl [] wr).alloc _
          have hb1 := heap_alloc_new wr (.cells #[.slice el.ra el.rl el.rc, .int .i64 el.t, .int .i64 el.n] 65)
          have HOA := Lib.hid (ownsRow_fr HO.out fa (by simp))
          have HFA := Lib.hid (HF.out.trans fa)
          clear fa HO HF x0 x1 x2
          generalize wr.heap.size = bx at *
          generalize wr.alloc (.cells #[.slice el.ra el.rl el.rc, .int .i64 el.t, .int .i64 el.n] 65) = wa at *
          have z0 := cell_blk hb1 0 (.slice el.ra el.rl el.rc) rfl
          have z1 := cell_blk hb1 1 (.int .i64 el.t) rfl
          have z2 := cell_blk hb1 2 (.int .i64 el.n) rfl
          have HB1 := Lib.hid hb1
          clear hb1
          by_cases hfe : f el = true
          · have hc := HCl.out wa HFA.out
            rw [hfe] at hc
            have HC := Lib.hid hc
            have HFe := Lib.hid hfe
            clear hc hfe HCl
            go_upto_region 9 with (go_at_call 81; refine HC.out.mono ?_; rintro e w5 ⟨rfl, f5⟩)
            have u0 := f5.cell z0 (by simp)
            have u1 := f5.cell z1 (by simp)
            have u2 := f5.cell z2 (by simp)
            have HO5 := Lib.hid (ownsRow_fr HOA.out f5 (by simp))
            have HF5 := Lib.hid (HFA.out.trans f5)
            have hsz := (HFA.out.trans f5).size
            clear f5 z0 z1 z2 HOA HFA
            have hsrc : Src (w5.alloc (.cells #[.slice el.ra el.rl el.rc, .int .i64 el.t, .int .i64 el.n] 65)) 3 (.slice (some ⟨w5.heap.size, 0, none⟩) 1 1) 1 [.slice el.ra el.rl el.rc, .int .i64 el.t, .int .i64 el.n] := Src.block (heap_alloc_new w5 _) rfl (by intro u hu; simp at hu; rcases hu with rfl | rfl | rfl <;> rfl)
            have HSrc := Lib.hid hsrc
            clear hsrc
            go_wp2_with (at_builtin; refine wpList_append_src _ rfl (.tmp 25) (.tmp 27) 27 rfl w.heap.size 65 i0 _ 3 40 Tryz.underlying27 hi hz0 hz1 hz2 rfl (by decide) (.slice va2 pk.length vc2) pk.length _ rfl (HO5.out.alloc _) (.slice (some ⟨w5.heap.size, 0, none⟩) 1 1) 1 [.slice el.ra el.rl el.rc, .int .i64 el.t, .int .i64 el.n] rfl HSrc.out (by unfold maxLen; omega) (by omega) (by simp; omega) ?_; intro v' w6 hown6 hgrow6 _)
            have HOwn6 := Lib.hid hown6
            have HG6 := Lib.hid hgrow6
            clear hown6 hgrow6
            go_roundw
            case rel => exact ⟨j + 1, by go_num, by omega, (HF5.out.alloc _).fresh HG6.out (fun r e => Or.inl (HO5.out.lt r e).1), by
              rw [HSn.out, if_pos HFe.out, upd.elsC_append, List.length_append]
              simpa [upd.elsC, upd.El.cells] using HOwn6.out⟩
            case measure => simp [intOf] <;> omega
          · have hfe2 : f el = false := by simpa using hfe
            have hc := HCl.out wa HFA.out
            rw [hfe2] at hc
            have HC := Lib.hid hc
            have HFe := Lib.hid hfe
            clear hc hfe hfe2 HCl
            go_wp2_with (go_at_call 81; refine HC.out.mono ?_; rintro e w5 ⟨rfl, f5⟩; have HO5 := Lib.hid (ownsRow_fr HOA.out f5 (by simp)); have HF5 := Lib.hid (HFA.out.trans f5); clear f5)
            go_roundw
            case rel => exact ⟨j + 1, by go_num, by omega, HF5.out, by rw [HSn.out, if_neg HFe.out, List.append_nil]; exact HO5.out⟩
            case measure => simp [intOf] <;> omega
        · have hjj : j = (nbt bs k).l.length := by omega
          have HN := Lib.hid (show picked2 f bs k j = picked f bs (k + 1) by rw [hjj]; exact picked2_all hlt)
          clear hf ho hjj
          go_wp2_with fail
          go_roundw
          case rel => exact ⟨k + 1, by go_num, by omega, HF.out, by rw [← HN.out]; exact HO.out⟩
          case measure => simp [intOf] <;> omega
    · have hkk : k = bs.length := by omega
      have HN := Lib.hid (show picked f bs k = (bs.map Bt.l).flatten.filter f by rw [hkk]; unfold picked; rw [List.take_length])
      clear hf ho hkk
      go_wp2_with fail
      go_ret
      have h9 := HO.out
      rw [HN.out] at h9
      exact ⟨⟨xa, xc, ret_slice (by rw [HN.out]), upd.own_cts h9 fun e he => by
        obtain ⟨l9, hl9, he9⟩ := List.mem_flatten.1 (List.mem_filter.1 he).1
        obtain ⟨b9, hb9, rfl⟩ := List.mem_map.1 hl9
        exact ((HB.out b9 hb9).fr HF.out).row e he9⟩, HF.out⟩
end Go.Proofs.YtjchlfblbmiceaaGreat
namespace Go.Proofs.YtjchlfblbmiceaaGreat
open Go.RowKit srt grp
set_option maxRecDepth 100000

theorem chosenAt_any {w : World} {p tb : Nat} {wb : Option Nat} {s : Spn} {f : upd.El → Bool} (h : SpAt w p wb s) (hn : s.fl.length ≤ 10000) (hm : s.bs.length ≤ 1000000)
    (hf : ∀ wi, Fr [] w wi → ∀ e ∈ s.fl, Calls Tryz.prog 34 #[.agg #[.slice e.ra e.rl e.rc, .int .i64 e.t, .int .i64 e.n], .pointer (some ⟨tb, 0, none⟩)] wi fun x w' => x = .returned (.bool (f e)) ∧ Fr [] wi w') :
    Calls Tryz.prog 33 #[.pointer (some ⟨p, 0, none⟩), .func (.func 34) #[] #[.pointer (some ⟨tb, 0, none⟩)]] w (PickPost w (s.fl.filter f)) := by
  have hp : Calls Tryz.prog 61 #[.slice s.va s.bs.length s.vc, .func (.func 34) #[] #[.pointer (some ⟨tb, 0, none⟩)]] w (PickPost w (s.fl.filter f)) := pickAt_any h.own.src (fun b hb => (h.bts b hb).cts) hn hm hf
  generalize s.fl.filter f = LL at *
  obtain ⟨-, x1, -⟩ := h.cell
  clear h hf
  go_enter Tryz.func33, Tryz.ntmps33
  go_wp2_with (go_at_call 61; refine hp.mono ?_; rintro e w1 ⟨⟨a1, c1, rfl, k1⟩, f1⟩; have K1 := Lib.hid k1; have F1 := Lib.hid f1; clear k1 f1)
  go_ret
  exact ⟨⟨a1, c1, rfl, K1.out⟩, F1.out⟩

theorem chosenFrom_any {w : World} {p tb : Nat} {wb : Option Nat} {s : Spn} {f : upd.El → Bool} (h : SpAt w p wb s) (hn : s.fl.length ≤ 10000) (hm : s.bs.length ≤ 1000000)
    (hf : ∀ wi, Fr [] w wi → ∀ e ∈ s.fl, Calls Tryz.prog 38 #[.agg #[.slice e.ra e.rl e.rc, .int .i64 e.t, .int .i64 e.n], .pointer (some ⟨tb, 0, none⟩)] wi fun x w' => x = .returned (.bool (f e)) ∧ Fr [] wi w') :
    Calls Tryz.prog 33 #[.pointer (some ⟨p, 0, none⟩), .func (.func 38) #[] #[.pointer (some ⟨tb, 0, none⟩)]] w (PickPost w (s.fl.filter f)) := by
  have hp : Calls Tryz.prog 61 #[.slice s.va s.bs.length s.vc, .func (.func 38) #[] #[.pointer (some ⟨tb, 0, none⟩)]] w (PickPost w (s.fl.filter f)) := pickFrom_any h.own.src (fun b hb => (h.bts b hb).cts) hn hm hf
  generalize s.fl.filter f = LL at *
  obtain ⟨-, x1, -⟩ := h.cell
  clear h hf
  go_enter Tryz.func33, Tryz.ntmps33
  go_wp2_with (go_at_call 61; refine hp.mono ?_; rintro e w1 ⟨⟨a1, c1, rfl, k1⟩, f1⟩; have K1 := Lib.hid k1; have F1 := Lib.hid f1; clear k1 f1)
  go_ret
  exact ⟨⟨a1, c1, rfl, K1.out⟩, F1.out⟩

theorem chosenFind_any {w : World} {p sb kb tb : Nat} {wb : Option Nat} {s : Spn} {f : upd.El → Bool} (h : SpAt w p wb s) (hn : s.fl.length ≤ 10000) (hm : s.bs.length ≤ 1000000)
    (hf : ∀ wi, Fr [] w wi → ∀ e ∈ s.fl, Calls Tryz.prog 81 #[.agg #[.slice e.ra e.rl e.rc, .int .i64 e.t, .int .i64 e.n], .pointer (some ⟨sb, 0, none⟩), .pointer (some ⟨kb, 0, none⟩), .pointer (some ⟨tb, 0, none⟩)] wi fun x w' => x = .returned (.bool (f e)) ∧ Fr [] wi w') :
    Calls Tryz.prog 33 #[.pointer (some ⟨p, 0, none⟩), .func (.func 81) #[] #[.pointer (some ⟨sb, 0, none⟩), .pointer (some ⟨kb, 0, none⟩), .pointer (some ⟨tb, 0, none⟩)]] w (PickPost w (s.fl.filter f)) := by
  have hp : Calls Tryz.prog 61 #[.slice s.va s.bs.length s.vc, .func (.func 81) #[] #[.pointer (some ⟨sb, 0, none⟩), .pointer (some ⟨kb, 0, none⟩), .pointer (some ⟨tb, 0, none⟩)]] w (PickPost w (s.fl.filter f)) := pickFind_any h.own.src (fun b hb => (h.bts b hb).cts) hn hm hf
  generalize s.fl.filter f = LL at *
  obtain ⟨-, x1, -⟩ := h.cell
  clear h hf
  go_enter Tryz.func33, Tryz.ntmps33
  go_wp2_with (go_at_call 61; refine hp.mono ?_; rintro e w1 ⟨⟨a1, c1, rfl, k1⟩, f1⟩; have K1 := Lib.hid k1; have F1 := Lib.hid f1; clear k1 f1)
  go_ret
  exact ⟨⟨a1, c1, rfl, K1.out⟩, F1.out⟩

/-! ### what is asked of an update -/
theorem askAt_any {w : World} {tb : Nat} {t : Int} {e : upd.El} (h : w.cell? ⟨tb, 0, none⟩ = some (.int .i64 t)) : Calls Tryz.prog 34 #[.agg #[.slice e.ra e.rl e.rc, .int .i64 e.t, .int .i64 e.n], .pointer (some ⟨tb, 0, none⟩)] w fun x w' => x = .returned (.bool (decide (e.t ≤ t))) ∧ Fr [] w w' := by
  have fa : Fr [] w (w.alloc (.cells #[.slice e.ra e.rl e.rc, .int .i64 e.t, .int .i64 e.n] 65)) := (Fr.refl [] w).alloc _
  have h1 := fa.cell h (by simp)
  clear h
  go_enter Tryz.func34, Tryz.ntmps34
  go_wp2_with fail
  go_ret
  exact ⟨rfl, fa⟩
theorem askFrom_any {w : World} {tb : Nat} {t : Int} {e : upd.El} (h : w.cell? ⟨tb, 0, none⟩ = some (.int .i64 t)) : Calls Tryz.prog 38 #[.agg #[.slice e.ra e.rl e.rc, .int .i64 e.t, .int .i64 e.n], .pointer (some ⟨tb, 0, none⟩)] w fun x w' => x = .returned (.bool (decide (t ≤ e.t))) ∧ Fr [] w w' := by
  have fa : Fr [] w (w.alloc (.cells #[.slice e.ra e.rl e.rc, .int .i64 e.t, .int .i64 e.n] 65)) := (Fr.refl [] w).alloc _
  have h1 := fa.cell h (by simp)
  clear h
  go_enter Tryz.func38, Tryz.ntmps38
  go_wp2_with fail
  go_ret
  exact ⟨rfl, fa⟩
theorem ret_bad {c d : Int} (h : c = d) : Ending.returned (.tuple #[.slice none 0 0, .int .i64 c]) = .returned (.tuple #[.slice none 0 0, .int .i64 d]) := by rw [h]
/-- What At tells. -/
def SpAtPost (w : World) (s : Spn) (t : Int) (e : Ending) (w' : World) : Prop :=
  Fr [] w w' ∧ ((askE s t ≠ 0 ∧ e = .returned (.tuple #[.slice none 0 0, .int .i64 (askE s t)])) ∨ (askE s t = 0 ∧ ∃ (outs : List El) (a : Option Addr) (c : Nat), e = .returned (.tuple #[.slice a outs.length c, .int .i64 0]) ∧ ListIn w.heap.size w' (.slice a outs.length c) outs ∧ Canon cmpR (outs.map pr) (fun r => 1 * sumK ((atL s.fl t).map pr) r) ∧ outs.length ≤ (atL s.fl t).length))
theorem atL_filter (l : List upd.El) (t : Int) : atL (l.filter fun e => decide (e.t ≤ t)) t = atL l t := by unfold atL; rw [List.filter_filter]; simp
set_option maxHeartbeats 1600000 in
theorem spAt_any {w : World} {p : Nat} {wb : Option Nat} {s : Spn} (h : SpAt w p wb s) (hk : SpOk s) (t : Int) :
    Calls Tryz.prog 9 #[.pointer (some ⟨p, 0, none⟩), .int .i64 t] w (SpAtPost w s t) := by
  have hl := hk.len
  have hfit : ∀ r, fitB (1 * sumK ((atL (s.fl.filter fun e => decide (e.t ≤ t)) t).map pr) r) = true := fun r => by
    have h1 := sumK_mass ((atL s.fl t).map pr) r
    have h2 := massU_atL s.fl t
    have h3 := hk.mass
    rw [atL_filter, fitB_iff]
    omega
  have hlen : (s.fl.filter fun e => decide (e.t ≤ t)).length ≤ 10000 := Nat.le_trans (List.length_filter_le _ _) (by omega)
  have hbs := hk.few
  have HFit := Lib.hid hfit
  have H := Lib.hid h
  clear h hfit hk
  go_enter Tryz.func9, Tryz.ntmps9
  go_upto_region 1 with fail
  have fa : Fr [] w (w.alloc (.cells #[.int .i64 t] 2)) := (Fr.refl [] w).alloc _
  have ht := cell_blk (heap_alloc_new w (.cells #[.int .i64 t] 2)) 0 (.int .i64 t) rfl
  have HA := Lib.hid (H.out.fr fa)
  have FA := Lib.hid fa
  clear fa H
  generalize w.heap.size = tb at *
  generalize w.alloc (.cells #[.int .i64 t] 2) = wa at *
  have has := asked_any HA.out t
  by_cases hz : askE s t = 0
  · have HZ := Lib.hid hz
    rw [hz] at has
    have HAs := Lib.hid has
    clear has hz
    go_upto_region 4 with (go_at_call 31; refine HAs.out.mono ?_; rintro e w' ⟨rfl, rfl⟩)
    have hch := fun wi (f9 : Fr [] wa wi) => chosenAt_any (tb := tb) (f := fun e => decide (e.t ≤ t)) (HA.out.fr f9) (by omega) (by omega) (fun wj f8 e _ => askAt_any ((f9.trans f8).cell ht (by simp)))
    have HCh := Lib.hid hch
    clear hch
    generalize hLL : s.fl.filter (fun e => decide (e.t ≤ t)) = LL at *
    have HLL := Lib.hid hLL
    clear hLL
    go_region_held3 (fun W => W.cell? ⟨tb, 0, none⟩ = some (.int .i64 t))
      (first | exact ht | exact f6.cell ht (by simp) | exact f5.cell ht (by simp) | go_keep)
      (first
        | (go_at_call 33; refine (HCh.out _ ((Fr.refl [] wa).drew)).mono ?_; rintro e w5 ⟨⟨ca, cc, rfl, k5⟩, f5a⟩; have f5 : Fr [] wa w5 := (Fr.refl [] wa).drew.trans f5a; have K5 := Lib.hid k5; clear f5a k5)
        | (go_at_call 32; refine (atFit K5.out rfl hlen HFit.out).mono ?_; rintro e w6 ⟨outs, oa, oc, rfl, f6a, k6, n6, m6, c6⟩; have f6 : Fr [] wa w6 := f5.trans f6a; have K6 := Lib.hid k6; have N6 := Lib.hid n6; clear f6a k6 n6 c6))
    go_wp2_with fail
    go_ret2
    refine ⟨FA.out.trans f6, Or.inr ⟨HZ.out, outs, oa, oc, rfl, K6.out.base (Nat.le_trans FA.out.size f5.size), N6.out.of fun r => ?_, ?_⟩⟩
    · rw [← HLL.out, atL_filter]
    · rw [← HLL.out, atL_filter] at m6; exact m6
  · have HZ := Lib.hid hz
    have hz2 : (askE s t != 0) = true := by simpa using hz
    generalize hcv : askE s t = cv at *
    have HCv := Lib.hid hcv
    have HAs := Lib.hid has
    clear has hz hcv
    go_wp2_with (go_at_call 31; refine HAs.out.mono ?_; rintro e w' ⟨rfl, rfl⟩)
    go_ret2
    exact ⟨FA.out, Or.inl ⟨by rw [HCv.out]; exact HZ.out, ret_bad HCv.out.symm⟩⟩

def fromE (s : Spn) (t : Int) : Int := if t ≤ s.since then 130 else if s.upper < t then 131 else 0
/-- What From tells. -/
def SpFromPost (w : World) (s : Spn) (t : Int) (e : Ending) (w' : World) : Prop :=
  Fr [] w w' ∧ ((fromE s t ≠ 0 ∧ e = .returned (.tuple #[.slice none 0 0, .int .i64 (fromE s t)])) ∨ (fromE s t = 0 ∧ ∃ (outs : List upd.El) (a : Option Addr) (c : Nat), e = .returned (.tuple #[.slice a outs.length c, .int .i64 0]) ∧ upd.ListIn w.heap.size w' (.slice a outs.length c) outs ∧ Canon upd.cmpU (outs.map upd.pr) (fun q => 1 * sumK ((frL s.fl t).map upd.pr) q) ∧ outs.length ≤ (frL s.fl t).length))
set_option maxHeartbeats 1600000 in
theorem spFrom_any {w : World} {p : Nat} {wb : Option Nat} {s : Spn} (h : SpAt w p wb s) (hk : SpOk s) (t : Int) :
    Calls Tryz.prog 13 #[.pointer (some ⟨p, 0, none⟩), .int .i64 t] w (SpFromPost w s t) := by
  have hl := hk.len
  have hfit : ∀ q, fitB (1 * sumK ((frL s.fl t).map upd.pr) q) = true := fun r => by
    have h1 := sumK_mass ((frL s.fl t).map upd.pr) r
    have h2 := massU_frL s.fl t
    have h3 := hk.mass
    unfold massU at h2
    rw [fitB_iff]
    unfold massU at h3
    omega
  have hlen : (frL s.fl t).length ≤ 10000 := Nat.le_trans (List.length_filter_le _ _) (by omega)
  have hbs := hk.few
  have HFit := Lib.hid hfit
  have H := Lib.hid h
  clear h hfit hk
  go_enter Tryz.func13, Tryz.ntmps13
  go_upto_region 1 with fail
  have fa : Fr [] w (w.alloc (.cells #[.int .i64 t] 2)) := (Fr.refl [] w).alloc _
  have ht := cell_blk (heap_alloc_new w (.cells #[.int .i64 t] 2)) 0 (.int .i64 t) rfl
  have HA := Lib.hid (H.out.fr fa)
  have FA := Lib.hid fa
  clear fa H
  generalize w.heap.size = tb at *
  generalize w.alloc (.cells #[.int .i64 t] 2) = wa at *
  obtain ⟨-, -, x2, x3, -⟩ := HA.out.cell
  have q1 : ∀ q : FrBy wa, q.wn.cell? ⟨tb, 0, none⟩ = some (.int .i64 t) := fun q => q.fr.cell ht (by simp)
  have q2 : ∀ q : FrBy wa, q.wn.cell? ⟨p, 2, none⟩ = some (.int .i64 s.since) := fun q => q.fr.cell x2 (by simp)
  refine wp_region_fr (by kernel_rfl) (by kernel_rfl) ?_
  repeat (go_big_quiet_step (fail))
  refine wpQuiet_nil ?_
  intro wb2 hwn
  have fn : Fr [] wa wb2 := by obtain ⟨q, rfl⟩ := hwn; exact q.fr
  have y1 := fn.cell ht (by simp)
  have y3 := fn.cell x3 (by simp)
  have FN := Lib.hid fn
  clear hwn q1 q2 fn ht x2 x3
  by_cases h1 : t ≤ s.since
  · have HE := Lib.hid (show fromE s t = 130 by unfold fromE; rw [if_pos h1])
    go_wp2_with fail
    go_ret2
    exact ⟨FA.out.trans FN.out, Or.inl ⟨by rw [HE.out]; decide, ret_bad HE.out.symm⟩⟩
  · go_upto_region 3 with fail
    have q1 : ∀ q : FrBy wb2, q.wn.cell? ⟨tb, 0, none⟩ = some (.int .i64 t) := fun q => q.fr.cell y1 (by simp)
    have q2 : ∀ q : FrBy wb2, q.wn.cell? ⟨p, 3, none⟩ = some (.int .i64 s.upper) := fun q => q.fr.cell y3 (by simp)
    refine wp_region_fr (by kernel_rfl) (by kernel_rfl) ?_
    repeat (go_big_quiet_step (fail))
    refine wpQuiet_nil ?_
    intro wc2 hwn
    have fn : Fr [] wb2 wc2 := by obtain ⟨q, rfl⟩ := hwn; exact q.fr
    have z1 := fn.cell y1 (by simp)
    have FC := Lib.hid (FN.out.trans fn)
    clear hwn q1 q2 fn y1 y3 FN
    by_cases h2 : s.upper < t
    · have HE := Lib.hid (show fromE s t = 131 by unfold fromE; rw [if_neg h1, if_pos h2])
      go_wp2_with fail
      go_ret2
      exact ⟨FA.out.trans FC.out, Or.inl ⟨by rw [HE.out]; decide, ret_bad HE.out.symm⟩⟩
    · have HE := Lib.hid (show fromE s t = 0 by unfold fromE; rw [if_neg h1, if_neg h2])
      have hch := chosenFrom_any (tb := tb) (f := fun e => decide (t ≤ e.t)) (HA.out.fr FC.out) (by omega) (by omega) (fun wj f8 e _ => askFrom_any (f8.cell z1 (by simp)))
      have hch2 : Calls Tryz.prog 33 #[.pointer (some ⟨p, 0, none⟩), .func (.func 38) #[] #[.pointer (some ⟨tb, 0, none⟩)]] wc2 (PickPost wc2 (frL s.fl t)) := hch
      generalize hLL : frL s.fl t = LL at *
      have HLL := Lib.hid hLL
      have HCh := Lib.hid hch2
      clear hLL hch hch2
      go_wp2_with (first
        | (go_at_call 33; refine HCh.out.mono ?_; rintro e w5 ⟨⟨ca, cc, rfl, k5⟩, f5⟩; have K5 := Lib.hid k5; have F5 := Lib.hid f5; clear k5 f5)
        | (go_at_call 37; refine (settleFit K5.out rfl hlen HFit.out).mono ?_; rintro e w6 ⟨outs, oa, oc, rfl, f6, k6, n6, m6⟩; have F6 := Lib.hid f6; have K6 := Lib.hid k6; have N6 := Lib.hid n6; clear f6 k6 n6))
      go_ret2
      have f9 := (FA.out.trans FC.out).trans F5.out
      exact ⟨f9.trans F6.out, Or.inr ⟨HE.out, outs, oa, oc, rfl, K6.out.base f9.size, by rw [HLL.out]; exact N6.out, by rw [HLL.out]; exact m6⟩⟩
end Go.Proofs.YtjchlfblbmiceaaGreat
namespace Go.Proofs.YtjchlfblbmiceaaGreat
open Go.RowKit srt grp

def nd (l : List Dt) (k : Nat) : Dt := (l[k]?).getD ⟨0, 0, []⟩
theorem nd_at {l : List Dt} {k : Nat} (h : k < l.length) : l[k]? = some (nd l k) := by unfold nd; rw [List.getElem?_eq_getElem h]; rfl
/-- One value of a row, as a row. -/
theorem RowAt.sub {w : World} {a : Option Addr} {n c : Nat} {ds : List Dt} (h : RowAt w (.slice a n c) ds) {k : Nat} (hk : k < ds.length) : ∃ b off, a = some ⟨b, off, none⟩ ∧ ∀ c', 1 ≤ c' → RowAt w (.slice (some ⟨b, off + k * 3, none⟩) 1 c') [nd ds k] := by
  obtain ⟨b, off, e, h0, h1, h2⟩ := h.at hk
  have hd := nd_at hk
  rw [List.getElem?_eq_getElem hk] at hd
  rw [Option.some.inj hd] at h0 h1 h2
  refine ⟨b, off, e, fun c' hc => Or.inr ⟨b, off + k * 3, c', rfl, hc, fun i d hi => ?_⟩⟩
  match i, hi with
  | 0, hi =>
    simp only [List.getElem?_cons_zero, Option.some.injEq] at hi
    subst hi
    exact ⟨by simpa using h0, by simpa using h1, by simpa using h2⟩
  | i + 1, hi => simp at hi

def hitB (key : List Int) (kr : List Dt) (e : upd.El) (i : Nat) : Bool := decide (cmpR [nd e.rd (nki key i).toNat] [nd kr i] = 0)
def keyedB (key : List Int) (kr : List Dt) (e : upd.El) : Bool := (List.range key.length).all (hitB key kr e)
def findB (key : List Int) (kr : List Dt) (t : Int) (e : upd.El) : Bool := keyedB key kr e && decide (e.t ≤ t)
theorem keyed_no {key : List Int} {kr : List Dt} {e : upd.El} {i : Nat} (hi : i < key.length) (h : hitB key kr e i = false) : keyedB key kr e = false := by
  unfold keyedB
  rw [List.all_eq_false]
  exact ⟨i, List.mem_range.2 hi, by simp [h]⟩
theorem keyed_yes {key : List Int} {kr : List Dt} {e : upd.El} (h : ∀ i, i < key.length → hitB key kr e i = true) : keyedB key kr e = true := by
  unfold keyedB
  rw [List.all_eq_true]
  exact fun i hi => h i (List.mem_range.1 hi)

set_option maxRecDepth 100000
set_option maxHeartbeats 3200000 in
theorem askFind_any {w : World} {p sb kb tb : Nat} {wb : Option Nat} {s : Spn} {ka : Option Addr} {kc : Nat} {kr : List Dt} {t : Int} {e : upd.El} (h : SpAt w p wb s) (h1 : w.cell? ⟨sb, 0, none⟩ = some (.pointer (some ⟨p, 0, none⟩))) (h2 : w.cell? ⟨kb, 0, none⟩ = some (.slice ka kr.length kc)) (h3 : w.cell? ⟨tb, 0, none⟩ = some (.int .i64 t))
    (hr : RowAt w (.slice ka kr.length kc) kr) (hkc : kr.length ≤ kc) (he : RowAt w e.rv e.rd) (hec : e.rd.length ≤ e.rc ∧ e.rl = e.rd.length) (hel : e.rd.length ≤ 4398046511103) (hkl : kr.length ≤ 4398046511103) (hn : kr.length = s.key.length) (hw : ∀ k ∈ s.key, 0 ≤ k ∧ k < (e.rd.length : Int)) :
    Calls Tryz.prog 81 #[.agg #[.slice e.ra e.rl e.rc, .int .i64 e.t, .int .i64 e.n], .pointer (some ⟨sb, 0, none⟩), .pointer (some ⟨kb, 0, none⟩), .pointer (some ⟨tb, 0, none⟩)] w fun x w' => x = .returned (.bool (findB s.key kr t e)) ∧ Fr [] w w' := by
  have H := Lib.hid h
  have HR := Lib.hid hr
  have HE := Lib.hid he
  have HEC := Lib.hid hec
  have HW := Lib.hid hw
  have HN := Lib.hid hn
  clear h hr he hec hw hn
  go_enter Tryz.func81, Tryz.ntmps81
  go_upto_region 1 with fail
  have fa : Fr [] w (w.alloc (.cells #[.slice e.ra e.rl e.rc, .int .i64 e.t, .int .i64 e.n] 65)) := (Fr.refl [] w).alloc _
  have hb := heap_alloc_new w (.cells #[.slice e.ra e.rl e.rc, .int .i64 e.t, .int .i64 e.n] 65)
  have y1 := fa.cell h1 (by simp)
  have y2 := fa.cell h2 (by simp)
  have y3 := fa.cell h3 (by simp)
  have HA := Lib.hid (H.out.fr fa)
  have FA := Lib.hid fa
  have z0 := cell_blk hb 0 (.slice e.ra e.rl e.rc) rfl
  have z1 := cell_blk hb 1 (.int .i64 e.t) rfl
  clear h1 h2 h3 fa hb H
  generalize w.heap.size = ub at *
  generalize w.alloc (.cells #[.slice e.ra e.rl e.rc, .int .i64 e.t, .int .i64 e.n] 65) = wa at *
  obtain ⟨x0, -⟩ := HA.out.cell
  have HKey := Lib.hid HA.out.key.src
  generalize s.ka = ka1 at *
  go_wp2_with fail
  go_loopw [13] (fun x wr => ∃ i : Nat, x = .int .i64 i ∧ i ≤ s.key.length ∧ Fr [] wa wr ∧ Hid (∀ j, j < i → hitB s.key kr e j = true)) (fun x _ => s.key.length - (intOf x).toNat)
  case atStart => exact ⟨0, rfl, Nat.zero_le _, Fr.refl _ _, Lib.hid (fun j hj => absurd hj (by omega))⟩
  case round =>
    obtain ⟨i, rfl, hi, hf, HA2⟩ := hrel
    have HF := Lib.hid hf
    by_cases hlt : i < s.key.length
    · obtain ⟨b, off, e1, v0⟩ := src_key (HKey.out.fr hf) hlt
      subst e1
      obtain ⟨k0, k1⟩ := HW.out _ (nki_mem hlt)
      have hit : hitB s.key kr e i = decide (cmpR [nd e.rd (nki s.key i).toNat] [nd kr i] = 0) := rfl
      have HHit := Lib.hid hit
      have HNo := Lib.hid (fun h9 => keyed_no (key := s.key) (kr := kr) (e := e) hlt h9)
      generalize nki s.key i = kk at *
      obtain ⟨m, rfl⟩ := Int.eq_ofNat_of_zero_le k0
      have hm : m < e.rd.length := by omega
      rw [Int.toNat_natCast] at HHit
      have hik : i < kr.length := by rw [HN.out]; exact hlt
      have fwr : Fr [] w wr := FA.out.trans hf
      obtain ⟨b1, o1, e2, r1⟩ := (HE.out.fr fwr).sub (k := m) (by exact hm)
      obtain ⟨b2, o2, e3, r2⟩ := (HR.out.fr fwr).sub hik
      obtain ⟨hec1, hec2⟩ := HEC.out
      have hcm : ∀ q : FrBy wr, Calls Tryz.prog 68 #[.slice (some ⟨b1, o1 + m * 3, none⟩) 1 (e.rc - m), .slice (some ⟨b2, o2 + i * 3, none⟩) 1 (kc - i)] q.wn fun x w' => x = .returned (.int .i64 (cmpR [nd e.rd m] [nd kr i])) ∧ Fr [] q.wn w' := fun q => rowcmp_any ((r1 _ (by omega)).fr q.fr) ((r2 _ (by omega)).fr q.fr) (by simp)
      generalize hcv : cmpR [nd e.rd m] [nd kr i] = cv at *
      have HCm := Lib.hid hcm
      have p0 := hf.cell z0 (by simp)
      have p2 := hf.cell y2 (by simp)
      rw [e2, hec2] at p0
      rw [e3] at p2
      have u0 : ∀ q : FrBy wr, q.wn.cell? ⟨ub, 0, none⟩ = some (.slice (some ⟨b1, o1, none⟩) e.rd.length e.rc) := fun q => q.fr.cell p0 (by simp)
      have u2 : ∀ q : FrBy wr, q.wn.cell? ⟨kb, 0, none⟩ = some (.slice (some ⟨b2, o2, none⟩) kr.length kc) := fun q => q.fr.cell p2 (by simp)
      clear hf r1 r2 hit hcm p0 p2 hcv e2 e3 fwr hec2 k0
      have g1 : (m : Int) + 1 ≤ (e.rc : Int) := by omega
      have g2 : (i : Int) + 1 ≤ (kc : Int) := by omega
      have g3 : ((m : Int) + 1).toNat = m + 1 := by omega
      have g4 : ((i : Int) + 1).toNat = i + 1 := by omega
      have g5 : m + 1 - m = 1 := by omega
      have g6 : i + 1 - i = 1 := by omega
      go_upto_region 4 with fail
      have g7 : IntKind.i64.wrap ((m : Int) + 1) = (m : Int) + 1 := by rw [IntKind.wrap_i64]; omega
      have g8 : IntKind.i64.wrap ((i : Int) + 1) = (i : Int) + 1 := by rw [IntKind.wrap_i64]; omega
      refine wp_region_fr (by kernel_rfl) (by kernel_rfl) ?_
      repeat (go_big_quiet_step ((go_at_call 68; exact Calls.fr_of (HCm.out _))))
      refine wpQuiet_nil ?_
      intro wn hwn
      have fn : Fr [] wr wn := by obtain ⟨q, rfl⟩ := hwn; exact q.fr
      have FN := Lib.hid (HF.out.trans fn)
      clear hwn u0 u2 fn HCm g7 g8
      by_cases hz : cv = 0
      · have HH := Lib.hid (show hitB s.key kr e i = true by rw [HHit.out, hz]; rfl)
        have hz2 : (cv != 0) = false := by simp [hz]
        have HA3 : Hid (∀ j, j < i + 1 → hitB s.key kr e j = true) := Lib.hid (fun j hj => by
          by_cases h9 : j = i
          · rw [h9]; exact HH.out
          · exact HA2.out j (by omega))
        clear hz
        go_wp2_with fail
        go_roundw
        case rel => exact ⟨i + 1, by go_num, by omega, FN.out, HA3⟩
        case measure => simp [intOf] <;> omega
      · have HH := Lib.hid (show findB s.key kr t e = false by unfold findB; rw [HNo.out (by rw [HHit.out]; simpa using hz)]; rfl)
        have hz2 : (cv != 0) = true := by simp [hz]
        clear hz
        go_wp2_with fail
        go_ret
        exact ⟨ret_bool HH.out.symm, FA.out.trans FN.out⟩
    · have HK := Lib.hid (show findB s.key kr t e = decide (e.t ≤ t) by unfold findB; rw [keyed_yes (fun j hj => HA2.out j (by omega))]; simp)
      have p1 := hf.cell z1 (by simp)
      have p3 := hf.cell y3 (by simp)
      clear hf
      go_wp2_with fail
      go_ret
      exact ⟨ret_bool HK.out.symm, FA.out.trans HF.out⟩

theorem three_boxes (w : World) (a b c : Value) (t1 t2 t3 : Nat) : Fr [] w (((w.alloc (.cells #[a] t1)).alloc (.cells #[b] t2)).alloc (.cells #[c] t3)) ∧ (((w.alloc (.cells #[a] t1)).alloc (.cells #[b] t2)).alloc (.cells #[c] t3)).cell? ⟨w.heap.size, 0, none⟩ = some a ∧
    (((w.alloc (.cells #[a] t1)).alloc (.cells #[b] t2)).alloc (.cells #[c] t3)).cell? ⟨w.heap.size + 1, 0, none⟩ = some b ∧ (((w.alloc (.cells #[a] t1)).alloc (.cells #[b] t2)).alloc (.cells #[c] t3)).cell? ⟨w.heap.size + 1 + 1, 0, none⟩ = some c := by
  refine ⟨(((Fr.refl [] w).alloc _).alloc _).alloc _, ?_, ?_, ?_⟩
  · exact (((Fr.refl [] (w.alloc (.cells #[a] t1))).alloc _).alloc _).cell (cell_blk (heap_alloc_new w _) 0 _ rfl) (by simp)
  · have h := ((Fr.refl [] ((w.alloc (.cells #[a] t1)).alloc (.cells #[b] t2))).alloc (.cells #[c] t3)).cell (cell_blk (heap_alloc_new (w.alloc (.cells #[a] t1)) (.cells #[b] t2)) 0 b rfl) (by simp)
    have e : (w.alloc (.cells #[a] t1)).heap.size = w.heap.size + 1 := by simp
    rwa [e] at h
  · have h := cell_blk (heap_alloc_new ((w.alloc (.cells #[a] t1)).alloc (.cells #[b] t2)) (.cells #[c] t3)) 0 c rfl
    have e : ((w.alloc (.cells #[a] t1)).alloc (.cells #[b] t2)).heap.size = w.heap.size + 1 + 1 := by simp
    rwa [e] at h
theorem RowIn.cap {base : Nat} {w : World} {e : upd.El} (h : RowIn base w e.rv e.rd) : e.rd.length ≤ e.rc ∧ e.rl = e.rd.length := by
  obtain ⟨a, c, hv, hc⟩ := h.row.shape
  unfold upd.El.rv at hv
  simp only [Value.slice.injEq] at hv
  exact ⟨by omega, hv.2.1⟩
/-- What Find tells. -/
def SpFindPost (w : World) (s : Spn) (kr : List Dt) (t : Int) (e : Ending) (w' : World) : Prop :=
  Fr [] w w' ∧ ((kr.length ≠ s.key.length ∧ e = .returned (.tuple #[.slice none 0 0, .int .i64 132])) ∨ (kr.length = s.key.length ∧ askE s t ≠ 0 ∧ e = .returned (.tuple #[.slice none 0 0, .int .i64 (askE s t)])) ∨
    (kr.length = s.key.length ∧ askE s t = 0 ∧ ∃ (outs : List El) (a : Option Addr) (c : Nat), e = .returned (.tuple #[.slice a outs.length c, .int .i64 0]) ∧ ListIn w.heap.size w' (.slice a outs.length c) outs ∧ Canon cmpR (outs.map pr) (fun r => 1 * sumK ((atL (s.fl.filter (findB s.key kr t)) t).map pr) r)))
set_option maxHeartbeats 3200000 in
theorem spFind_any {w : World} {p : Nat} {wb : Option Nat} {s : Spn} {ka : Option Addr} {kc : Nat} {kr : List Dt} (h : SpAt w p wb s) (hk : SpOk s) (hw : ∀ e ∈ s.fl, ∀ k ∈ s.key, 0 ≤ k ∧ k < (e.rd.length : Int)) (hr : RowAt w (.slice ka kr.length kc) kr) (hkc : kr.length ≤ kc) (hkl : kr.length ≤ 4398046511103) (t : Int) :
    Calls Tryz.prog 50 #[.pointer (some ⟨p, 0, none⟩), .slice ka kr.length kc, .int .i64 t] w (SpFindPost w s kr t) := by
  have hl := hk.len
  have hfit : ∀ r, fitB (1 * sumK ((atL (s.fl.filter (findB s.key kr t)) t).map pr) r) = true := fun r => by
    have h1 := sumK_mass ((atL (s.fl.filter (findB s.key kr t)) t).map pr) r
    have h2 := massU_atL (s.fl.filter (findB s.key kr t)) t
    have h4 := massU_filter (findB s.key kr t) s.fl
    have h3 := hk.mass
    rw [fitB_iff]
    omega
  have hlen : (s.fl.filter (findB s.key kr t)).length ≤ 10000 := Nat.le_trans (List.length_filter_le _ _) (by omega)
  have hbs := hk.few
  have hks := hk.key
  have HFit := Lib.hid hfit
  have H := Lib.hid h
  have HW := Lib.hid hw
  have HR := Lib.hid hr
  clear h hfit hk hw hr
  go_enter Tryz.func50, Tryz.ntmps50
  go_upto_region 1 with fail
  obtain ⟨f3, b1, b2, b3⟩ := three_boxes w (.pointer (some ⟨p, 0, none⟩)) (.slice ka kr.length kc) (.int .i64 t) 26 52 2
  have hszw : w.heap.size ≤ (((w.alloc (.cells #[.pointer (some ⟨p, 0, none⟩)] 26)).alloc (.cells #[.slice ka kr.length kc] 52)).alloc (.cells #[.int .i64 t] 2)).heap.size := f3.size
  have HA := Lib.hid (H.out.fr f3)
  have HRA := Lib.hid (HR.out.fr f3)
  have FA := Lib.hid f3
  clear f3 H HR
  generalize (((w.alloc (.cells #[.pointer (some ⟨p, 0, none⟩)] 26)).alloc (.cells #[.slice ka kr.length kc] 52)).alloc (.cells #[.int .i64 t] 2)) = wa at *
  generalize w.heap.size + 1 + 1 = tb at *
  generalize w.heap.size + 1 = kb at *
  generalize hsb : w.heap.size = sb at *
  have HSb := Lib.hid hsb
  clear hsb
  obtain ⟨x0, -⟩ := HA.out.cell
  have q1 : ∀ q : FrBy wa, q.wn.cell? ⟨sb, 0, none⟩ = some (.pointer (some ⟨p, 0, none⟩)) := fun q => q.fr.cell b1 (by simp)
  have q2 : ∀ q : FrBy wa, q.wn.cell? ⟨kb, 0, none⟩ = some (.slice ka kr.length kc) := fun q => q.fr.cell b2 (by simp)
  have q3 : ∀ q : FrBy wa, q.wn.cell? ⟨p, 0, none⟩ = some (.slice s.ka s.key.length s.kc) := fun q => q.fr.cell x0 (by simp)
  refine wp_region_fr (by kernel_rfl) (by kernel_rfl) ?_
  repeat (go_big_quiet_step (fail))
  refine wpQuiet_nil ?_
  intro wb2 hwn
  have fn : Fr [] wa wb2 := by obtain ⟨q, rfl⟩ := hwn; exact q.fr
  have y1 := fn.cell b1 (by simp)
  have y2 := fn.cell b2 (by simp)
  have y3 := fn.cell b3 (by simp)
  have HN := Lib.hid (HA.out.fr fn)
  have HRN := Lib.hid (HRA.out.fr fn)
  have FN := Lib.hid (FA.out.trans fn)
  clear hwn q1 q2 q3 fn b1 b2 b3 x0 FA HA HRA
  by_cases hle : kr.length = s.key.length
  · have HLe := Lib.hid hle
    have hle2 : ((kr.length : Int) != (s.key.length : Int)) = false := by rw [hle]; simp
    have has := asked_any HN.out t
    clear hle
    by_cases hz : askE s t = 0
    · have HZ := Lib.hid hz
      rw [hz] at has
      have HAs := Lib.hid has
      clear has hz
      go_upto_region 6 with (go_at_call 31; refine HAs.out.mono ?_; rintro e w' ⟨rfl, rfl⟩)
      have hch := fun wi (f9 : Fr [] wb2 wi) => chosenFind_any (sb := sb) (kb := kb) (tb := tb) (f := findB s.key kr t) (HN.out.fr f9) (by omega) (by omega) (fun wj f8 e he => by
        obtain ⟨l9, hl9, he9⟩ := List.mem_flatten.1 he
        obtain ⟨b9, hb9, rfl⟩ := List.mem_map.1 hl9
        have f7 := f9.trans f8
        have hin := ((HN.out.fr f7).bts b9 hb9).2 e he9
        obtain ⟨e5, e6⟩ := hin.1.cap
        exact askFind_any (HN.out.fr f7) (f7.cell y1 (by simp)) (f7.cell y2 (by simp)) (f7.cell y3 (by simp)) (HRN.out.fr f7) hkc hin.1.row ⟨e5, e6⟩ hin.2.len hkl HLe.out (HW.out e he))
      have HCh := Lib.hid hch
      clear hch
      generalize hLL : s.fl.filter (findB s.key kr t) = LL at *
      have HLL := Lib.hid hLL
      clear hLL
      go_region_held3 (fun W => W.cell? ⟨tb, 0, none⟩ = some (.int .i64 t) ∧ W.cell? ⟨sb, 0, none⟩ = some (.pointer (some ⟨p, 0, none⟩)))
        (first | exact ⟨y3, y1⟩ | exact ⟨f6.cell y3 (by simp), f6.cell y1 (by simp)⟩ | exact ⟨f5.cell y3 (by simp), f5.cell y1 (by simp)⟩ | go_keep)
        (first
          | (go_at_call 33; refine (HCh.out _ ((Fr.refl [] wb2).drew)).mono ?_; rintro e w5 ⟨⟨ca, cc, rfl, k5⟩, f5a⟩; have f5 : Fr [] wb2 w5 := (Fr.refl [] wb2).drew.trans f5a; have K5 := Lib.hid k5; clear f5a k5)
          | (go_at_call 32; refine (atFit K5.out rfl hlen HFit.out).mono ?_; rintro e w6 ⟨outs, oa, oc, rfl, f6a, k6, n6, m6, c6⟩; have f6 : Fr [] wb2 w6 := f5.trans f6a; have K6 := Lib.hid k6; have N6 := Lib.hid n6; clear f6a k6 n6 c6))
      go_wp2_with fail
      go_ret2
      have f9 := FN.out.trans f5
      exact ⟨FN.out.trans f6, Or.inr (Or.inr ⟨HLe.out, HZ.out, outs, oa, oc, rfl, K6.out.base f9.size, by rw [HLL.out]; exact N6.out⟩)⟩
    · have HZ := Lib.hid hz
      have hz2 : (askE s t != 0) = true := by simpa using hz
      generalize hcv : askE s t = cv at *
      have HCv := Lib.hid hcv
      have HAs := Lib.hid has
      clear has hz hcv
      go_wp2_with (go_at_call 31; refine HAs.out.mono ?_; rintro e w' ⟨rfl, rfl⟩)
      go_ret2
      exact ⟨FN.out, Or.inr (Or.inl ⟨HLe.out, by rw [HCv.out]; exact HZ.out, ret_bad HCv.out.symm⟩)⟩
  · have HLe := Lib.hid hle
    have hle2 : ((kr.length : Int) != (s.key.length : Int)) = true := by simp; omega
    clear hle
    go_wp2_with fail
    go_ret2
    exact ⟨FN.out, Or.inl ⟨HLe.out, rfl⟩⟩
end Go.Proofs.YtjchlfblbmiceaaGreat
namespace Go.Proofs.YtjchlfblbmiceaaGreat
open Go.RowKit srt grp

def natI (l : List Nat) : List Int := l.map fun (n : Nat) => (n : Int)
theorem natI_len (l : List Nat) : (natI l).length = l.length := by simp [natI]
def nn (l : List Nat) (k : Nat) : Nat := (l[k]?).getD 0
theorem nn_at {l : List Nat} {k : Nat} (h : k < l.length) : l[k]? = some (nn l k) := by unfold nn; rw [List.getElem?_eq_getElem h]; rfl
theorem nn_mem {l : List Nat} {k : Nat} (h : k < l.length) : nn l k ∈ l := List.mem_of_getElem? (nn_at h)
theorem natI_at {l : List Nat} {k : Nat} (h : k < l.length) : nki (natI l) k = (nn l k : Int) := by
  unfold nki natI
  rw [List.getElem?_map, nn_at h]; rfl
theorem own_key {w : World} {base : Nat} {a : Option Addr} {c : Nat} {l : List Int} (ho : w.ownsRow base 3 1 (.slice a l.length c) l.length (kiC l)) : KeyAt w (.slice a l.length c) l := by
  rcases ho.2 with ⟨hv, h2⟩ | ⟨g, cap, cur, hv, hb, hg, hcl, -, -, htk⟩
  · simp only [Value.slice.injEq] at hv
    exact Or.inl ⟨a, c, by rw [h2], fun _ => hv.2.2, List.length_eq_zero_iff.1 h2⟩
  · refine Or.inr ⟨g, cap, cur, hv, hcl, hg, ?_⟩
    rw [Nat.mul_one] at htk
    exact htk
theorem KeyAt.fr {w w' : World} {v : Value} {l : List Int} (h : KeyAt w v l) (f : Fr [] w w') : KeyAt w' v l := h.frT f (TyB.nil _)

def SizesPost (w : World) (ns : List Nat) (e : Ending) (w' : World) : Prop := (∃ a c, e = .returned (.slice a ns.length c) ∧ KeyAt w' (.slice a ns.length c) (natI ns)) ∧ Fr [] w w'
set_option maxRecDepth 100000
set_option maxHeartbeats 1600000 in
theorem sizes_any {w : World} {p : Nat} {wb : Option Nat} {s : Spn} (h : SpAt w p wb s) (hb : s.bs.length ≤ 1000000) :
    Calls Tryz.prog 28 #[.pointer (some ⟨p, 0, none⟩)] w (SizesPost w (szs s.bs)) := by
  obtain ⟨i0, hi, hz0, hz1, hz2⟩ := info_parts infoK
  obtain ⟨-, x1, -⟩ := h.cell
  have HS := Lib.hid h.own.src
  clear h
  generalize s.va = va at *
  go_enter Tryz.func28, Tryz.ntmps28
  go_wp2_with fail
  go_loopw [3, 11] (fun v x wr => ∃ k : Nat, x = .int .i64 k ∧ k ≤ s.bs.length ∧ Fr [] w wr ∧ wr.ownsRow w.heap.size 3 1 v k (kiC (natI ((szs s.bs).take k)))) (fun _ x _ => s.bs.length - (intOf x).toNat)
  case atStart => exact ⟨0, rfl, Nat.zero_le _, Fr.refl _ _, World.ownsRow_nil _ _ _ _⟩
  case round =>
    obtain ⟨k, rfl, hk, hf, ho⟩ := hrel
    obtain ⟨xa, xc, rfl⟩ := ownsRow_shape ho
    have HF := Lib.hid hf
    have HO := Lib.hid ho
    have hsz := hf.size
    by_cases hlt : k < s.bs.length
    · obtain ⟨b, off, e1, y0⟩ := src_bts (HS.out.fr hf) hlt
      subst e1
      have hts : (szs s.bs).take (k + 1) = (szs s.bs).take k ++ [(nbt s.bs k).l.length] := by
        have h1 : (szs s.bs)[k]? = some (nbt s.bs k).l.length := by unfold szs; rw [List.getElem?_map, nbt_at hlt]; rfl
        rw [List.take_add_one, h1]; rfl
      have HTs := Lib.hid hts
      generalize (nbt s.bs k).l.length = m at *
      have hsrc : Src (wr.alloc (.cells #[.int .i64 m] 3)) 1 (.slice (some ⟨wr.heap.size, 0, none⟩) 1 1) 1 [.int .i64 m] := Src.block (heap_alloc_new wr _) rfl (by intro u hu; simp at hu; rw [hu]; rfl)
      have HSrc := Lib.hid hsrc
      clear hf ho hts hsrc
      go_wp2_with (at_builtin; refine wpList_append_src _ rfl (.tmp 15) (.tmp 18) 22 rfl w.heap.size 3 i0 _ 1 8 Tryz.underlying22 hi hz0 hz1 hz2 rfl (by decide) (.slice xa k xc) k _ rfl (HO.out.alloc _) (.slice (some ⟨wr.heap.size, 0, none⟩) 1 1) 1 [.int .i64 m] rfl HSrc.out (by unfold maxLen; omega) (by omega) (by simp; omega) ?_; intro v' w6 hown6 hgrow6 _)
      have HOwn6 := Lib.hid hown6
      have HG6 := Lib.hid hgrow6
      clear hown6 hgrow6
      go_roundw
      case rel => exact ⟨k + 1, by go_num, by omega, (HF.out.alloc _).fresh HG6.out (fun r e => Or.inl (HO.out.lt r e).1), by
        rw [HTs.out]
        have h9 := HOwn6.out
        simpa [natI, kiC] using h9⟩
      case measure => simp [intOf] <;> omega
    · have hkk : k = s.bs.length := by omega
      have h9 := ho
      rw [hkk, List.take_of_length_le (by rw [szs_len]; omega)] at h9
      have H9 := Lib.hid h9
      have HKK := Lib.hid hkk
      clear hf ho hkk h9
      go_wp2_with fail
      go_ret
      have el : (szs s.bs).length = s.bs.length := szs_len _
      refine ⟨⟨xa, xc, ret_slice (by rw [el]; exact HKK.out), ?_⟩, HF.out⟩
      have h8 := H9.out
      rw [← natI_len]
      refine own_key (base := w.heap.size) ?_
      rw [natI_len, el]
      exact h8

theorem sum_take {l : List Nat} {k : Nat} (h : k < l.length) : (l.take (k + 1)).sum = (l.take k).sum + nn l k := by
  have hts : l.take (k + 1) = l.take k ++ [nn l k] := by rw [List.take_add_one, nn_at h]; rfl
  rw [hts, List.sum_append]; simp
theorem sum_take_le (l : List Nat) (k : Nat) : (l.take k).sum ≤ l.sum := by
  have h := congrArg List.sum (List.take_append_drop k l)
  rw [List.sum_append] at h
  omega
def okAt (l : List Nat) (i : Nat) : Prop := 1 ≤ nn l i ∧ (i = 0 ∨ 2 * nn l i ≤ nn l (i - 1))
theorem halved_iff : ∀ {l : List Nat}, halvedB l = true ↔ ∀ i, i < l.length → okAt l i
  | [] => by simp [halvedB]
  | [a] => by
    simp only [halvedB, decide_eq_true_eq]
    constructor
    · intro h i hi
      obtain rfl : i = 0 := by simp at hi; omega
      exact ⟨by simpa [nn] using h, Or.inl rfl⟩
    · intro h
      have := (h 0 (by simp)).1
      simpa [nn] using this
  | a :: b :: l => by
    have ih := halved_iff (l := b :: l)
    unfold halvedB
    simp only [Bool.and_eq_true, decide_eq_true_eq, ih]
    constructor
    · rintro ⟨⟨h1, h2⟩, h3⟩ i hi
      match i, hi with
      | 0, _ => exact ⟨by simpa [nn] using h1, Or.inl rfl⟩
      | i + 1, hi =>
        have h4 := h3 i (by simpa using hi)
        refine ⟨by have := h4.1; simpa [nn] using this, Or.inr ?_⟩
        match i, h4 with
        | 0, _ => simpa [nn] using h2
        | i + 1, h4 => rcases h4.2 with h5 | h5; omega; simpa [nn] using h5
    · intro h
      refine ⟨⟨by have := (h 0 (by simp)).1; simpa [nn] using this, ?_⟩, fun i hi => ?_⟩
      · rcases (h 1 (by simp)).2 with h5 | h5
        · omega
        · simpa [nn] using h5
      · have h4 := h (i + 1) (by simpa using hi)
        refine ⟨by have := h4.1; simpa [nn] using this, ?_⟩
        match i, h4 with
        | 0, _ => exact Or.inl rfl
        | i + 1, h4 => rcases h4.2 with h5 | h5; omega; exact Or.inr (by simpa [nn] using h5)
theorem halved_no {l : List Nat} {i : Nat} (hi : i < l.length) (h : ¬ okAt l i) : halvedB l = false := by
  refine Bool.eq_false_iff.2 fun h9 => h ?_
  exact halved_iff.1 h9 i hi
end Go.Proofs.YtjchlfblbmiceaaGreat
namespace Go.Proofs.YtjchlfblbmiceaaGreat
open Go.RowKit srt grp

set_option maxRecDepth 100000
def ClonePost (w : World) (s : Spn) (e : Ending) (w' : World) : Prop :=
  ∃ (p : Nat) (wb : Option Nat) (va : Option Addr) (vc : Nat), e = .returned (.pointer (some ⟨p, 0, none⟩)) ∧ w.heap.size ≤ p ∧ (∀ g, wb = some g → w.heap.size ≤ g) ∧ SpAt w' p wb { s with va := va, vc := vc } ∧ Fr [] w w'
set_option maxHeartbeats 1600000 in
theorem spClone_any {w : World} {p : Nat} {wb : Option Nat} {s : Spn} (h : SpAt w p wb s) (hb : s.bs.length ≤ 1000000) :
    Calls Tryz.prog 22 #[.pointer (some ⟨p, 0, none⟩)] w (ClonePost w s) := by
  obtain ⟨x0, x1, x2, x3, x4, -⟩ := h.cell
  have H := Lib.hid h
  clear h
  go_enter Tryz.func22, Tryz.ntmps22
  go_upto_region 2 with fail
  have fa : Fr [] w (w.alloc (.cells s.cells 73)) := (Fr.refl [] w).alloc _
  have hbk := heap_alloc_new w (.cells s.cells 73)
  unfold Spn.cells at fa hbk
  have HA := Lib.hid (H.out.fr fa)
  have FA := Lib.hid fa
  have hcl := cloneB_any rfl HA.out.own.src hb
  have HCl := Lib.hid hcl
  obtain ⟨-, y1, -⟩ := HA.out.cell
  have HB := Lib.hid hbk
  clear fa hcl H x0 x1 x2 x3 x4 hbk
  generalize hq : w.heap.size = q at *
  have HQ := Lib.hid hq
  clear hq
  generalize w.alloc (.cells #[.slice s.ka s.key.length s.kc, .slice s.va s.bs.length s.vc, .int .i64 s.since, .int .i64 s.upper, .int .i64 s.credit] 73) = wa at *
  go_wp2_with (go_at_call 44; refine HCl.out.mono ?_; rintro e w7 ⟨⟨na, nc, nb, rfl, hn7, hnew7⟩, f7⟩; have b7 := f7.heap HB.out (by simp); have c7 : w7.cell? ⟨q, 1, none⟩ = some (.slice s.va s.bs.length s.vc) := (by simp [World.cell?, b7]); have z7 : w7.frozen? ⟨q, 1, none⟩ = false := (by simp [World.frozen?, b7]); have B7 := Lib.hid b7; have N7 := Lib.hid hn7; have W7 := Lib.hid hnew7; have F7 := Lib.hid f7; clear b7 hn7 hnew7 f7)
  go_ret
  refine ⟨q, nb, na, nc, rfl, by rw [HQ.out]; exact Nat.le_refl _, fun g hg => Nat.le_trans FA.out.size (W7.out g hg), SpAt.store (s := s) (bs' := s.bs) (by exact B7.out) (HA.out.key.fr F7.out) rfl N7.out (fun b hb => (HA.out.bts b hb).frT F7.out (TyB.nil _)), ?_⟩
  exact (FA.out.trans F7.out).past ((Fr.refl [q] w7).setCell (by simp) _) (fun x hx => Or.inl (by rw [List.mem_singleton.1 hx, HQ.out]; exact Nat.le_refl _))

/-! ### the laws' own -/
theorem cut13_any {w : World} {a : Option Addr} {c : Nat} (n m : Nat) (hm : m ≤ 100) (hc : n ≤ c) (ha : a = none → c = 0) :
    Calls Tryz.prog 19 #[.slice a n c, .int .i64 m] w fun e w' => e = .returned (.slice a (min n m) c) ∧ w = w' := by
  by_cases h : n ≤ m
  · rw [Nat.min_eq_left h]
    have h1 : ¬ (m : Int) < (n : Int) := by omega
    go_enter Tryz.func19, Tryz.ntmps19
    go_wp2_with fail
    go_ret
    exact ⟨rfl, rfl⟩
  · rw [Nat.min_eq_right (by omega)]
    cases a with
    | none => have := ha rfl; omega
    | some ad =>
      have h1 : (m : Int) < (n : Int) := by omega
      have h2 : (m : Int) ≤ (c : Int) := by omega
      go_enter Tryz.func19, Tryz.ntmps19
      go_wp2_with fail
      go_ret
      exact ⟨rfl, rfl⟩

def narrowB (ds : List Dt) : Bool := ds.all (fun d => decide (d.s.length ≤ 4096)) && decide (ds.length ≤ 1100)
theorem narrow_no {ds : List Dt} {k : Nat} (hk : k < ds.length) (h : 4096 < (nd ds k).s.length) : narrowB ds = false := by
  unfold narrowB
  have : ds.all (fun d => decide (d.s.length ≤ 4096)) = false := by
    rw [List.all_eq_false]
    exact ⟨_, List.mem_of_getElem? (nd_at hk), by simp; omega⟩
  rw [this]; rfl
theorem narrow_yes {ds : List Dt} (h : ∀ k, k < ds.length → (nd ds k).s.length ≤ 4096) : narrowB ds = decide (ds.length ≤ 1100) := by
  unfold narrowB
  have : ds.all (fun d => decide (d.s.length ≤ 4096)) = true := by
    rw [List.all_eq_true]
    intro d hd
    obtain ⟨k, hk, e⟩ := List.mem_iff_getElem.1 hd
    have h1 := nd_at hk
    rw [List.getElem?_eq_getElem hk, e] at h1
    rw [Option.some.inj h1]
    simpa using h k hk
  rw [this]; rfl
set_option maxHeartbeats 1600000 in
theorem narrow_any {w : World} {a : Option Addr} {c : Nat} {ds : List Dt} (h : RowAt w (.slice a ds.length c) ds) (hl : ds.length ≤ 4398046511103) :
    Calls Tryz.prog 43 #[.slice a ds.length c] w fun e w' => e = .returned (.bool (narrowB ds)) ∧ Fr [] w w' := by
  have H := Lib.hid h
  clear h
  go_enter Tryz.func43, Tryz.ntmps43
  go_wp2_with fail
  go_loopw [7] (fun x wr => ∃ k : Nat, x = .int .i64 k ∧ k ≤ ds.length ∧ Fr [] w wr ∧ Hid (∀ j, j < k → (nd ds j).s.length ≤ 4096)) (fun x _ => ds.length - (intOf x).toNat)
  case atStart => exact ⟨0, rfl, Nat.zero_le _, Fr.refl _ _, Lib.hid (fun j hj => absurd hj (by omega))⟩
  case round =>
    obtain ⟨k, rfl, hk, hf, HA⟩ := hrel
    have HF := Lib.hid hf
    by_cases hlt : k < ds.length
    · obtain ⟨b, off, e1, y0, y1, y2⟩ := (H.out.fr hf).at hlt
      subst e1
      have hd := nd_at hlt
      rw [List.getElem?_eq_getElem hlt] at hd
      rw [Option.some.inj hd] at y0 y1 y2
      have HLo : Hid (4096 < (nd ds k).s.length → narrowB ds = false) := Lib.hid (fun h9 => narrow_no hlt h9)
      have HHi : Hid ((nd ds k).s.length ≤ 4096 → ∀ j, j < k + 1 → (nd ds j).s.length ≤ 4096) := Lib.hid (fun h9 j hj => by
        by_cases h8 : j = k
        · rw [h8]; exact h9
        · exact HA.out j (by omega))
      clear hd hf HA
      generalize nd ds k = d at *
      obtain ⟨dk, di, dsx⟩ := d
      simp only at y0 y1 y2 HLo HHi
      by_cases hbig : 4096 < dsx.length
      · have HN := Lib.hid (HLo.out hbig)
        have hb2 : (4096 : Int) < (dsx.length : Int) := by omega
        go_wp2_with fail
        go_ret
        exact ⟨ret_bool HN.out.symm, HF.out.alloc _⟩
      · have HN := Lib.hid (HHi.out (by omega))
        have hb2 : ¬ (4096 : Int) < (dsx.length : Int) := by omega
        go_wp2_with fail
        go_roundw
        case rel => exact ⟨k + 1, by go_num, by omega, HF.out.alloc _, HN⟩
        case measure => simp [intOf] <;> omega
    · have HN := Lib.hid (show narrowB ds = decide (ds.length ≤ 1100) from narrow_yes fun j hj => HA.out j (by omega))
      clear hf
      by_cases h9 : ds.length ≤ 1100
      · have HT := Lib.hid (show narrowB ds = true by rw [HN.out]; simpa using h9)
        have h8 : (ds.length : Int) ≤ 1100 := by omega
        go_wp2_with fail
        go_ret
        exact ⟨ret_bool HT.out.symm, HF.out⟩
      · have HT := Lib.hid (show narrowB ds = false by rw [HN.out]; simpa using h9)
        have h8 : ¬ (ds.length : Int) ≤ 1100 := by omega
        go_wp2_with fail
        go_ret
        exact ⟨ret_bool HT.out.symm, HF.out⟩
end Go.Proofs.YtjchlfblbmiceaaGreat
namespace Go.Proofs.YtjchlfblbmiceaaGreat
open Go.RowKit srt grp

/-- A call of a law. -/
structure OpE where
  kind : Int
  on : Int
  fuel : Int
  upper : Int
  time : Int
  ka : Option Addr
  kc : Nat
  kr : List Dt
  la : Option Addr
  lc : Nat
  l : List upd.El
instance : Inhabited OpE := ⟨⟨0, 0, 0, 0, 0, none, 0, [], none, 0, []⟩⟩
def OpE.cells (o : OpE) : List Value := [.int .i64 o.kind, .int .i64 o.on, .int .i64 o.fuel, .int .i64 o.upper, .int .i64 o.time, .slice o.ka o.kr.length o.kc, .slice o.la o.l.length o.lc]
def opsC (l : List OpE) : List Value := l.flatMap OpE.cells
theorem opsC_len (l : List OpE) : (opsC l).length = l.length * 7 := by
  induction l with
  | nil => rfl
  | cons o l ih => unfold opsC at *; rw [List.flatMap_cons, List.length_append, ih, List.length_cons]; simp [OpE.cells]; omega
theorem opsC_one (l : List OpE) : ∀ u ∈ opsC l, u.oneCell' = true := by
  intro u hu
  obtain ⟨o, -, h⟩ := List.mem_flatMap.1 hu
  simp only [OpE.cells, List.mem_cons, List.not_mem_nil, or_false] at h
  rcases h with rfl | rfl | rfl | rfl | rfl | rfl | rfl <;> rfl
theorem opsC_at : ∀ {l : List OpE} {k : Nat} {o : OpE} {j : Nat} {u : Value}, l[k]? = some o → o.cells[j]? = some u → (opsC l)[k * 7 + j]? = some u
  | [], k, o, j, u, h, _ => by simp at h
  | x :: l, 0, o, j, u, h, hj => by
    simp only [List.getElem?_cons_zero, Option.some.injEq] at h
    subst h
    unfold opsC
    rw [List.flatMap_cons, Nat.zero_mul, Nat.zero_add, List.getElem?_append_left (List.getElem?_eq_some_iff.1 hj).1]
    exact hj
  | x :: l, k + 1, o, j, u, h, hj => by
    have ih := opsC_at (l := l) (k := k) (by simpa using h) hj
    have hx : x.cells.length = 7 := rfl
    unfold opsC at *
    rw [List.flatMap_cons, List.getElem?_append_right (by rw [hx]; omega), hx, show (k + 1) * 7 + j - 7 = k * 7 + j by omega]
    exact ih
theorem opsC_of : ∀ (l : List OpE) (j : Nat) (u : Value), (opsC l)[j]? = some u → ∃ k o i, l[k]? = some o ∧ o.cells[i]? = some u ∧ j = k * 7 + i
  | [], j, u, h => by simp [opsC] at h
  | x :: l, j, u, h => by
    have hx : x.cells.length = 7 := rfl
    by_cases hj : j < 7
    · refine ⟨0, x, j, rfl, ?_, by omega⟩
      unfold opsC at h
      rw [List.flatMap_cons, List.getElem?_append_left (by rw [hx]; exact hj)] at h
      exact h
    · have h1 : (opsC l)[j - 7]? = some u := by
        unfold opsC at h
        rw [List.flatMap_cons, List.getElem?_append_right (by rw [hx]; omega), hx] at h
        exact h
      obtain ⟨k, o, i, h2, h3, h4⟩ := opsC_of l (j - 7) u h1
      exact ⟨k + 1, o, i, by simpa using h2, h3, by omega⟩
def nop (l : List OpE) (k : Nat) : OpE := (l[k]?).getD default
theorem nop_at {l : List OpE} {k : Nat} (h : k < l.length) : l[k]? = some (nop l k) := by unfold nop; rw [List.getElem?_eq_getElem h]; rfl
theorem nop_mem {l : List OpE} {k : Nat} (h : k < l.length) : nop l k ∈ l := List.mem_of_getElem? (nop_at h)

/-- What a call's lists are. -/
structure OpIn (w : World) (o : OpE) : Prop where
  row : RowAt w (.slice o.ka o.kr.length o.kc) o.kr
  kcap : o.kr.length ≤ o.kc
  klen : o.kr.length ≤ 4398046511103
  up : upd.Cts w (.slice o.la o.l.length o.lc) o.l
  llen : o.l.length ≤ 4398046511103
  upper : -9223372036854775808 ≤ o.upper ∧ o.upper ≤ 9223372036854775807
  time : -9223372036854775808 ≤ o.time ∧ o.time ≤ 9223372036854775807
theorem OpIn.fr {w w' : World} {o : OpE} (h : OpIn w o) (f : Fr [] w w') : OpIn w' o := ⟨h.row.fr f, h.kcap, h.klen, h.up.fr f, h.llen, h.upper, h.time⟩
structure OpsAt (w : World) (v : Value) (l : List OpE) : Prop where
  src : Src w 7 v l.length (opsC l)
  row : ∀ o ∈ l, OpIn w o
theorem OpsAt.fr {w w' : World} {v : Value} {l : List OpE} (h : OpsAt w v l) (f : Fr [] w w') : OpsAt w' v l := ⟨h.src.fr f, fun o ho => (h.row o ho).fr f⟩
theorem OpsAt.cell {w : World} {a : Option Addr} {n c : Nat} {l : List OpE} (h : OpsAt w (.slice a n c) l) {k : Nat} (hk : k < l.length) :
    ∃ b off, a = some ⟨b, off, none⟩ ∧ w.cell? ⟨b, off + k * 7, none⟩ = some (.int .i64 (nop l k).kind) ∧ w.cell? ⟨b, off + k * 7 + 1, none⟩ = some (.int .i64 (nop l k).on) ∧ w.cell? ⟨b, off + k * 7 + 2, none⟩ = some (.int .i64 (nop l k).fuel) ∧ w.cell? ⟨b, off + k * 7 + 3, none⟩ = some (.int .i64 (nop l k).upper) ∧ w.cell? ⟨b, off + k * 7 + 4, none⟩ = some (.int .i64 (nop l k).time) ∧
      w.cell? ⟨b, off + k * 7 + 5, none⟩ = some (.slice (nop l k).ka (nop l k).kr.length (nop l k).kc) ∧ w.cell? ⟨b, off + k * 7 + 6, none⟩ = some (.slice (nop l k).la (nop l k).l.length (nop l k).lc) := by
  rcases h.src.2.2 with ⟨-, h2⟩ | ⟨ad, c, hv, hc⟩
  · omega
  · simp only [Value.slice.injEq] at hv
    have hp := addr_plain (a := ad) (hc 0 _ (by have := opsC_at (j := 0) (nop_at (show 0 < l.length by omega)) rfl; simpa using this))
    have key : ∀ j u, (nop l k).cells[j]? = some u → w.cell? ⟨ad.block, ad.off + k * 7 + j, none⟩ = some u := fun j u hj => by
      have := cell_add (hc _ _ (opsC_at (nop_at hk) hj))
      rwa [← Nat.add_assoc] at this
    exact ⟨ad.block, ad.off, by rw [hv.1]; exact congrArg some hp, key 0 _ rfl, key 1 _ rfl, key 2 _ rfl, key 3 _ rfl, key 4 _ rfl, key 5 _ rfl, key 6 _ rfl⟩
theorem OpsAt.take {w : World} {a : Option Addr} {n c k : Nat} {l : List OpE} (h : OpsAt w (.slice a n c) l) (hk : k ≤ l.length) : OpsAt w (.slice a k c) (l.take k) := by
  have hl : (l.take k).length = k := by rw [List.length_take]; omega
  refine ⟨⟨opsC_len _, opsC_one _, ?_⟩, fun e he => h.row e (List.mem_of_mem_take he)⟩
  rcases h.src.2.2 with ⟨hv, h2⟩ | ⟨ad, c2, hv, hc⟩
  · simp only [Value.slice.injEq] at hv
    refine Or.inl ⟨?_, by omega⟩
    rw [hv.1, hv.2.2, show k = 0 by omega]
  · simp only [Value.slice.injEq] at hv
    refine Or.inr ⟨ad, c, by rw [hl, hv.1], fun j u hj => hc j u ?_⟩
    obtain ⟨i, o, m, h2, h3, rfl⟩ := opsC_of _ _ _ hj
    refine opsC_at ?_ h3
    rw [List.getElem?_take] at h2
    split at h2
    · exact h2
    · cases h2

def fewB (o : OpE) : Bool := decide (o.l.length ≤ 100) && decide (o.kr.length ≤ 100) && o.l.all (fun u => narrowB u.rd) && narrowB o.kr
theorem few_big {o : OpE} (h : 100 < o.l.length ∨ 100 < o.kr.length) : fewB o = false := by
  unfold fewB
  rcases h with h | h
  · have : decide (o.l.length ≤ 100) = false := by simpa using h
    rw [this]; rfl
  · have : decide (o.kr.length ≤ 100) = false := by simpa using h
    rw [this]; simp
theorem few_len {o : OpE} (h : fewB o = true) : o.l.length ≤ 100 ∧ o.kr.length ≤ 100 := by
  unfold fewB at h
  simp only [Bool.and_eq_true, decide_eq_true_eq] at h
  exact ⟨h.1.1.1, h.1.1.2⟩
theorem few_no {o : OpE} {k : Nat} (hk : k < o.l.length) (h : narrowB (upd.nth o.l k).rd = false) : fewB o = false := by
  unfold fewB
  have : o.l.all (fun u => narrowB u.rd) = false := by
    rw [List.all_eq_false]
    exact ⟨_, upd.nth_mem hk, by simp [h]⟩
  rw [this]; simp
theorem few_yes {o : OpE} (h1 : o.l.length ≤ 100) (h2 : o.kr.length ≤ 100) (h : ∀ k, k < o.l.length → narrowB (upd.nth o.l k).rd = true) : fewB o = narrowB o.kr := by
  unfold fewB
  have : o.l.all (fun u => narrowB u.rd) = true := by
    rw [List.all_eq_true]
    intro d hd
    obtain ⟨k, hk, e⟩ := List.mem_iff_getElem.1 hd
    have h3 := upd.nth_at hk
    rw [List.getElem?_eq_getElem hk, e] at h3
    rw [Option.some.inj h3]
    exact h k hk
  rw [this]; simp [h1, h2]
set_option maxRecDepth 100000
set_option maxHeartbeats 3200000 in
theorem few_any {w : World} {o : OpE} (h : OpIn w o) :
    Calls Tryz.prog 20 #[.agg #[.int .i64 o.kind, .int .i64 o.on, .int .i64 o.fuel, .int .i64 o.upper, .int .i64 o.time, .slice o.ka o.kr.length o.kc, .slice o.la o.l.length o.lc]] w fun e w' => e = .returned (.bool (fewB o)) ∧ Fr [] w w' := by
  have hkl := h.klen
  have hll := h.llen
  have hbig := few_big (o := o)
  have hno := fun k (hk : k < o.l.length) h9 => few_no (o := o) (k := k) hk h9
  have hyes := few_yes (o := o)
  have HR := Lib.hid h.row
  have HU := Lib.hid h.up
  have HBig := Lib.hid hbig
  have HNo := Lib.hid hno
  have HYes := Lib.hid hyes
  clear h hbig hno hyes
  generalize fewB o = fb at *
  obtain ⟨ok, oo, of, ou, ot, oka, okc, okr, ola, olc, ol⟩ := o
  simp only at HR HU HBig HNo HYes hkl hll ⊢
  go_enter Tryz.func20, Tryz.ntmps20
  go_upto_region 1 with fail
  have fa : Fr [] w (w.alloc (.cells #[.int .i64 ok, .int .i64 oo, .int .i64 of, .int .i64 ou, .int .i64 ot, .slice oka okr.length okc, .slice ola ol.length olc] 54)) := (Fr.refl [] w).alloc _
  have hb := heap_alloc_new w (.cells #[.int .i64 ok, .int .i64 oo, .int .i64 of, .int .i64 ou, .int .i64 ot, .slice oka okr.length okc, .slice ola ol.length olc] 54)
  have FA := Lib.hid fa
  have x5 := cell_blk hb 5 (.slice oka okr.length okc) rfl
  have x6 := cell_blk hb 6 (.slice ola ol.length olc) rfl
  clear fa hb
  generalize w.heap.size = ub at *
  generalize w.alloc (.cells #[.int .i64 ok, .int .i64 oo, .int .i64 of, .int .i64 ou, .int .i64 ot, .slice oka okr.length okc, .slice ola ol.length olc] 54) = wa at *
  by_cases h1 : 100 < ol.length
  · have HN := Lib.hid (HBig.out (Or.inl h1))
    have h2 : (100 : Int) < (ol.length : Int) := by omega
    go_wp2_with fail
    go_ret
    exact ⟨ret_bool HN.out.symm, FA.out⟩
  · have h1' : ¬ (100 : Int) < (ol.length : Int) := by omega
    by_cases h2 : 100 < okr.length
    · have HN := Lib.hid (HBig.out (Or.inr h2))
      have h3 : (100 : Int) < (okr.length : Int) := by omega
      go_wp2_with fail
      go_ret
      exact ⟨ret_bool HN.out.symm, FA.out⟩
    · have h3 : ¬ (100 : Int) < (okr.length : Int) := by omega
      go_wp2_with fail
      go_loopw [18] (fun x wr => ∃ k : Nat, x = .int .i64 k ∧ k ≤ ol.length ∧ Fr [] wa wr ∧ Hid (∀ j, j < k → narrowB (upd.nth ol j).rd = true)) (fun x _ => ol.length - (intOf x).toNat)
      case atStart => exact ⟨0, rfl, Nat.zero_le _, Fr.refl _ _, Lib.hid (fun j hj => absurd hj (by omega))⟩
      case round =>
        obtain ⟨k, rfl, hk, hf, HA⟩ := hrel
        have HF := Lib.hid hf
        have fw : Fr [] w wr := FA.out.trans hf
        by_cases hlt : k < ol.length
        · obtain ⟨b, off, e1, y0, y1, y2⟩ := (HU.out.fr fw).cell hlt
          subst e1
          have hrow := (HU.out.row _ (upd.nth_mem hlt))
          have hna : ∀ wi, Fr [] wr wi → Calls Tryz.prog 43 #[.slice (upd.nth ol k).ra (upd.nth ol k).rl (upd.nth ol k).rc] wi fun e w' => e = .returned (.bool (narrowB (upd.nth ol k).rd)) ∧ Fr [] wi w' := fun wi fi => by
            have h9 := hrow.1.fr (fw.trans fi)
            obtain ⟨a9, c9, hv, -⟩ := h9.shape
            unfold upd.El.rv at hv h9
            simp only [Value.slice.injEq] at hv
            rw [hv.2.1] at h9 ⊢
            exact narrow_any h9 hrow.2.len
          have HNa := Lib.hid hna
          have hz0 := hf.cell x5 (by simp)
          have hz6 := hf.cell x6 (by simp)
          have HNoK := Lib.hid (HNo.out k hlt)
          clear hf fw hrow hna
          by_cases hnb : narrowB (upd.nth ol k).rd = true
          · have HA3 : Hid (∀ j, j < k + 1 → narrowB (upd.nth ol j).rd = true) := Lib.hid (fun j hj => by
              by_cases h9 : j = k
              · rw [h9]; exact hnb
              · exact HA.out j (by omega))
            have hn2 := HNa.out
            rw [hnb] at hn2
            have HN2 := Lib.hid hn2
            clear hnb hn2 HA HNa
            generalize upd.nth ol k = el at *
            go_wp2_with (go_at_call 43; refine (HN2.out _ ((Fr.refl [] wr).alloc _)).mono ?_; rintro e w5 ⟨rfl, f5⟩)
            go_roundw
            case rel => exact ⟨k + 1, by go_num, by omega, (HF.out.alloc _).trans f5, HA3⟩
            case measure => simp [intOf] <;> omega
          · have hnb2 : narrowB (upd.nth ol k).rd = false := by simpa using hnb
            have hn2 := HNa.out
            rw [hnb2] at hn2
            have HN2 := Lib.hid hn2
            have HFb := Lib.hid (HNoK.out hnb2)
            clear hnb hnb2 hn2 HA HNa HNoK
            generalize upd.nth ol k = el at *
            go_wp2_with (go_at_call 43; refine (HN2.out _ ((Fr.refl [] wr).alloc _)).mono ?_; rintro e w5 ⟨rfl, f5⟩)
            go_ret
            exact ⟨ret_bool HFb.out.symm, (FA.out.trans (HF.out.alloc _)).trans f5⟩
        · have HFb := Lib.hid (HYes.out (by omega) (by omega) (fun j hj => HA.out j (by omega)))
          have hn2 := narrow_any (HR.out.fr fw) hkl
          have HN2 := Lib.hid hn2
          have hz0 := hf.cell x5 (by simp)
          clear hf fw hn2 HA
          go_wp2_with (go_at_call 43; refine HN2.out.mono ?_; rintro e w5 ⟨rfl, f5⟩)
          go_ret
          exact ⟨ret_bool HFb.out.symm, (FA.out.trans HF.out).trans f5⟩
end Go.Proofs.YtjchlfblbmiceaaGreat
namespace Go.Proofs.YtjchlfblbmiceaaGreat
open Go.RowKit srt grp

set_option maxRecDepth 100000
def oneRow (n : Int) : List Dt := [⟨2, n, []⟩]
theorem one_any (n : Int) (w : World) : Calls Tryz.prog 27 #[.int .i64 n] w fun e w' => e = .returned (.slice (some ⟨w.heap.size, 0, none⟩) 1 1) ∧ RowAt w' (.slice (some ⟨w.heap.size, 0, none⟩) 1 1) (oneRow n) ∧ Fr [] w w' := by
  go_enter Tryz.func27, Tryz.ntmps27
  go_wp2_with fail
  go_ret
  have hb := heap_alloc_new w (.cells #[.int .i64 2, .int .i64 n, .string ⟨#[]⟩] 94)
  refine ⟨rfl, Or.inr ⟨w.heap.size, 0, 1, rfl, by simp [oneRow], fun i d hi => ?_⟩, (Fr.refl [] w).alloc _⟩
  match i, hi with
  | 0, hi =>
    simp only [oneRow, List.getElem?_cons_zero, Option.some.injEq] at hi
    subst hi
    exact ⟨cell_blk hb 0 _ rfl, cell_blk hb 1 _ rfl, cell_blk hb 2 _ rfl⟩
  | i + 1, hi => simp [oneRow] at hi

def RNewPost (w : World) (l : List Int) (e : Ending) (w' : World) : Prop :=
  Fr [] w w' ∧ ((keyOk l = true ∧ ∃ q, e = .returned (.tuple #[.pointer (some ⟨q, 0, none⟩), .int .i64 0])) ∨ (keyOk l = false ∧ e = .returned (.tuple #[.pointer none, .int .i64 132])))
set_option maxHeartbeats 1600000 in
theorem rnew_any {w : World} {a : Option Addr} {c : Nat} {l : List Int} (h : Src w 1 (.slice a l.length c) l.length (kiC l)) (hl : l.length ≤ 17592186043904) :
    Calls Tryz.prog 18 #[.slice a l.length c] w (RNewPost w l) := by
  obtain ⟨i0, hi, hz0, hz1, hz2⟩ := info_parts infoK
  have H := Lib.hid h
  clear h
  by_cases h1 : l.length ≤ 16
  · have h1' : ¬ (16 : Int) < (l.length : Int) := by omega
    go_enter Tryz.func18, Tryz.ntmps18
    go_wp2_with fail
    go_loop [11] (fun x => ∃ k : Nat, x = .int .i64 k ∧ k ≤ l.length ∧ Hid (∀ j, j < k → keyBad (nki l j) = false)) (fun x => l.length - (intOf x).toNat)
    case atStart => exact ⟨0, rfl, Nat.zero_le _, Lib.hid (fun j hj => absurd hj (by omega))⟩
    case round =>
      obtain ⟨k, rfl, hk, HA⟩ := hrel
      by_cases hlt : k < l.length
      · obtain ⟨b, off, e1, x0⟩ := src_key H.out hlt
        subst e1
        have HLo := Lib.hid (fun (h9 : keyBad (nki l k) = true) => show keyOk l = false by unfold keyOk; rw [any_yes hlt h9]; simp)
        have HHi : Hid (keyBad (nki l k) = false → ∀ j, j < k + 1 → keyBad (nki l j) = false) := Lib.hid (fun h9 j hj => by
          by_cases h8 : j = k
          · rw [h8]; exact h9
          · exact HA.out j (by omega))
        clear HA
        generalize nki l k = m at *
        by_cases hm0 : m < 0
        · have HN := Lib.hid (HLo.out (by unfold keyBad; simp [hm0]))
          go_wp2_with fail
          go_ret2
          exact ⟨Fr.refl _ _, Or.inr ⟨HN.out, rfl⟩⟩
        · by_cases hm1 : 999 < m
          · have HN := Lib.hid (HLo.out (by unfold keyBad; simp [hm1]))
            go_wp2_with fail
            go_ret2
            exact ⟨Fr.refl _ _, Or.inr ⟨HN.out, rfl⟩⟩
          · have HN := Lib.hid (HHi.out (by unfold keyBad; simp; omega))
            go_wp2_with fail
            go_round
            case rel => exact ⟨k + 1, by go_num, by omega, HN⟩
            case measure => simp [intOf] <;> omega
      · have HN := Lib.hid (show keyOk l = true by unfold keyOk; rw [any_no (fun j hj => HA.out j (by omega))]; simp [h1])
        go_wp2_with (at_builtin; refine wpList_append_src _ rfl (.tmp 22) (.tmp 23) 22 rfl w.heap.size 3 i0 _ 1 8 Tryz.underlying22 hi hz0 hz1 hz2 rfl (by decide) _ _ _ rfl (World.ownsRow_made w #[] 0 (Nat.le_refl _) (by decide) rfl) _ l.length _ rfl (H.out.alloc _) (by unfold maxLen; omega) (by omega) (by simp) ?_; intro v' w1 hown hgrow _; have ho : w1.ownsRow w.heap.size 3 1 v' l.length (kiC l) := (by simpa using hown); obtain ⟨a9, c9, rfl⟩ := ownsRow_shape ho; have F1 := Lib.hid (((Fr.refl [] w).alloc _).fresh hgrow (fun r e => Or.inl (by simp [Act.eval, Value.ownBlock] at e; omega))); clear hown hgrow ho)
        go_ret2
        exact ⟨F1.out.alloc _, Or.inl ⟨HN.out, _, rfl⟩⟩
  · have h1' : (16 : Int) < (l.length : Int) := by omega
    have HK := Lib.hid (show keyOk l = false by unfold keyOk; simp [h1])
    go_enter Tryz.func18, Tryz.ntmps18
    go_wp2_with fail
    go_ret2
    exact ⟨Fr.refl _ _, Or.inr ⟨HK.out, rfl⟩⟩
theorem right_any {w : World} {a : Option Addr} {c : Nat} {l : List Int} (h : Src w 1 (.slice a l.length c) l.length (kiC l)) (hl : l.length ≤ 17592186043904) :
    Calls Tryz.prog 5 #[.slice a l.length c] w fun e w' => e = .returned (.bool (keyOk l)) ∧ Fr [] w w' := by
  have hr := rnew_any h hl
  clear h
  by_cases hk : keyOk l = true
  · rw [hk]
    have hr2 : Calls Tryz.prog 18 #[.slice a l.length c] w fun e w' => (∃ q, e = .returned (.tuple #[.pointer (some ⟨q, 0, none⟩), .int .i64 0])) ∧ Fr [] w w' := hr.mono fun e w' ⟨f, h9⟩ => by
      rcases h9 with ⟨-, h9⟩ | ⟨h9, -⟩
      · exact ⟨h9, f⟩
      · rw [hk] at h9; cases h9
    have HR := Lib.hid hr2
    clear hr hr2 hk
    go_enter Tryz.func5, Tryz.ntmps5
    go_wp2_with (go_at_call 18; refine HR.out.mono ?_; rintro e w1 ⟨⟨q, rfl⟩, f1⟩)
    go_ret
    exact ⟨rfl, f1⟩
  · have hk2 : keyOk l = false := by simpa using hk
    rw [hk2]
    have hr2 : Calls Tryz.prog 18 #[.slice a l.length c] w fun e w' => e = .returned (.tuple #[.pointer none, .int .i64 132]) ∧ Fr [] w w' := hr.mono fun e w' ⟨f, h9⟩ => by
      rcases h9 with ⟨h9, -⟩ | ⟨-, h9⟩
      · rw [hk2] at h9; cases h9
      · exact ⟨h9, f⟩
    have HR := Lib.hid hr2
    clear hr hr2 hk hk2
    go_enter Tryz.func5, Tryz.ntmps5
    go_wp2_with (go_at_call 18; refine HR.out.mono ?_; rintro e w1 ⟨rfl, f1⟩)
    go_ret
    exact ⟨rfl, f1⟩
set_option maxHeartbeats 1600000 in
theorem ints_true {w : World} {a b : Option Addr} {c d : Nat} {l : List Nat} (h : KeyAt w (.slice a l.length c) (natI l)) (h' : KeyAt w (.slice b l.length d) (natI l)) (hl : l.length ≤ 17592186043904) :
    Calls Tryz.prog 54 #[.slice a l.length c, .slice b l.length d] w fun e w' => e = .returned (.bool true) ∧ Fr [] w w' := by
  have h1 := h.src
  have h2 := h'.src
  rw [natI_len] at h1 h2
  have H := Lib.hid h1
  have H' := Lib.hid h2
  have hlz : ((l.length : Int) != (l.length : Int)) = false := by simp
  clear h h' h1 h2
  go_enter Tryz.func54, Tryz.ntmps54
  go_wp2_with fail
  go_loopw [13] (fun x wr => ∃ k : Nat, x = .int .i64 k ∧ k ≤ l.length ∧ Fr [] w wr) (fun x _ => l.length - (intOf x).toNat)
  case atStart => exact ⟨0, rfl, Nat.zero_le _, Fr.refl _ _⟩
  case round =>
    obtain ⟨k, rfl, hk, hf⟩ := hrel
    have HF := Lib.hid hf
    by_cases hlt : k < l.length
    · obtain ⟨b1, o1, e1, x0⟩ := src_key (l := natI l) (by rw [natI_len]; exact H.out.fr hf) (k := k) (by rw [natI_len]; exact hlt)
      obtain ⟨b2, o2, e2, y0⟩ := src_key (l := natI l) (by rw [natI_len]; exact H'.out.fr hf) (k := k) (by rw [natI_len]; exact hlt)
      subst e1
      subst e2
      generalize nki (natI l) k = m at *
      have i1 : (k : Int) < (l.length : Int) := by omega
      have hmm : (m != m) = false := by simp
      have u0 : ∀ q : FrBy wr, q.wn.cell? ⟨b1, o1 + k, none⟩ = some (.int .i64 m) := fun q => q.fr.cell x0 (by simp)
      have v0 : ∀ q : FrBy wr, q.wn.cell? ⟨b2, o2 + k, none⟩ = some (.int .i64 m) := fun q => q.fr.cell y0 (by simp)
      clear hf x0 y0
      go_upto_region 6 with fail
      refine wp_region_fr (by kernel_rfl) (by kernel_rfl) ?_
      repeat (go_big_quiet_step (fail))
      refine wpQuiet_nil ?_
      intro wn hwn
      have fn : Fr [] wr wn := by obtain ⟨q, rfl⟩ := hwn; exact q.fr
      have FN := Lib.hid (HF.out.trans fn)
      clear hwn u0 v0 fn
      go_wp2_with fail
      go_roundw
      case rel => exact ⟨k + 1, by go_num, by omega, FN.out⟩
      case measure => simp [intOf] <;> omega
    · go_wp2_with fail
      go_ret
      exact ⟨rfl, HF.out⟩

theorem Works.none {s0 s : Spn} (h : Works s0 s) (hd : dueI (szs s0.bs) = none) : s = s0 := by
  induction h with
  | refl => rfl
  | step _ hm ih =>
    subst ih
    obtain ⟨i, o, h1, -⟩ := hm.how
    rw [hd] at h1; cases h1
end Go.Proofs.YtjchlfblbmiceaaGreat
namespace Go.Proofs.YtjchlfblbmiceaaGreat
open Go.RowKit srt grp

def twoL (a1 a2 : Option Addr) : List upd.El := [⟨a1, 1, 1, 1, 1, oneRow 1⟩, ⟨a2, 1, 1, 2, 1, oneRow 2⟩]
theorem two_at {w : World} {a1 a2 : Option Addr} (r1 : RowAt w (.slice a1 1 1) (oneRow 1)) (r2 : RowAt w (.slice a2 1 1) (oneRow 2)) :
    upd.Cts (w.alloc (.cells #[.slice a1 1 1, .int .i64 1, .int .i64 1, .slice a2 1 1, .int .i64 2, .int .i64 1] 65)) (.slice (some ⟨w.heap.size, 0, none⟩) 2 2) (twoL a1 a2) := by
  have f : Fr [] w (w.alloc (.cells #[.slice a1 1 1, .int .i64 1, .int .i64 1, .slice a2 1 1, .int .i64 2, .int .i64 1] 65)) := (Fr.refl [] w).alloc _
  refine ⟨?_, fun e he => ?_⟩
  · have h := Src.block (size := 3) (m := 2) (c := 2) (heap_alloc_new w (.cells #[.slice a1 1 1, .int .i64 1, .int .i64 1, .slice a2 1 1, .int .i64 2, .int .i64 1] 65)) rfl (by
      intro u hu
      simp at hu
      rcases hu with rfl | rfl | rfl | rfl | rfl | rfl <;> rfl)
    exact h
  · simp only [twoL, List.mem_cons, List.not_mem_nil, or_false] at he
    rcases he with rfl | rfl
    · exact ⟨r1.fr f, ⟨by simp [oneRow], by simp, by simp⟩⟩
    · exact ⟨r2.fr f, ⟨by simp [oneRow], by simp, by simp⟩⟩
theorem two_pr (a1 a2 : Option Addr) : (twoL a1 a2).map upd.pr = [((1, oneRow 1), 1), ((2, oneRow 2), 1)] := rfl
theorem two_canon (a1 a2 : Option Addr) : Canon upd.cmpU ((twoL a1 a2).map upd.pr) (fun q => 1 * sumK ((twoL a1 a2).map upd.pr) q) := by
  refine ⟨?_, ?_, fun q => by omega⟩
  · rw [two_pr]
    refine List.pairwise_cons.2 ⟨fun x hx => ?_, List.pairwise_cons.2 ⟨fun x hx => by simp at hx, List.Pairwise.nil⟩⟩
    rw [List.mem_singleton.1 hx]
    decide
  · rw [two_pr]
    intro x hx
    simp only [List.mem_cons, List.not_mem_nil, or_false] at hx
    rcases hx with rfl | rfl <;> decide
/-- The spine behind the two updates. -/
def kn3 (a : Option Addr) (c : Nat) (va : Option Addr) (vc : Nat) (b : Bt) : Spn := { spn0 a c [0] with va := va, vc := vc, upper := 3, bs := [b] }
theorem kn_bad {w : World} {p : Nat} {a : Option Addr} {c : Nat} (h : SpAt w p none (spn0 a c [0])) :
    Calls Tryz.prog 26 #[.pointer (some ⟨p, 0, none⟩), .int .i64 1, .slice none 0 0] w fun e w' => e = .returned (.int .i64 120) ∧ Fr [] w w' := by
  have h1 := add_any (l := []) (a := none) (c := 0) h ⟨⟨rfl, by simp [upd.elsC], Or.inl ⟨rfl, rfl⟩⟩, by simp⟩ (by simp [spn0]) (by simp [spn0]) (by simp) 1
  have e1 : addE (spn0 a c [0]) 1 [] = 120 := by simp [addE, spn0]
  refine h1.mono fun e w' ⟨he, hx⟩ => ?_
  rw [e1] at he hx
  rcases hx with ⟨h9, -⟩ | ⟨-, hf⟩
  · cases h9
  · exact ⟨he, hf⟩
theorem kn_good {w : World} {p : Nat} {a : Option Addr} {c : Nat} {ad : Option Addr} {a1 a2 : Option Addr} (h : SpAt w p none (spn0 a c [0])) (hl : upd.Cts w (.slice ad 2 2) (twoL a1 a2)) :
    Calls Tryz.prog 26 #[.pointer (some ⟨p, 0, none⟩), .int .i64 3, .slice ad 2 2] w fun e w' => e = .returned (.int .i64 0) ∧ ∃ (b : Bt) (wb : Option Nat) (va : Option Addr) (vc : Nat), b.l.map upd.pr = (twoL a1 a2).map upd.pr ∧ SpAt w' p wb (kn3 a c va vc b) ∧ Fr [p] w w' := by
  have h1 := add_any (l := twoL a1 a2) (a := ad) (c := 2) h hl (by simp [spn0]) (by simp [spn0]) (by simp [twoL]) 3
  have e1 : addE (spn0 a c [0]) 3 (twoL a1 a2) = 0 := by
    have : firstE (mayE [0] 1 3) (twoL a1 a2) = 0 := by
      rw [firstE_zero]
      intro u hu
      simp only [twoL, List.mem_cons, List.not_mem_nil, or_false] at hu
      rcases hu with rfl | rfl <;> simp [mayE, noCol, oneRow]
    simp [addE, spn0, this]
  refine h1.mono fun e w' ⟨he, hx⟩ => ?_
  rw [e1] at he hx
  rcases hx with ⟨-, b, wb, va, vc, hc, -, hs, hf, -, -⟩ | ⟨h9, -⟩
  · have hb : b.l.map upd.pr = (twoL a1 a2).map upd.pr := hc.uniq upd.cmpUS (two_canon a1 a2)
    have hne : ¬ b.l = [] := fun h9 => by rw [h9] at hb; cases hb
    refine ⟨he, b, wb, va, vc, hb, ?_, hf⟩
    have e2 : more (spn0 a c [0]).bs b = [b] := by unfold more; rw [if_neg hne]; rfl
    rw [e2] at hs
    exact hs
  · exact absurd rfl h9
theorem kn_len {b : Bt} {a1 a2 : Option Addr} (h : b.l.map upd.pr = (twoL a1 a2).map upd.pr) : b.l.length = 2 := by
  have := congrArg List.length h
  simpa [twoL] using this
theorem kn_ok {a : Option Addr} {c : Nat} {va : Option Addr} {vc : Nat} {b : Bt} {a1 a2 : Option Addr} (h : b.l.map upd.pr = (twoL a1 a2).map upd.pr) : SpOk (kn3 a c va vc b) := by
  have hl := kn_len h
  have hf : (kn3 a c va vc b).fl = b.l := by simp [Spn.fl, kn3]
  refine ⟨fun x hx => ?_, ?_, ?_, by simp [kn3, spn0], by simp [kn3, spn0], by simp [kn3, spn0], by simp [kn3, spn0]⟩
  · simp only [kn3, List.mem_singleton] at hx
    rw [hx]
    intro h9
    rw [h9] at hl
    cases hl
  · rw [hf, hl]; decide
  · rw [hf]
    unfold massU
    rw [h, two_pr]
    decide
theorem kn_at {w : World} {p : Nat} {wb : Option Nat} {a : Option Addr} {c : Nat} {va : Option Addr} {vc : Nat} {b : Bt} {a1 a2 : Option Addr} (h : SpAt w p wb (kn3 a c va vc b)) (hb : b.l.map upd.pr = (twoL a1 a2).map upd.pr) :
    Calls Tryz.prog 9 #[.pointer (some ⟨p, 0, none⟩), .int .i64 1] w fun e w' => Fr [] w w' ∧ ∃ g u, e = .returned (.tuple #[.slice (some ⟨g, 0, none⟩) 1 u, .int .i64 0]) ∧ w'.cell? ⟨g, 1, none⟩ = some (.int .i64 1) := by
  refine (spAt_any h (kn_ok hb) 1).mono fun e w' ⟨f, hx⟩ => ⟨f, ?_⟩
  have ha : askE (kn3 a c va vc b) 1 = 0 := by simp [askE, kn3, spn0]
  rcases hx with ⟨h9, -⟩ | ⟨-, outs, oa, oc, he, hin, hc, -⟩
  · exact absurd ha h9
  · have hf : (kn3 a c va vc b).fl = b.l := by simp [Spn.fl, kn3]
    have hcan : Canon cmpR [(oneRow 1, (1 : Int))] (fun r => 1 * sumK ((atL (kn3 a c va vc b).fl 1).map pr) r) := by
      refine ⟨List.pairwise_cons.2 ⟨fun x hx => by simp at hx, List.Pairwise.nil⟩, fun x hx => by rw [List.mem_singleton.1 hx]; decide, fun r => ?_⟩
      rw [hf, at_same (a := b.l) (b := twoL a1 a2) (fun q => by rw [hb]) 1 r]
      have : (atL (twoL a1 a2) 1).map pr = [(oneRow 1, (1 : Int))] := by simp [atL, twoL, toC, pr]
      rw [this]; omega
    have ho := hc.uniq cmpRS hcan
    have hl : outs.length = 1 := by have := congrArg List.length ho; simpa using this
    obtain ⟨bb, off, e1, -, z1⟩ := hin.cts.cell (k := 0) (by omega)
    have hn : (nth outs 0).n = 1 := by
      have := congrArg (fun l => l[0]?) ho
      rw [List.getElem?_map, nth_at (by omega)] at this
      simp only [Option.map_some, List.getElem?_cons_zero, Option.some.injEq, pr, Prod.mk.injEq] at this
      exact this.2
    rcases hin.1 with ⟨-, -, -, -, h9⟩ | ⟨g, c9, cur, -, hv, -⟩
    · rw [h9] at hl; cases hl
    · simp only [Value.slice.injEq] at hv
      rw [hv.1] at e1
      simp only [Option.some.injEq, Addr.mk.injEq, and_true] at e1
      obtain ⟨rfl, rfl⟩ := e1
      refine ⟨g, oc, by rw [he, hv.1, hl], ?_⟩
      rw [hn] at z1
      simpa using z1
theorem kn_at3 {w : World} {p : Nat} {wb : Option Nat} {a : Option Addr} {c : Nat} {va : Option Addr} {vc : Nat} {b : Bt} {a1 a2 : Option Addr} (h : SpAt w p wb (kn3 a c va vc b)) (hb : b.l.map upd.pr = (twoL a1 a2).map upd.pr) :
    Calls Tryz.prog 9 #[.pointer (some ⟨p, 0, none⟩), .int .i64 3] w fun e w' => e = .returned (.tuple #[.slice none 0 0, .int .i64 131]) ∧ Fr [] w w' := by
  refine (spAt_any h (kn_ok hb) 3).mono fun e w' ⟨f, hx⟩ => ?_
  have ha : askE (kn3 a c va vc b) 3 = 131 := by simp [askE, kn3, spn0]
  rw [ha] at hx
  rcases hx with ⟨-, he⟩ | ⟨h9, -⟩
  · exact ⟨he, f⟩
  · cases h9
theorem kn_work {w : World} {p : Nat} {wb : Option Nat} {a : Option Addr} {c : Nat} {va : Option Addr} {vc : Nat} {b : Bt} {a1 a2 : Option Addr} (h : SpAt w p wb (kn3 a c va vc b)) (hb : b.l.map upd.pr = (twoL a1 a2).map upd.pr) :
    Calls Tryz.prog 29 #[.pointer (some ⟨p, 0, none⟩), .int .i64 5] w fun e w' => e = .returned (.int .i64 5) ∧ (∃ wb', SpAt w' p wb' (kn3 a c va vc b)) ∧ Fr [p] w w' := by
  refine (work_any h (kn_ok hb) (by simp [kn3, spn0]) 5).mono fun e w' ⟨s, wb', lf, he, f, _, hw, _, hx⟩ => ?_
  have hd : dueI (szs (kn3 a c va vc b).bs) = none := rfl
  obtain rfl := hw.none hd
  rcases hx with ⟨-, hl, hs⟩ | ⟨i, h9, -⟩
  · have e5 : lf = 5 := by rw [hl]; rfl
    subst e5
    exact ⟨he, ⟨wb', hs⟩, f⟩
  · have : dueI (szs (kn3 a c va vc b).bs) = some i := h9
    rw [hd] at this; cases this

set_option maxRecDepth 100000
set_option maxHeartbeats 6400000 in
theorem known13_any (w : World) : Calls Tryz.prog 6 #[] w fun e w' => e = .returned (.bool true) ∧ Fr [] w w' := by
  have hsrc0 : Src (w.alloc (.cells #[.int .i64 0] 3)) 1 (.slice (some ⟨w.heap.size, 0, none⟩) 1 1) ([0] : List Int).length (kiC [0]) := Src.block (heap_alloc_new w (.cells #[.int .i64 0] 3)) rfl (by intro u hu; simp at hu; rw [hu]; rfl)
  have hnew : Calls Tryz.prog 17 #[.slice (some ⟨w.heap.size, 0, none⟩) 1 1] (w.alloc (.cells #[.int .i64 0] 3)) fun e w' => ∃ p a c, e = .returned (.tuple #[.pointer (some ⟨p, 0, none⟩), .int .i64 0]) ∧ w.heap.size ≤ p ∧ SpAt w' p none (spn0 a c [0]) ∧ Fr [] w w' :=
    (new_any hsrc0 (by simp)).mono fun e w' ⟨f, hx⟩ => by
      rcases hx with ⟨-, p, a, c, he, hp, hs⟩ | ⟨h9, -⟩
      · exact ⟨p, a, c, he, Nat.le_trans (by simp) hp, hs, ((Fr.refl [] w).alloc _).trans f⟩
      · cases h9
  have HNew := Lib.hid hnew
  clear hsrc0 hnew
  go_enter Tryz.func6, Tryz.ntmps6
  go_upto_region 2 with (go_at_call 17; refine HNew.out.mono ?_; rintro e w1 ⟨p, ka, kc, rfl, hp1, hs1, f1⟩)
  have HP := Lib.hid hp1
  have H1 := Lib.hid hs1
  have F1 := Lib.hid f1
  have hU : Calls Tryz.prog 10 #[.pointer (some ⟨p, 0, none⟩)] w1 fun e w' => e = .returned (.int .i64 1) ∧ w1 = w' := upper_any hs1
  have HU := Lib.hid hU
  clear hp1 hs1 f1 hU HNew
  have tok1 : True := trivial
  have tok2 : True := trivial
  go_upto_region 4 with (first
    | (go_at_call 10; refine HU.out.mono ?_; rintro e w' ⟨rfl, rfl⟩)
    | (go_at_call 26; have _t := tok1; clear _t tok1; refine (kn_bad H1.out).mono ?_; rintro e w2 ⟨rfl, f2⟩; have F2 := Lib.hid f2; clear f2)
    | (go_at_call 27; have _t := tok2; clear _t tok2; refine (one_any _ _).mono ?_; rintro e w3 ⟨rfl, r3, f3⟩; have R3 := Lib.hid r3; have F3 := Lib.hid (F2.out.trans f3); clear r3 f3)
    | (go_at_call 27; refine (one_any _ _).mono ?_; rintro e w4 ⟨rfl, r4, f4⟩; have R4 := Lib.hid r4; have F4 := Lib.hid (F3.out.trans f4); have R34 := Lib.hid (R3.out.fr f4); clear r4 f4)
    | (go_at_call 26; refine (kn_good (H1.out.fr (F4.out.alloc _)) (two_at R34.out R4.out)).mono ?_; rintro e w5 ⟨rfl, b, wb5, va5, vc5, hb5, hs5, f5⟩; have HB5 := Lib.hid hb5; have H5 := Lib.hid hs5; have F5 := Lib.hid (((F1.out.trans F4.out).alloc _).past f5 (fun x hx => Or.inl (by rw [List.mem_singleton.1 hx]; exact HP.out))); clear hb5 hs5 f5))
  generalize hg2 : w2.heap.size = g2 at *
  generalize hg3 : w3.heap.size = g3 at *
  clear hg2 hg3
  go_upto_region 5 with (go_at_call 9; refine (kn_at H5.out HB5.out).mono ?_; rintro e w6 ⟨f6, g6, u6, rfl, c6⟩; have F6 := Lib.hid f6; have H6 := Lib.hid (H5.out.fr f6); clear f6)
  go_upto_region 6 with (go_at_call 9; refine (kn_at3 H6.out HB5.out).mono ?_; rintro e w7 ⟨rfl, f7⟩; have c7 := f7.cell c6 (by simp); have F7 := Lib.hid (F6.out.trans f7); have H7 := Lib.hid (H6.out.fr f7); clear f7)
  have hsz : Calls Tryz.prog 28 #[.pointer (some ⟨p, 0, none⟩)] w7 fun e w' => ∃ g u, e = .returned (.slice (some ⟨g, 0, none⟩) 1 u) ∧ w'.cell? ⟨g, 0, none⟩ = some (.int .i64 2) ∧ Fr [] w7 w' := (sizes_any H7.out (by simp [kn3])).mono fun e w' ⟨⟨a9, c9, he, hk9⟩, f9⟩ => by
    have e1 : szs (kn3 ka kc va5 vc5 b).bs = [2] := by simp [szs, kn3, kn_len HB5.out]
    rw [e1] at he hk9
    rcases hk9 with ⟨-, -, -, -, h9⟩ | ⟨g, c, cur, hv, -, hg, htk⟩
    · cases h9
    · simp only [Value.slice.injEq] at hv
      refine ⟨g, c9, by rw [he, hv.1]; rfl, cell_blk hg 0 _ ?_, f9⟩
      have h8 := congrArg (fun l => l[0]?) htk
      simp only [natI, kiC, List.map_cons, List.map_nil, List.length_cons, List.length_nil] at h8
      rw [List.getElem?_take_of_lt (by decide)] at h8
      simpa using h8
  have HSz := Lib.hid hsz
  clear hsz
  go_upto_region 7 with (go_at_call 28; refine HSz.out.mono ?_; rintro e w8 ⟨g8, u8, rfl, d8, f8⟩; have c8 := f8.cell c7 (by simp); have F8 := Lib.hid (F7.out.trans f8); have H8 := Lib.hid (H7.out.fr f8); clear f8)
  go_wp2_with (first
    | (go_at_call 29; refine (kn_work H8.out HB5.out).mono ?_; rintro e w9 ⟨rfl, ⟨wb9, hs9⟩, f9⟩; have hS9 : Calls Tryz.prog 8 #[.pointer (some ⟨p, 0, none⟩)] w9 (fun e w' => e = .returned (.int .i64 0) ∧ w9 = w') := since_any hs9; have hU9 : Calls Tryz.prog 10 #[.pointer (some ⟨p, 0, none⟩)] w9 (fun e w' => e = .returned (.int .i64 3) ∧ w9 = w') := upper_any hs9; have HS9 := Lib.hid hS9; have HU9 := Lib.hid hU9; have F9 := Lib.hid ((F5.out.trans F8.out).past f9 (fun x hx => Or.inl (by rw [List.mem_singleton.1 hx]; exact HP.out))); clear hs9 hS9 hU9 f9)
    | (go_at_call 8; refine HS9.out.mono ?_; rintro e w' ⟨rfl, rfl⟩)
    | (go_at_call 10; refine HU9.out.mono ?_; rintro e w' ⟨rfl, rfl⟩))
  go_ret
  exact ⟨rfl, F9.out⟩
end Go.Proofs.YtjchlfblbmiceaaGreat
