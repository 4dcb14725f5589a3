/- freshetref02.read: one value off bytes from a place on. No condition but the size that can be read. -/
import Derived.Test.YtpcmibimglkocaaDoorEnd
import Derived.Test.YtpcmibimglkocaaDoorRr
import Derived.Test.YtpcmibimglkocaaDoorRowd
namespace Go.Proofs.YtpcmibimglkocaaDoor
open Go.RowKit

def ReadIs (s : ByteArray) (at0 : Nat) (e : Ending) : Prop :=
  (valB (s.data.toList.drop at0) = none ∧ ∃ d : Dt, e = .returned (.tuple #[.agg #[.int .i64 d.kind, .int .i64 d.i, .string ⟨d.s.toArray⟩], .int .i64 (-1)])) ∨
  ∃ (tt : Nat) (d : Dt), valB (s.data.toList.drop at0) = some (d, s.data.toList.drop tt) ∧ at0 < tt ∧ tt ≤ s.size ∧ e = .returned (.tuple #[.agg #[.int .i64 d.kind, .int .i64 d.i, .string ⟨d.s.toArray⟩], .int .i64 tt])

theorem or_round2 (l : List UInt8) (k : Nat) (hk : k < 8) (c : UInt8) (hc : l[k]? = some c) :
    bits .or .u64 (IntKind.u64.wrap ((natB (l.take k) : Int) * 256)) (IntKind.u64.wrap (c.toNat : Int)) = ((natB (l.take (k + 1)) : Nat) : Int) := by
  have h1 : natB (l.take k) < 256 ^ 7 := natB_lt_of _ 7 (by rw [List.length_take]; omega)
  have hcb := c.toNat_lt
  have e1 : IntKind.u64.wrap ((natB (l.take k) : Int) * 256) = ((natB (l.take k) * 256 : Nat) : Int) := by
    rw [IntKind.wrap_u64]; omega
  have e2 : IntKind.u64.wrap (c.toNat : Int) = (c.toNat : Int) := by
    rw [IntKind.wrap_u64]; omega
  rw [e1, e2, u64_or_nat _ _ (by omega) (by omega), or_low _ _ (by omega), List.take_add_one, hc]
  simp only [Option.toList_some]
  rw [natB_step]

theorem add_end (l : List UInt8) (h : l.length ≤ 8) : wrap64 (IntKind.u64.wrap ((natB l : Int) + 9223372036854775808)) = numB l := by
  have h1 : natB l < 256 ^ 8 := natB_lt_of _ 8 h
  rw [IntKind.wrap_u64]
  unfold wrap64 numB
  omega

set_option maxRecDepth 100000
set_option maxHeartbeats 3200000 in
theorem read_any (s : ByteArray) (at0 : Nat) (w : World) (hs : s.size ≤ 140737488351232) (hat : at0 < s.size) :
    Calls Tryd.prog 22 #[.string s, .int .i64 at0] w fun e w' => ReadIs s at0 e ∧ Fr [] w w' := by
  have HL := Lib.hid (drop_at s at0 hat)
  have hlt : s[at0].toNat < 256 := s[at0].toNat_lt
  have hlen : s.data.toList.length = s.size := by rw [Array.length_toList]; rfl
  have HLen := Lib.hid hlen
  clear hlen
  go_enter Tryd.func22, Tryd.ntmps22
  go_upto_region 2 with fail
  obtain ⟨hb4, hb6, fa⟩ := two_new w (.cells #[.int .i64 0, .int .i64 0, .string ⟨#[]⟩] 32) (.cells #[.int .i64 ((s[at0].toNat : Int) - 1), .int .i64 0, .string ⟨#[]⟩] 32)
  generalize (w.alloc (.cells #[.int .i64 0, .int .i64 0, .string ⟨#[]⟩] 32)).alloc (.cells #[.int .i64 ((s[at0].toNat : Int) - 1), .int .i64 0, .string ⟨#[]⟩] 32) = w2 at *
  obtain ⟨c0, c1, c2, y0, y1, y2⟩ := blk3 hb6
  obtain ⟨d0, d1, d2, z0, z1, z2⟩ := blk3 hb4
  have hsz : (s[at0].toNat = 0 ∨ 6 < s[at0].toNat) ∨ s[at0].toNat = 1 ∨ s[at0].toNat = 2 ∨ (s[at0].toNat = 3 ∨ s[at0].toNat = 4) ∨ (s[at0].toNat = 5 ∨ s[at0].toNat = 6) := by omega
  generalize hc : s[at0] = c at *
  clear hc
  rcases hsz with h | h | h | h | h
  · have HV := Lib.hid (valB_else HL.out h)
    have HB := Lib.hid (right_none (k := (c.toNat : Int) - 1) (i := 0) (l := []) (by omega))
    have HN := Lib.hid (show valB (s.data.toList.drop at0) = none by rw [HV.out, HB.out]; rfl)
    have hd : decide ((c.toNat : Int) - 1 < 0) = true ∨ (decide ((c.toNat : Int) - 1 < 0) = false ∧ decide (5 < (c.toNat : Int) - 1) = true) := by
      simp; omega
    as_aux_lemma =>
    rcases h with h | h
    all_goals
      go_wp2_with fail
      refine bodyPost_ret (v := .tuple #[.agg #[.int .i64 ((c.toNat : Int) - 1), .int .i64 0, .string ⟨#[]⟩], .int .i64 (-1)]) (by simp [results, Tryd.results22, go_sem, *]) rfl ⟨Or.inl ⟨HN.out, ⟨(c.toNat : Int) - 1, 0, []⟩, rfl⟩, ?_⟩
      exact ((fa.setNew (by simp) _).setNew (by simp) _).setNew (by simp) _
  · have HV := Lib.hid (valB_null HL.out h)
    as_aux_lemma =>
    go_wp2_with fail
    refine bodyPost_ret (v := .tuple #[.agg #[.int .i64 0, .int .i64 0, .string ⟨#[]⟩], .int .i64 ((at0 + 1 : Nat) : Int)]) (by simp [results, Tryd.results22, go_sem, *]) rfl ⟨Or.inr ⟨at0 + 1, ⟨0, 0, []⟩, HV.out, by omega, by omega, rfl⟩, ?_⟩
    exact ((fa.setNew (by simp) _).setNew (by simp) _).setNew (by simp) _
  · by_cases he : s.size ≤ at0 + 1
    · have HN := Lib.hid (show valB (s.data.toList.drop at0) = none from valB_bool0 (HL.out.trans (by rw [List.drop_eq_nil_of_le (by have := HLen.out; omega)])) h)
      as_aux_lemma =>
      go_wp2_with fail
      refine bodyPost_ret (v := .tuple #[.agg #[.int .i64 1, .int .i64 0, .string ⟨#[]⟩], .int .i64 (-1)]) (by simp [results, Tryd.results22, go_sem, *]) rfl ⟨Or.inl ⟨HN.out, ⟨1, 0, []⟩, rfl⟩, ?_⟩
      exact ((fa.setNew (by simp) _).setNew (by simp) _).setNew (by simp) _
    · have h1 : at0 + 1 < s.size := by omega
      have HL1 := Lib.hid (drop_at s (at0 + 1) h1)
      have hb : s[at0 + 1].toNat < 256 := s[at0 + 1].toNat_lt
      generalize hbb : s[at0 + 1] = b at *
      have HV := Lib.hid (valB_bool (HL.out.trans (by rw [HL1.out])) h)
      clear he
      by_cases hb1 : b.toNat ≤ 1
      · have HN := Lib.hid (show valB (s.data.toList.drop at0) = some (⟨1, b.toNat, []⟩, s.data.toList.drop (at0 + 2)) by
          rw [HV.out, if_pos]
          have h2 : b.toNat = 0 ∨ b.toNat = 1 := by omega
          rcases h2 with h2 | h2 <;> simp [rightB, h2])
        as_aux_lemma =>
        go_wp2_with fail
        refine bodyPost_ret (v := .tuple #[.agg #[.int .i64 1, .int .i64 (b.toNat : Int), .string ⟨#[]⟩], .int .i64 ((at0 + 2 : Nat) : Int)]) (by simp [results, Tryd.results22, go_sem, *]; omega) rfl ⟨Or.inr ⟨at0 + 2, ⟨1, b.toNat, []⟩, HN.out, by omega, by omega, rfl⟩, ?_⟩
        exact (((fa.setNew (by simp) _).setNew (by simp) _).setNew (by simp) _).setNew (by simp) _
      · have HN := Lib.hid (show valB (s.data.toList.drop at0) = none by
          rw [HV.out, if_neg]
          simp [rightB]; omega)
        have hb2 : 1 < b.toNat := by omega
        clear hb1
        as_aux_lemma =>
        go_wp2_with fail
        refine bodyPost_ret (v := .tuple #[.agg #[.int .i64 1, .int .i64 0, .string ⟨#[]⟩], .int .i64 (-1)]) (by simp [results, Tryd.results22, go_sem, *]) rfl ⟨Or.inl ⟨HN.out, ⟨1, 0, []⟩, rfl⟩, ?_⟩
        exact ((fa.setNew (by simp) _).setNew (by simp) _).setNew (by simp) _
  · by_cases h8 : s.size < at0 + 9
    · have HN := Lib.hid (show valB (s.data.toList.drop at0) = none from valB_num0 HL.out h (by rw [List.length_drop, HLen.out]; omega))
      have h9 : s.size - (at0 + 1) < 8 := by omega
      as_aux_lemma =>
      rcases h with h | h
      all_goals
        go_wp2_with fail
        refine bodyPost_ret (v := .tuple #[.agg #[.int .i64 ((c.toNat : Int) - 1), .int .i64 0, .string ⟨#[]⟩], .int .i64 (-1)]) (by simp [results, Tryd.results22, go_sem, *]) rfl ⟨Or.inl ⟨HN.out, ⟨((c.toNat : Int) - 1), 0, []⟩, rfl⟩, ?_⟩
        exact ((fa.setNew (by simp) _).setNew (by simp) _).setNew (by simp) _
    · have h9 : at0 + 9 ≤ s.size := by omega
      have HV := Lib.hid (valB_num HL.out h (by rw [List.length_drop, HLen.out]; omega))
      have HN := Lib.hid (show valB (s.data.toList.drop at0) = some (⟨(c.toNat : Int) - 1, numB ((s.data.toList.drop (at0 + 1)).take 8), []⟩, s.data.toList.drop (at0 + 9)) by
          rw [HV.out, if_pos, List.drop_drop]
          rcases h with h | h <;> simp [rightB, h])
      have h10 : ¬ (s.size : Int) - (at0 + 1) < 8 := by omega
      clear h8
      as_aux_lemma =>
      rcases h with h | h
      all_goals
        go_wp2_with fail
        go_loop [7, 8] (fun n i => ∃ k : Nat, k ≤ 8 ∧ i = .int .i64 k ∧ n = .int .u64 (natB ((s.data.toList.drop (at0 + 1)).take k))) (fun _ i => 8 - (intOf i).toNat)
        case atStart => exact ⟨0, Nat.zero_le _, rfl, rfl⟩
        case round =>
          obtain ⟨k, hk, rfl, rfl⟩ := hrel
          by_cases hlt : k < 8
          · have hix : at0 + 1 + k < s.size := by omega
            have hor := or_round2 (s.data.toList.drop (at0 + 1)) k hlt s[at0 + 1 + k] (by
              rw [List.getElem?_drop, List.getElem?_eq_getElem (by have := HLen.out; omega)]; rfl)
            go_wp2
            go_round
            case rel => exact ⟨k + 1, by omega, by go_num, rfl⟩
            case measure => simp [intOf]; omega
          · have hk8 : k = 8 := by omega
            subst hk8
            have hadd := add_end ((s.data.toList.drop (at0 + 1)).take 8) (by rw [List.length_take]; omega)
            go_wp2_with fail
            refine bodyPost_ret (v := .tuple #[.agg #[.int .i64 ((c.toNat : Int) - 1), .int .i64 (numB ((s.data.toList.drop (at0 + 1)).take 8)), .string ⟨#[]⟩], .int .i64 ((at0 + 9 : Nat) : Int)]) (by simp [results, Tryd.results22, go_sem, *]; omega) rfl ⟨Or.inr ⟨at0 + 9, ⟨(c.toNat : Int) - 1, numB ((s.data.toList.drop (at0 + 1)).take 8), []⟩, HN.out, by omega, by omega, rfl⟩, ?_⟩
            exact (((fa.setNew (by simp) _).setNew (by simp) _).setNew (by simp) _).setNew (by simp) _
  · have hend : ∀ wi, Calls Tryd.prog 36 #[.string s, .int .i64 ((at0 : Int) + 1)] wi fun e w' => EndIs s (at0 + 1) e ∧ Fr [] wi w' := fun wi => end_any s (at0 + 1) wi hs (by omega)
    as_aux_lemma =>
    rcases h with h | h
    · skip
      go_upto_region 25 with (go_at_call 36; refine (hend _).mono ?_; rintro e w3 ⟨he, f3⟩; obtain ⟨ht, rfl⟩ | ⟨tt, t, ht, h1, h2, rfl⟩ := he)
      · have HN := Lib.hid (valB_text0 HL.out (by omega) ht)
        have hb6' := f3.heap hb6 (by simp)
        have hb4' := f3.heap hb4 (by simp)
        clear c0 c1 c2 y0 y1 y2 d0 d1 d2 z0 z1 z2
        obtain ⟨c0, c1, c2, y0, y1, y2⟩ := blk3 hb6'
        obtain ⟨d0, d1, d2, z0, z1, z2⟩ := blk3 hb4'
        go_wp2_with fail
        refine bodyPost_ret (v := .tuple #[.agg #[.int .i64 4, .int .i64 0, .string ⟨#[]⟩], .int .i64 (-1)]) (by simp [results, Tryd.results22, go_sem, *]) rfl ⟨Or.inl ⟨HN.out, ⟨4, 0, []⟩, rfl⟩, ?_⟩
        exact ((((fa.trans f3).setNew (by simp) _).setNew (by simp) _).setNew (by simp) _).setNew (by simp) _
      · have HV := Lib.hid (valB_text HL.out (by omega) ht)
        have htl := textB_len _ _ (Nat.le_refl _) _ _ ht
        have hsz : (⟨t.toArray⟩ : ByteArray).size ≤ 140737488351232 := by
          have e1 : (⟨t.toArray⟩ : ByteArray).size = t.length := by simp [ByteArray.size]
          have e2 := HLen.out
          simp only [List.length_drop, e2] at htl
          omega
        have hb6' := f3.heap hb6 (by simp)
        have hb4' := f3.heap hb4 (by simp)
        clear c0 c1 c2 y0 y1 y2 d0 d1 d2 z0 z1 z2 ht htl
        obtain ⟨c0, c1, c2, y0, y1, y2⟩ := blk3 hb6'
        obtain ⟨d0, d1, d2, z0, z1, z2⟩ := blk3 hb4'
        go_upto_region 26 with fail
        have hq6 : (w3.setCell ⟨w.heap.size + 1, 2, none⟩ (.string ⟨t.toArray⟩)).heap[w.heap.size + 1]? = some (.cells #[.int .i64 4, .int .i64 0, .string ⟨t.toArray⟩] 32) := (heap_setCell_same w3 _ _ _ _ _ hb6').trans (by rw [h]; rfl)
        have hq4 : (w3.setCell ⟨w.heap.size + 1, 2, none⟩ (.string ⟨t.toArray⟩)).heap[w.heap.size]? = some (.cells #[.int .i64 0, .int .i64 0, .string ⟨#[]⟩] 32) := (heap_setCell_other w3 _ _ _ (by simp)).trans hb4'
        have f4 := (fa.trans f3).setNew (p := ⟨w.heap.size + 1, 2, none⟩) (by simp) (.string ⟨t.toArray⟩)
        clear hb6' hb4' c0 c1 c2 y0 y1 y2 d0 d1 d2 z0 z1 z2
        generalize w3.setCell ⟨w.heap.size + 1, 2, none⟩ (.string ⟨t.toArray⟩) = w4 at *
        obtain ⟨c0, c1, c2, y0, y1, y2⟩ := blk3 hq6
        have hK : (c.toNat : Int) - 1 = 4 := by omega
        rw [hK] at HV
        have hr := rright_any 4 0 ⟨t.toArray⟩ w4 hsz
        cases hrb : rightB ⟨4, 0, t⟩
        · have HN := Lib.hid (show valB (s.data.toList.drop at0) = none by rw [HV.out, if_neg (by rw [hrb]; simp)])
          have hr2 : Calls Tryd.prog 23 #[.agg #[.int .i64 4, .int .i64 0, .string ⟨t.toArray⟩]] w4 fun e w' => e = .returned (.bool false) ∧ Fr [] w4 w' := hr.mono fun e w' ⟨he, f⟩ => ⟨by rw [he]; exact ret_bool hrb, f⟩
          clear hr hrb hK
          go_wp2_with (go_at_call 23; refine hr2.mono ?_; rintro e w5 ⟨rfl, f5⟩; obtain ⟨c0', c1', c2', y0', y1', y2'⟩ := blk3 (f5.heap hq6 (by simp)); obtain ⟨d0', d1', d2', z0', z1', z2'⟩ := blk3 (f5.heap hq4 (by simp)))
          refine bodyPost_ret (v := .tuple #[.agg #[.int .i64 4, .int .i64 0, .string ⟨t.toArray⟩], .int .i64 (-1)]) (by simp [results, Tryd.results22, go_sem, *]) rfl ⟨Or.inl ⟨HN.out, ⟨4, 0, t⟩, rfl⟩, ?_⟩
          exact (((f4.trans f5).setNew (by simp) _).setNew (by simp) _).setNew (by simp) _
        · have HN := Lib.hid (show valB (s.data.toList.drop at0) = _ by rw [HV.out, if_pos hrb])
          have hr2 : Calls Tryd.prog 23 #[.agg #[.int .i64 4, .int .i64 0, .string ⟨t.toArray⟩]] w4 fun e w' => e = .returned (.bool true) ∧ Fr [] w4 w' := hr.mono fun e w' ⟨he, f⟩ => ⟨by rw [he]; exact ret_bool hrb, f⟩
          clear hr hrb hK
          go_wp2_with (go_at_call 23; refine hr2.mono ?_; rintro e w5 ⟨rfl, f5⟩; obtain ⟨c0', c1', c2', y0', y1', y2'⟩ := blk3 (f5.heap hq6 (by simp)); obtain ⟨d0', d1', d2', z0', z1', z2'⟩ := blk3 (f5.heap hq4 (by simp)))
          refine bodyPost_ret (v := .tuple #[.agg #[.int .i64 4, .int .i64 0, .string ⟨t.toArray⟩], .int .i64 (tt : Int)]) (by simp [results, Tryd.results22, go_sem, *]) rfl ⟨Or.inr ⟨tt, ⟨4, 0, t⟩, HN.out, by omega, by omega, rfl⟩, ?_⟩
          exact (((f4.trans f5).setNew (by simp) _).setNew (by simp) _).setNew (by simp) _
    · skip
      go_upto_region 25 with (go_at_call 36; refine (hend _).mono ?_; rintro e w3 ⟨he, f3⟩; obtain ⟨ht, rfl⟩ | ⟨tt, t, ht, h1, h2, rfl⟩ := he)
      · have HN := Lib.hid (valB_text0 HL.out (by omega) ht)
        have hb6' := f3.heap hb6 (by simp)
        have hb4' := f3.heap hb4 (by simp)
        clear c0 c1 c2 y0 y1 y2 d0 d1 d2 z0 z1 z2
        obtain ⟨c0, c1, c2, y0, y1, y2⟩ := blk3 hb6'
        obtain ⟨d0, d1, d2, z0, z1, z2⟩ := blk3 hb4'
        go_wp2_with fail
        refine bodyPost_ret (v := .tuple #[.agg #[.int .i64 5, .int .i64 0, .string ⟨#[]⟩], .int .i64 (-1)]) (by simp [results, Tryd.results22, go_sem, *]) rfl ⟨Or.inl ⟨HN.out, ⟨5, 0, []⟩, rfl⟩, ?_⟩
        exact ((((fa.trans f3).setNew (by simp) _).setNew (by simp) _).setNew (by simp) _).setNew (by simp) _
      · have HV := Lib.hid (valB_text HL.out (by omega) ht)
        have htl := textB_len _ _ (Nat.le_refl _) _ _ ht
        have hsz : (⟨t.toArray⟩ : ByteArray).size ≤ 140737488351232 := by
          have e1 : (⟨t.toArray⟩ : ByteArray).size = t.length := by simp [ByteArray.size]
          have e2 := HLen.out
          simp only [List.length_drop, e2] at htl
          omega
        have hb6' := f3.heap hb6 (by simp)
        have hb4' := f3.heap hb4 (by simp)
        clear c0 c1 c2 y0 y1 y2 d0 d1 d2 z0 z1 z2 ht htl
        obtain ⟨c0, c1, c2, y0, y1, y2⟩ := blk3 hb6'
        obtain ⟨d0, d1, d2, z0, z1, z2⟩ := blk3 hb4'
        go_upto_region 26 with fail
        have hq6 : (w3.setCell ⟨w.heap.size + 1, 2, none⟩ (.string ⟨t.toArray⟩)).heap[w.heap.size + 1]? = some (.cells #[.int .i64 5, .int .i64 0, .string ⟨t.toArray⟩] 32) := (heap_setCell_same w3 _ _ _ _ _ hb6').trans (by rw [h]; rfl)
        have hq4 : (w3.setCell ⟨w.heap.size + 1, 2, none⟩ (.string ⟨t.toArray⟩)).heap[w.heap.size]? = some (.cells #[.int .i64 0, .int .i64 0, .string ⟨#[]⟩] 32) := (heap_setCell_other w3 _ _ _ (by simp)).trans hb4'
        have f4 := (fa.trans f3).setNew (p := ⟨w.heap.size + 1, 2, none⟩) (by simp) (.string ⟨t.toArray⟩)
        clear hb6' hb4' c0 c1 c2 y0 y1 y2 d0 d1 d2 z0 z1 z2
        generalize w3.setCell ⟨w.heap.size + 1, 2, none⟩ (.string ⟨t.toArray⟩) = w4 at *
        obtain ⟨c0, c1, c2, y0, y1, y2⟩ := blk3 hq6
        have hK : (c.toNat : Int) - 1 = 5 := by omega
        rw [hK] at HV
        have hr := rright_any 5 0 ⟨t.toArray⟩ w4 hsz
        cases hrb : rightB ⟨5, 0, t⟩
        · have HN := Lib.hid (show valB (s.data.toList.drop at0) = none by rw [HV.out, if_neg (by rw [hrb]; simp)])
          have hr2 : Calls Tryd.prog 23 #[.agg #[.int .i64 5, .int .i64 0, .string ⟨t.toArray⟩]] w4 fun e w' => e = .returned (.bool false) ∧ Fr [] w4 w' := hr.mono fun e w' ⟨he, f⟩ => ⟨by rw [he]; exact ret_bool hrb, f⟩
          clear hr hrb hK
          go_wp2_with (go_at_call 23; refine hr2.mono ?_; rintro e w5 ⟨rfl, f5⟩; obtain ⟨c0', c1', c2', y0', y1', y2'⟩ := blk3 (f5.heap hq6 (by simp)); obtain ⟨d0', d1', d2', z0', z1', z2'⟩ := blk3 (f5.heap hq4 (by simp)))
          refine bodyPost_ret (v := .tuple #[.agg #[.int .i64 5, .int .i64 0, .string ⟨t.toArray⟩], .int .i64 (-1)]) (by simp [results, Tryd.results22, go_sem, *]) rfl ⟨Or.inl ⟨HN.out, ⟨5, 0, t⟩, rfl⟩, ?_⟩
          exact (((f4.trans f5).setNew (by simp) _).setNew (by simp) _).setNew (by simp) _
        · have HN := Lib.hid (show valB (s.data.toList.drop at0) = _ by rw [HV.out, if_pos hrb])
          have hr2 : Calls Tryd.prog 23 #[.agg #[.int .i64 5, .int .i64 0, .string ⟨t.toArray⟩]] w4 fun e w' => e = .returned (.bool true) ∧ Fr [] w4 w' := hr.mono fun e w' ⟨he, f⟩ => ⟨by rw [he]; exact ret_bool hrb, f⟩
          clear hr hrb hK
          go_wp2_with (go_at_call 23; refine hr2.mono ?_; rintro e w5 ⟨rfl, f5⟩; obtain ⟨c0', c1', c2', y0', y1', y2'⟩ := blk3 (f5.heap hq6 (by simp)); obtain ⟨d0', d1', d2', z0', z1', z2'⟩ := blk3 (f5.heap hq4 (by simp)))
          refine bodyPost_ret (v := .tuple #[.agg #[.int .i64 5, .int .i64 0, .string ⟨t.toArray⟩], .int .i64 (tt : Int)]) (by simp [results, Tryd.results22, go_sem, *]) rfl ⟨Or.inr ⟨tt, ⟨5, 0, t⟩, HN.out, by omega, by omega, rfl⟩, ?_⟩
          exact (((f4.trans f5).setNew (by simp) _).setNew (by simp) _).setNew (by simp) _
end Go.Proofs.YtpcmibimglkocaaDoor
