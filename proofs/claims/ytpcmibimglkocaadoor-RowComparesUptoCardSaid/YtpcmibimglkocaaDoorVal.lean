/- row.value: one value off bytes. No condition but the size that can be read, and that the tables of package utf8 lie as its text lays them. -/
import Derived.Test.YtpcmibimglkocaaDoorValp
namespace Go.Proofs.YtpcmibimglkocaaDoor
open Go.RowKit

theorem data_cons (s : ByteArray) (h : 0 < s.size) : s.data.toList = s[0] :: (s.extract 1 s.size).data.toList := by
  rw [Lib.extract_to_end]
  obtain ⟨⟨l⟩⟩ := s
  cases l with
  | nil => simp [ByteArray.size] at h
  | cons a l => rfl
/-- The text's loop: what is left, what was gathered. -/
def TextR (l : List UInt8) (w : World) (a0 a6 : Value) (wr : World) : Prop :=
  ∃ (q : ByteArray) (acc : List UInt8), a0 = .string q ∧ q.size + acc.length ≤ l.length ∧ textB l = (textB q.data.toList).map (fun p => (acc ++ p.1, p.2)) ∧
    wr.ownsRow w.heap.size 5 1 a6 acc.length (bytesC acc) ∧ Fr [] w wr
/-- Behind the text's loop. -/
def TextE (l : List UInt8) (w : World) (a0 a6 : Value) (wr : World) : Prop :=
  ∃ (q : ByteArray) (acc : List UInt8), a0 = .string q ∧ acc.length ≤ l.length ∧ textB l = some (acc, q.data.toList) ∧
    wr.ownsRow w.heap.size 5 1 a6 acc.length (bytesC acc) ∧ Fr [] w wr
def sLen : Value → Nat
  | .string s => s.size
  | _ => 0
set_option maxRecDepth 100000
set_option maxHeartbeats 3200000 in
theorem value_any (s : ByteArray) (w : World) (h0 : 0 < s.size) (hs : s.size ≤ 140737488351232) (hT : Lib.Utf8Tabs 0 1 w) :
    Calls Tryd.prog 20 #[.string s] w fun e w' => ValIs s.data.toList e ∧ Fr [] w w' := by
  have HT := Lib.hid hT
  clear hT
  have hlt : s[0].toNat < 256 := s[0].toNat_lt
  have HL := Lib.hid (data_cons s h0)
  go_enter Tryd.func20, Tryd.ntmps20
  go_upto_region 3 with fail
  obtain ⟨hb2, hb5, fa⟩ := two_new w (.cells #[.int .i64 0, .int .i64 0, .string ⟨#[]⟩] 32) (.cells #[.int .i64 ((s[0].toNat : Int) - 1), .int .i64 0, .string ⟨#[]⟩] 32)
  generalize (w.alloc (.cells #[.int .i64 0, .int .i64 0, .string ⟨#[]⟩] 32)).alloc (.cells #[.int .i64 ((s[0].toNat : Int) - 1), .int .i64 0, .string ⟨#[]⟩] 32) = w2 at *
  have hrs : (s.extract 1 s.size).size = s.size - 1 := by simp
  obtain ⟨c0, c1, c2, y0, y1, y2⟩ := blk3 hb5
  obtain ⟨d0, d1, d2, z0, z1, z2⟩ := blk3 hb2
  go_upto_block 0 with fail
  go_cut [0, 17] (fun a0 _ wx => ValR s.data.toList w a0 wx)
  case first =>
    generalize hr : s.extract 1 s.size = r at *
    have HR := Lib.hid hr
    clear hr
    have hrs' : r.size ≤ 140737488351232 := by omega
    clear hrs
    have hsz : (s[0].toNat = 1 ∨ s[0].toNat = 2 ∨ (s[0].toNat = 3 ∨ s[0].toNat = 4) ∨ (s[0].toNat = 5 ∨ s[0].toNat = 6) ∨ (s[0].toNat = 0 ∨ 6 < s[0].toNat)) := by omega
    generalize hc : s[0] = c at *
    clear hc
    rcases hsz with h | h | h | h | h
    · have HV := Lib.hid (valB_null HL.out h)
      as_aux_lemma =>
      go_wp2_with fail
      go_meet
      exact ⟨⟨0, 0, []⟩, r, rfl, by simp, fa, hb2, by rw [hb5, h]; rfl, HV.out⟩
    · by_cases he : r.size = 0
      · have hnil : r.data.toList = [] := by rw [← List.length_eq_zero_iff, Array.length_toList]; exact he
        have HV := Lib.hid (valB_bool0 (HL.out.trans (by rw [hnil])) h)
        have hE : r.toList.isEmpty = true := by rw [ByteArray.toList_eq, hnil]; rfl
        clear hnil
        as_aux_lemma =>
        go_wp2_with fail
        refine bodyPost_ret (v := .tuple #[.agg #[.int .i64 1, .int .i64 0, .string ⟨#[]⟩], .string r, .bool false]) (by simp [results, Tryd.results20, go_sem, *]) rfl ⟨⟨⟨1, 0, []⟩, r, false, rfl, HV.out⟩, ?_⟩
        exact ((fa.setNew (by simp) _).setNew (by simp) _).setNew (by simp) _
      · have hr0 : 0 < r.size := by omega
        have hcons := data_cons r hr0
        have hrb : r[0].toNat < 256 := r[0].toNat_lt
        have hE : r.toList.isEmpty = false := by rw [ByteArray.toList_eq, hcons]; rfl
        have HV := Lib.hid (valB_bool (HL.out.trans (by rw [hcons])) h)
        clear hcons
        as_aux_lemma =>
        go_wp2_with fail
        go_region
        go_wp2_with fail
        go_meet
        exact ⟨⟨1, r[0].toNat, []⟩, r.extract 1 r.size, rfl, by simp, (fa.drew).setNew (by simp) _, (heap_setCell_other w2 _ _ _ (by simp)).trans hb2, (heap_setCell_same w2 _ _ _ _ _ hb5).trans (by rw [h]; rfl), HV.out⟩
    · have hl8 : r.data.toList.length = r.size := by rw [Array.length_toList]; rfl
      by_cases h8 : r.size < 8
      · have HV := Lib.hid (valB_num0 HL.out h (by omega))
        clear hl8
        as_aux_lemma =>
        go_wp2_with fail
        all_goals refine bodyPost_ret (v := .tuple #[.agg #[.int .i64 ((c.toNat : Int) - 1), .int .i64 0, .string ⟨#[]⟩], .string r, .bool false]) (by simp [results, Tryd.results20, go_sem, *]) rfl ⟨⟨⟨(c.toNat : Int) - 1, 0, []⟩, r, false, rfl, HV.out⟩, ?_⟩
        all_goals exact ((fa.setNew (by simp) _).setNew (by simp) _).setNew (by simp) _
      · have HV := Lib.hid (valB_num HL.out h (by omega))
        have h8' : 8 ≤ r.size := by omega
        have hn8 : (r.extract 0 8).size = 8 := by simp; omega
        have HN : Hid ((r.extract 0 8).data.toList = r.data.toList.take 8 ∧ (r.extract 8 r.size).data.toList = r.data.toList.drop 8) := Lib.hid ⟨by rw [Lib.extract_data]; simp, by rw [Lib.extract_to_end]⟩
        have hcall := fun w => number_any (r.extract 0 8) w hn8
        clear hn8 h8
        as_aux_lemma =>
        go_wp2_with fail
        all_goals go_region_held3 (fun _ => True) (trivial) (first | (go_at_call 34; refine (hcall _).mono ?_; rintro e w' ⟨rfl, rfl⟩))
        all_goals go_wp2_with fail
        all_goals go_meet
        all_goals exact ⟨⟨(c.toNat : Int) - 1, numB (r.data.toList.take 8), []⟩, r.extract 8 r.size, rfl, by simp, (fa.drew).setNew (by simp) _, (heap_setCell_other w2 _ _ _ (by simp)).trans hb2, (heap_setCell_same w2 _ _ _ _ _ hb5).trans rfl, by rw [HN.out.2]; exact HV.out⟩
    · have h9 : r.data.toList.length = r.size := by rw [Array.length_toList]; rfl
      have h5 := Lib.hid h
      have e0 : ((c.toNat : Int) - 1 == 0) = false := by simp; omega
      have e1 : ((c.toNat : Int) - 1 == 1) = false := by simp; omega
      have e2 : ((c.toNat : Int) - 1 == 2) = false := by simp; omega
      have e3 : ((c.toNat : Int) - 1 == 3) = false := by simp; omega
      rcases h with h | h
      have e4 : ((c.toNat : Int) - 1 == 4) = true := by simp; omega
      have e5 : ((c.toNat : Int) - 1 == 5) = false := by simp; omega
      rotate_right
      have e4 : ((c.toNat : Int) - 1 == 4) = false := by simp; omega
      have e5 : ((c.toNat : Int) - 1 == 5) = true := by simp; omega
      all_goals
        clear h
        as_aux_lemma =>
        obtain ⟨i0, hi, hz0, hz1, hz2⟩ := info_parts info5
        go_upto_block 1 with fail
        go_cut [0, 6] (fun a0 a6 wx => TextE r.data.toList w2 a0 a6 wx)
        case first =>
          go_wp2_with fail
          go_loopw [0, 6] (fun a0 a6 wr => TextR r.data.toList w2 a0 a6 wr) (fun a0 _ _ => sLen a0)
          case atStart => exact ⟨r, [], rfl, by rw [h9]; exact Nat.le_refl _, by simp, World.ownsRow_nil _ _ _ _, Fr.refl _ _⟩
          case round =>
            obtain ⟨q, acc, rfl, hq, hT, hown, hf⟩ := hrel
            have hqs : q.data.toList.length = q.size := by rw [Array.length_toList]; rfl
            have HB := Lib.hid (fun wi => Tryd.strings_IndexByte q 0 wi)
            have HC := Lib.hid (idx_cases q.data.toList)
            have HF := Lib.hid hf
            have HO := Lib.hid hown
            have HT2 := Lib.hid hT
            clear hT hown hf
            obtain ⟨c0', c1', c2', y0', y1', y2'⟩ := blk3 (HF.out.heap hb5 (by simp))
            obtain ⟨d0', d1', d2', z0', z1', z2'⟩ := blk3 (HF.out.heap hb2 (by simp))
            rcases HC.out with ⟨hI, hN⟩ | ⟨o, hI, hol, hC⟩
            · have hcall : ∀ wi, Calls Tryd.prog 35 #[.string q, .int .u8 0] wi fun e w' => e = .returned (.int .i64 (-1)) ∧ wi = w' := fun wi => (HB.out wi).mono fun e w' ⟨h1, h2⟩ => ⟨by rw [h1]; exact congrArg _ (congrArg _ hI), h2.symm⟩
              clear hI
              have HV := Lib.hid (valB_text0 HL.out h5.out (by rw [HT2.out, hN]; rfl))
              clear hN
              as_aux_lemma =>
              go_wp2_with (go_at_call 35; refine (hcall _).mono ?_; rintro e w' ⟨rfl, rfl⟩)
              refine bodyPost_ret (v := .tuple #[.agg #[.int .i64 ((c.toNat : Int) - 1), .int .i64 0, .string ⟨#[]⟩], .string q, .bool false]) (by simp [results, Tryd.results20, go_sem, *]) rfl ⟨⟨⟨(c.toNat : Int) - 1, 0, []⟩, q, false, rfl, HV.out⟩, ?_⟩
              exact (((fa.trans HF.out).setNew (by simp) _).setNew (by simp) _).setNew (by simp) _
            · have hcall : ∀ wi, Calls Tryd.prog 35 #[.string q, .int .u8 0] wi fun e w' => e = .returned (.int .i64 (o : Int)) ∧ wi = w' := fun wi => (HB.out wi).mono fun e w' ⟨h1, h2⟩ => ⟨by rw [h1]; exact congrArg _ (congrArg _ hI), h2.symm⟩
              clear hI
              rcases hC with ⟨hl, hN⟩ | ⟨d, hl, hd, hD⟩
              · have HV := Lib.hid (valB_text0 HL.out h5.out (by rw [HT2.out, hN]; rfl))
                have hl1 : q.size ≤ o + 1 := by omega
                have hl2 : o + 1 ≤ q.size := by omega
                clear hN hl

                go_wp2_with (go_at_call 35; refine (hcall _).mono ?_; rintro e w' ⟨rfl, rfl⟩)
                refine bodyPost_ret (v := .tuple #[.agg #[.int .i64 ((c.toNat : Int) - 1), .int .i64 0, .string ⟨#[]⟩], .string q, .bool false]) (by simp [results, Tryd.results20, go_sem, *]) rfl ⟨⟨⟨(c.toNat : Int) - 1, 0, []⟩, q, false, rfl, HV.out⟩, ?_⟩
                exact (((fa.trans HF.out).setNew (by simp) _).setNew (by simp) _).setNew (by simp) _
              · have hl1 : o + 1 < q.size := by omega
                have hdd : q[o + 1]'hl1 = d := by
                  rw [List.getElem?_eq_getElem (by omega)] at hd
                  exact Option.some.inj hd
                clear hd
                rcases hD with ⟨h1, hN⟩ | ⟨h1, hN⟩ | ⟨h1, hN⟩
                · have HV := Lib.hid (valB_text0 HL.out h5.out (by rw [HT2.out, hN]; rfl))
                  clear hN
                  go_wp2_with (go_at_call 35; refine (hcall _).mono ?_; rintro e w' ⟨rfl, rfl⟩)
                  refine bodyPost_ret (v := .tuple #[.agg #[.int .i64 ((c.toNat : Int) - 1), .int .i64 0, .string ⟨#[]⟩], .string q, .bool false]) (by simp [results, Tryd.results20, go_sem, *]) rfl ⟨⟨⟨(c.toNat : Int) - 1, 0, []⟩, q, false, rfl, HV.out⟩, ?_⟩
                  exact (((fa.trans HF.out).setNew (by simp) _).setNew (by simp) _).setNew (by simp) _
                · have k0 : (q.extract 0 o).size = o := by simp; omega
                  have k1 : acc.length + (q.extract 0 o).size ≤ maxLen := by unfold maxLen; omega
                  have k2 : acc.length + (q.extract 0 o).size ≤ 140737488355328 := by omega
                  have k3 : w2.heap.size ≤ wr.heap.size := HF.out.size
                  have HX := Lib.hid (text_take q o acc)
                  have HN := Lib.hid (textB_step HT2.out hN)
                  have HZ := Lib.hid k0
                  have HY := Lib.hid (Lib.extract_to_end q (o + 2))
                  have hdz : (d.toNat : Int) = 0 := by omega
                  clear hN k0
                  as_aux_lemma =>
                  go_wp2_with (first | (go_at_call 35; refine (hcall _).mono ?_; rintro e w' ⟨rfl, rfl⟩) | (at_builtin; refine Lib.wpList_append_own_string _ rfl (.tmp 69) (.tmp 72) 42 9 rfl w2.heap.size 5 i0 Tryd.underlying42 Tryd.underlying9 hi hz0 hz1 hz2 _ _ _ rfl HO.out _ rfl k1 k2 k3 ?_; intro v' w1 hown' hgrow _))
                  have hf1 := HF.out.fresh hgrow (fun r e => Or.inl (HO.out.lt r e).1)
                  go_wp2_with fail
                  go_meet
                  exact ⟨q.extract (o + 2) q.size, acc ++ q.data.toList.take o, rfl, by simp; omega, by rw [HY.out]; exact HN.out, by rw [HX.out.1] at hown'; rw [HX.out.2]; exact hown', hf1⟩
                · have k0 : (q.extract 0 o).size = o := by simp; omega
                  have k1 : acc.length + (q.extract 0 o).size ≤ maxLen := by unfold maxLen; omega
                  have k2 : acc.length + (q.extract 0 o).size ≤ 140737488355328 := by omega
                  have k3 : w2.heap.size ≤ wr.heap.size := HF.out.size
                  have HX := Lib.hid (text_take q o acc)
                  have HN := Lib.hid (textB_more HT2.out hN)
                  have HY := Lib.hid (Lib.extract_to_end q (o + 2))
                  have hdz : (d.toNat : Int) = 1 := by omega
                  have hqa : acc.length + (q.extract 0 o).size + 1 ≤ 140737488355328 := by omega
                  have HK := Lib.hid k0
                  clear hN k0
                  as_aux_lemma =>
                  go_upto_region 24 with (first | (go_at_call 35; refine (hcall _).mono ?_; rintro e w' ⟨rfl, rfl⟩) | (at_builtin; refine Lib.wpList_append_own_string _ rfl (.tmp 69) (.tmp 72) 42 9 rfl w2.heap.size 5 i0 Tryd.underlying42 Tryd.underlying9 hi hz0 hz1 hz2 _ _ _ rfl HO.out _ rfl k1 k2 k3 ?_; intro v' w1 hown' hgrow _))
                  have hf1 := HF.out.fresh hgrow (fun r e => Or.inl (HO.out.lt r e).1)
                  rw [HX.out.1] at hown'
                  have k5 : w2.heap.size ≤ w1.heap.size := hf1.size
                  go_wp2_with (at_builtin; refine wpList_append_own _ rfl (.tmp 84) (.tmp 85) 42 rfl w2.heap.size 5 i0 (.int .u8 0) 1 1 Tryd.underlying42 hi hz0 hz1 hz2 rfl (by decide) _ _ _ rfl (hown'.alloc _) ⟨w1.heap.size, 0, none⟩ 1 1 [.int .u8 0] rfl rfl (cell_one_new _ _ _) (ints_oneCell .u8 [0]) (by unfold maxLen; omega) (by omega) (by simp; omega) ?_; intro v'' w3 hown3 hgrow3 _)
                  have hf3 := (hf1.alloc _).fresh hgrow3 (fun r e => Or.inl (hown'.lt r e).1)
                  rw [bytesC_zero] at hown3
                  go_wp2_with fail
                  go_roundw
                  case rel => exact ⟨q.extract (o + 2) q.size, acc ++ q.data.toList.take o ++ [0], rfl, by have := HK.out; have h8 := HX.out.2; simp only [List.length_append, List.length_singleton] at h8 ⊢; simp; omega, by rw [HY.out]; exact HN.out, by have h8 := HX.out.2; rw [List.length_append, h8]; exact hown3, hf3⟩
                  case measure => simp [sLen]; omega
        case rest =>
          obtain ⟨q, acc, rfl, ha, hT, hown, hf⟩ := hcut
          have hconv := conv_own hown
          have HV := Lib.hid (valB_text HL.out h5.out hT)
          have hbb := hf.heap hb5 (by simp)
          obtain ⟨c0', c1', c2', y0', y1', y2'⟩ := blk3 hbb
          have hb2' := hf.heap hb2 (by simp)
          have hfw := fa.trans hf
          clear hT hown hf
          go_wp2_with fail
          go_meet
          exact ⟨⟨(c.toNat : Int) - 1, 0, acc⟩, q, rfl, by simp only; omega, hfw.setNew (by simp) _, (heap_setCell_other wc _ _ _ (by simp)).trans hb2', (heap_setCell_same wc _ _ _ _ _ hbb).trans rfl, HV.out⟩
    · have HV := Lib.hid (valB_else HL.out h)
      as_aux_lemma =>
      go_wp2_with fail
      all_goals go_meet
      all_goals exact ⟨⟨(c.toNat : Int) - 1, 0, []⟩, r, rfl, by simp, fa, hb2, hb5, HV.out⟩
  case rest =>
    obtain ⟨⟨k, i, t⟩, r, rfl, ht, hf, hb2', hb5', hV⟩ := hcut
    have HV := Lib.hid hV
    clear hb2 hb5 c0 c1 c2 y0 y1 y2 d0 d1 d2 z0 z1 z2 hV
    have e0 : wc.drew.cell? ⟨w.heap.size + 1, 0, none⟩ = some (.int .i64 k) := cell_blk hb5' 0 _ rfl
    have e1 : wc.drew.cell? ⟨w.heap.size + 1, 1, none⟩ = some (.int .i64 i) := cell_blk hb5' 1 _ rfl
    have e2 : wc.drew.cell? ⟨w.heap.size + 1, 2, none⟩ = some (.string ⟨t.toArray⟩) := cell_blk hb5' 2 _ rfl
    go_wp2_with fail
    have hsz : (⟨t.toArray⟩ : ByteArray).size ≤ 9223372036854775807 := by
      have : (⟨t.toArray⟩ : ByteArray).size = t.length := by simp [ByteArray.size]
      have ht2 : t.length ≤ 9223372036854775807 := ht
      omega
    have hT2 := tabs_fr HT.out (Fr.drew hf) (by simp) (by simp)
    have hb2d : wc.drew.heap[w.heap.size]? = _ := hb2'
    go_region_held3 (fun v => v.cell? ⟨w.heap.size + 1, 0, none⟩ = some (.int .i64 k) ∧ v.cell? ⟨w.heap.size + 1, 1, none⟩ = some (.int .i64 i) ∧ v.cell? ⟨w.heap.size + 1, 2, none⟩ = some (.string ⟨t.toArray⟩)) (first | exact ⟨e0, e1, e2⟩ | exact ⟨k0, k1, k2⟩ | go_keep) (first | (go_at_call 25; refine (dright_any k i ⟨t.toArray⟩ _ hsz hT2).mono ?_; rintro e w5 ⟨rfl, f5⟩; have k0 := f5.cell e0 (by simp); have k1 := f5.cell e1 (by simp); have k2 := f5.cell e2 (by simp); have hb25 := f5.heap hb2d (by simp); obtain ⟨z0, z1, z2, y0, y1, y2⟩ := blk3 hb25))
    go_wp2_with fail
    refine bodyPost_ret (v := .tuple #[.agg #[.int .i64 k, .int .i64 i, .string ⟨t.toArray⟩], .string r, .bool (rightB ⟨k, i, t⟩)]) ?_ rfl ⟨⟨⟨k, i, t⟩, r, _, rfl, HV.out⟩, ?_⟩
    · simp [results, Tryd.results20, go_sem, *]
    · exact (((hf.drew.trans f5).setNew (by simp) _).setNew (by simp) _).setNew (by simp) _
end Go.Proofs.YtpcmibimglkocaaDoor
