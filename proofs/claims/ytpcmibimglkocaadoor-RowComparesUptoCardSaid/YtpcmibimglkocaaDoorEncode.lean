/- row.Encode: a row's bytes, or why it has none. No condition but the size that can be read, and that the tables of package utf8 and the variable MaxLen lie as their text lays them. -/
import Derived.Test.YtpcmibimglkocaaDoorEight
import Derived.Test.YtpcmibimglkocaaDoorRepl
import Derived.Lib.SplitLaws
namespace Go.Proofs.YtpcmibimglkocaaDoor
open Go.RowKit

def SomeMax (w : World) : Prop := ∃ m, w.cell? ⟨2, 0, none⟩ = some (.int .i64 m)
theorem SomeMax.fr {w w' : World} (h : SomeMax w) (f : Fr [] w w') : SomeMax w' := by
  obtain ⟨m, h⟩ := h
  exact ⟨m, f.cell h (by simp)⟩

theorem repl_any (s : ByteArray) (w : World) (hs : s.size ≤ 1000) (hM : SomeMax w) :
    Calls Tryd.prog 27 #[.string s, .string ⟨#[0]⟩, .string ⟨#[0, 1]⟩] w fun e w' => e = .returned (.string ⟨(escB s.data.toList).toArray⟩) ∧ Fr [] w w' := by
  obtain ⟨m, hm⟩ := hM
  have hc := Lib.countB_le ⟨#[0]⟩ (by decide) s.size s (Nat.le_refl _)
  have h2 : (⟨#[0, 1]⟩ : ByteArray).size = 2 := rfl
  refine (Tryd.strings_ReplaceAll s ⟨#[0]⟩ ⟨#[0, 1]⟩ m w (by omega) hm (by decide) (by rw [h2]; omega)).mono ?_
  rintro e w' ⟨rfl, hb⟩
  refine ⟨?_, Fr.ofBelow hb⟩
  have : Lib.replaceAll s.data.toList (⟨#[0]⟩ : ByteArray).data.toList (⟨#[0, 1]⟩ : ByteArray).data.toList = escB s.data.toList := replaceAll_esc _
  rw [this]

def EncW (ds : List Dt) (w : World) (a4 a12 : Value) (wr : World) : Prop :=
  ∃ k : Nat, k ≤ ds.length ∧ a12 = .int .i64 k ∧ (∀ d ∈ ds.take k, rightB d = true) ∧ wr.ownsRow w.heap.size 5 1 a4 (encR (ds.take k)).length (bytesC (encR (ds.take k))) ∧ Fr [] w wr

theorem heap_keep {w2 w5 w3 : World} {o x : Obj} {t6 : Nat} {v : Value} (h : w2.heap[t6]? = some o) (f : Fr [] w2 w5) (hg : (w5.alloc x).grownBy w3 v.ownBlock) (hx : ∀ g, v.ownBlock = some g → g < t6) : w3.heap[t6]? = some o := by
  have h5 := (f.alloc x).heap h (by simp)
  have h6 : Fr v.ownBlock.toList (w5.alloc x) w3 := Fr.grown hg
  exact h6.heap h5 (fun hm => by have := hx t6 (by simpa using hm); omega)

set_option maxRecDepth 100000
set_option maxHeartbeats 6400000 in
theorem encode_any {w : World} {v : Value} {ds : List Dt} (h : RowAt w v ds) (hok : ∀ d ∈ ds, DtOk d) (hm : ds.length ≤ 140737488351232) (hT : Lib.Utf8Tabs 0 1 w) (hM : SomeMax w) :
    Calls Tryd.prog 14 #[v] w fun e w' => e = .returned (.tuple #[.string ⟨(encE ds).1.toArray⟩, .int .i64 (encE ds).2]) ∧ Fr [] w w' := by
  obtain ⟨i0, hi, hz0, hz1, hz2⟩ := info_parts info5
  obtain ⟨aa, ac, rfl, hac⟩ := h.shape
  have H := Lib.hid h
  have HOK := Lib.hid hok
  have HT := Lib.hid hT
  have HM := Lib.hid hM
  clear h hok hT hM
  by_cases hl : 1000 < ds.length
  · have HE := Lib.hid (show encE ds = ([], 2) by rw [encE, if_pos hl])
    go_enter Tryd.func14, Tryd.ntmps14
    go_wp2_with fail
    go_ret2
    exact ⟨by rw [HE.out]; rfl, Fr.refl _ _⟩
  · have hl1 : ds.length ≤ 1000 := by omega
    clear hl
    go_enter Tryd.func14, Tryd.ntmps14
    go_wp2_with fail
    go_loopw [4, 12] (fun a4 a12 wr => EncW ds w a4 a12 wr) (fun _ a12 _ => ds.length - (intOf a12).toNat)
    case atStart => exact ⟨0, Nat.zero_le _, rfl, by simp, World.ownsRow_nil _ _ _ _, Fr.refl _ _⟩
    case round =>
      obtain ⟨k, hk, rfl, hall, hown, hf⟩ := hrel
      have hel := encR_len _ hall
      have htl : (ds.take k).length ≤ 1000 := by rw [List.length_take]; omega
      have HA := Lib.hid hall
      have HF := Lib.hid hf
      have HO := Lib.hid hown
      have k3 := hf.size
      generalize hE : encR (ds.take k) = es at *
      have HE := Lib.hid hE
      have hes : es.length ≤ 2003000 := by omega
      clear hall hf hown hE
      by_cases hlt : k < ds.length
      · obtain ⟨b1, o1, he1, x0, x1, x2⟩ := (H.out.fr HF.out).at hlt
        subst he1
        have hdok := HOK.out _ (List.getElem_mem hlt)
        have HTk := Lib.hid (show ds.take (k + 1) = ds.take k ++ [ds[k]] by rw [List.take_add_one, List.getElem?_eq_getElem hlt]; rfl)
        have HMem := Lib.hid (List.getElem_mem hlt)
        generalize ds[k] = d at *
        obtain ⟨dk, di, dS⟩ := d
        have hf64 := hdok.1
        have hdl : (⟨dS.toArray⟩ : ByteArray).size ≤ 9223372036854775807 := by rw [size_mk]; have := hdok.2; simp only at this; omega
        clear hdok
        go_upto_region 7 with fail
        have hblk := heap_alloc_new wr (.cells #[.int .i64 dk, .int .i64 di, .string ⟨dS.toArray⟩] 32)
        have HF2 := Lib.hid (HF.out.alloc (.cells #[.int .i64 dk, .int .i64 di, .string ⟨dS.toArray⟩] 32))
        have HO2 := Lib.hid (HO.out.alloc (.cells #[.int .i64 dk, .int .i64 di, .string ⟨dS.toArray⟩] 32))
        generalize wr.alloc (.cells #[.int .i64 dk, .int .i64 di, .string ⟨dS.toArray⟩] 32) = w2 at *
        have HX := Lib.hid (fun g (e : (u4 : Value).ownBlock = some g) => (HO.out.lt g e).2)
        generalize wr.heap.size = t6 at *
        obtain ⟨c0, c1, c2, y0, y1, y2⟩ := blk3 hblk
        have HBlk := Lib.hid hblk
        clear hblk x0 x1 x2
        have hr := dright_any dk di ⟨dS.toArray⟩ w2 hdl (tabs_fr HT.out HF2.out (by simp) (by simp))
        cases hrb : rightB ⟨dk, di, dS⟩
        · have HN := Lib.hid (show encE ds = ([], 1) by
            rw [encE, if_neg (by omega), if_neg]
            intro ha
            have := List.all_eq_true.1 ha _ HMem.out
            rw [hrb] at this; cases this)
          have hr2 : Calls Tryd.prog 25 #[.agg #[.int .i64 dk, .int .i64 di, .string ⟨dS.toArray⟩]] w2 fun e w' => e = .returned (.bool false) ∧ Fr [] w2 w' := hr.mono fun e w' ⟨he, f⟩ => ⟨by rw [he]; exact ret_bool hrb, f⟩
          clear hr hrb
          as_aux_lemma =>
          go_wp2_with (go_at_call 25; refine hr2.mono ?_; rintro e w5 ⟨rfl, f5⟩)
          go_ret2
          exact ⟨by rw [HN.out]; rfl, HF2.out.trans f5⟩
        · have hr2 : Calls Tryd.prog 25 #[.agg #[.int .i64 dk, .int .i64 di, .string ⟨dS.toArray⟩]] w2 fun e w' => e = .returned (.bool true) ∧ Fr [] w2 w' := hr.mono fun e w' ⟨he, f⟩ => ⟨by rw [he]; exact ret_bool hrb, f⟩
          have HL := Lib.hid (encV_len hrb)
          have HRb := Lib.hid hrb
          have HRel : Hid (∀ (v3 : Value) (w3 : World), w3.ownsRow w.heap.size 5 1 v3 (es ++ encV ⟨dk, di, dS⟩).length (bytesC (es ++ encV ⟨dk, di, dS⟩)) → Fr [] w w3 → EncW ds w v3 (.int .i64 ((k : Int) + 1)) w3) := Lib.hid fun v3 w3 ho hf => ⟨k + 1, by omega, by go_num, by
              rw [HTk.out]; intro d hd
              rcases List.mem_append.1 hd with hd | hd
              · exact HA.out d hd
              · rw [List.mem_singleton.1 hd]; exact hrb, by
              rw [HTk.out, show encR (ds.take k ++ [(⟨dk, di, dS⟩ : Dt)]) = es ++ encV ⟨dk, di, dS⟩ by rw [← HE.out]; simp [encR]]
              exact ho, hf⟩
          have hcs := right_cases hrb
          simp only at hcs
          clear hr hrb HTk HMem HA HE HL
          have k5 := HF2.out.size
          rcases hcs with ⟨rfl, rfl, hn⟩ | ⟨rfl, hi1, hn⟩ | ⟨hk2, hn⟩ | ⟨hk2, rfl, hs1⟩
          · clear hn
            as_aux_lemma =>
              go_upto_region 11 with (first | (go_at_call 25; refine hr2.mono ?_; rintro e w5 ⟨rfl, f5⟩; have q5 := f5.size; have HO5 := Lib.hid (ownsRow_fr HO2.out f5 (by simp)); obtain ⟨c0', c1', c2', y0', y1', y2'⟩ := blk3 (f5.heap HBlk.out (by simp))) | (at_builtin; refine wpList_append_own _ rfl (.tmp 19) (.tmp 24) 42 rfl w.heap.size 5 i0 (.int .u8 0) 1 1 Tryd.underlying42 hi hz0 hz1 hz2 rfl (by decide) _ _ _ rfl (HO5.out.alloc _) ⟨w5.heap.size, 0, none⟩ 1 1 [.int .u8 1] rfl rfl (cell_one_new _ _ _) (ints_oneCell .u8 [1]) (by unfold maxLen; omega) (by omega) (by simp; omega) ?_; intro v3 w3 hown3 hgrow3 _; have HF3 := Lib.hid (((HF2.out.trans f5).alloc (.cells #[.int .u8 1] 5)).fresh hgrow3 (fun r e => Or.inl (HO5.out.lt r e).1)); have HO3 := Lib.hid hown3; have HB3 := Lib.hid (heap_keep HBlk.out f5 hgrow3 HX.out); obtain ⟨c0'', c1'', c2'', y0'', y1'', y2''⟩ := blk3 HB3.out; have q6 := HF3.out.size; clear hown3 hgrow3))
              go_wp2_with fail
              go_roundw
              case rel => exact HRel.out _ _ (by simpa [bytesC, encV] using HO3.out) HF3.out
              case measure => simp [intOf]; omega
          · clear hn
            rcases hi1 with rfl | rfl
            · as_aux_lemma =>
              go_upto_region 11 with (first | (go_at_call 25; refine hr2.mono ?_; rintro e w5 ⟨rfl, f5⟩; have q5 := f5.size; have HO5 := Lib.hid (ownsRow_fr HO2.out f5 (by simp)); obtain ⟨c0', c1', c2', y0', y1', y2'⟩ := blk3 (f5.heap HBlk.out (by simp))) | (at_builtin; refine wpList_append_own _ rfl (.tmp 19) (.tmp 24) 42 rfl w.heap.size 5 i0 (.int .u8 0) 1 1 Tryd.underlying42 hi hz0 hz1 hz2 rfl (by decide) _ _ _ rfl (HO5.out.alloc _) ⟨w5.heap.size, 0, none⟩ 1 1 [.int .u8 2] rfl rfl (cell_one_new _ _ _) (ints_oneCell .u8 [2]) (by unfold maxLen; omega) (by omega) (by simp; omega) ?_; intro v3 w3 hown3 hgrow3 _; have HF3 := Lib.hid (((HF2.out.trans f5).alloc (.cells #[.int .u8 2] 5)).fresh hgrow3 (fun r e => Or.inl (HO5.out.lt r e).1)); have HO3 := Lib.hid hown3; have HB3 := Lib.hid (heap_keep HBlk.out f5 hgrow3 HX.out); obtain ⟨c0'', c1'', c2'', y0'', y1'', y2''⟩ := blk3 HB3.out; have q6 := HF3.out.size; clear hown3 hgrow3))
              go_wp2_with (at_builtin; refine wpList_append_own _ rfl (.tmp 30) (.tmp 34) 42 rfl w.heap.size 5 i0 (.int .u8 0) 1 1 Tryd.underlying42 hi hz0 hz1 hz2 rfl (by decide) _ _ _ rfl (HO3.out.alloc _) ⟨w3.heap.size, 0, none⟩ 1 1 [.int .u8 0] rfl rfl (cell_one_new _ _ _) (ints_oneCell .u8 [0]) (by unfold maxLen; omega) (by omega) (by simp; omega) ?_; intro v4 w4 hown4 hgrow4 _)
              have hf4 := (HF3.out.alloc _).fresh hgrow4 (fun r e => Or.inl (HO3.out.lt r e).1)
              go_wp2_with fail
              go_roundw
              case rel => exact HRel.out _ _ (by simpa [bytesC, encV] using hown4) hf4
              case measure => simp [intOf]; omega
            · as_aux_lemma =>
              go_upto_region 11 with (first | (go_at_call 25; refine hr2.mono ?_; rintro e w5 ⟨rfl, f5⟩; have q5 := f5.size; have HO5 := Lib.hid (ownsRow_fr HO2.out f5 (by simp)); obtain ⟨c0', c1', c2', y0', y1', y2'⟩ := blk3 (f5.heap HBlk.out (by simp))) | (at_builtin; refine wpList_append_own _ rfl (.tmp 19) (.tmp 24) 42 rfl w.heap.size 5 i0 (.int .u8 0) 1 1 Tryd.underlying42 hi hz0 hz1 hz2 rfl (by decide) _ _ _ rfl (HO5.out.alloc _) ⟨w5.heap.size, 0, none⟩ 1 1 [.int .u8 2] rfl rfl (cell_one_new _ _ _) (ints_oneCell .u8 [2]) (by unfold maxLen; omega) (by omega) (by simp; omega) ?_; intro v3 w3 hown3 hgrow3 _; have HF3 := Lib.hid (((HF2.out.trans f5).alloc (.cells #[.int .u8 2] 5)).fresh hgrow3 (fun r e => Or.inl (HO5.out.lt r e).1)); have HO3 := Lib.hid hown3; have HB3 := Lib.hid (heap_keep HBlk.out f5 hgrow3 HX.out); obtain ⟨c0'', c1'', c2'', y0'', y1'', y2''⟩ := blk3 HB3.out; have q6 := HF3.out.size; clear hown3 hgrow3))
              go_wp2_with (at_builtin; refine wpList_append_own _ rfl (.tmp 30) (.tmp 34) 42 rfl w.heap.size 5 i0 (.int .u8 0) 1 1 Tryd.underlying42 hi hz0 hz1 hz2 rfl (by decide) _ _ _ rfl (HO3.out.alloc _) ⟨w3.heap.size, 0, none⟩ 1 1 [.int .u8 1] rfl rfl (cell_one_new _ _ _) (ints_oneCell .u8 [1]) (by unfold maxLen; omega) (by omega) (by simp; omega) ?_; intro v4 w4 hown4 hgrow4 _)
              have hf4 := (HF3.out.alloc _).fresh hgrow4 (fun r e => Or.inl (HO3.out.lt r e).1)
              go_wp2_with fail
              go_roundw
              case rel => exact HRel.out _ _ (by simpa [bytesC, encV] using hown4) hf4
              case measure => simp [intOf]; omega
          · clear hn
            have he := fun wi => eight_any di wi hf64
            rcases hk2 with rfl | rfl
            · as_aux_lemma =>
              go_upto_region 11 with (first | (go_at_call 25; refine hr2.mono ?_; rintro e w5 ⟨rfl, f5⟩; have q5 := f5.size; have HO5 := Lib.hid (ownsRow_fr HO2.out f5 (by simp)); obtain ⟨c0', c1', c2', y0', y1', y2'⟩ := blk3 (f5.heap HBlk.out (by simp))) | (at_builtin; refine wpList_append_own _ rfl (.tmp 19) (.tmp 24) 42 rfl w.heap.size 5 i0 (.int .u8 0) 1 1 Tryd.underlying42 hi hz0 hz1 hz2 rfl (by decide) _ _ _ rfl (HO5.out.alloc _) ⟨w5.heap.size, 0, none⟩ 1 1 [.int .u8 3] rfl rfl (cell_one_new _ _ _) (ints_oneCell .u8 [3]) (by unfold maxLen; omega) (by omega) (by simp; omega) ?_; intro v3 w3 hown3 hgrow3 _; have HF3 := Lib.hid (((HF2.out.trans f5).alloc (.cells #[.int .u8 3] 5)).fresh hgrow3 (fun r e => Or.inl (HO5.out.lt r e).1)); have HO3 := Lib.hid hown3; have HB3 := Lib.hid (heap_keep HBlk.out f5 hgrow3 HX.out); obtain ⟨c0'', c1'', c2'', y0'', y1'', y2''⟩ := blk3 HB3.out; have q6 := HF3.out.size; clear hown3 hgrow3))
              go_wp2_with (first | (go_at_call 26; refine (he _).mono ?_; rintro e w6 ⟨⟨v6, rfl, ho6⟩, f6⟩; have HS6 := Lib.hid (Src.row ho6 (bytesC_one _)); have HO6 := Lib.hid (ownsRow_fr HO3.out f6 (by simp)); have q7 := f6.size; clear ho6) | (at_builtin; refine wpList_append_src _ rfl (.tmp 39) (.tmp 42) 42 rfl w.heap.size 5 i0 (.int .u8 0) 1 1 Tryd.underlying42 hi hz0 hz1 hz2 rfl (by decide) _ _ _ rfl HO6.out _ 8 _ rfl HS6.out (by unfold maxLen; omega) (by omega) (by omega) ?_; intro v4 w4 hown4 hgrow4 _))
              have hf4 := (HF3.out.trans f6).fresh hgrow4 (fun r e => Or.inl (HO6.out.lt r e).1)
              go_wp2_with fail
              go_roundw
              case rel => exact HRel.out _ _ (by simpa [bytesC, encV, eightB, bytesN_len, Nat.add_assoc] using hown4) hf4
              case measure => simp [intOf]; omega
            · as_aux_lemma =>
              go_upto_region 11 with (first | (go_at_call 25; refine hr2.mono ?_; rintro e w5 ⟨rfl, f5⟩; have q5 := f5.size; have HO5 := Lib.hid (ownsRow_fr HO2.out f5 (by simp)); obtain ⟨c0', c1', c2', y0', y1', y2'⟩ := blk3 (f5.heap HBlk.out (by simp))) | (at_builtin; refine wpList_append_own _ rfl (.tmp 19) (.tmp 24) 42 rfl w.heap.size 5 i0 (.int .u8 0) 1 1 Tryd.underlying42 hi hz0 hz1 hz2 rfl (by decide) _ _ _ rfl (HO5.out.alloc _) ⟨w5.heap.size, 0, none⟩ 1 1 [.int .u8 4] rfl rfl (cell_one_new _ _ _) (ints_oneCell .u8 [4]) (by unfold maxLen; omega) (by omega) (by simp; omega) ?_; intro v3 w3 hown3 hgrow3 _; have HF3 := Lib.hid (((HF2.out.trans f5).alloc (.cells #[.int .u8 4] 5)).fresh hgrow3 (fun r e => Or.inl (HO5.out.lt r e).1)); have HO3 := Lib.hid hown3; have HB3 := Lib.hid (heap_keep HBlk.out f5 hgrow3 HX.out); obtain ⟨c0'', c1'', c2'', y0'', y1'', y2''⟩ := blk3 HB3.out; have q6 := HF3.out.size; clear hown3 hgrow3))
              go_wp2_with (first | (go_at_call 26; refine (he _).mono ?_; rintro e w6 ⟨⟨v6, rfl, ho6⟩, f6⟩; have HS6 := Lib.hid (Src.row ho6 (bytesC_one _)); have HO6 := Lib.hid (ownsRow_fr HO3.out f6 (by simp)); have q7 := f6.size; clear ho6) | (at_builtin; refine wpList_append_src _ rfl (.tmp 39) (.tmp 42) 42 rfl w.heap.size 5 i0 (.int .u8 0) 1 1 Tryd.underlying42 hi hz0 hz1 hz2 rfl (by decide) _ _ _ rfl HO6.out _ 8 _ rfl HS6.out (by unfold maxLen; omega) (by omega) (by omega) ?_; intro v4 w4 hown4 hgrow4 _))
              have hf4 := (HF3.out.trans f6).fresh hgrow4 (fun r e => Or.inl (HO6.out.lt r e).1)
              go_wp2_with fail
              go_roundw
              case rel => exact HRel.out _ _ (by simpa [bytesC, encV, eightB, bytesN_len, Nat.add_assoc] using hown4) hf4
              case measure => simp [intOf]; omega
          · have hel2 := encV_textlen dS
            have hss : (⟨dS.toArray⟩ : ByteArray).size ≤ 1000 := by rw [size_mk]; exact hs1
            have hre := fun wi => repl_any ⟨dS.toArray⟩ wi hss
            have hsz2 : (⟨(escB dS).toArray⟩ : ByteArray).size ≤ 2000 := by rw [size_mk]; omega
            have HSz2 := Lib.hid (size_mk (escB dS))
            rcases hk2 with rfl | rfl
            · as_aux_lemma =>
              go_upto_region 11 with (first | (go_at_call 25; refine hr2.mono ?_; rintro e w5 ⟨rfl, f5⟩; have q5 := f5.size; have HO5 := Lib.hid (ownsRow_fr HO2.out f5 (by simp)); obtain ⟨c0', c1', c2', y0', y1', y2'⟩ := blk3 (f5.heap HBlk.out (by simp))) | (at_builtin; refine wpList_append_own _ rfl (.tmp 19) (.tmp 24) 42 rfl w.heap.size 5 i0 (.int .u8 0) 1 1 Tryd.underlying42 hi hz0 hz1 hz2 rfl (by decide) _ _ _ rfl (HO5.out.alloc _) ⟨w5.heap.size, 0, none⟩ 1 1 [.int .u8 5] rfl rfl (cell_one_new _ _ _) (ints_oneCell .u8 [5]) (by unfold maxLen; omega) (by omega) (by simp; omega) ?_; intro v3 w3 hown3 hgrow3 _; have HF3 := Lib.hid (((HF2.out.trans f5).alloc (.cells #[.int .u8 5] 5)).fresh hgrow3 (fun r e => Or.inl (HO5.out.lt r e).1)); have HO3 := Lib.hid hown3; have HB3 := Lib.hid (heap_keep HBlk.out f5 hgrow3 HX.out); obtain ⟨c0'', c1'', c2'', y0'', y1'', y2''⟩ := blk3 HB3.out; have q6 := HF3.out.size; clear hown3 hgrow3))
              go_wp2_with (first | (go_at_call 27; refine (hre _ (HM.out.fr HF3.out)).mono ?_; rintro e w6 ⟨rfl, f6⟩; have HO6 := Lib.hid (ownsRow_fr HO3.out f6 (by simp)); have q7 := f6.size) | (at_builtin; refine Lib.wpList_append_own_string _ rfl (.tmp 47) (.tmp 50) 42 9 rfl w.heap.size 5 i0 Tryd.underlying42 Tryd.underlying9 hi hz0 hz1 hz2 _ _ _ rfl HO6.out _ rfl (by unfold maxLen; omega) (by omega) (by omega) ?_; intro v7 w7 hown7 hgrow7 _; have HF7 := Lib.hid ((HF3.out.trans f6).fresh hgrow7 (fun r e => Or.inl (HO6.out.lt r e).1)); have HO7 := Lib.hid hown7; have q8 := HF7.out.size; clear hown7 hgrow7) | (at_builtin; refine wpList_append_own _ rfl (.tmp 51) (.tmp 52) 42 rfl w.heap.size 5 i0 (.int .u8 0) 1 1 Tryd.underlying42 hi hz0 hz1 hz2 rfl (by decide) _ _ _ rfl (HO7.out.alloc _) ⟨w7.heap.size, 0, none⟩ 2 2 [.int .u8 0, .int .u8 0] rfl rfl (cell_two_new _ _ _ _) (ints_oneCell .u8 [0, 0]) (by unfold maxLen; omega) (by omega) (by simp; omega) ?_; intro v4 w4 hown4 hgrow4 _))
              have hf4 := (HF7.out.alloc _).fresh hgrow4 (fun r e => Or.inl (HO7.out.lt r e).1)
              rw [HSz2.out] at hown4
              go_wp2_with fail
              go_roundw
              case rel => exact HRel.out _ _ (by simpa [bytesC, encV, Lib.strCells, Nat.add_assoc, show 1 + ((escB dS).length + 2) = (escB dS).length + 3 by omega] using hown4) hf4
              case measure => simp [intOf]; omega
            · as_aux_lemma =>
              go_upto_region 11 with (first | (go_at_call 25; refine hr2.mono ?_; rintro e w5 ⟨rfl, f5⟩; have q5 := f5.size; have HO5 := Lib.hid (ownsRow_fr HO2.out f5 (by simp)); obtain ⟨c0', c1', c2', y0', y1', y2'⟩ := blk3 (f5.heap HBlk.out (by simp))) | (at_builtin; refine wpList_append_own _ rfl (.tmp 19) (.tmp 24) 42 rfl w.heap.size 5 i0 (.int .u8 0) 1 1 Tryd.underlying42 hi hz0 hz1 hz2 rfl (by decide) _ _ _ rfl (HO5.out.alloc _) ⟨w5.heap.size, 0, none⟩ 1 1 [.int .u8 6] rfl rfl (cell_one_new _ _ _) (ints_oneCell .u8 [6]) (by unfold maxLen; omega) (by omega) (by simp; omega) ?_; intro v3 w3 hown3 hgrow3 _; have HF3 := Lib.hid (((HF2.out.trans f5).alloc (.cells #[.int .u8 6] 5)).fresh hgrow3 (fun r e => Or.inl (HO5.out.lt r e).1)); have HO3 := Lib.hid hown3; have HB3 := Lib.hid (heap_keep HBlk.out f5 hgrow3 HX.out); obtain ⟨c0'', c1'', c2'', y0'', y1'', y2''⟩ := blk3 HB3.out; have q6 := HF3.out.size; clear hown3 hgrow3))
              go_wp2_with (first | (go_at_call 27; refine (hre _ (HM.out.fr HF3.out)).mono ?_; rintro e w6 ⟨rfl, f6⟩; have HO6 := Lib.hid (ownsRow_fr HO3.out f6 (by simp)); have q7 := f6.size) | (at_builtin; refine Lib.wpList_append_own_string _ rfl (.tmp 47) (.tmp 50) 42 9 rfl w.heap.size 5 i0 Tryd.underlying42 Tryd.underlying9 hi hz0 hz1 hz2 _ _ _ rfl HO6.out _ rfl (by unfold maxLen; omega) (by omega) (by omega) ?_; intro v7 w7 hown7 hgrow7 _; have HF7 := Lib.hid ((HF3.out.trans f6).fresh hgrow7 (fun r e => Or.inl (HO6.out.lt r e).1)); have HO7 := Lib.hid hown7; have q8 := HF7.out.size; clear hown7 hgrow7) | (at_builtin; refine wpList_append_own _ rfl (.tmp 51) (.tmp 52) 42 rfl w.heap.size 5 i0 (.int .u8 0) 1 1 Tryd.underlying42 hi hz0 hz1 hz2 rfl (by decide) _ _ _ rfl (HO7.out.alloc _) ⟨w7.heap.size, 0, none⟩ 2 2 [.int .u8 0, .int .u8 0] rfl rfl (cell_two_new _ _ _ _) (ints_oneCell .u8 [0, 0]) (by unfold maxLen; omega) (by omega) (by simp; omega) ?_; intro v4 w4 hown4 hgrow4 _))
              have hf4 := (HF7.out.alloc _).fresh hgrow4 (fun r e => Or.inl (HO7.out.lt r e).1)
              rw [HSz2.out] at hown4
              go_wp2_with fail
              go_roundw
              case rel => exact HRel.out _ _ (by simpa [bytesC, encV, Lib.strCells, Nat.add_assoc, show 1 + ((escB dS).length + 2) = (escB dS).length + 3 by omega] using hown4) hf4
              case measure => simp [intOf]; omega
      · have hkl : k = ds.length := by omega
        have HN := Lib.hid (show encE ds = (es, 0) by
          have h1 : ds.take k = ds := List.take_of_length_le (by omega)
          have h2 := HA.out
          have h3 := HE.out
          rw [h1] at h2 h3
          rw [encE, if_neg (by omega), if_pos (List.all_eq_true.2 h2), h3])
        have hconv := conv_own HO.out
        go_wp2_with fail
        go_ret2
        exact ⟨by rw [HN.out]; rfl, HF.out⟩
end Go.Proofs.YtpcmibimglkocaaDoor
