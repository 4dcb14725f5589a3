/- freshetref02.Encode: a row's bytes, or why it has none. No condition but the size that can be read. -/
import Derived.Test.YtpcmibimglkocaaDoorRval
namespace Go.Proofs.YtpcmibimglkocaaDoor
open Go.RowKit

/-- What a row is written as, and the error's number. -/
def encE (ds : List Dt) : List UInt8 × Int := if 1000 < ds.length then ([], 2) else if ds.all rightB then (encR ds, 0) else ([], 1)

theorem size_mk (l : List UInt8) : (⟨l.toArray⟩ : ByteArray).size = l.length := by simp [ByteArray.size]

def RencR (ds : List Dt) (w : World) (a4 a13 : Value) (wr : World) : Prop :=
  ∃ k : Nat, k ≤ ds.length ∧ a13 = .int .i64 k ∧ (∀ d ∈ ds.take k, rightB d = true) ∧ wr.ownsRow w.heap.size 5 1 a4 (encR (ds.take k)).length (bytesC (encR (ds.take k))) ∧ Fr [] w wr

set_option maxRecDepth 100000
set_option maxHeartbeats 1600000 in
theorem rencode_any {w : World} {v : Value} {ds : List Dt} (h : RowAt w v ds) (hok : ∀ d ∈ ds, DtOk d) (hm : ds.length ≤ 140737488351232) :
    Calls Tryd.prog 13 #[v] w fun e w' => e = .returned (.tuple #[.string ⟨(encE ds).1.toArray⟩, .int .i64 (encE ds).2]) ∧ Fr [] w w' := by
  obtain ⟨i0, hi, hz0, hz1, hz2⟩ := info_parts info5
  obtain ⟨aa, ac, rfl, hac⟩ := h.shape
  have H := Lib.hid h
  have HOK := Lib.hid hok
  clear h hok
  by_cases hl : 1000 < ds.length
  · have HE := Lib.hid (show encE ds = ([], 2) by rw [encE, if_pos hl])
    go_enter Tryd.func13, Tryd.ntmps13
    go_wp2_with fail
    go_ret2
    exact ⟨by rw [HE.out]; rfl, Fr.refl _ _⟩
  · have hl1 : ds.length ≤ 1000 := by omega
    clear hl
    go_enter Tryd.func13, Tryd.ntmps13
    go_wp2_with fail
    go_loopw [4, 13] (fun a4 a13 wr => RencR ds w a4 a13 wr) (fun _ a13 _ => ds.length - (intOf a13).toNat)
    case atStart => exact ⟨0, Nat.zero_le _, rfl, by simp, World.ownsRow_made w #[] 0 (Nat.le_refl _) (by decide) rfl, (Fr.refl _ _).alloc _⟩
    case round =>
      obtain ⟨k, hk, rfl, hall, hown, hf⟩ := hrel
      have hel := encR_len _ hall
      have htl : (ds.take k).length ≤ 1000 := by rw [List.length_take]; omega
      have HA := Lib.hid hall
      have HF := Lib.hid hf
      have HO := Lib.hid hown
      have k3 := hf.size
      generalize hE : encR (ds.take k) = es at *
      have HE := Lib.hid hE
      have hes : es.length ≤ 2003000 := by omega
      clear hall hf hown hE
      by_cases hlt : k < ds.length
      · obtain ⟨b1, o1, he1, x0, x1, x2⟩ := (H.out.fr HF.out).at hlt
        subst he1
        have hdok := HOK.out _ (List.getElem_mem hlt)
        have HTk := Lib.hid (show ds.take (k + 1) = ds.take k ++ [ds[k]] by rw [List.take_add_one, List.getElem?_eq_getElem hlt]; rfl)
        have HMem := Lib.hid (List.getElem_mem hlt)
        generalize ds[k] = d at *
        obtain ⟨dk, di, dS⟩ := d
        have hf64 := hdok.1
        have hdl : (⟨dS.toArray⟩ : ByteArray).size ≤ 140737488351232 := by rw [size_mk]; exact hdok.2
        have HDok := Lib.hid hdok
        clear hdok
        go_upto_region 7 with fail
        have hblk := heap_alloc_new wr (.cells #[.int .i64 dk, .int .i64 di, .string ⟨dS.toArray⟩] 32)
        have HF2 := Lib.hid (HF.out.alloc (.cells #[.int .i64 dk, .int .i64 di, .string ⟨dS.toArray⟩] 32))
        have HO2 := Lib.hid (HO.out.alloc (.cells #[.int .i64 dk, .int .i64 di, .string ⟨dS.toArray⟩] 32))
        generalize wr.alloc (.cells #[.int .i64 dk, .int .i64 di, .string ⟨dS.toArray⟩] 32) = w2 at *
        obtain ⟨c0, c1, c2, y0, y1, y2⟩ := blk3 hblk
        have hr := rright_any dk di ⟨dS.toArray⟩ w2 hdl
        cases hrb : rightB ⟨dk, di, dS⟩
        · have HN := Lib.hid (show encE ds = ([], 1) by
            rw [encE, if_neg (by omega), if_neg]
            intro ha
            have := List.all_eq_true.1 ha _ HMem.out
            rw [hrb] at this; cases this)
          have hr2 : Calls Tryd.prog 23 #[.agg #[.int .i64 dk, .int .i64 di, .string ⟨dS.toArray⟩]] w2 fun e w' => e = .returned (.bool false) ∧ Fr [] w2 w' := hr.mono fun e w' ⟨he, f⟩ => ⟨by rw [he]; exact ret_bool hrb, f⟩
          clear hr hrb
          go_wp2_with (go_at_call 23; refine hr2.mono ?_; rintro e w5 ⟨rfl, f5⟩)
          go_ret2
          exact ⟨by rw [HN.out]; rfl, HF2.out.trans f5⟩
        · have hr2 : Calls Tryd.prog 23 #[.agg #[.int .i64 dk, .int .i64 di, .string ⟨dS.toArray⟩]] w2 fun e w' => e = .returned (.bool true) ∧ Fr [] w2 w' := hr.mono fun e w' ⟨he, f⟩ => ⟨by rw [he]; exact ret_bool hrb, f⟩
          have hv := fun wi => rvalue_any dk di ⟨dS.toArray⟩ wi hrb hf64 (by
            rw [size_mk]
            rcases right_cases hrb with h | h | h | h
            · simp only at h; simp [h.2.2]
            · simp only at h; simp [h.2.2]
            · simp only at h; simp [h.2]
            · exact h.2.2)
          have HL := Lib.hid (encV_len hrb)
          have HRb := Lib.hid hrb
          clear hr hrb
          go_wp2_with (first | (go_at_call 23; refine hr2.mono ?_; rintro e w5 ⟨rfl, f5⟩; obtain ⟨c0', c1', c2', y0', y1', y2'⟩ := blk3 (f5.heap hblk (by simp))) | (go_at_call 24; refine (hv _).mono ?_; rintro e w6 ⟨⟨v6, rfl, ho6⟩, f6⟩; have HS6 := Lib.hid (Src.row ho6 (bytesC_one _)); have HO6 := Lib.hid (ownsRow_fr HO2.out (f5.trans f6) (by simp)); have k6 := (f5.trans f6).size; have k7 := HF2.out.size; have k8 := HL.out; clear ho6) | (at_builtin; refine wpList_append_src _ rfl (.tmp 20) (.tmp 22) 42 rfl w.heap.size 5 i0 (.int .u8 0) 1 1 Tryd.underlying42 hi hz0 hz1 hz2 rfl (by decide) _ _ _ rfl HO6.out _ _ _ rfl HS6.out (by unfold maxLen; omega) (by omega) (by omega) ?_; intro v'' w3 hown3 hgrow3 _))
          have hf3 := (HF2.out.trans (f5.trans f6)).fresh hgrow3 (fun r e => Or.inl (HO6.out.lt r e).1)
          go_wp2_with fail
          go_roundw
          case rel => exact ⟨k + 1, by omega, by go_num, by rw [HTk.out]; intro d hd; rcases List.mem_append.1 hd with hd | hd; exact HA.out d hd; rw [List.mem_singleton.1 hd]; exact HRb.out, by rw [HTk.out, show encR (ds.take k ++ [(⟨dk, di, dS⟩ : Dt)]) = es ++ encV ⟨dk, di, dS⟩ by rw [← HE.out]; simp [encR]]; rw [bytesC_app] at hown3; simpa using hown3, hf3⟩
          case measure => simp [intOf]; omega
      · have hkl : k = ds.length := by omega
        have HN := Lib.hid (show encE ds = (es, 0) by
          have h1 : ds.take k = ds := List.take_of_length_le (by omega)
          have h2 := HA.out
          have h3 := HE.out
          rw [h1] at h2 h3
          rw [encE, if_neg (by omega), if_pos (List.all_eq_true.2 h2), h3])
        have hconv := conv_own HO.out
        go_wp2_with fail
        go_ret2
        exact ⟨by rw [HN.out]; rfl, HF.out⟩
end Go.Proofs.YtpcmibimglkocaaDoor
