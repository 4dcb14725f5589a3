/- row.Print and freshetref02.Print: how a row is shown. Condition: at most 1048576 values; the listed tables lie as their text lays them. -/
import Derived.Test.YtgdneoajmaeckaaGreatDoorRpr
import Derived.Test.YtgdneoajmaeckaaGreatDoorRwa
namespace Go.Proofs.YtgdneoajmaeckaaGreatDoor
open Go.RowKit

theorem info9 : (Tryz.prog.info? 9).map (fun i => (i.zero, i.size, i.bytes)) = some (some (.string ⟨#[]⟩), 1, 16) := by kernel_rfl

def strsC (ds : List Dt) : List Value := ds.map fun d => .string ⟨(printD d).toArray⟩
theorem strsC_snoc (ds : List Dt) (d : Dt) : strsC ds ++ [.string ⟨(printD d).toArray⟩] = strsC (ds ++ [d]) := by simp [strsC]

def PrtR (ds : List Dt) (w : World) (a3 a11 : Value) (wr : World) : Prop :=
  ∃ k : Nat, k ≤ ds.length ∧ a11 = .int .i64 k ∧ wr.ownsRow w.heap.size 9 1 a3 k (strsC (ds.take k)) ∧ Fr [] w wr

theorem join_any {w : World} {base n : Nat} {a : Option Addr} {c : Nat} {ds : List Dt} (h : w.ownsRow base 9 1 (.slice a n c) n (strsC ds)) (hn : n = ds.length) (hm : ds.length ≤ 1048576) (h64 : ∀ d ∈ ds, fits64 d.i) :
    Calls Tryz.prog 61 #[.slice a n c, .string ⟨#[44, 32]⟩] w fun e w' => e = .returned (.string ⟨(Lib.join (ds.map printD) [44, 32]).toArray⟩) ∧ Fr [] w w' := by
  have hjl := join_len ds h64
  rcases h.2 with ⟨hv, h0⟩ | ⟨g, cap, cur, hv, hb, hg, hc, hc2, hsz, htk⟩
  · have : ds = [] := List.eq_nil_of_length_eq_zero (by omega)
    subst this
    subst h0
    exact (Tryz.strings_Join_none a c ⟨#[44, 32]⟩ w).mono fun e w' ⟨h1, h2⟩ => ⟨by rw [h1]; rfl, by rw [h2]; exact Fr.refl _ _⟩
  · cases hv
    have hx : (ds.map fun d => (⟨(printD d).toArray⟩ : ByteArray)).map (·.data.toList) = ds.map printD := by simp
    have hxl : (ds.map fun d => (⟨(printD d).toArray⟩ : ByteArray)).length = n := by simp [hn]
    have hj := Tryz.strings_Join g 0 c (ds.map fun d => ⟨(printD d).toArray⟩) ⟨#[44, 32]⟩ w (by
      intro j x hj
      have h1 : (strsC ds)[j]? = some (.string x) := by
        simp only [strsC, List.getElem?_map, Option.map_eq_some_iff] at hj ⊢
        obtain ⟨d, hd, rfl⟩ := hj
        exact ⟨d, hd, rfl⟩
      rw [← htk] at h1
      rw [List.getElem?_take] at h1
      split at h1
      · rw [Nat.zero_add]
        simp only [World.cell?, hg]
        simpa using h1
      · cases h1) (by
        rcases Nat.lt_or_ge g w.heap.size with h | h
        · exact h
        · rw [Array.getElem?_eq_none h] at hg; cases hg) (by rw [hxl]; omega) (by rw [hxl]; omega) (by rw [hx]; show (Lib.join (ds.map printD) [44, 32]).length ≤ _; omega)
    rw [hx, hxl] at hj
    exact hj.mono fun e w' ⟨h1, h2⟩ => ⟨h1, Fr.ofBelow h2⟩

set_option maxRecDepth 100000
set_option maxHeartbeats 1600000 in
theorem print_any {w : World} {v : Value} {ds : List Dt} (h : RowAt w v ds) (hok : ∀ d ∈ ds, DtOk d) (hm : ds.length ≤ 1048576) (hT : Lib.Utf8Tabs 1 2 w) (hM : SomeMax w) (hP : Pows w) :
    Calls Tryz.prog 60 #[v] w fun e w' => e = .returned (.string ⟨(printR ds).toArray⟩) ∧ Fr [] w w' := by
  obtain ⟨i0, hi, hz0, hz1, hz2⟩ := info_parts info9
  obtain ⟨aa, ac, rfl, hac⟩ := h.shape
  have H := Lib.hid h
  have HOK := Lib.hid hok
  have HT := Lib.hid hT
  have HM := Lib.hid hM
  have HP := Lib.hid hP
  clear h hok hT hM hP
  go_enter Tryz.func60, Tryz.ntmps60
  go_upto_region 2 with (first | (refine wpList_make_own _ rfl (.const (.int .i64 0)) (.tmp 7) 92 rfl w.heap.size 9 i0 _ 1 Tryz.underlying92 hi hz0 hz1 .i64 .i64 _ ds.length rfl rfl rfl (by rw [hz2]; omega) (by unfold maxLen; omega) (Nat.le_refl _) ?_; intro w1 hown1 hg1))
  have HO1 := Lib.hid hown1
  have HF1 := Lib.hid ((Fr.grown hg1).mono (by simp) : Fr [] w w1)
  clear hown1 hg1
  go_wp2_with fail
  go_loopw [3, 11] (fun a3 a11 wr => PrtR ds w a3 a11 wr) (fun _ a11 _ => ds.length - (intOf a11).toNat)
  case atStart => exact ⟨0, Nat.zero_le _, rfl, HO1.out, HF1.out⟩
  case round =>
    obtain ⟨k, hk, rfl, hown, hf⟩ := hrel
    have HF := Lib.hid hf
    have HO := Lib.hid hown
    have k3 := hf.size
    clear hf hown
    by_cases hlt : k < ds.length
    · obtain ⟨b1, o1, he1, x0, x1, x2⟩ := (H.out.fr HF.out).at hlt
      subst he1
      have hdok := HOK.out _ (List.getElem_mem hlt)
      have HTk := Lib.hid (show ds.take (k + 1) = ds.take k ++ [ds[k]] by rw [List.take_add_one, List.getElem?_eq_getElem hlt]; rfl)
      generalize ds[k] = d at *
      obtain ⟨dk, di, dS⟩ := d
      have HD := Lib.hid hdok
      clear hdok
      go_upto_region 5 with fail
      have hblk := heap_alloc_new wr (.cells #[.int .i64 dk, .int .i64 di, .string ⟨dS.toArray⟩] 103)
      have HF2 := Lib.hid (HF.out.alloc (.cells #[.int .i64 dk, .int .i64 di, .string ⟨dS.toArray⟩] 103))
      have HO2 := Lib.hid (HO.out.alloc (.cells #[.int .i64 dk, .int .i64 di, .string ⟨dS.toArray⟩] 103))
      generalize wr.alloc (.cells #[.int .i64 dk, .int .i64 di, .string ⟨dS.toArray⟩] 103) = w2 at *
      obtain ⟨c0, c1, c2, y0, y1, y2⟩ := blk3 hblk
      clear hblk x0 x1 x2
      have k4 := HF2.out.size
      have hp := dprint_any dk di dS w2 HD.out.1 HD.out.2 (tabs_fr HT.out HF2.out (by simp) (by simp)) (HM.out.fr HF2.out) (HP.out.fr HF2.out)
      generalize hL : printD ⟨dk, di, dS⟩ = L at *
      have HL := Lib.hid hL
      clear hL
      go_upto_region 6 with (first | (go_at_call 76; refine hp.mono ?_; rintro e w5 ⟨rfl, f5⟩; have k5 := f5.size; have HO5 := Lib.hid (ownsRow_fr HO2.out f5 (by simp))) | (at_builtin; refine wpList_append_own _ rfl (.tmp 15) (.tmp 18) 92 rfl w.heap.size 9 i0 _ 1 16 Tryz.underlying92 hi hz0 hz1 hz2 rfl (by decide) _ _ _ rfl (HO5.out.alloc _) ⟨w5.heap.size, 0, none⟩ 1 1 [.string ⟨(L).toArray⟩] rfl rfl (cell_one_new _ _ _) (by simp [Value.oneCell']) (by unfold maxLen; omega) (by omega) (by simp; omega) ?_; intro v3 w3 hown3 hgrow3 _; have hf3 := ((HF2.out.trans f5).alloc (.cells #[.string ⟨(L).toArray⟩] 9)).fresh hgrow3 (fun r e => Or.inl (HO5.out.lt r e).1)))
      go_wp2_with fail
      go_roundw
      case rel => exact ⟨k + 1, by omega, by go_num, by rw [HTk.out, ← strsC_snoc, HL.out]; exact hown3, hf3⟩
      case measure => simp [intOf]; omega
    · have hkl : k = ds.length := by omega
      have ht : ds.take k = ds := List.take_of_length_le (by omega)
      have h1 := HO.out
      rw [ht] at h1
      obtain ⟨ga, gc, rfl⟩ := ownsRow_shape h1
      subst hkl
      have hj := join_any h1 rfl (by omega) (fun d hd => (HOK.out d hd).1)
      have hjl := join_len ds (fun d hd => (HOK.out d hd).1)
      have HPr := Lib.hid (show printR ds = [40] ++ Lib.join (ds.map printD) [44, 32] ++ [41] by simp [printR])
      generalize hJ : Lib.join (ds.map printD) [44, 32] = J at *
      have hJs : (⟨J.toArray⟩ : ByteArray).size ≤ 3000000000 := by rw [size_mk]; omega
      clear hJ ht h1
      go_wp2_with (go_at_call 61; refine hj.mono ?_; rintro e w5 ⟨rfl, f5⟩)
      go_ret
      exact ⟨congrArg (fun z => Ending.returned (Value.string z)) (show ((⟨[40].toArray⟩ : ByteArray) ++ ⟨J.toArray⟩) ++ ⟨[41].toArray⟩ = _ by rw [cat, cat, HPr.out]), HF.out.trans f5⟩
end Go.Proofs.YtgdneoajmaeckaaGreatDoor
