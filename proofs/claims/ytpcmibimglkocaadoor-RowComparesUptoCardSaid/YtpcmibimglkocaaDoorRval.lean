/- freshetref02.Value: a value's bytes. No condition but that it may be. -/
import Derived.Test.YtpcmibimglkocaaDoorRenc
namespace Go.Proofs.YtpcmibimglkocaaDoor
open Go.RowKit

def BytesIs (w : World) (l : List UInt8) (e : Ending) (w' : World) : Prop := ∃ v, e = .returned v ∧ w'.ownsRow w.heap.size 5 1 v l.length (bytesC l)

theorem bytesC_app (a b : List UInt8) : bytesC a ++ bytesC b = bytesC (a ++ b) := by simp [bytesC]
theorem bytesC_one (l : List UInt8) : ∀ u ∈ bytesC l, u.oneCell' = true := by
  intro u hu; simp only [bytesC, List.mem_map] at hu; obtain ⟨b, -, rfl⟩ := hu; rfl

theorem esc_take (s : ByteArray) (k : Nat) (h : k < s.size) : escB (s.data.toList.take (k + 1)) = escB (s.data.toList.take k) ++ (if s[k] = 0 then [0, 1] else [s[k]]) := by
  have hl : s.data.toList.length = s.size := by rw [Array.length_toList]; rfl
  rw [List.take_add_one, List.getElem?_eq_getElem (by omega)]
  simp only [escB, Option.toList_some, List.flatMap_append, List.flatMap_cons, List.flatMap_nil, List.append_nil]
  rfl

def RvalR (s : ByteArray) (c : UInt8) (w w1 : World) (a3 a4 : Value) (wr : World) : Prop :=
  ∃ k : Nat, k ≤ s.size ∧ a4 = .int .i64 k ∧ wr.ownsRow (w.heap.size + 1) 5 1 a3 ((escB (s.data.toList.take k)).length + 1) (bytesC (c :: escB (s.data.toList.take k))) ∧ Fr [w.heap.size + 1] w1 wr

theorem cell_two_new (w : World) (a b : Value) (t : Nat) : ∀ j u, [a, b][j]? = some u → (w.alloc (.cells #[a, b] t)).cell? ((⟨w.heap.size, 0, none⟩ : Addr).add j) = some u := by
  intro j u hj
  have hadd : (⟨w.heap.size, 0, none⟩ : Addr).add j = ⟨w.heap.size, j, none⟩ := by unfold Addr.add; split <;> simp_all
  rw [hadd]
  exact cell_blk (heap_alloc_new w _) j u (by simpa using hj)

set_option maxRecDepth 100000
set_option maxHeartbeats 3200000 in
theorem rvalue_any (k i : Int) (s : ByteArray) (w : World) (hr : rightB ⟨k, i, s.data.toList⟩ = true) (h64 : fits64 i) (hs : s.size ≤ 1000) :
    Calls Tryd.prog 24 #[.agg #[.int .i64 k, .int .i64 i, .string s]] w fun e w' => BytesIs w (encV ⟨k, i, s.data.toList⟩) e w' ∧ Fr [] w w' := by
  obtain ⟨i0, hi, hz0, hz1, hz2⟩ := info_parts info5
  have hc := right_cases hr
  clear hr
  simp only at hc
  rcases hc with ⟨rfl, rfl, hn⟩ | ⟨rfl, hi1, hn⟩ | ⟨hk, hn⟩ | ⟨hk, rfl, -⟩
  · go_enter Tryd.func24, Tryd.ntmps24
    go_wp2_with fail
    go_ret
    refine ⟨⟨_, rfl, ?_⟩, ((Fr.refl _ _).alloc _).alloc _⟩
    have := World.ownsRow_lit (base := w.heap.size) (e := 5) (size := 1) (w.alloc (.cells #[.int .i64 0, .int .i64 0, .string s] 32)) #[.int .u8 1] 1 (by simp) (by decide) rfl
    simpa [bytesC, encV] using this
  · rcases hi1 with rfl | rfl
    · skip
      go_enter Tryd.func24, Tryd.ntmps24
      go_upto_region 2 with fail
      obtain ⟨hb1, -, fa⟩ := two_new w (.cells #[.int .i64 1, .int .i64 0, .string s] 32) (.cells #[.int .u8 2] 5)
      have hrow : ((w.alloc (.cells #[.int .i64 1, .int .i64 0, .string s] 32)).alloc (.cells #[.int .u8 2] 5)).ownsRow w.heap.size 5 1 (.slice (some ⟨w.heap.size + 1, 0, none⟩) 1 1) 1 (bytesC [2]) := by
        have := World.ownsRow_lit (base := w.heap.size) (e := 5) (size := 1) (w.alloc (.cells #[.int .i64 1, .int .i64 0, .string s] 32)) #[.int .u8 2] 1 (by simp) (by decide) rfl
        simpa [bytesC] using this
      generalize (w.alloc (.cells #[.int .i64 1, .int .i64 0, .string s] 32)).alloc (.cells #[.int .u8 2] 5) = w1 at *
      obtain ⟨c0, c1, c2, y0, y1, y2⟩ := blk3 hb1
      have HRow := Lib.hid hrow
      have k3 := fa.size
      clear hrow
      go_wp2_with (at_builtin; refine wpList_append_own _ rfl (.tmp 14) (.tmp 18) 42 rfl w.heap.size 5 i0 (.int .u8 0) 1 1 Tryd.underlying42 hi hz0 hz1 hz2 rfl (by decide) _ _ _ rfl (HRow.out.alloc _) ⟨w1.heap.size, 0, none⟩ 1 1 [.int .u8 0] rfl rfl (cell_one_new _ _ _) (ints_oneCell .u8 [0]) (by unfold maxLen; omega) (by omega) (by simp; omega) ?_; intro v'' w3 hown3 hgrow3 _)
      have hf3 := (fa.alloc _).fresh hgrow3 (fun r e => Or.inl (HRow.out.lt r e).1)
      go_wp2_with fail
      go_ret
      exact ⟨⟨_, rfl, by simpa [bytesC, encV] using hown3⟩, hf3⟩
    · skip
      go_enter Tryd.func24, Tryd.ntmps24
      go_upto_region 2 with fail
      obtain ⟨hb1, -, fa⟩ := two_new w (.cells #[.int .i64 1, .int .i64 1, .string s] 32) (.cells #[.int .u8 2] 5)
      have hrow : ((w.alloc (.cells #[.int .i64 1, .int .i64 1, .string s] 32)).alloc (.cells #[.int .u8 2] 5)).ownsRow w.heap.size 5 1 (.slice (some ⟨w.heap.size + 1, 0, none⟩) 1 1) 1 (bytesC [2]) := by
        have := World.ownsRow_lit (base := w.heap.size) (e := 5) (size := 1) (w.alloc (.cells #[.int .i64 1, .int .i64 1, .string s] 32)) #[.int .u8 2] 1 (by simp) (by decide) rfl
        simpa [bytesC] using this
      generalize (w.alloc (.cells #[.int .i64 1, .int .i64 1, .string s] 32)).alloc (.cells #[.int .u8 2] 5) = w1 at *
      obtain ⟨c0, c1, c2, y0, y1, y2⟩ := blk3 hb1
      have HRow := Lib.hid hrow
      have k3 := fa.size
      clear hrow
      go_wp2_with (at_builtin; refine wpList_append_own _ rfl (.tmp 14) (.tmp 18) 42 rfl w.heap.size 5 i0 (.int .u8 0) 1 1 Tryd.underlying42 hi hz0 hz1 hz2 rfl (by decide) _ _ _ rfl (HRow.out.alloc _) ⟨w1.heap.size, 0, none⟩ 1 1 [.int .u8 1] rfl rfl (cell_one_new _ _ _) (ints_oneCell .u8 [1]) (by unfold maxLen; omega) (by omega) (by simp; omega) ?_; intro v'' w3 hown3 hgrow3 _)
      have hf3 := (fa.alloc _).fresh hgrow3 (fun r e => Or.inl (HRow.out.lt r e).1)
      go_wp2_with fail
      go_ret
      exact ⟨⟨_, rfl, by simpa [bytesC, encV] using hown3⟩, hf3⟩
  · have he := fun wi => reight_any i wi h64
    rcases hk with rfl | rfl
    · skip
      go_enter Tryd.func24, Tryd.ntmps24
      go_upto_region 2 with fail
      obtain ⟨hb1, -, fa⟩ := two_new w (.cells #[.int .i64 2, .int .i64 i, .string s] 32) (.cells #[.int .u8 3] 5)
      have hrow : ((w.alloc (.cells #[.int .i64 2, .int .i64 i, .string s] 32)).alloc (.cells #[.int .u8 3] 5)).ownsRow w.heap.size 5 1 (.slice (some ⟨w.heap.size + 1, 0, none⟩) 1 1) 1 (bytesC [3]) := by
        have := World.ownsRow_lit (base := w.heap.size) (e := 5) (size := 1) (w.alloc (.cells #[.int .i64 2, .int .i64 i, .string s] 32)) #[.int .u8 3] 1 (by simp) (by decide) rfl
        simpa [bytesC] using this
      generalize (w.alloc (.cells #[.int .i64 2, .int .i64 i, .string s] 32)).alloc (.cells #[.int .u8 3] 5) = w1 at *
      obtain ⟨c0, c1, c2, y0, y1, y2⟩ := blk3 hb1
      have HRow := Lib.hid hrow
      have k3 := fa.size
      clear hrow
      go_wp2_with (first | (go_at_call 38; refine (he _).mono ?_; rintro e w2 ⟨⟨v, rfl, ho⟩, f2⟩; have HS2 := Lib.hid (Src.row ho (bytesC_one _)); have HO2 := Lib.hid (ownsRow_fr HRow.out f2 (by simp)); have k4 := f2.size; clear ho) | (at_builtin; refine wpList_append_src _ rfl (.tmp 23) (.tmp 26) 42 rfl w.heap.size 5 i0 (.int .u8 0) 1 1 Tryd.underlying42 hi hz0 hz1 hz2 rfl (by decide) _ _ _ rfl HO2.out _ 8 _ rfl HS2.out (by unfold maxLen; omega) (by omega) (by omega) ?_; intro v'' w3 hown3 hgrow3 _))
      have hf3 := (fa.trans f2).fresh hgrow3 (fun r e => Or.inl (HO2.out.lt r e).1)
      go_wp2_with fail
      go_ret
      exact ⟨⟨_, rfl, by simpa [bytesC, encV, eightB, bytesN_len] using hown3⟩, hf3⟩
    · skip
      go_enter Tryd.func24, Tryd.ntmps24
      go_upto_region 2 with fail
      obtain ⟨hb1, -, fa⟩ := two_new w (.cells #[.int .i64 3, .int .i64 i, .string s] 32) (.cells #[.int .u8 4] 5)
      have hrow : ((w.alloc (.cells #[.int .i64 3, .int .i64 i, .string s] 32)).alloc (.cells #[.int .u8 4] 5)).ownsRow w.heap.size 5 1 (.slice (some ⟨w.heap.size + 1, 0, none⟩) 1 1) 1 (bytesC [4]) := by
        have := World.ownsRow_lit (base := w.heap.size) (e := 5) (size := 1) (w.alloc (.cells #[.int .i64 3, .int .i64 i, .string s] 32)) #[.int .u8 4] 1 (by simp) (by decide) rfl
        simpa [bytesC] using this
      generalize (w.alloc (.cells #[.int .i64 3, .int .i64 i, .string s] 32)).alloc (.cells #[.int .u8 4] 5) = w1 at *
      obtain ⟨c0, c1, c2, y0, y1, y2⟩ := blk3 hb1
      have HRow := Lib.hid hrow
      have k3 := fa.size
      clear hrow
      go_wp2_with (first | (go_at_call 38; refine (he _).mono ?_; rintro e w2 ⟨⟨v, rfl, ho⟩, f2⟩; have HS2 := Lib.hid (Src.row ho (bytesC_one _)); have HO2 := Lib.hid (ownsRow_fr HRow.out f2 (by simp)); have k4 := f2.size; clear ho) | (at_builtin; refine wpList_append_src _ rfl (.tmp 23) (.tmp 26) 42 rfl w.heap.size 5 i0 (.int .u8 0) 1 1 Tryd.underlying42 hi hz0 hz1 hz2 rfl (by decide) _ _ _ rfl HO2.out _ 8 _ rfl HS2.out (by unfold maxLen; omega) (by omega) (by omega) ?_; intro v'' w3 hown3 hgrow3 _))
      have hf3 := (fa.trans f2).fresh hgrow3 (fun r e => Or.inl (HO2.out.lt r e).1)
      go_wp2_with fail
      go_ret
      exact ⟨⟨_, rfl, by simpa [bytesC, encV, eightB, bytesN_len] using hown3⟩, hf3⟩
  · rcases hk with rfl | rfl
    · skip
      go_enter Tryd.func24, Tryd.ntmps24
      go_upto_region 2 with fail
      obtain ⟨hb1, -, fa⟩ := two_new w (.cells #[.int .i64 4, .int .i64 0, .string s] 32) (.cells #[.int .u8 5] 5)
      have hrow : ((w.alloc (.cells #[.int .i64 4, .int .i64 0, .string s] 32)).alloc (.cells #[.int .u8 5] 5)).ownsRow (w.heap.size + 1) 5 1 (.slice (some ⟨w.heap.size + 1, 0, none⟩) 1 1) 1 (bytesC [5]) := by
        have := World.ownsRow_lit (base := w.heap.size + 1) (e := 5) (size := 1) (w.alloc (.cells #[.int .i64 4, .int .i64 0, .string s] 32)) #[.int .u8 5] 1 (by simp) (by decide) rfl
        simpa [bytesC] using this
      have hzz : ((w.alloc (.cells #[.int .i64 4, .int .i64 0, .string s] 32)).alloc (.cells #[.int .u8 5] 5)).heap.size ≤ w.heap.size + 2 := by simp
      generalize (w.alloc (.cells #[.int .i64 4, .int .i64 0, .string s] 32)).alloc (.cells #[.int .u8 5] 5) = w1 at *
      obtain ⟨c0, c1, c2, y0, y1, y2⟩ := blk3 hb1
      have HRow := Lib.hid hrow
      have k3 := fa.size
      clear hrow
      go_wp2_with fail
      go_loopw [3, 4] (fun a3 a4 wr => RvalR s 5 w w1 a3 a4 wr) (fun _ a4 _ => s.size - (intOf a4).toNat)
      case atStart => exact ⟨0, Nat.zero_le _, rfl, by simpa [escB, bytesC] using HRow.out, Fr.refl _ _⟩
      case round =>
        obtain ⟨k, hk, rfl, hown, hf⟩ := hrel
        have hel := encV_textlen (s.data.toList.take k)
        have htl : (s.data.toList.take k).length ≤ 1000 := by
          rw [List.length_take, Array.length_toList]
          have : s.data.size = s.size := rfl
          omega
        generalize hE : escB (s.data.toList.take k) = es at *
        have HE := Lib.hid hE
        have HO := Lib.hid hown
        have HF := Lib.hid hf
        have k5 := hf.size
        have hlen : es.length + 1 ≤ 2001 := by omega
        clear hE hown hf
        obtain ⟨c0', c1', c2', y0', y1', y2'⟩ := blk3 (HF.out.heap hb1 (by simp))
        by_cases hlt : k < s.size
        · have HT := Lib.hid (esc_take s k hlt)
          have hbb : s[k].toNat < 256 := s[k].toNat_lt
          generalize hb : s[k] = b at *
          go_upto_region 14 with (at_builtin; refine wpList_append_own _ rfl (.tmp 38) (.tmp 43) 42 rfl (w.heap.size + 1) 5 i0 (.int .u8 0) 1 1 Tryd.underlying42 hi hz0 hz1 hz2 rfl (by decide) _ _ _ rfl (HO.out.alloc _) ⟨wr.heap.size, 0, none⟩ 1 1 [.int .u8 (b.toNat : Int)] rfl rfl (cell_one_new _ _ _) (ints_oneCell .u8 [(b.toNat : Int)]) (by unfold maxLen; omega) (by omega) (by simp; omega) ?_; intro v'' w3 hown3 hgrow3 _)
          have hf3 := (HF.out.alloc _).fresh hgrow3 (fun r e => by have := (HO.out.lt r e).1; simp; omega)
          have HO3 := Lib.hid hown3
          have k6 := hf3.size
          clear hown3 hgrow3
          obtain ⟨c0'', c1'', c2'', y0'', y1'', y2''⟩ := blk3 (hf3.heap hb1 (by simp))
          by_cases hbz : b.toNat = 0
          · have hbz' : b = 0 := UInt8.toNat_inj.1 hbz
            have HT2 := Lib.hid (show escB (s.data.toList.take (k + 1)) = es ++ [b, 1] by rw [HT.out, HE.out, if_pos hbz', hbz'])
            clear hbz'
            go_wp2_with (at_builtin; refine wpList_append_own _ rfl (.tmp 50) (.tmp 51) 42 rfl (w.heap.size + 1) 5 i0 (.int .u8 0) 1 1 Tryd.underlying42 hi hz0 hz1 hz2 rfl (by decide) _ _ _ rfl (HO3.out.alloc _) ⟨w3.heap.size, 0, none⟩ 1 1 [.int .u8 1] rfl rfl (cell_one_new _ _ _) (ints_oneCell .u8 [1]) (by unfold maxLen; omega) (by omega) (by simp; omega) ?_; intro v4 w4 hown4 hgrow4 _)
            have hf4 := (hf3.alloc _).fresh hgrow4 (fun r e => by have := (HO3.out.lt r e).1; simp; omega)
            go_wp2_with fail
            go_roundw
            case rel => exact ⟨k + 1, by omega, by go_num, by rw [HT2.out]; simpa [bytesC] using hown4, hf4⟩
            case measure => simp [intOf]; omega
          · have HT2 := Lib.hid (show escB (s.data.toList.take (k + 1)) = es ++ [b] by rw [HT.out, HE.out, if_neg (fun e => hbz (by rw [e]; rfl))])
            go_wp2_with fail
            go_roundw
            case rel => exact ⟨k + 1, by omega, by go_num, by rw [HT2.out]; simpa [bytesC] using HO3.out, hf3⟩
            case measure => simp [intOf]; omega
        · have hks : k = s.size := by omega
          have HD := Lib.hid (show encV ⟨4, 0, s.data.toList⟩ = 5 :: (es ++ [0, 0]) by
            have h1 : s.data.toList.take k = s.data.toList := List.take_of_length_le (by rw [Array.length_toList]; have : s.data.size = s.size := rfl; omega)
            have := HE.out
            rw [h1] at this
            simp [encV, this])
          go_wp2_with (at_builtin; refine wpList_append_own _ rfl (.tmp 53) (.tmp 54) 42 rfl (w.heap.size + 1) 5 i0 (.int .u8 0) 1 1 Tryd.underlying42 hi hz0 hz1 hz2 rfl (by decide) _ _ _ rfl (HO.out.alloc _) ⟨wr.heap.size, 0, none⟩ 2 2 [.int .u8 0, .int .u8 0] rfl rfl (cell_two_new _ _ _ _) (ints_oneCell .u8 [0, 0]) (by unfold maxLen; omega) (by omega) (by simp; omega) ?_; intro v4 w4 hown4 hgrow4 _)
          have hf4 := (HF.out.alloc _).fresh hgrow4 (fun r e => by have := (HO.out.lt r e).1; simp; omega)
          go_wp2_with fail
          go_ret
          exact ⟨⟨_, rfl, by rw [HD.out]; simpa [bytesC] using ownsRow_base hown4 (Nat.le_succ _)⟩, fa.past hf4 (by simp)⟩
    · skip
      go_enter Tryd.func24, Tryd.ntmps24
      go_upto_region 2 with fail
      obtain ⟨hb1, -, fa⟩ := two_new w (.cells #[.int .i64 5, .int .i64 0, .string s] 32) (.cells #[.int .u8 6] 5)
      have hrow : ((w.alloc (.cells #[.int .i64 5, .int .i64 0, .string s] 32)).alloc (.cells #[.int .u8 6] 5)).ownsRow (w.heap.size + 1) 5 1 (.slice (some ⟨w.heap.size + 1, 0, none⟩) 1 1) 1 (bytesC [6]) := by
        have := World.ownsRow_lit (base := w.heap.size + 1) (e := 5) (size := 1) (w.alloc (.cells #[.int .i64 5, .int .i64 0, .string s] 32)) #[.int .u8 6] 1 (by simp) (by decide) rfl
        simpa [bytesC] using this
      have hzz : ((w.alloc (.cells #[.int .i64 5, .int .i64 0, .string s] 32)).alloc (.cells #[.int .u8 6] 5)).heap.size ≤ w.heap.size + 2 := by simp
      generalize (w.alloc (.cells #[.int .i64 5, .int .i64 0, .string s] 32)).alloc (.cells #[.int .u8 6] 5) = w1 at *
      obtain ⟨c0, c1, c2, y0, y1, y2⟩ := blk3 hb1
      have HRow := Lib.hid hrow
      have k3 := fa.size
      clear hrow
      go_wp2_with fail
      go_loopw [3, 4] (fun a3 a4 wr => RvalR s 6 w w1 a3 a4 wr) (fun _ a4 _ => s.size - (intOf a4).toNat)
      case atStart => exact ⟨0, Nat.zero_le _, rfl, by simpa [escB, bytesC] using HRow.out, Fr.refl _ _⟩
      case round =>
        obtain ⟨k, hk, rfl, hown, hf⟩ := hrel
        have hel := encV_textlen (s.data.toList.take k)
        have htl : (s.data.toList.take k).length ≤ 1000 := by
          rw [List.length_take, Array.length_toList]
          have : s.data.size = s.size := rfl
          omega
        generalize hE : escB (s.data.toList.take k) = es at *
        have HE := Lib.hid hE
        have HO := Lib.hid hown
        have HF := Lib.hid hf
        have k5 := hf.size
        have hlen : es.length + 1 ≤ 2001 := by omega
        clear hE hown hf
        obtain ⟨c0', c1', c2', y0', y1', y2'⟩ := blk3 (HF.out.heap hb1 (by simp))
        by_cases hlt : k < s.size
        · have HT := Lib.hid (esc_take s k hlt)
          have hbb : s[k].toNat < 256 := s[k].toNat_lt
          generalize hb : s[k] = b at *
          go_upto_region 14 with (at_builtin; refine wpList_append_own _ rfl (.tmp 38) (.tmp 43) 42 rfl (w.heap.size + 1) 5 i0 (.int .u8 0) 1 1 Tryd.underlying42 hi hz0 hz1 hz2 rfl (by decide) _ _ _ rfl (HO.out.alloc _) ⟨wr.heap.size, 0, none⟩ 1 1 [.int .u8 (b.toNat : Int)] rfl rfl (cell_one_new _ _ _) (ints_oneCell .u8 [(b.toNat : Int)]) (by unfold maxLen; omega) (by omega) (by simp; omega) ?_; intro v'' w3 hown3 hgrow3 _)
          have hf3 := (HF.out.alloc _).fresh hgrow3 (fun r e => by have := (HO.out.lt r e).1; simp; omega)
          have HO3 := Lib.hid hown3
          have k6 := hf3.size
          clear hown3 hgrow3
          obtain ⟨c0'', c1'', c2'', y0'', y1'', y2''⟩ := blk3 (hf3.heap hb1 (by simp))
          by_cases hbz : b.toNat = 0
          · have hbz' : b = 0 := UInt8.toNat_inj.1 hbz
            have HT2 := Lib.hid (show escB (s.data.toList.take (k + 1)) = es ++ [b, 1] by rw [HT.out, HE.out, if_pos hbz', hbz'])
            clear hbz'
            go_wp2_with (at_builtin; refine wpList_append_own _ rfl (.tmp 50) (.tmp 51) 42 rfl (w.heap.size + 1) 5 i0 (.int .u8 0) 1 1 Tryd.underlying42 hi hz0 hz1 hz2 rfl (by decide) _ _ _ rfl (HO3.out.alloc _) ⟨w3.heap.size, 0, none⟩ 1 1 [.int .u8 1] rfl rfl (cell_one_new _ _ _) (ints_oneCell .u8 [1]) (by unfold maxLen; omega) (by omega) (by simp; omega) ?_; intro v4 w4 hown4 hgrow4 _)
            have hf4 := (hf3.alloc _).fresh hgrow4 (fun r e => by have := (HO3.out.lt r e).1; simp; omega)
            go_wp2_with fail
            go_roundw
            case rel => exact ⟨k + 1, by omega, by go_num, by rw [HT2.out]; simpa [bytesC] using hown4, hf4⟩
            case measure => simp [intOf]; omega
          · have HT2 := Lib.hid (show escB (s.data.toList.take (k + 1)) = es ++ [b] by rw [HT.out, HE.out, if_neg (fun e => hbz (by rw [e]; rfl))])
            go_wp2_with fail
            go_roundw
            case rel => exact ⟨k + 1, by omega, by go_num, by rw [HT2.out]; simpa [bytesC] using HO3.out, hf3⟩
            case measure => simp [intOf]; omega
        · have hks : k = s.size := by omega
          have HD := Lib.hid (show encV ⟨5, 0, s.data.toList⟩ = 6 :: (es ++ [0, 0]) by
            have h1 : s.data.toList.take k = s.data.toList := List.take_of_length_le (by rw [Array.length_toList]; have : s.data.size = s.size := rfl; omega)
            have := HE.out
            rw [h1] at this
            simp [encV, this])
          go_wp2_with (at_builtin; refine wpList_append_own _ rfl (.tmp 53) (.tmp 54) 42 rfl (w.heap.size + 1) 5 i0 (.int .u8 0) 1 1 Tryd.underlying42 hi hz0 hz1 hz2 rfl (by decide) _ _ _ rfl (HO.out.alloc _) ⟨wr.heap.size, 0, none⟩ 2 2 [.int .u8 0, .int .u8 0] rfl rfl (cell_two_new _ _ _ _) (ints_oneCell .u8 [0, 0]) (by unfold maxLen; omega) (by omega) (by simp; omega) ?_; intro v4 w4 hown4 hgrow4 _)
          have hf4 := (HF.out.alloc _).fresh hgrow4 (fun r e => by have := (HO.out.lt r e).1; simp; omega)
          go_wp2_with fail
          go_ret
          exact ⟨⟨_, rfl, by rw [HD.out]; simpa [bytesC] using ownsRow_base hown4 (Nat.le_succ _)⟩, fa.past hf4 (by simp)⟩
end Go.Proofs.YtpcmibimglkocaaDoor
