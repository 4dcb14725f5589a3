/- A region that draws its order, loads and calls what may make memory: walked once. freshetref21.number and Row. Conditions: the sizes; the listed tables lie as their text lays them. -/
import Derived.Test.YtgdneoajmaeckaaGreatDoorSz
import Derived.Test.YtgdneoajmaeckaaGreatDoorRprt
import Derived.BigQuiet
import Derived.Deep.QuietTactic
namespace Go.Proofs.YtgdneoajmaeckaaGreatDoor
open Go.RowKit

structure FrBy (w : World) where
  wn : World
  fr : Fr [] w wn

instance (w : World) : Nonempty (FrBy w) := ⟨⟨w, Fr.refl [] w⟩⟩

theorem wp_region_fr {P : Program} {id : Nat} {Q : Exit → Act → World → Prop} {a : Act} {w : World} {l : List Oper} (hm : P.follows .mixedOrders = true) (hB : Region.lexB .any l.toArray = true)
    (h : wpQuiet P l.toArray (fun w' => ∃ p : FrBy w, w' = p.wn) (fun a' => ∀ w', (∃ p : FrBy w, w' = p.wn) → Q .normal a' w') l a) : (Code.region id l.toArray true).wp P Q a w :=
  wp_region_quiet (C := fun w' => ∃ p : FrBy w, w' = p.wn) hm hB ⟨⟨w.drew, ⟨rfl, rfl, rfl, Nat.le_refl _, fun _ _ _ => rfl⟩⟩, rfl⟩ (by simpa using h)

theorem Calls.fr_of {P : Program} {f : FuncId} {args : Array Value} {w : World} {p : FrBy w} {v : Value} (h : Calls P f args p.wn fun e w' => e = .returned v ∧ Fr [] p.wn w') : Calls P f args p.wn fun e w'' => e = .returned v ∧ ∃ q : FrBy w, w'' = q.wn :=
  h.mono fun _ _ ⟨he, hf⟩ => ⟨he, ⟨_, p.fr.trans hf⟩, rfl⟩

theorem number_any (n : Int) (hn : fits64 n) (w : World) (hP : Pows w) :
    Calls Tryz.prog 49 #[.int .i64 n] w fun e w' => e = .returned (.string ⟨(Lib.itoa n).toArray⟩) ∧ Fr [] w w' := by
  have hi := itoa_any n hn.1 hn.2 w hP
  clear hn hP
  generalize Lib.itoa n = L at *
  go_enter Tryz.func49, Tryz.ntmps49
  go_wp2_with (go_at_call 57; refine hi.mono ?_; rintro e w1 ⟨rfl, f1⟩)
  go_ret
  exact ⟨rfl, f1⟩

def RtR (T : List UInt8) (w1 : World) (a4 a5 : Value) (wr : World) : Prop :=
  ∃ k : Nat, k ≤ T.length ∧ a5 = .int .i64 k ∧ wr.ownsRow w1.heap.size 5 1 a4 (nlB (T.take k)).length (bytesC (nlB (T.take k))) ∧ Fr [] w1 wr

set_option maxRecDepth 100000
set_option maxHeartbeats 3200000 in
theorem rtold_any {w : World} {v : Value} {ds : List Dt} (h : RowAt w v ds) (hok : ∀ d ∈ ds, DtOk d) (hm : ds.length ≤ 1048576) (hP : Pows w) :
    Calls Tryz.prog 50 #[v] w fun e w' => e = .returned (.string ⟨(nlB (printR ds)).toArray⟩) ∧ Fr [] w w' := by
  obtain ⟨i0, hi, hz0, hz1, hz2⟩ := info_parts info5
  have hp := rprintrow_any h hok hm hP
  have hle := printR_len ds hok hm
  obtain ⟨ra, rc, rfl, -⟩ := h.shape
  clear h hok hm hP
  generalize printR ds = T at *
  have hTs := size_mk T
  go_enter Tryz.func50, Tryz.ntmps50
  go_upto_region 3 with (go_at_call 63; refine hp.mono ?_; rintro e w1 ⟨rfl, f1⟩)
  have HO1 := Lib.hid (World.ownsRow_made (base := w1.heap.size) (e := 5) (size := 1) w1 #[] 0 (Nat.le_refl _) (by decide) rfl)
  have F1 := Lib.hid f1
  have FA := Lib.hid ((Fr.refl [] w1).alloc (.cells #[] 5))
  clear f1 hp
  go_wp2_with fail
  go_loopw [4, 5] (fun a4 a5 wr => RtR T w1 a4 a5 wr) (fun _ a5 _ => T.length - (intOf a5).toNat)
  case atStart => exact ⟨0, Nat.zero_le _, rfl, by simpa [nlB, bytesC] using HO1.out, FA.out⟩
  case round =>
    clear HO1 FA
    obtain ⟨k, hk, rfl, ho, hf⟩ := hrel
    have HO := Lib.hid ho
    have HF := Lib.hid hf
    have k1 := hf.size
    have hnl := nlB_len (T.take k)
    have htk : (T.take k).length ≤ 2200000000 := by rw [List.length_take]; omega
    clear ho hf
    by_cases hlt : k < T.length
    · have hlt2 : k < (⟨T.toArray⟩ : ByteArray).size := by rw [size_mk]; exact hlt
      have hbe : (⟨T.toArray⟩ : ByteArray)[k] = T[k] := rfl
      have HTk := Lib.hid (show nlB (T.take (k + 1)) = nlB (T.take k) ++ (if T[k] = 10 then [92, 110] else if T[k] = 92 then [92, 92] else [T[k]]) by
        rw [List.take_add_one, List.getElem?_eq_getElem hlt, nlB_app]
        simp [nlB])
      generalize nlB (T.take k) = acc at *
      have hal : acc.length ≤ 4400000000 := by omega
      rw [← hbe] at HTk
      clear hbe hnl
      have i1 : (0 : Int) ≤ (k : Int) := by omega
      have i2 : (k : Int) < (T.length : Int) := by omega
      by_cases h10 : ((⟨T.toArray⟩ : ByteArray)[k].toNat : Int) = 10
      · have z1 : (((⟨T.toArray⟩ : ByteArray)[k].toNat : Int) == 10) = true := by simpa using h10
        have hbn : (⟨T.toArray⟩ : ByteArray)[k].toNat = 10 := by omega
        have hb10 : (⟨T.toArray⟩ : ByteArray)[k] = 10 := UInt8.toNat_inj.1 hbn
        have HT2 := Lib.hid (show nlB (T.take (k + 1)) = acc ++ [92, 110] by rw [HTk.out, if_pos hb10])
        clear hb10 hbn h10
        go_wp2_with (at_builtin; refine wpList_append_own _ rfl (.tmp 19) (.tmp 20) 73 rfl w1.heap.size 5 i0 (.int .u8 0) 1 1 Tryz.underlying73 hi hz0 hz1 hz2 rfl (by decide) _ _ _ rfl (HO.out.alloc _) ⟨wr.heap.size, 0, none⟩ 2 2 [.int .u8 92, .int .u8 110] rfl rfl (cell_two_new _ _ _ _) (bytesC_one [92, 110]) (by unfold maxLen; omega) (by omega) (by simp; omega) ?_; intro vw2 w2 how2 hgw2 _; have HF2 := Lib.hid ((HF.out.alloc (.cells #[.int .u8 92, .int .u8 110] 5)).fresh hgw2 (fun r e => Or.inl (HO.out.lt r e).1)); have HO2 := Lib.hid how2; have qw2 := HF2.out.size; obtain ⟨vaw2, vcw2, rfl⟩ := ownsRow_shape how2; clear how2 hgw2)
        go_roundw
        case rel => exact ⟨k + 1, by omega, by go_num, by rw [HT2.out, ← bytesC_app, List.length_append]; exact HO2.out, HF2.out⟩
        case measure => simp [intOf]; omega
      · have hbn : ¬ (⟨T.toArray⟩ : ByteArray)[k].toNat = 10 := by omega
        have hb10 : ¬ (⟨T.toArray⟩ : ByteArray)[k] = 10 := fun e => hbn (by rw [e]; rfl)
        have z1 : (((⟨T.toArray⟩ : ByteArray)[k].toNat : Int) == 10) = false := by simpa using h10
        clear h10 hbn
        by_cases h92 : ((⟨T.toArray⟩ : ByteArray)[k].toNat : Int) = 92
        · have z2 : (((⟨T.toArray⟩ : ByteArray)[k].toNat : Int) == 92) = true := by simpa using h92
          have hbm : (⟨T.toArray⟩ : ByteArray)[k].toNat = 92 := by omega
          have hb92 : (⟨T.toArray⟩ : ByteArray)[k] = 92 := UInt8.toNat_inj.1 hbm
          have HT2 := Lib.hid (show nlB (T.take (k + 1)) = (acc ++ [(⟨T.toArray⟩ : ByteArray)[k]]) ++ [92] by rw [HTk.out, if_neg hb10, if_pos hb92, hb92]; simp)
          clear hb92 hb10 hbm h92
          go_wp2_with (first | (at_builtin; refine wpList_append_own _ rfl (.tmp 22) (.tmp 26) 73 rfl w1.heap.size 5 i0 (.int .u8 0) 1 1 Tryz.underlying73 hi hz0 hz1 hz2 rfl (by decide) _ _ _ rfl (HO.out.alloc _) ⟨wr.heap.size, 0, none⟩ 1 1 [.int .u8 (⟨T.toArray⟩ : ByteArray)[k].toNat] rfl rfl (cell_one_new _ _ _) (bytesC_one [(⟨T.toArray⟩ : ByteArray)[k]]) (by unfold maxLen; omega) (by omega) (by simp; omega) ?_; intro vw2 w2 how2 hgw2 _; have HF2 := Lib.hid ((HF.out.alloc (.cells #[.int .u8 (⟨T.toArray⟩ : ByteArray)[k].toNat] 5)).fresh hgw2 (fun r e => Or.inl (HO.out.lt r e).1)); have HO2 := Lib.hid how2; have qw2 := HF2.out.size; obtain ⟨vaw2, vcw2, rfl⟩ := ownsRow_shape how2; clear how2 hgw2) | (at_builtin; refine wpList_append_own _ rfl (.tmp 32) (.tmp 33) 73 rfl w1.heap.size 5 i0 (.int .u8 0) 1 1 Tryz.underlying73 hi hz0 hz1 hz2 rfl (by decide) _ _ _ rfl (HO2.out.alloc _) ⟨w2.heap.size, 0, none⟩ 1 1 [.int .u8 92] rfl rfl (cell_one_new _ _ _) (bytesC_one [92]) (by unfold maxLen; omega) (by omega) (by simp; omega) ?_; intro vw3 w3 how3 hgw3 _; have HF3 := Lib.hid ((HF2.out.alloc (.cells #[.int .u8 92] 5)).fresh hgw3 (fun r e => Or.inl (HO2.out.lt r e).1)); have HO3 := Lib.hid how3; have qw3 := HF3.out.size; obtain ⟨vaw3, vcw3, rfl⟩ := ownsRow_shape how3; clear how3 hgw3))
          go_roundw
          case rel => exact ⟨k + 1, by omega, by go_num, by rw [HT2.out, ← bytesC_app, ← bytesC_app, List.length_append, List.length_append]; exact HO3.out, HF3.out⟩
          case measure => simp [intOf]; omega
        · have z2 : (((⟨T.toArray⟩ : ByteArray)[k].toNat : Int) == 92) = false := by simpa using h92
          have hbm : ¬ (⟨T.toArray⟩ : ByteArray)[k].toNat = 92 := by omega
          have hb92 : ¬ (⟨T.toArray⟩ : ByteArray)[k] = 92 := fun e => hbm (by rw [e]; rfl)
          have HT2 := Lib.hid (show nlB (T.take (k + 1)) = acc ++ [(⟨T.toArray⟩ : ByteArray)[k]] by rw [HTk.out, if_neg hb10, if_neg hb92])
          clear hb92 hb10 hbm h92
          go_wp2_with (at_builtin; refine wpList_append_own _ rfl (.tmp 22) (.tmp 26) 73 rfl w1.heap.size 5 i0 (.int .u8 0) 1 1 Tryz.underlying73 hi hz0 hz1 hz2 rfl (by decide) _ _ _ rfl (HO.out.alloc _) ⟨wr.heap.size, 0, none⟩ 1 1 [.int .u8 (⟨T.toArray⟩ : ByteArray)[k].toNat] rfl rfl (cell_one_new _ _ _) (bytesC_one [(⟨T.toArray⟩ : ByteArray)[k]]) (by unfold maxLen; omega) (by omega) (by simp; omega) ?_; intro vw2 w2 how2 hgw2 _; have HF2 := Lib.hid ((HF.out.alloc (.cells #[.int .u8 (⟨T.toArray⟩ : ByteArray)[k].toNat] 5)).fresh hgw2 (fun r e => Or.inl (HO.out.lt r e).1)); have HO2 := Lib.hid how2; have qw2 := HF2.out.size; obtain ⟨vaw2, vcw2, rfl⟩ := ownsRow_shape how2; clear how2 hgw2)
          go_roundw
          case rel => exact ⟨k + 1, by omega, by go_num, by rw [HT2.out, ← bytesC_app, List.length_append]; exact HO2.out, HF2.out⟩
          case measure => simp [intOf]; omega
    · have ht : T.take k = T := List.take_of_length_le (by omega)
      rw [ht] at HO
      clear ht
      have hconv := conv_own HO.out
      go_wp2_with fail
      go_ret
      exact ⟨rfl, F1.out.trans HF.out⟩
end Go.Proofs.YtgdneoajmaeckaaGreatDoor
