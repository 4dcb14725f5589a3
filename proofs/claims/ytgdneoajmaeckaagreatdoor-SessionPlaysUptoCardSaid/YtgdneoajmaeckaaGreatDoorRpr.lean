/- freshetref01.Print: how a value is shown. No condition but its size, and that the table of powers lies as its text lays it. -/
import Derived.Test.YtgdneoajmaeckaaGreatDoorDpr
import Derived.Test.YtgdneoajmaeckaaGreatDoorRr
import Derived.StillTailTactics
namespace Go.Proofs.YtgdneoajmaeckaaGreatDoor
open Go.RowKit

theorem slice1 (s : ByteArray) (k : Nat) (h : k < s.size) (wx : World) :
    (Instr.slice 9 (.string s) (some (.int .i64 (k : Int))) (some (.int .i64 ((k : Int) + 1))) none).run Tryz.prog wx = .ok (.string ⟨#[s[k]]⟩) wx := by
  have := run_slice_string (P := Tryz.prog) (w := wx) 9 s .i64 .i64 (k : Int) ((k : Int) + 1) Tryz.underlying9 (by omega) (by omega) (by omega)
  rw [show ((k : Int) + 1).toNat = k + 1 by omega, show ((k : Int)).toNat = k by omega] at this
  rw [this]
  have h2 : s.extract k (k + 1) = ⟨#[s[k]]⟩ := by
    have hl : s.data.toList.length = s.size := by rw [Array.length_toList]; rfl
    apply ByteArray.ext
    rw [ByteArray.data_extract]
    apply Array.toList_inj.1
    rw [Array.toList_extract, List.extract_eq_take_drop, List.drop_eq_getElem_cons (by omega)]
    simp
    rfl
  rw [h2]

def strLen : Value → Nat
  | .string s => s.size
  | _ => 0

def FracR (D : List UInt8) (w6 : World) (a5 : Value) (wr : World) : Prop :=
  ∃ (z : Nat) (S : ByteArray), a5 = .string S ∧ S = ⟨(List.replicate z 48 ++ D).toArray⟩ ∧ z + D.length ≤ 4 ∧ wr = w6

def AposR (dS : List UInt8) (w6 : World) (a6 a7 : Value) (wr : World) : Prop :=
  ∃ (k : Nat) (S : ByteArray), k ≤ dS.length ∧ a7 = .int .i64 k ∧ a6 = .string S ∧ S = ⟨(39 :: aposB (dS.take k)).toArray⟩ ∧ wr = w6

def HexQ (dS : List UInt8) (w6 : World) (a8 a9 : Value) (wr : World) : Prop :=
  ∃ (k : Nat) (S : ByteArray), k ≤ dS.length ∧ a9 = .int .i64 k ∧ a8 = .string S ∧ S = ⟨(120 :: 39 :: hexB (dS.take k)).toArray⟩ ∧ Fr [] w6 wr

theorem apos_takeL (l : List UInt8) (k : Nat) (h : k < l.length) : aposB (l.take (k + 1)) = aposB (l.take k) ++ (if l[k] = 39 then [39, 39] else [l[k]]) := by
  rw [List.take_add_one, List.getElem?_eq_getElem h]
  simp only [aposB, Option.toList_some, List.flatMap_append, List.flatMap_cons, List.flatMap_nil, List.append_nil]
theorem hex_takeL (l : List UInt8) (k : Nat) (h : k < l.length) : hexB (l.take (k + 1)) = hexB (l.take k) ++ [hexC (l[k].toNat / 16), hexC (l[k].toNat % 16)] := by
  rw [List.take_add_one, List.getElem?_eq_getElem h]
  simp only [hexB, Option.toList_some, List.flatMap_append, List.flatMap_cons, List.flatMap_nil, List.append_nil]

theorem itoa_nat (n : Nat) (z : Int) (hz : z = (n : Int)) (h : n < 9223372036854775808) (w : World) (hP : Pows w) :
    Calls Tryz.prog 57 #[.int .i64 z] w fun e w' => e = .returned (.string ⟨(Lib.decDigits n).toArray⟩) ∧ Fr [] w w' := by
  subst hz
  have := itoa_any (n : Int) (by omega) (by omega) w hP
  rw [Lib.itoa_nonneg] at this
  exact this

set_option maxRecDepth 100000
set_option maxHeartbeats 3200000 in
theorem rprint_any (k i : Int) (dS : List UInt8) (w : World) (h64 : fits64 i) (hs : dS.length ≤ 140737488351232) (hP : Pows w) :
    Calls Tryz.prog 79 #[.agg #[.int .i64 k, .int .i64 i, .string ⟨dS.toArray⟩]] w fun e w' => e = .returned (.string ⟨(printD ⟨k, i, dS⟩).toArray⟩) ∧ Fr [] w w' := by
  obtain ⟨b1, b2⟩ := h64
  have hdl : (⟨dS.toArray⟩ : ByteArray).size ≤ 140737488351232 := by rw [size_mk]; exact hs
  have HP := Lib.hid hP
  clear hP hs
  go_enter Tryz.func79, Tryz.ntmps79
  go_upto_region 1 with fail
  have hblk := heap_alloc_new w (.cells #[.int .i64 k, .int .i64 i, .string ⟨dS.toArray⟩] 103)
  have HF := Lib.hid ((Fr.refl [] w).alloc (.cells #[.int .i64 k, .int .i64 i, .string ⟨dS.toArray⟩] 103))
  generalize w.alloc (.cells #[.int .i64 k, .int .i64 i, .string ⟨dS.toArray⟩] 103) = w2 at *
  obtain ⟨c0, c1, c2, y0, y1, y2⟩ := blk3 hblk
  have HBlk := Lib.hid hblk
  clear hblk
  have hr := rright_any k i ⟨dS.toArray⟩ w2 hdl
  cases hrb : rightB ⟨k, i, dS⟩
  · have HD := Lib.hid (show printD ⟨k, i, dS⟩ = [] by rw [printD, hrb]; rfl)
    have hr2 : Calls Tryz.prog 94 #[.agg #[.int .i64 k, .int .i64 i, .string ⟨dS.toArray⟩]] w2 fun e w' => e = .returned (.bool false) ∧ Fr [] w2 w' := hr.mono fun e w' ⟨he, f⟩ => ⟨by rw [he]; exact ret_bool hrb, f⟩
    clear hr hrb
    go_wp2_with (go_at_call 94; refine hr2.mono ?_; rintro e w5 ⟨rfl, f5⟩)
    go_ret
    exact ⟨by rw [HD.out]; rfl, HF.out.trans f5⟩
  · have hr2 : Calls Tryz.prog 94 #[.agg #[.int .i64 k, .int .i64 i, .string ⟨dS.toArray⟩]] w2 fun e w' => e = .returned (.bool true) ∧ Fr [] w2 w' := hr.mono fun e w' ⟨he, f⟩ => ⟨by rw [he]; exact ret_bool hrb, f⟩
    have hcs := right_cases hrb
    have HV := Lib.hid (show printD ⟨k, i, dS⟩ = printV ⟨k, i, dS⟩ by rw [printD, if_pos hrb])
    simp only at hcs
    clear hr hrb
    rcases hcs with ⟨rfl, rfl, hn⟩ | ⟨rfl, hi1, hn⟩ | ⟨hk2, hn⟩ | ⟨hk2, rfl, hs1⟩
    · clear hn
      go_wp2_with (go_at_call 94; refine hr2.mono ?_; rintro e w5 ⟨rfl, f5⟩; obtain ⟨c0', c1', c2', y0', y1', y2'⟩ := blk3 (f5.heap HBlk.out (by simp)))
      go_ret
      exact ⟨by rw [HV.out]; rfl, HF.out.trans f5⟩
    · clear hn
      rcases hi1 with rfl | rfl
      all_goals
        go_wp2_with (go_at_call 94; refine hr2.mono ?_; rintro e w5 ⟨rfl, f5⟩; obtain ⟨c0', c1', c2', y0', y1', y2'⟩ := blk3 (f5.heap HBlk.out (by simp)))
        go_ret
        exact ⟨by rw [HV.out]; rfl, HF.out.trans f5⟩
    · clear hn
      rcases hk2 with rfl | rfl
      · go_wp2_with (first | (go_at_call 94; refine hr2.mono ?_; rintro e w5 ⟨rfl, f5⟩; obtain ⟨c0', c1', c2', y0', y1', y2'⟩ := blk3 (f5.heap HBlk.out (by simp))) | (go_at_call 57; refine (itoa_any i b1 b2 _ (HP.out.fr (HF.out.trans f5))).mono ?_; rintro e w6 ⟨rfl, f6⟩))
        go_ret
        exact ⟨by rw [HV.out]; rfl, (HF.out.trans f5).trans f6⟩
      · have HDec := Lib.hid (show printV ⟨3, i, dS⟩ = decB i by simp [printV])
        rcases (by omega : i < 0 ∨ 0 ≤ i) with hlt | hlt
        · obtain ⟨n, rfl⟩ : ∃ n : Nat, i = -(n : Int) := ⟨i.natAbs, by omega⟩
          have hwr : IntKind.u64.wrap (0 - IntKind.u64.wrap (-(n : Int))) = (n : Int) := by rw [IntKind.wrap_u64, IntKind.wrap_u64]; omega
          have hwr2 : IntKind.u64.wrap (-IntKind.u64.wrap (-(n : Int))) = (n : Int) := by rw [IntKind.wrap_u64, IntKind.wrap_u64]; omega
          go_upto_region 18 with (go_at_call 94; refine hr2.mono ?_; rintro e w5 ⟨rfl, f5⟩; obtain ⟨c0', c1', c2', y0', y1', y2'⟩ := blk3 (f5.heap HBlk.out (by simp)))
          have hI := fun wi => itoa_nat (n % 10000) ((n : Int) % 10000) (by omega) (by omega) wi
          have hJ := fun wi => itoa_nat (n / 10000) ((n : Int) / 10000) (by omega) (by omega) wi
          have hsh := frac_short (m := n % 10000) (by omega)
          have hA20 := Lib.nDigits_le20 (n / 10000) (by omega)
          rw [← Lib.decDigits_length] at hA20
          have HDone := Lib.hid (fun z => frac_done (m := n % 10000) (z := z) (by omega))
          have HDec := Lib.hid (show printV ⟨3, -(n : Int), dS⟩ = [45] ++ Lib.decDigits (n / 10000) ++ [46] ++ fracB (n % 10000) by
            rw [HDec.out, decB, if_pos hlt, show (-(n : Int)).natAbs = n by omega]
            simp)
          generalize Lib.decDigits (n % 10000) = D at *
          generalize Lib.decDigits (n / 10000) = A at *
          have hAs : (⟨A.toArray⟩ : ByteArray).size ≤ 20 := by rw [size_mk]; exact hA20
          go_wp2_with (go_at_call 57; refine (hI _ (HP.out.fr (HF.out.trans f5))).mono ?_; rintro e w6 ⟨rfl, f6⟩)
          go_loopw [5] (fun a5 wr => FracR D w6 a5 wr) (fun a5 _ => 4 - strLen a5)
          case atStart => exact ⟨0, _, rfl, by simp, by omega, rfl⟩
          case round =>
            obtain ⟨z, S, rfl, hS, hz, hw⟩ := hrel
            subst hw
            have hsz : S.size = z + D.length := by rw [hS, size_mk]; simp
            have HS := Lib.hid hS
            clear hS
            by_cases hlt : S.size < 4
            · go_wp2_with fail
              go_roundw
              case rel => exact ⟨z + 1, _, rfl, by rw [HS.out]; exact (cat [48] _).trans (by rw [List.replicate_succ]; rfl), by omega, rfl⟩
              case measure =>
                have h1 : ((⟨#[48]⟩ : ByteArray) ++ S).size = 1 + S.size := by rw [ByteArray.size_append]; rfl
                show 4 - ((⟨#[48]⟩ : ByteArray) ++ S).size < 4 - S.size
                omega
            · have HD4 := Lib.hid (HDone.out z (by omega))
              go_wp2_with (go_at_call 57; refine (hJ _ (HP.out.fr ((HF.out.trans f5).trans f6))).mono ?_; rintro e w7 ⟨rfl, f7⟩)
              go_ret
              refine ⟨congrArg (fun z => Ending.returned (Value.string z)) (show ((⟨([45] : List UInt8).toArray⟩ : ByteArray) ++ ⟨A.toArray⟩ ++ ⟨[46].toArray⟩) ++ S = _ from ?_), ((HF.out.trans f5).trans f6).trans f7⟩
              rw [HS.out, HD4.out, cat, cat, cat, HV.out, HDec.out]
        · obtain ⟨n, rfl⟩ : ∃ n : Nat, i = (n : Int) := ⟨i.natAbs, by omega⟩
          go_upto_region 18 with (go_at_call 94; refine hr2.mono ?_; rintro e w5 ⟨rfl, f5⟩; obtain ⟨c0', c1', c2', y0', y1', y2'⟩ := blk3 (f5.heap HBlk.out (by simp)))
          have hI := fun wi => itoa_nat (n % 10000) ((n : Int) % 10000) (by omega) (by omega) wi
          have hJ := fun wi => itoa_nat (n / 10000) ((n : Int) / 10000) (by omega) (by omega) wi
          have hsh := frac_short (m := n % 10000) (by omega)
          have hA20 := Lib.nDigits_le20 (n / 10000) (by omega)
          rw [← Lib.decDigits_length] at hA20
          have HDone := Lib.hid (fun z => frac_done (m := n % 10000) (z := z) (by omega))
          have HDec := Lib.hid (show printV ⟨3, (n : Int), dS⟩ = [] ++ Lib.decDigits (n / 10000) ++ [46] ++ fracB (n % 10000) by
            rw [HDec.out, decB, if_neg (by omega), show ((n : Int)).natAbs = n by omega]
            simp)
          generalize Lib.decDigits (n % 10000) = D at *
          generalize Lib.decDigits (n / 10000) = A at *
          have hAs : (⟨A.toArray⟩ : ByteArray).size ≤ 20 := by rw [size_mk]; exact hA20
          go_wp2_with (go_at_call 57; refine (hI _ (HP.out.fr (HF.out.trans f5))).mono ?_; rintro e w6 ⟨rfl, f6⟩)
          go_loopw [5] (fun a5 wr => FracR D w6 a5 wr) (fun a5 _ => 4 - strLen a5)
          case atStart => exact ⟨0, _, rfl, by simp, by omega, rfl⟩
          case round =>
            obtain ⟨z, S, rfl, hS, hz, hw⟩ := hrel
            subst hw
            have hsz : S.size = z + D.length := by rw [hS, size_mk]; simp
            have HS := Lib.hid hS
            clear hS
            by_cases hlt : S.size < 4
            · go_wp2_with fail
              go_roundw
              case rel => exact ⟨z + 1, _, rfl, by rw [HS.out]; exact (cat [48] _).trans (by rw [List.replicate_succ]; rfl), by omega, rfl⟩
              case measure =>
                have h1 : ((⟨#[48]⟩ : ByteArray) ++ S).size = 1 + S.size := by rw [ByteArray.size_append]; rfl
                show 4 - ((⟨#[48]⟩ : ByteArray) ++ S).size < 4 - S.size
                omega
            · have HD4 := Lib.hid (HDone.out z (by omega))
              go_wp2_with (go_at_call 57; refine (hJ _ (HP.out.fr ((HF.out.trans f5).trans f6))).mono ?_; rintro e w7 ⟨rfl, f7⟩)
              go_ret
              refine ⟨congrArg (fun z => Ending.returned (Value.string z)) (show ((⟨([] : List UInt8).toArray⟩ : ByteArray) ++ ⟨A.toArray⟩ ++ ⟨[46].toArray⟩) ++ S = _ from ?_), ((HF.out.trans f5).trans f6).trans f7⟩
              rw [HS.out, HD4.out, cat, cat, cat, HV.out, HDec.out]
    · rcases hk2 with rfl | rfl
      · go_upto_region 22 with (go_at_call 94; refine hr2.mono ?_; rintro e w5 ⟨rfl, f5⟩; have HB5 := Lib.hid (f5.heap HBlk.out (by simp)); obtain ⟨c0', c1', c2', y0', y1', y2'⟩ := blk3 HB5.out)
        have HP4 := Lib.hid (show printV ⟨4, 0, dS⟩ = 39 :: (aposB dS ++ [39]) by simp [printV])
        go_wp2_with fail
        go_loopw [6, 7] (fun a6 a7 wr => AposR dS w5 a6 a7 wr) (fun _ a7 _ => dS.length - (intOf a7).toNat)
        case atStart => exact ⟨0, _, Nat.zero_le _, rfl, rfl, by simp [aposB], rfl⟩
        case round =>
          obtain ⟨k, S, hk, rfl, rfl, hS, hw⟩ := hrel
          subst hw
          have hel := apos_len (dS.take k)
          have htl : (dS.take k).length ≤ 1000 := by rw [List.length_take]; omega
          have hsz : S.size ≤ 2001 := by rw [hS, size_mk]; simp only [List.length_cons]; omega
          generalize hE : aposB (dS.take k) = es at *
          have HE := Lib.hid hE
          have HS := Lib.hid hS
          clear hE hS
          by_cases hlt : k < dS.length
          · have hlt2 : k < (⟨dS.toArray⟩ : ByteArray).size := by rw [size_mk]; exact hlt
            have hsl := slice1 ⟨dS.toArray⟩ k hlt2
            have HT := Lib.hid (apos_take ⟨dS.toArray⟩ k hlt2)
            generalize hb : (⟨dS.toArray⟩ : ByteArray)[k] = b at *
            by_cases hbz : (b.toNat : Int) = 39
            · have hb39 : b = 39 := UInt8.toNat_inj.1 (by show b.toNat = 39; omega)
              have HT2 := Lib.hid (show 39 :: aposB (dS.take (k + 1)) = (39 :: es) ++ [b] ++ [39] by
                have h1 := HT.out
                simp only [if_pos hb39] at h1
                rw [h1, HE.out, hb39]; simp)
              have hbn : b.toNat = 39 := by omega
              clear hb39
              go_wp2_with fail
              go_roundw
              case rel => exact ⟨k + 1, _, by omega, by go_num, rfl, (show (S ++ ⟨[b].toArray⟩) ++ ⟨[39].toArray⟩ = _ by rw [HS.out, cat, cat, HT2.out]), rfl⟩
              case measure => simp [intOf]; omega
            · have hb39 : b ≠ 39 := fun e => hbz (by rw [e]; rfl)
              have HT2 := Lib.hid (show 39 :: aposB (dS.take (k + 1)) = (39 :: es) ++ [b] by
                have h1 := HT.out
                simp only [if_neg hb39] at h1
                rw [h1, HE.out]; simp)
              have hbn : ¬ b.toNat = 39 := by omega
              clear hb39
              go_wp2_with fail
              go_roundw
              case rel => exact ⟨k + 1, _, by omega, by go_num, rfl, (show S ++ ⟨[b].toArray⟩ = _ by rw [HS.out, cat, HT2.out]), rfl⟩
              case measure => simp [intOf]; omega
          · have hkl : dS.take k = dS := List.take_of_length_le (by omega)
            have HE2 := Lib.hid (show aposB dS = es by rw [← HE.out, hkl])
            clear hkl
            go_wp2_with fail
            go_ret
            exact ⟨congrArg (fun z => Ending.returned (Value.string z)) (show S ++ ⟨[39].toArray⟩ = _ by rw [HS.out, cat, HV.out, HP4.out, HE2.out]; rfl), HF.out.trans f5⟩
      · go_upto_region 22 with (go_at_call 94; refine hr2.mono ?_; rintro e w5 ⟨rfl, f5⟩; have HB5 := Lib.hid (f5.heap HBlk.out (by simp)); obtain ⟨c0', c1', c2', y0', y1', y2'⟩ := blk3 HB5.out)
        have HP5 := Lib.hid (show printV ⟨5, 0, dS⟩ = 120 :: 39 :: (hexB dS ++ [39]) by simp [printV])
        go_wp2_with fail
        go_loopw [8, 9] (fun a8 a9 wr => HexQ dS w5 a8 a9 wr) (fun _ a9 _ => dS.length - (intOf a9).toNat)
        case atStart => exact ⟨0, _, Nat.zero_le _, rfl, rfl, by simp [hexB], Fr.refl _ _⟩
        case round =>
          obtain ⟨k, S, hk, rfl, rfl, hS, hf⟩ := hrel
          have hel := hex_len (dS.take k)
          have htl : (dS.take k).length ≤ 1000 := by rw [List.length_take]; omega
          have hsz : S.size ≤ 2002 := by rw [hS, size_mk]; simp only [List.length_cons]; omega
          generalize hE : hexB (dS.take k) = es at *
          have HE := Lib.hid hE
          have HS := Lib.hid hS
          have HFr := Lib.hid hf
          clear hE hS hf
          obtain ⟨x0, x1, x2, v0, v1, v2⟩ := blk3 (HFr.out.heap HB5.out (by simp))
          by_cases hlt : k < dS.length
          · have hlt2 : k < (⟨dS.toArray⟩ : ByteArray).size := by rw [size_mk]; exact hlt
            have HT := Lib.hid (hex_take ⟨dS.toArray⟩ k hlt2)
            have hbb : (⟨dS.toArray⟩ : ByteArray)[k].toNat < 256 := (⟨dS.toArray⟩ : ByteArray)[k].toNat_lt
            go_upto_region 35 with fail
            generalize hb : (⟨dS.toArray⟩ : ByteArray)[k] = b at *
            have HT2 := Lib.hid (show 120 :: 39 :: hexB (dS.take (k + 1)) = (120 :: 39 :: es) ++ [hexC (b.toNat / 16)] ++ [hexC (b.toNat % 16)] by
              have h1 := HT.out
              have h2 := HE.out
              simp only at h1
              rw [h1, h2]; simp)
            have h1 := fun wi => hex_any (b.toNat / 16) (by omega) wi
            have h2 := fun wi => hex_any (b.toNat % 16) (by omega) wi
            rw [show ((b.toNat / 16 : Nat) : Int) = IntKind.i64.wrap (IntKind.u8.wrap ((b.toNat : Int) / 16)) by rw [IntKind.wrap_u8, IntKind.wrap_i64]; omega] at h1
            rw [show ((b.toNat % 16 : Nat) : Int) = IntKind.i64.wrap ((b.toNat : Int).tmod 16) by rw [Int.tmod_eq_emod_of_nonneg (by omega), IntKind.wrap_i64]; omega] at h2
            have X2 : wr.drew.cell? ⟨w.heap.size, 2, none⟩ = some (.string ⟨dS.toArray⟩) := x2
            have HF3 := Lib.hid HFr.out.drew
            have i1 : (0 : Int) ≤ (k : Int) := by omega
            have i2 : (k : Int) < (dS.length : Int) := by omega
            have q1 : ¬ (9223372036854775807 < S.size + 1) := by omega
            have q2 : ¬ (9223372036854775807 < S.size + 1 + 1) := by omega
            refine wp_region_still_tail 17 (by kernel_rfl) (by kernel_rfl) ?_
            simp only [List.take_succ_cons, List.take_zero, List.drop_succ_cons, List.drop_zero]
            change wpStill _ _ wr.drew (fun a' => wpList _ _ _ _ a' wr.drew) _ _
            generalize wr.drew = w3 at *
            repeat still_step
            still_call (h1 w3)
            repeat still_step
            still_call (h2 w3)
            repeat still_step
            refine wpStill_nil ?_
            show wpList _ _ _ _ _ _
            go_wp2_with fail
            go_roundw
            case rel => exact ⟨k + 1, _, by omega, by go_num, rfl, (show (S ++ ⟨[hexC (b.toNat / 16)].toArray⟩) ++ ⟨[hexC (b.toNat % 16)].toArray⟩ = _ by rw [HS.out, cat, cat, HT2.out]), HF3.out⟩
            case measure => simp [intOf]; omega
          · have hkl : dS.take k = dS := List.take_of_length_le (by omega)
            have HE2 := Lib.hid (show hexB dS = es by rw [← HE.out, hkl])
            clear hkl
            go_wp2_with fail
            go_ret
            exact ⟨congrArg (fun z => Ending.returned (Value.string z)) (show S ++ ⟨[39].toArray⟩ = _ by rw [HS.out, cat, HV.out, HP5.out, HE2.out]; rfl), (HF.out.trans f5).trans HFr.out⟩
end Go.Proofs.YtgdneoajmaeckaaGreatDoor
