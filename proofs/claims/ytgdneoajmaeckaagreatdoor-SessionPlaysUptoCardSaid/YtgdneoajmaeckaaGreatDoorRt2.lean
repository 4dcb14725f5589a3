/- freshetref21.Say. Conditions: the sizes; the table of powers lies as its text lays it. (Printed by genrt2.py.) -/
import Derived.Test.YtgdneoajmaeckaaGreatDoorRt1
namespace Go.Proofs.YtgdneoajmaeckaaGreatDoor
open Go.RowKit

def RsR (w3 : World) (hd : List UInt8) (cts : List Ct) (a3 a48 : Value) (wr : World) : Prop :=
  ∃ (k : Nat) (S : ByteArray), k ≤ cts.length ∧ a48 = .int .i64 k ∧ a3 = .string S ∧ S = ⟨(hd ++ (cts.take k).flatMap ctB).toArray⟩ ∧ Fr [] w3 wr

set_option maxRecDepth 100000
set_option maxHeartbeats 6400000 in
theorem rsay_any {w : World} (x : Rp) (hx : x.Ok w) (hP : Pows w) (h60 : x.cts.length ≤ 60) :
    Calls Tryz.prog 34 #[x.val] w fun e w' => e = .returned (.string ⟨(sayB x).toArray⟩) ∧ Fr [] w w' := by
  obtain ⟨ra, rc, hrv, -⟩ := hx.rows.shape
  obtain ⟨la, ln, lc, hcv⟩ := hx.cols
  obtain ⟨tk, kind, code, place, time, n, name, cols, rows, cts⟩ := x
  simp only at hrv hcv h60
  subst hrv
  subst hcv
  show Calls Tryz.prog _ #[.agg #[.int .i64 tk, .int .i64 kind, .int .i64 code, .int .i64 place, .int .i64 time, .int .i64 n, .string ⟨name.toArray⟩, .slice la ln lc, .slice ra cts.length rc]] w _
  have hnm := size_mk name
  have hnl : name.length ≤ 1048576 := hx.name
  have h1 : ∀ wi, Fr [] w wi → Calls Tryz.prog 49 #[.int .i64 code] wi fun e w' => e = .returned (.string ⟨(Lib.itoa code).toArray⟩) ∧ Fr [] wi w' := fun wi f => number_any code hx.code wi (hP.fr f)
  have h2 : ∀ wi, Fr [] w wi → Calls Tryz.prog 49 #[.int .i64 place] wi fun e w' => e = .returned (.string ⟨(Lib.itoa place).toArray⟩) ∧ Fr [] wi w' := fun wi f => number_any place hx.place wi (hP.fr f)
  have h3 : ∀ wi, Fr [] w wi → Calls Tryz.prog 49 #[.int .i64 time] wi fun e w' => e = .returned (.string ⟨(Lib.itoa time).toArray⟩) ∧ Fr [] wi w' := fun wi f => number_any time hx.time wi (hP.fr f)
  have h4 : ∀ wi, Fr [] w wi → Calls Tryz.prog 49 #[.int .i64 n] wi fun e w' => e = .returned (.string ⟨(Lib.itoa n).toArray⟩) ∧ Fr [] wi w' := fun wi f => number_any n hx.n wi (hP.fr f)
  have hcl : fits64 (cts.length : Int) := by unfold fits64; omega
  have h5 : ∀ wi, Fr [] w wi → Calls Tryz.prog 49 #[.int .i64 (cts.length : Int)] wi fun e w' => e = .returned (.string ⟨(Lib.itoa (cts.length : Int)).toArray⟩) ∧ Fr [] wi w' := fun wi f => number_any _ hcl wi (hP.fr f)
  have l1 := Lib.itoa_length_le code hx.code.1 hx.code.2
  have l2 := Lib.itoa_length_le place hx.place.1 hx.place.2
  have l3 := Lib.itoa_length_le time hx.time.1 hx.time.2
  have l4 := Lib.itoa_length_le n hx.n.1 hx.n.2
  have l5 := Lib.itoa_length_le (cts.length : Int) hcl.1 hcl.2
  have HE1 := Lib.hid (fun h : kind = 1 => show sayB ⟨tk, kind, code, place, time, n, name, .slice la ln lc, .slice ra cts.length rc, cts⟩ = lineT [sError, Lib.itoa code, Lib.itoa place] from if_pos h)
  have HE2 := Lib.hid (fun (h1 : ¬ kind = 1) (h : kind = 2) => show sayB ⟨tk, kind, code, place, time, n, name, .slice la ln lc, .slice ra cts.length rc, cts⟩ = lineT [sDone, Lib.itoa time, Lib.itoa n] by rw [sayB, if_neg h1, if_pos h])
  have HE3 := Lib.hid (fun (h1 : ¬ kind = 1) (h2 : ¬ kind = 2) (h : kind = 3) => show sayB ⟨tk, kind, code, place, time, n, name, .slice la ln lc, .slice ra cts.length rc, cts⟩ = lineT [sRows, Lib.itoa time, Lib.itoa (cts.length : Int)] ++ cts.flatMap ctB by rw [sayB, if_neg h1, if_neg h2, if_pos h])
  have HE4 := Lib.hid (fun (h1 : ¬ kind = 1) (h2 : ¬ kind = 2) (h3 : ¬ kind = 3) (h : kind = 4) => show sayB ⟨tk, kind, code, place, time, n, name, .slice la ln lc, .slice ra cts.length rc, cts⟩ = lineT [sFeed, Lib.itoa time, name] by rw [sayB, if_neg h1, if_neg h2, if_neg h3, if_pos h])
  have HE5 := Lib.hid (fun (h1 : ¬ kind = 1) (h2 : ¬ kind = 2) (h3 : ¬ kind = 3) (h : ¬ kind = 4) => show sayB ⟨tk, kind, code, place, time, n, name, .slice la ln lc, .slice ra cts.length rc, cts⟩ = [] by rw [sayB, if_neg h1, if_neg h2, if_neg h3, if_neg h])
  generalize sayB ⟨tk, kind, code, place, time, n, name, .slice la ln lc, .slice ra cts.length rc, cts⟩ = R at *
  generalize Lib.itoa code = C at *
  generalize Lib.itoa place = Q at *
  generalize Lib.itoa time = A at *
  generalize Lib.itoa n = N at *
  generalize Lib.itoa (cts.length : Int) = M at *
  have s1 := size_mk C
  have s2 := size_mk Q
  have s3 := size_mk A
  have s4 := size_mk N
  have s5 := size_mk M
  have H1 := Lib.hid h1
  have H2 := Lib.hid h2
  have H3 := Lib.hid h3
  have H4 := Lib.hid h4
  have H5 := Lib.hid h5
  have HR := Lib.hid hx.rows
  have HP := Lib.hid hP
  clear h1 h2 h3 h4 h5 hx hP hcl
  by_cases k1 : kind = 1
  · have HE := Lib.hid (HE1.out k1)
    subst k1
    clear HE1 HE2 HE3 HE4 HE5
    go_enter Tryz.func34, Tryz.ntmps34
    go_upto_region 1 with fail
    have hblk := heap_alloc_new w (.cells #[.int .i64 tk, .int .i64 1, .int .i64 code, .int .i64 place, .int .i64 time, .int .i64 n, .string ⟨name.toArray⟩, .slice la ln lc, .slice ra cts.length rc] 34)
    have HF := Lib.hid ((Fr.refl [] w).alloc (.cells #[.int .i64 tk, .int .i64 1, .int .i64 code, .int .i64 place, .int .i64 time, .int .i64 n, .string ⟨name.toArray⟩, .slice la ln lc, .slice ra cts.length rc] 34))
    generalize w.alloc (.cells #[.int .i64 tk, .int .i64 1, .int .i64 code, .int .i64 place, .int .i64 time, .int .i64 n, .string ⟨name.toArray⟩, .slice la ln lc, .slice ra cts.length rc] 34) = w2 at *
    obtain ⟨c0, c1, c2, c3, c4, c5, c6, c7, c8⟩ := blk9 hblk
    have HBlk := Lib.hid hblk
    clear hblk
    go_upto_region 3 with fail
    have u2 : ∀ p : FrBy w2, p.wn.cell? ⟨w.heap.size, 2, none⟩ = some (.int .i64 code) := fun p => p.fr.cell c2 (by simp)
    have u3 : ∀ p : FrBy w2, p.wn.cell? ⟨w.heap.size, 3, none⟩ = some (.int .i64 place) := fun p => p.fr.cell c3 (by simp)
    refine wp_region_fr (by kernel_rfl) (by kernel_rfl) ?_
    repeat (go_big_quiet_step ((go_at_call 49; first | exact Calls.fr_of (H1.out _ (HF.out.trans (FrBy.fr _))) | exact Calls.fr_of (H2.out _ (HF.out.trans (FrBy.fr _))))))
    refine wpQuiet_nil ?_
    intro wn hwn
    have fn : Fr [] w2 wn := by obtain ⟨p, rfl⟩ := hwn; exact p.fr
    go_wp2_with fail
    go_ret
    exact ⟨congrArg (fun z => Ending.returned (Value.string z)) (show (((((⟨([101, 114, 114, 111, 114, 32] : List UInt8).toArray⟩ : ByteArray) ++ ⟨C.toArray⟩) ++ ⟨[32].toArray⟩) ++ ⟨Q.toArray⟩) ++ ⟨[10].toArray⟩) = _ by
      simp only [cat]
      rw [HE.out, lineT3]
      simp [sError]), HF.out.trans fn⟩
  by_cases k2 : kind = 2
  · have HE := Lib.hid (HE2.out k1 k2)
    subst k2
    clear HE1 HE2 HE3 HE4 HE5 k1
    go_enter Tryz.func34, Tryz.ntmps34
    go_upto_region 1 with fail
    have hblk := heap_alloc_new w (.cells #[.int .i64 tk, .int .i64 2, .int .i64 code, .int .i64 place, .int .i64 time, .int .i64 n, .string ⟨name.toArray⟩, .slice la ln lc, .slice ra cts.length rc] 34)
    have HF := Lib.hid ((Fr.refl [] w).alloc (.cells #[.int .i64 tk, .int .i64 2, .int .i64 code, .int .i64 place, .int .i64 time, .int .i64 n, .string ⟨name.toArray⟩, .slice la ln lc, .slice ra cts.length rc] 34))
    generalize w.alloc (.cells #[.int .i64 tk, .int .i64 2, .int .i64 code, .int .i64 place, .int .i64 time, .int .i64 n, .string ⟨name.toArray⟩, .slice la ln lc, .slice ra cts.length rc] 34) = w2 at *
    obtain ⟨c0, c1, c2, c3, c4, c5, c6, c7, c8⟩ := blk9 hblk
    have HBlk := Lib.hid hblk
    clear hblk
    go_upto_region 5 with fail
    have u4 : ∀ p : FrBy w2, p.wn.cell? ⟨w.heap.size, 4, none⟩ = some (.int .i64 time) := fun p => p.fr.cell c4 (by simp)
    have u5 : ∀ p : FrBy w2, p.wn.cell? ⟨w.heap.size, 5, none⟩ = some (.int .i64 n) := fun p => p.fr.cell c5 (by simp)
    refine wp_region_fr (by kernel_rfl) (by kernel_rfl) ?_
    repeat (go_big_quiet_step ((go_at_call 49; first | exact Calls.fr_of (H3.out _ (HF.out.trans (FrBy.fr _))) | exact Calls.fr_of (H4.out _ (HF.out.trans (FrBy.fr _))))))
    refine wpQuiet_nil ?_
    intro wn hwn
    have fn : Fr [] w2 wn := by obtain ⟨p, rfl⟩ := hwn; exact p.fr
    go_wp2_with fail
    go_ret
    exact ⟨congrArg (fun z => Ending.returned (Value.string z)) (show (((((⟨([100, 111, 110, 101, 32] : List UInt8).toArray⟩ : ByteArray) ++ ⟨A.toArray⟩) ++ ⟨[32].toArray⟩) ++ ⟨N.toArray⟩) ++ ⟨[10].toArray⟩) = _ by
      simp only [cat]
      rw [HE.out, lineT3]
      simp [sDone]), HF.out.trans fn⟩
  by_cases k3 : kind = 3
  · have HE := Lib.hid (HE3.out k1 k2 k3)
    subst k3
    clear HE1 HE2 HE3 HE4 HE5 k1 k2
    go_enter Tryz.func34, Tryz.ntmps34
    go_upto_region 1 with fail
    have hblk := heap_alloc_new w (.cells #[.int .i64 tk, .int .i64 3, .int .i64 code, .int .i64 place, .int .i64 time, .int .i64 n, .string ⟨name.toArray⟩, .slice la ln lc, .slice ra cts.length rc] 34)
    have HF := Lib.hid ((Fr.refl [] w).alloc (.cells #[.int .i64 tk, .int .i64 3, .int .i64 code, .int .i64 place, .int .i64 time, .int .i64 n, .string ⟨name.toArray⟩, .slice la ln lc, .slice ra cts.length rc] 34))
    generalize w.alloc (.cells #[.int .i64 tk, .int .i64 3, .int .i64 code, .int .i64 place, .int .i64 time, .int .i64 n, .string ⟨name.toArray⟩, .slice la ln lc, .slice ra cts.length rc] 34) = w2 at *
    obtain ⟨c0, c1, c2, c3, c4, c5, c6, c7, c8⟩ := blk9 hblk
    have HBlk := Lib.hid hblk
    clear hblk
    go_upto_region 7 with fail
    have u4 : ∀ p : FrBy w2, p.wn.cell? ⟨w.heap.size, 4, none⟩ = some (.int .i64 time) := fun p => p.fr.cell c4 (by simp)
    have u8 : ∀ p : FrBy w2, p.wn.cell? ⟨w.heap.size, 8, none⟩ = some (.slice ra cts.length rc) := fun p => p.fr.cell c8 (by simp)
    refine wp_region_fr (by kernel_rfl) (by kernel_rfl) ?_
    repeat (go_big_quiet_step ((go_at_call 49; first | exact Calls.fr_of (H3.out _ (HF.out.trans (FrBy.fr _))) | exact Calls.fr_of (H5.out _ (HF.out.trans (FrBy.fr _))))))
    refine wpQuiet_nil ?_
    intro wn hwn
    have fn : Fr [] w2 wn := by obtain ⟨p, rfl⟩ := hwn; exact p.fr
    have FN := Lib.hid fn
    have HHd := Lib.hid (show (((((⟨([114, 111, 119, 115, 32] : List UInt8).toArray⟩ : ByteArray) ++ ⟨A.toArray⟩) ++ ⟨[32].toArray⟩) ++ ⟨M.toArray⟩) ++ ⟨[10].toArray⟩) = ⟨(lineT [sRows, A, M]).toArray⟩ by
      simp only [cat]
      rw [lineT3]
      simp [sRows])
    have hdl : (lineT [sRows, A, M]).length ≤ 60 := by
      rw [lineT3]
      simp [sRows]
      omega
    obtain ⟨e0, e1, e2, e3, e4, e5, e6, e7, e8⟩ := blk9 (fn.heap HBlk.out (by simp))
    clear e0 e1 e2 e3 e4 e5 e6 e7 hwn fn u4 u8 c0 c1 c2 c3 c4 c5 c6 c7 c8
    generalize lineT [sRows, A, M] = T at *
    have HLn := Lib.hid (fun (k : Nat) (h : ∀ x ∈ cts.take k, (ctB x).length ≤ 4400000200) => flat_len k cts h)
    go_wp2_with fail
    go_loopw [3, 5, 48] (fun a3 _ a48 wr => RsR wn T cts a3 a48 wr) (fun _ _ a48 _ => cts.length - (intOf a48).toNat)
    case atStart => exact ⟨0, _, Nat.zero_le _, rfl, rfl, HHd.out.trans (by simp), Fr.refl _ _⟩
    case round =>
      obtain ⟨k, S, hk, rfl, rfl, hS, hf⟩ := hrel
      have FR := Lib.hid ((HF.out.trans FN.out).trans hf)
      have HF2 := Lib.hid hf
      have hal : ((cts.take k).flatMap ctB).length ≤ 4400000200 * 60 := by
        refine Nat.le_trans (HLn.out k (fun x hx => ?_)) (Nat.mul_le_mul_left _ (by omega))
        obtain ⟨i, hi, rfl⟩ := List.mem_iff_getElem.1 (List.mem_of_mem_take hx)
        exact ctB_len (HR.out.ok hi)
      have hSz : S.size ≤ 264000012060 := by rw [hS, size_mk, List.length_append]; omega
      have HS := Lib.hid hS
      clear hf hS
      by_cases hlt : k < cts.length
      · obtain ⟨cb, co, rfl, x0, x1, hok⟩ := (HR.out.fr FR.out).at hlt
        have HTk := Lib.hid (show cts.take (k + 1) = cts.take k ++ [cts[k]] by rw [List.take_add_one, List.getElem?_eq_getElem hlt]; rfl)
        generalize cts[k] = x at *
        obtain ⟨xa, xc, hxv, -⟩ := hok.row.shape
        obtain ⟨v, ds, m⟩ := x
        simp only at hxv
        subst hxv
        have HAcc := Lib.hid (show T ++ (cts.take (k + 1)).flatMap ctB = (T ++ (cts.take k).flatMap ctB) ++ lineT [Lib.itoa m, nlB (printR ds)] by rw [HTk.out, List.flatMap_append]; simp [ctB])
        have h6 : ∀ wi, Fr [] wr wi → Calls Tryz.prog 49 #[.int .i64 m] wi fun e w' => e = .returned (.string ⟨(Lib.itoa m).toArray⟩) ∧ Fr [] wi w' := fun wi f => number_any m hok.n wi (HP.out.fr (FR.out.trans f))
        have h7 : ∀ wi, Fr [] wr wi → Calls Tryz.prog 50 #[.slice xa ds.length xc] wi fun e w' => e = .returned (.string ⟨(nlB (printR ds)).toArray⟩) ∧ Fr [] wi w' := fun wi f => rtold_any (hok.row.fr f) hok.dt hok.len (HP.out.fr (FR.out.trans f))
        have l6 := Lib.itoa_length_le m hok.n.1 hok.n.2
        have l7 : (nlB (printR ds)).length ≤ 4400000000 := by
          have e1 : (printR ds).length ≤ 2200000000 := printR_len ds hok.dt hok.len
          have e2 := nlB_len (printR ds)
          omega
        generalize Lib.itoa m = I at *
        generalize nlB (printR ds) = U at *
        have s6 := size_mk I
        have s7 := size_mk U
        have H6 := Lib.hid h6
        have H7 := Lib.hid h7
        clear h6 h7 hok hal
        go_upto_region 11 with fail
        have hblk := heap_alloc_new wr (.cells #[.slice xa ds.length xc, .int .i64 m] 81)
        have F6 := Lib.hid ((Fr.refl [] wr).alloc (.cells #[.slice xa ds.length xc, .int .i64 m] 81))
        generalize wr.alloc (.cells #[.slice xa ds.length xc, .int .i64 m] 81) = w6 at *
        have u0 : ∀ p : FrBy w6, p.wn.cell? ⟨wr.heap.size, 0, none⟩ = some (.slice xa ds.length xc) := fun p => p.fr.cell (cell_blk hblk 0 (.slice xa ds.length xc) rfl) (by simp)
        have u1 : ∀ p : FrBy w6, p.wn.cell? ⟨wr.heap.size, 1, none⟩ = some (.int .i64 m) := fun p => p.fr.cell (cell_blk hblk 1 (.int .i64 m) rfl) (by simp)
        clear hblk x0 x1
        refine wp_region_fr (by kernel_rfl) (by kernel_rfl) ?_
        repeat (go_big_quiet_step ((first | (go_at_call 50; exact Calls.fr_of (H7.out _ (F6.out.trans (FrBy.fr _)))) | (go_at_call 49; exact Calls.fr_of (H6.out _ (F6.out.trans (FrBy.fr _)))))))
        refine wpQuiet_nil ?_
        intro wz hwz
        have fz : Fr [] w6 wz := by obtain ⟨p, rfl⟩ := hwz; exact p.fr
        have FZ := Lib.hid ((HF2.out.trans F6.out).trans fz)
        clear hwz fz u0 u1
        go_wp2_with fail
        go_roundw
        case rel =>
          refine ⟨k + 1, _, by omega, by go_num, rfl, ?_, FZ.out⟩
          rw [HAcc.out, lineT2]
          show (((S ++ ⟨I.toArray⟩) ++ ⟨[32].toArray⟩) ++ ⟨U.toArray⟩) ++ ⟨[10].toArray⟩ = _
          rw [HS.out]
          simp only [cat]
          simp
        case measure => simp [intOf]; omega
      · have ht : cts.take k = cts := List.take_of_length_le (by omega)
        rw [ht] at HS
        clear ht
        go_wp2_with fail
        go_ret
        exact ⟨congrArg (fun z => Ending.returned (Value.string z)) (show S = _ by rw [HS.out, HE.out]), FR.out⟩
  by_cases k4 : kind = 4
  · have HE := Lib.hid (HE4.out k1 k2 k3 k4)
    subst k4
    clear HE1 HE2 HE3 HE4 HE5 k1 k2 k3
    go_enter Tryz.func34, Tryz.ntmps34
    go_upto_region 1 with fail
    have hblk := heap_alloc_new w (.cells #[.int .i64 tk, .int .i64 4, .int .i64 code, .int .i64 place, .int .i64 time, .int .i64 n, .string ⟨name.toArray⟩, .slice la ln lc, .slice ra cts.length rc] 34)
    have HF := Lib.hid ((Fr.refl [] w).alloc (.cells #[.int .i64 tk, .int .i64 4, .int .i64 code, .int .i64 place, .int .i64 time, .int .i64 n, .string ⟨name.toArray⟩, .slice la ln lc, .slice ra cts.length rc] 34))
    generalize w.alloc (.cells #[.int .i64 tk, .int .i64 4, .int .i64 code, .int .i64 place, .int .i64 time, .int .i64 n, .string ⟨name.toArray⟩, .slice la ln lc, .slice ra cts.length rc] 34) = w2 at *
    obtain ⟨c0, c1, c2, c3, c4, c5, c6, c7, c8⟩ := blk9 hblk
    have HBlk := Lib.hid hblk
    clear hblk
    go_upto_region 15 with fail
    have u4 : ∀ p : FrBy w2, p.wn.cell? ⟨w.heap.size, 4, none⟩ = some (.int .i64 time) := fun p => p.fr.cell c4 (by simp)
    have u6 : ∀ p : FrBy w2, p.wn.cell? ⟨w.heap.size, 6, none⟩ = some (.string ⟨name.toArray⟩) := fun p => p.fr.cell c6 (by simp)
    refine wp_region_fr (by kernel_rfl) (by kernel_rfl) ?_
    repeat (go_big_quiet_step ((go_at_call 49; first | exact Calls.fr_of (H3.out _ (HF.out.trans (FrBy.fr _))))))
    refine wpQuiet_nil ?_
    intro wn hwn
    have fn : Fr [] w2 wn := by obtain ⟨p, rfl⟩ := hwn; exact p.fr
    go_wp2_with fail
    go_ret
    exact ⟨congrArg (fun z => Ending.returned (Value.string z)) (show (((((⟨([102, 101, 101, 100, 32] : List UInt8).toArray⟩ : ByteArray) ++ ⟨A.toArray⟩) ++ ⟨[32].toArray⟩) ++ ⟨name.toArray⟩) ++ ⟨[10].toArray⟩) = _ by
      simp only [cat]
      rw [HE.out, lineT3]
      simp [sFeed]), HF.out.trans fn⟩
  · have HE := Lib.hid (HE5.out k1 k2 k3 k4)
    have e1 : (kind == 1) = false := by simpa using k1
    have e2 : (kind == 2) = false := by simpa using k2
    have e3 : (kind == 3) = false := by simpa using k3
    have e4 : (kind == 4) = false := by simpa using k4
    clear HE1 HE2 HE3 HE4 HE5 k1 k2 k3 k4
    go_enter Tryz.func34, Tryz.ntmps34
    go_upto_region 1 with fail
    have hblk := heap_alloc_new w (.cells #[.int .i64 tk, .int .i64 kind, .int .i64 code, .int .i64 place, .int .i64 time, .int .i64 n, .string ⟨name.toArray⟩, .slice la ln lc, .slice ra cts.length rc] 34)
    have HF := Lib.hid ((Fr.refl [] w).alloc (.cells #[.int .i64 tk, .int .i64 kind, .int .i64 code, .int .i64 place, .int .i64 time, .int .i64 n, .string ⟨name.toArray⟩, .slice la ln lc, .slice ra cts.length rc] 34))
    generalize w.alloc (.cells #[.int .i64 tk, .int .i64 kind, .int .i64 code, .int .i64 place, .int .i64 time, .int .i64 n, .string ⟨name.toArray⟩, .slice la ln lc, .slice ra cts.length rc] 34) = w2 at *
    obtain ⟨c0, c1, c2, c3, c4, c5, c6, c7, c8⟩ := blk9 hblk
    have HBlk := Lib.hid hblk
    clear hblk
    go_wp2_with fail
    go_ret
    exact ⟨by rw [HE.out]; rfl, HF.out⟩
end Go.Proofs.YtgdneoajmaeckaaGreatDoor
