/- freshetref21.Tell. Conditions: the sizes; the table of powers lies as its text lays it. -/
import Derived.Test.YtgdneoajmaeckaaGreatDoorFb
namespace Go.Proofs.YtgdneoajmaeckaaGreatDoor
open Go.RowKit

theorem lineT2 (a b : List UInt8) : lineT [a, b] = ((a ++ [32]) ++ b) ++ [10] := by simp [lineT, Lib.join_cons, Lib.joinTail]
theorem lineT3 (a b c : List UInt8) : lineT [a, b, c] = ((((a ++ [32]) ++ b) ++ [32]) ++ c) ++ [10] := by simp [lineT, Lib.join_cons, Lib.joinTail]
theorem lineT4 (a b c d : List UInt8) : lineT [a, b, c, d] = ((((((a ++ [32]) ++ b) ++ [32]) ++ c) ++ [32]) ++ d) ++ [10] := by simp [lineT, Lib.join_cons, Lib.joinTail]

set_option maxRecDepth 100000
set_option maxHeartbeats 3200000 in
theorem rtell_any {w : World} (x : Nt) (hx : x.Ok w) (hP : Pows w) :
    Calls Tryz.prog 36 #[x.val] w fun e w' => e = .returned (.string ⟨(tellB x).toArray⟩) ∧ Fr [] w w' := by
  obtain ⟨ra, rc, hrv, -⟩ := hx.row.shape
  obtain ⟨kind, time, n, row, ds, code⟩ := x
  simp only at hrv
  subst hrv
  show Calls Tryz.prog _ #[.agg #[.int .i64 kind, .int .i64 time, .int .i64 n, .slice ra ds.length rc, .int .i64 code]] w _
  have h1 : ∀ wi, Fr [] w wi → Calls Tryz.prog 49 #[.int .i64 time] wi fun e w' => e = .returned (.string ⟨(Lib.itoa time).toArray⟩) ∧ Fr [] wi w' := fun wi f => number_any time hx.time wi (hP.fr f)
  have h2 : ∀ wi, Fr [] w wi → Calls Tryz.prog 49 #[.int .i64 n] wi fun e w' => e = .returned (.string ⟨(Lib.itoa n).toArray⟩) ∧ Fr [] wi w' := fun wi f => number_any n hx.n wi (hP.fr f)
  have h3 : ∀ wi, Fr [] w wi → Calls Tryz.prog 49 #[.int .i64 code] wi fun e w' => e = .returned (.string ⟨(Lib.itoa code).toArray⟩) ∧ Fr [] wi w' := fun wi f => number_any code hx.code wi (hP.fr f)
  have h4 : ∀ wi, Fr [] w wi → Calls Tryz.prog 50 #[.slice ra ds.length rc] wi fun e w' => e = .returned (.string ⟨(nlB (printR ds)).toArray⟩) ∧ Fr [] wi w' := fun wi f => rtold_any (hx.row.fr f) hx.dt hx.len (hP.fr f)
  have l1 := Lib.itoa_length_le time hx.time.1 hx.time.2
  have l2 := Lib.itoa_length_le n hx.n.1 hx.n.2
  have l3 := Lib.itoa_length_le code hx.code.1 hx.code.2
  have l4 : (nlB (printR ds)).length ≤ 4400000000 := by
    have e1 : (printR ds).length ≤ 2200000000 := printR_len ds hx.dt hx.len
    have e2 := nlB_len (printR ds)
    omega
  have HE1 := Lib.hid (fun h : kind = 1 => show tellB ⟨kind, time, n, .slice ra ds.length rc, ds, code⟩ = lineT [sRow, Lib.itoa time, Lib.itoa n, nlB (printR ds)] from if_pos h)
  have HE2 := Lib.hid (fun (h1 : ¬ kind = 1) (h : kind = 2) => show tellB ⟨kind, time, n, .slice ra ds.length rc, ds, code⟩ = lineT [sUpdate, Lib.itoa time, Lib.itoa n, nlB (printR ds)] by rw [tellB, if_neg h1, if_pos h])
  have HE3 := Lib.hid (fun (h1 : ¬ kind = 1) (h2 : ¬ kind = 2) (h : kind = 3) => show tellB ⟨kind, time, n, .slice ra ds.length rc, ds, code⟩ = lineT [sMark, Lib.itoa time] by rw [tellB, if_neg h1, if_neg h2, if_pos h])
  have HE4 := Lib.hid (fun (h1 : ¬ kind = 1) (h2 : ¬ kind = 2) (h3 : ¬ kind = 3) (h : kind = 4) => show tellB ⟨kind, time, n, .slice ra ds.length rc, ds, code⟩ = lineT [sEnd, Lib.itoa code] by rw [tellB, if_neg h1, if_neg h2, if_neg h3, if_pos h])
  have HE5 := Lib.hid (fun (h1 : ¬ kind = 1) (h2 : ¬ kind = 2) (h3 : ¬ kind = 3) (h : ¬ kind = 4) => show tellB ⟨kind, time, n, .slice ra ds.length rc, ds, code⟩ = [] by rw [tellB, if_neg h1, if_neg h2, if_neg h3, if_neg h])
  generalize tellB ⟨kind, time, n, .slice ra ds.length rc, ds, code⟩ = R at *
  generalize Lib.itoa time = A at *
  generalize Lib.itoa n = N at *
  generalize Lib.itoa code = C at *
  generalize nlB (printR ds) = U at *
  have s1 := size_mk A
  have s2 := size_mk N
  have s3 := size_mk C
  have s4 := size_mk U
  have H1 := Lib.hid h1
  have H2 := Lib.hid h2
  have H3 := Lib.hid h3
  have H4 := Lib.hid h4
  clear h1 h2 h3 h4 hx hP
  by_cases k1 : kind = 1
  · have HE := Lib.hid (HE1.out k1)
    subst k1
    clear HE1 HE2 HE3 HE4 HE5
    go_enter Tryz.func36, Tryz.ntmps36
    go_upto_region 1 with fail
    have hblk := heap_alloc_new w (.cells #[.int .i64 1, .int .i64 time, .int .i64 n, .slice ra ds.length rc, .int .i64 code] 38)
    have HF := Lib.hid ((Fr.refl [] w).alloc (.cells #[.int .i64 1, .int .i64 time, .int .i64 n, .slice ra ds.length rc, .int .i64 code] 38))
    generalize w.alloc (.cells #[.int .i64 1, .int .i64 time, .int .i64 n, .slice ra ds.length rc, .int .i64 code] 38) = w2 at *
    obtain ⟨c0, c1, c2, c3, c4, y0, y1, y2, y3, y4⟩ := blk5 hblk
    clear hblk y0 y1 y2 y3 y4
    go_upto_region 3 with fail
    have u1 : ∀ p : FrBy w2, p.wn.cell? ⟨w.heap.size, 1, none⟩ = some (.int .i64 time) := fun p => p.fr.cell c1 (by simp)
    have u2 : ∀ p : FrBy w2, p.wn.cell? ⟨w.heap.size, 2, none⟩ = some (.int .i64 n) := fun p => p.fr.cell c2 (by simp)
    have u3 : ∀ p : FrBy w2, p.wn.cell? ⟨w.heap.size, 3, none⟩ = some (.slice ra ds.length rc) := fun p => p.fr.cell c3 (by simp)
    refine wp_region_fr (by kernel_rfl) (by kernel_rfl) ?_
    repeat (go_big_quiet_step ((first | (go_at_call 50; exact Calls.fr_of (H4.out _ (HF.out.trans (FrBy.fr _)))) | (go_at_call 49; first | exact Calls.fr_of (H1.out _ (HF.out.trans (FrBy.fr _))) | exact Calls.fr_of (H2.out _ (HF.out.trans (FrBy.fr _)))))))
    refine wpQuiet_nil ?_
    intro wn hwn
    have fn : Fr [] w2 wn := by obtain ⟨p, rfl⟩ := hwn; exact p.fr
    go_wp2_with fail
    go_ret
    exact ⟨congrArg (fun z => Ending.returned (Value.string z)) (show (((((((⟨([114, 111, 119, 32] : List UInt8).toArray⟩ : ByteArray) ++ ⟨A.toArray⟩) ++ ⟨[32].toArray⟩) ++ ⟨N.toArray⟩) ++ ⟨[32].toArray⟩) ++ ⟨U.toArray⟩) ++ ⟨[10].toArray⟩) = _ by
      simp only [cat]
      rw [HE.out, lineT4]
      simp [sRow]), HF.out.trans fn⟩
  by_cases k2 : kind = 2
  · have HE := Lib.hid (HE2.out k1 k2)
    subst k2
    clear HE1 HE2 HE3 HE4 HE5 k1
    go_enter Tryz.func36, Tryz.ntmps36
    go_upto_region 1 with fail
    have hblk := heap_alloc_new w (.cells #[.int .i64 2, .int .i64 time, .int .i64 n, .slice ra ds.length rc, .int .i64 code] 38)
    have HF := Lib.hid ((Fr.refl [] w).alloc (.cells #[.int .i64 2, .int .i64 time, .int .i64 n, .slice ra ds.length rc, .int .i64 code] 38))
    generalize w.alloc (.cells #[.int .i64 2, .int .i64 time, .int .i64 n, .slice ra ds.length rc, .int .i64 code] 38) = w2 at *
    obtain ⟨c0, c1, c2, c3, c4, y0, y1, y2, y3, y4⟩ := blk5 hblk
    clear hblk y0 y1 y2 y3 y4
    go_upto_region 5 with fail
    have u1 : ∀ p : FrBy w2, p.wn.cell? ⟨w.heap.size, 1, none⟩ = some (.int .i64 time) := fun p => p.fr.cell c1 (by simp)
    have u2 : ∀ p : FrBy w2, p.wn.cell? ⟨w.heap.size, 2, none⟩ = some (.int .i64 n) := fun p => p.fr.cell c2 (by simp)
    have u3 : ∀ p : FrBy w2, p.wn.cell? ⟨w.heap.size, 3, none⟩ = some (.slice ra ds.length rc) := fun p => p.fr.cell c3 (by simp)
    refine wp_region_fr (by kernel_rfl) (by kernel_rfl) ?_
    repeat (go_big_quiet_step ((first | (go_at_call 50; exact Calls.fr_of (H4.out _ (HF.out.trans (FrBy.fr _)))) | (go_at_call 49; first | exact Calls.fr_of (H1.out _ (HF.out.trans (FrBy.fr _))) | exact Calls.fr_of (H2.out _ (HF.out.trans (FrBy.fr _)))))))
    refine wpQuiet_nil ?_
    intro wn hwn
    have fn : Fr [] w2 wn := by obtain ⟨p, rfl⟩ := hwn; exact p.fr
    go_wp2_with fail
    go_ret
    exact ⟨congrArg (fun z => Ending.returned (Value.string z)) (show (((((((⟨([117, 112, 100, 97, 116, 101, 32] : List UInt8).toArray⟩ : ByteArray) ++ ⟨A.toArray⟩) ++ ⟨[32].toArray⟩) ++ ⟨N.toArray⟩) ++ ⟨[32].toArray⟩) ++ ⟨U.toArray⟩) ++ ⟨[10].toArray⟩) = _ by
      simp only [cat]
      rw [HE.out, lineT4]
      simp [sUpdate]), HF.out.trans fn⟩
  by_cases k3 : kind = 3
  · have HE := Lib.hid (HE3.out k1 k2 k3)
    subst k3
    clear HE1 HE2 HE3 HE4 HE5 k1 k2
    go_enter Tryz.func36, Tryz.ntmps36
    go_upto_region 1 with fail
    have hblk := heap_alloc_new w (.cells #[.int .i64 3, .int .i64 time, .int .i64 n, .slice ra ds.length rc, .int .i64 code] 38)
    have HF := Lib.hid ((Fr.refl [] w).alloc (.cells #[.int .i64 3, .int .i64 time, .int .i64 n, .slice ra ds.length rc, .int .i64 code] 38))
    generalize w.alloc (.cells #[.int .i64 3, .int .i64 time, .int .i64 n, .slice ra ds.length rc, .int .i64 code] 38) = w2 at *
    obtain ⟨c0, c1, c2, c3, c4, y0, y1, y2, y3, y4⟩ := blk5 hblk
    clear hblk y0 y1 y2 y3 y4
    go_wp2_with (go_at_call 49; refine (H1.out _ HF.out).mono ?_; rintro e w5 ⟨rfl, f5⟩)
    go_ret
    exact ⟨congrArg (fun z => Ending.returned (Value.string z)) (show (((⟨([109, 97, 114, 107, 32] : List UInt8).toArray⟩ : ByteArray) ++ ⟨A.toArray⟩) ++ ⟨[10].toArray⟩) = _ by
      simp only [cat]
      rw [HE.out, lineT2]
      simp [sMark]), HF.out.trans f5⟩
  by_cases k4 : kind = 4
  · have HE := Lib.hid (HE4.out k1 k2 k3 k4)
    subst k4
    clear HE1 HE2 HE3 HE4 HE5 k1 k2 k3
    go_enter Tryz.func36, Tryz.ntmps36
    go_upto_region 1 with fail
    have hblk := heap_alloc_new w (.cells #[.int .i64 4, .int .i64 time, .int .i64 n, .slice ra ds.length rc, .int .i64 code] 38)
    have HF := Lib.hid ((Fr.refl [] w).alloc (.cells #[.int .i64 4, .int .i64 time, .int .i64 n, .slice ra ds.length rc, .int .i64 code] 38))
    generalize w.alloc (.cells #[.int .i64 4, .int .i64 time, .int .i64 n, .slice ra ds.length rc, .int .i64 code] 38) = w2 at *
    obtain ⟨c0, c1, c2, c3, c4, y0, y1, y2, y3, y4⟩ := blk5 hblk
    clear hblk y0 y1 y2 y3 y4
    go_wp2_with (go_at_call 49; refine (H3.out _ HF.out).mono ?_; rintro e w5 ⟨rfl, f5⟩)
    go_ret
    exact ⟨congrArg (fun z => Ending.returned (Value.string z)) (show (((⟨([101, 110, 100, 32] : List UInt8).toArray⟩ : ByteArray) ++ ⟨C.toArray⟩) ++ ⟨[10].toArray⟩) = _ by
      simp only [cat]
      rw [HE.out, lineT2]
      simp [sEnd]), HF.out.trans f5⟩
  · have HE := Lib.hid (HE5.out k1 k2 k3 k4)
    have e1 : (kind == 1) = false := by simpa using k1
    have e2 : (kind == 2) = false := by simpa using k2
    have e3 : (kind == 3) = false := by simpa using k3
    have e4 : (kind == 4) = false := by simpa using k4
    clear HE1 HE2 HE3 HE4 HE5 k1 k2 k3 k4
    go_enter Tryz.func36, Tryz.ntmps36
    go_upto_region 1 with fail
    have hblk := heap_alloc_new w (.cells #[.int .i64 kind, .int .i64 time, .int .i64 n, .slice ra ds.length rc, .int .i64 code] 38)
    have HF := Lib.hid ((Fr.refl [] w).alloc (.cells #[.int .i64 kind, .int .i64 time, .int .i64 n, .slice ra ds.length rc, .int .i64 code] 38))
    generalize w.alloc (.cells #[.int .i64 kind, .int .i64 time, .int .i64 n, .slice ra ds.length rc, .int .i64 code] 38) = w2 at *
    obtain ⟨c0, c1, c2, c3, c4, y0, y1, y2, y3, y4⟩ := blk5 hblk
    clear hblk y0 y1 y2 y3 y4
    go_wp2_with fail
    go_ret
    exact ⟨by rw [HE.out]; rfl, HF.out⟩
end Go.Proofs.YtgdneoajmaeckaaGreatDoor
