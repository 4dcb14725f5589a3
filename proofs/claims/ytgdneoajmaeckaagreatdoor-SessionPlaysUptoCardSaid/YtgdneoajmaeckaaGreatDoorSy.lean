/- session.Tell: a note as a line. Conditions: the sizes; the listed tables lie as their text lays them. -/
import Derived.Test.YtgdneoajmaeckaaGreatDoorLi
namespace Go.Proofs.YtgdneoajmaeckaaGreatDoor
open Go.RowKit

/-- What lies of tables at a world. -/
structure Tabs (w : World) : Prop where
  t : Lib.Utf8Tabs 1 2 w
  m : SomeMax w
  p : Pows w
theorem Tabs.fr {w w' : World} (h : Tabs w) (f : Fr [] w w') : Tabs w' := ⟨tabs_fr h.t f (by simp) (by simp), h.m.fr f, h.p.fr f⟩

theorem list_cells (w : World) (t : Nat) (cs : List Value) (k : Nat) (u : Value) (h : cs[k]? = some u) : (w.alloc (.cells cs.toArray t)).cell? ⟨w.heap.size, k, none⟩ = some u :=
  cell_blk (heap_alloc_new w _) k u (by simpa using h)

theorem line_new {w : World} (ws : List Wd) (hok : ∀ x ∈ ws, x.ok w) (hn : ws.length ≤ 4) (hT : Tabs w) :
    Calls Tryz.prog 46 #[.slice (some ⟨w.heap.size, 0, none⟩) ws.length ws.length] (w.alloc (.cells (ws.map Wd.val).toArray 20)) fun e w' => e = .returned (.string ⟨(lineB ws).toArray⟩) ∧ Fr [] w w' := by
  have f := (Fr.refl [] w).alloc (.cells (ws.map Wd.val).toArray 20)
  have hT2 := hT.fr f
  refine (line_words ws w.heap.size ws.length (fun k x hk => list_cells w 20 _ k x.val (by rw [List.getElem?_map, hk]; rfl)) (fun x hx => Wd.ok_fr (hok x hx) f) hn hT2.t hT2.m hT2.p).mono ?_
  rintro e w' ⟨rfl, f2⟩
  exact ⟨rfl, f.trans f2⟩

/-- A note. -/
structure Nt where
  kind : Int
  time : Int
  n : Int
  row : Value
  ds : List Dt
  code : Int
def Nt.val (x : Nt) : Value := .agg #[.int .i64 x.kind, .int .i64 x.time, .int .i64 x.n, x.row, .int .i64 x.code]
structure Nt.Ok (w : World) (x : Nt) : Prop where
  kind : fits64 x.kind
  time : fits64 x.time
  n : fits64 x.n
  code : fits64 x.code
  row : RowAt w x.row x.ds
  dt : ∀ d ∈ x.ds, DtOk d
  len : x.ds.length ≤ 1048576
theorem Nt.Ok.fr {w w' : World} {x : Nt} (h : x.Ok w) (f : Fr [] w w') : x.Ok w' := ⟨h.kind, h.time, h.n, h.code, h.row.fr f, h.dt, h.len⟩

def sRow : List UInt8 := [114, 111, 119]
def sUpdate : List UInt8 := [117, 112, 100, 97, 116, 101]
def sMark : List UInt8 := [109, 97, 114, 107]
def sEnd : List UInt8 := [101, 110, 100]
def lineT (l : List (List UInt8)) : List UInt8 := Lib.join l [32] ++ [10]
/-- A note as a line. -/
def tellB (x : Nt) : List UInt8 :=
  if x.kind = 1 then lineT [sRow, Lib.itoa x.time, Lib.itoa x.n, nlB (printR x.ds)]
  else if x.kind = 2 then lineT [sUpdate, Lib.itoa x.time, Lib.itoa x.n, nlB (printR x.ds)]
  else if x.kind = 3 then lineT [sMark, Lib.itoa x.time]
  else if x.kind = 4 then lineT [sEnd, Lib.itoa x.code]
  else []

set_option maxRecDepth 100000
set_option maxHeartbeats 3200000 in
theorem tell_any {w : World} (x : Nt) (hx : x.Ok w) (hT : Tabs w) :
    Calls Tryz.prog 35 #[x.val] w fun e w' => e = .returned (.string ⟨(tellB x).toArray⟩) ∧ Fr [] w w' := by
  obtain ⟨ra, rc, hrv, -⟩ := hx.row.shape
  obtain ⟨kind, time, n, row, ds, code⟩ := x
  simp only at hrv
  subst hrv
  have HX := Lib.hid hx
  have HT := Lib.hid hT
  clear hx hT
  show Calls Tryz.prog _ #[.agg #[.int .i64 kind, .int .i64 time, .int .i64 n, .slice ra ds.length rc, .int .i64 code]] w _
  have h1 : ∀ wi, Fr [] w wi → Calls Tryz.prog 46 #[.slice (some ⟨wi.heap.size, 0, none⟩) 4 4] (wi.alloc (.cells #[.iface 9 (.string ⟨#[114, 111, 119]⟩), .iface 2 (.int .i64 time), .iface 2 (.int .i64 n), .iface 36 (.slice ra ds.length rc)] 20))
      fun e w' => e = .returned (.string ⟨(lineT [sRow, Lib.itoa time, Lib.itoa n, nlB (printR ds)]).toArray⟩) ∧ Fr [] wi w' := fun wi f => by
    have hx := HX.out.fr f
    exact line_new [.s sRow, .j time, .j n, .r (.slice ra ds.length rc) ds] (by
      intro y hy
      simp only [List.mem_cons, List.not_mem_nil, or_false] at hy
      rcases hy with rfl | rfl | rfl | rfl
      · show sRow.length ≤ _; decide
      · exact hx.time
      · exact hx.n
      · exact ⟨hx.row, hx.dt, hx.len⟩) (by simp) (HT.out.fr f)
  have h2 : ∀ wi, Fr [] w wi → Calls Tryz.prog 46 #[.slice (some ⟨wi.heap.size, 0, none⟩) 4 4] (wi.alloc (.cells #[.iface 9 (.string ⟨#[117, 112, 100, 97, 116, 101]⟩), .iface 2 (.int .i64 time), .iface 2 (.int .i64 n), .iface 36 (.slice ra ds.length rc)] 20))
      fun e w' => e = .returned (.string ⟨(lineT [sUpdate, Lib.itoa time, Lib.itoa n, nlB (printR ds)]).toArray⟩) ∧ Fr [] wi w' := fun wi f => by
    have hx := HX.out.fr f
    exact line_new [.s sUpdate, .j time, .j n, .r (.slice ra ds.length rc) ds] (by
      intro y hy
      simp only [List.mem_cons, List.not_mem_nil, or_false] at hy
      rcases hy with rfl | rfl | rfl | rfl
      · show sUpdate.length ≤ _; decide
      · exact hx.time
      · exact hx.n
      · exact ⟨hx.row, hx.dt, hx.len⟩) (by simp) (HT.out.fr f)
  have h3 : ∀ wi, Fr [] w wi → Calls Tryz.prog 46 #[.slice (some ⟨wi.heap.size, 0, none⟩) 2 2] (wi.alloc (.cells #[.iface 9 (.string ⟨#[109, 97, 114, 107]⟩), .iface 2 (.int .i64 time)] 20))
      fun e w' => e = .returned (.string ⟨(lineT [sMark, Lib.itoa time]).toArray⟩) ∧ Fr [] wi w' := fun wi f => by
    have hx := HX.out.fr f
    exact line_new [.s sMark, .j time] (by
      intro y hy
      simp only [List.mem_cons, List.not_mem_nil, or_false] at hy
      rcases hy with rfl | rfl
      · show sMark.length ≤ _; decide
      · exact hx.time) (by simp) (HT.out.fr f)
  have h4 : ∀ wi, Fr [] w wi → Calls Tryz.prog 46 #[.slice (some ⟨wi.heap.size, 0, none⟩) 2 2] (wi.alloc (.cells #[.iface 9 (.string ⟨#[101, 110, 100]⟩), .iface 24 (.int .i64 code)] 20))
      fun e w' => e = .returned (.string ⟨(lineT [sEnd, Lib.itoa code]).toArray⟩) ∧ Fr [] wi w' := fun wi f => by
    have hx := HX.out.fr f
    exact line_new [.s sEnd, .e code] (by
      intro y hy
      simp only [List.mem_cons, List.not_mem_nil, or_false] at hy
      rcases hy with rfl | rfl
      · show sEnd.length ≤ _; decide
      · exact hx.code) (by simp) (HT.out.fr f)
  have H1 := Lib.hid h1
  have H2 := Lib.hid h2
  have H3 := Lib.hid h3
  have H4 := Lib.hid h4
  clear h1 h2 h3 h4
  by_cases k1 : kind = 1
  · have HE := Lib.hid (show tellB ⟨kind, time, n, .slice ra ds.length rc, ds, code⟩ = lineT [sRow, Lib.itoa time, Lib.itoa n, nlB (printR ds)] from if_pos k1)
    generalize lineT [sRow, Lib.itoa time, Lib.itoa n, nlB (printR ds)] = T at *
    subst k1
    go_enter Tryz.func35, Tryz.ntmps35
    go_upto_region 1 with fail
    have hblk := heap_alloc_new w (.cells #[.int .i64 1, .int .i64 time, .int .i64 n, .slice ra ds.length rc, .int .i64 code] 38)
    have HF := Lib.hid ((Fr.refl [] w).alloc (.cells #[.int .i64 1, .int .i64 time, .int .i64 n, .slice ra ds.length rc, .int .i64 code] 38))
    generalize w.alloc (.cells #[.int .i64 1, .int .i64 time, .int .i64 n, .slice ra ds.length rc, .int .i64 code] 38) = w2 at *
    obtain ⟨c0, c1, c2, c3, c4, y0, y1, y2, y3, y4⟩ := blk5 hblk
    clear hblk
    go_wp2_with (go_at_call 46; refine (H1.out _ HF.out).mono ?_; rintro e w5 ⟨rfl, f5⟩)
    go_ret
    exact ⟨by rw [HE.out]; rfl, HF.out.trans f5⟩
  by_cases k2 : kind = 2
  · have HE := Lib.hid (show tellB ⟨kind, time, n, .slice ra ds.length rc, ds, code⟩ = lineT [sUpdate, Lib.itoa time, Lib.itoa n, nlB (printR ds)] by rw [tellB, if_neg k1, if_pos k2])
    generalize lineT [sUpdate, Lib.itoa time, Lib.itoa n, nlB (printR ds)] = T at *
    subst k2
    clear k1
    go_enter Tryz.func35, Tryz.ntmps35
    go_upto_region 1 with fail
    have hblk := heap_alloc_new w (.cells #[.int .i64 2, .int .i64 time, .int .i64 n, .slice ra ds.length rc, .int .i64 code] 38)
    have HF := Lib.hid ((Fr.refl [] w).alloc (.cells #[.int .i64 2, .int .i64 time, .int .i64 n, .slice ra ds.length rc, .int .i64 code] 38))
    generalize w.alloc (.cells #[.int .i64 2, .int .i64 time, .int .i64 n, .slice ra ds.length rc, .int .i64 code] 38) = w2 at *
    obtain ⟨c0, c1, c2, c3, c4, y0, y1, y2, y3, y4⟩ := blk5 hblk
    clear hblk
    go_wp2_with (go_at_call 46; refine (H2.out _ HF.out).mono ?_; rintro e w5 ⟨rfl, f5⟩)
    go_ret
    exact ⟨by rw [HE.out]; rfl, HF.out.trans f5⟩
  by_cases k3 : kind = 3
  · have HE := Lib.hid (show tellB ⟨kind, time, n, .slice ra ds.length rc, ds, code⟩ = lineT [sMark, Lib.itoa time] by rw [tellB, if_neg k1, if_neg k2, if_pos k3])
    generalize lineT [sMark, Lib.itoa time] = T at *
    subst k3
    clear k1 k2
    go_enter Tryz.func35, Tryz.ntmps35
    go_upto_region 1 with fail
    have hblk := heap_alloc_new w (.cells #[.int .i64 3, .int .i64 time, .int .i64 n, .slice ra ds.length rc, .int .i64 code] 38)
    have HF := Lib.hid ((Fr.refl [] w).alloc (.cells #[.int .i64 3, .int .i64 time, .int .i64 n, .slice ra ds.length rc, .int .i64 code] 38))
    generalize w.alloc (.cells #[.int .i64 3, .int .i64 time, .int .i64 n, .slice ra ds.length rc, .int .i64 code] 38) = w2 at *
    obtain ⟨c0, c1, c2, c3, c4, y0, y1, y2, y3, y4⟩ := blk5 hblk
    clear hblk
    go_wp2_with (go_at_call 46; refine (H3.out _ HF.out).mono ?_; rintro e w5 ⟨rfl, f5⟩)
    go_ret
    exact ⟨by rw [HE.out]; rfl, HF.out.trans f5⟩
  by_cases k4 : kind = 4
  · have HE := Lib.hid (show tellB ⟨kind, time, n, .slice ra ds.length rc, ds, code⟩ = lineT [sEnd, Lib.itoa code] by rw [tellB, if_neg k1, if_neg k2, if_neg k3, if_pos k4])
    generalize lineT [sEnd, Lib.itoa code] = T at *
    subst k4
    clear k1 k2 k3
    go_enter Tryz.func35, Tryz.ntmps35
    go_upto_region 1 with fail
    have hblk := heap_alloc_new w (.cells #[.int .i64 4, .int .i64 time, .int .i64 n, .slice ra ds.length rc, .int .i64 code] 38)
    have HF := Lib.hid ((Fr.refl [] w).alloc (.cells #[.int .i64 4, .int .i64 time, .int .i64 n, .slice ra ds.length rc, .int .i64 code] 38))
    generalize w.alloc (.cells #[.int .i64 4, .int .i64 time, .int .i64 n, .slice ra ds.length rc, .int .i64 code] 38) = w2 at *
    obtain ⟨c0, c1, c2, c3, c4, y0, y1, y2, y3, y4⟩ := blk5 hblk
    clear hblk
    go_wp2_with (go_at_call 46; refine (H4.out _ HF.out).mono ?_; rintro e w5 ⟨rfl, f5⟩)
    go_ret
    exact ⟨by rw [HE.out]; rfl, HF.out.trans f5⟩
  · have HE := Lib.hid (show tellB ⟨kind, time, n, .slice ra ds.length rc, ds, code⟩ = [] by rw [tellB, if_neg k1, if_neg k2, if_neg k3, if_neg k4])
    have e1 : (kind == 1) = false := by simpa using k1
    have e2 : (kind == 2) = false := by simpa using k2
    have e3 : (kind == 3) = false := by simpa using k3
    have e4 : (kind == 4) = false := by simpa using k4
    clear k1 k2 k3 k4
    go_enter Tryz.func35, Tryz.ntmps35
    go_upto_region 1 with fail
    have hblk := heap_alloc_new w (.cells #[.int .i64 kind, .int .i64 time, .int .i64 n, .slice ra ds.length rc, .int .i64 code] 38)
    have HF := Lib.hid ((Fr.refl [] w).alloc (.cells #[.int .i64 kind, .int .i64 time, .int .i64 n, .slice ra ds.length rc, .int .i64 code] 38))
    generalize w.alloc (.cells #[.int .i64 kind, .int .i64 time, .int .i64 n, .slice ra ds.length rc, .int .i64 code] 38) = w2 at *
    obtain ⟨c0, c1, c2, c3, c4, y0, y1, y2, y3, y4⟩ := blk5 hblk
    clear hblk
    go_wp2_with fail
    go_ret
    exact ⟨by rw [HE.out]; rfl, HF.out⟩
end Go.Proofs.YtgdneoajmaeckaaGreatDoor
