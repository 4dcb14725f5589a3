/- session.Say: a reply as lines. Conditions: the sizes; the listed tables lie as their text lays them. -/
import Derived.Test.YtgdneoajmaeckaaGreatDoorSy
namespace Go.Proofs.YtgdneoajmaeckaaGreatDoor
open Go.RowKit

/-- A counted row. -/
structure Ct where
  v : Value
  ds : List Dt
  n : Int
structure Ct.Ok (w : World) (x : Ct) : Prop where
  row : RowAt w x.v x.ds
  dt : ∀ d ∈ x.ds, DtOk d
  len : x.ds.length ≤ 1048576
  n : fits64 x.n
theorem Ct.Ok.fr {w w' : World} {x : Ct} (h : x.Ok w) (f : Fr [] w w') : x.Ok w' := ⟨h.row.fr f, h.dt, h.len, h.n⟩
/-- A list of counted rows that came in. -/
def CtsAt (w : World) (v : Value) (l : List Ct) : Prop :=
  ∃ a c, v = .slice a l.length c ∧ (a = none → c = 0) ∧ l.length ≤ c ∧ ∀ k x, l[k]? = some x → ∃ b off, a = some ⟨b, off, none⟩ ∧ w.cell? ⟨b, off + k * 2, none⟩ = some x.v ∧ w.cell? ⟨b, off + k * 2 + 1, none⟩ = some (.int .i64 x.n) ∧ x.Ok w
theorem CtsAt.fr {w w' : World} {v : Value} {l : List Ct} (h : CtsAt w v l) (f : Fr [] w w') : CtsAt w' v l := by
  obtain ⟨a, c, h1, h2, h3, h4⟩ := h
  refine ⟨a, c, h1, h2, h3, fun k x hk => ?_⟩
  obtain ⟨b, off, h5, h6, h7, h8⟩ := h4 k x hk
  exact ⟨b, off, h5, f.cell h6 (by simp), f.cell h7 (by simp), h8.fr f⟩
theorem CtsAt.shape {w : World} {v : Value} {l : List Ct} (h : CtsAt w v l) : ∃ a c, v = .slice a l.length c ∧ (a = none → c = 0) ∧ l.length ≤ c := by
  obtain ⟨a, c, h1, h2, h3, -⟩ := h
  exact ⟨a, c, h1, h2, h3⟩
theorem CtsAt.at {w : World} {a : Option Addr} {n c : Nat} {l : List Ct} (h : CtsAt w (.slice a n c) l) {k : Nat} (hk : k < l.length) :
    ∃ b off, a = some ⟨b, off, none⟩ ∧ w.cell? ⟨b, off + k * 2, none⟩ = some l[k].v ∧ w.cell? ⟨b, off + k * 2 + 1, none⟩ = some (.int .i64 l[k].n) ∧ l[k].Ok w := by
  obtain ⟨a', c', h1, -, -, h4⟩ := h
  simp only [Value.slice.injEq] at h1
  obtain ⟨rfl, -, -⟩ := h1
  exact h4 k _ (List.getElem?_eq_getElem hk)

/-- A reply. -/
structure Rp where
  tk : Int
  kind : Int
  code : Int
  place : Int
  time : Int
  n : Int
  name : List UInt8
  cols : Value
  rows : Value
  cts : List Ct
def Rp.val (x : Rp) : Value := .agg #[.int .i64 x.tk, .int .i64 x.kind, .int .i64 x.code, .int .i64 x.place, .int .i64 x.time, .int .i64 x.n, .string ⟨x.name.toArray⟩, x.cols, x.rows]
structure Rp.Ok (w : World) (x : Rp) : Prop where
  tk : fits64 x.tk
  kind : fits64 x.kind
  code : fits64 x.code
  place : fits64 x.place
  time : fits64 x.time
  n : fits64 x.n
  name : x.name.length ≤ 1048576
  cols : ∃ a n c, x.cols = .slice a n c
  rows : CtsAt w x.rows x.cts
theorem Rp.Ok.fr {w w' : World} {x : Rp} (h : x.Ok w) (f : Fr [] w w') : x.Ok w' := ⟨h.tk, h.kind, h.code, h.place, h.time, h.n, h.name, h.cols, h.rows.fr f⟩

def sError : List UInt8 := [101, 114, 114, 111, 114]
def sDone : List UInt8 := [100, 111, 110, 101]
def sRows : List UInt8 := [114, 111, 119, 115]
def sFeed : List UInt8 := [102, 101, 101, 100]
def ctB (x : Ct) : List UInt8 := lineT [Lib.itoa x.n, nlB (printR x.ds)]
/-- A reply as lines. -/
def sayB (x : Rp) : List UInt8 :=
  if x.kind = 1 then lineT [sError, Lib.itoa x.code, Lib.itoa x.place]
  else if x.kind = 2 then lineT [sDone, Lib.itoa x.time, Lib.itoa x.n]
  else if x.kind = 3 then lineT [sRows, Lib.itoa x.time, Lib.itoa (x.cts.length : Int)] ++ x.cts.flatMap ctB
  else if x.kind = 4 then lineT [sFeed, Lib.itoa x.time, x.name]
  else []

theorem ctB_len {w : World} {x : Ct} (h : x.Ok w) : (ctB x).length ≤ 4400000200 := by
  have h1 := Lib.itoa_length_le x.n h.n.1 h.n.2
  have h2 := printR_len x.ds h.dt h.len
  have h3 := nlB_len (printR x.ds)
  simp only [ctB, lineT, Lib.join_cons, Lib.joinTail, List.map_cons, List.map_nil, List.flatten_cons, List.flatten_nil, List.length_append, List.length_cons, List.length_nil]
  omega

theorem blk9 {w : World} {b : Nat} {x0 x1 x2 x3 x4 x5 x6 x7 x8 : Value} {t : Nat} (h : w.heap[b]? = some (.cells #[x0, x1, x2, x3, x4, x5, x6, x7, x8] t)) :
    w.cell? ⟨b, 0, none⟩ = some x0 ∧ w.cell? ⟨b, 1, none⟩ = some x1 ∧ w.cell? ⟨b, 2, none⟩ = some x2 ∧ w.cell? ⟨b, 3, none⟩ = some x3 ∧ w.cell? ⟨b, 4, none⟩ = some x4 ∧ w.cell? ⟨b, 5, none⟩ = some x5 ∧
      w.cell? ⟨b, 6, none⟩ = some x6 ∧ w.cell? ⟨b, 7, none⟩ = some x7 ∧ w.cell? ⟨b, 8, none⟩ = some x8 := by
  simp [World.cell?, h]

theorem flat_len (k : Nat) (cts : List Ct) (h : ∀ x ∈ cts.take k, (ctB x).length ≤ 4400000200) : ((cts.take k).flatMap ctB).length ≤ 4400000200 * k := by
  have key : ∀ l : List Ct, (∀ x ∈ l, (ctB x).length ≤ 4400000200) → (l.flatMap ctB).length ≤ 4400000200 * l.length := by
    intro l
    induction l with
    | nil => intro _; simp
    | cons x l ih =>
      intro h
      have h1 := h x (by simp)
      have h2 := ih fun y hy => h y (by simp [hy])
      rw [List.flatMap_cons, List.length_append, List.length_cons, Nat.mul_add]
      omega
  refine Nat.le_trans (key _ h) (Nat.mul_le_mul_left _ ?_)
  rw [List.length_take]
  omega
theorem CtsAt.ok {w : World} {v : Value} {l : List Ct} (h : CtsAt w v l) {k : Nat} (hk : k < l.length) : l[k].Ok w := by
  obtain ⟨a, c, h1, -, -, h4⟩ := h
  obtain ⟨b, off, -, -, -, h8⟩ := h4 k _ (List.getElem?_eq_getElem hk)
  exact h8

def SayR (w2 : World) (hd : List UInt8) (cts : List Ct) (a46 : Value) (wr : World) : Prop :=
  ∃ k : Nat, k ≤ cts.length ∧ a46 = .int .i64 k ∧ Bd wr w2.heap.size w2.heap.size (hd ++ (cts.take k).flatMap ctB) ∧ Below w2.heap.size w2 wr

set_option maxRecDepth 100000
set_option maxHeartbeats 6400000 in
theorem say_any {w : World} (x : Rp) (hx : x.Ok w) (hT : Tabs w) (h60 : x.cts.length ≤ 60) :
    Calls Tryz.prog 32 #[x.val] w fun e w' => e = .returned (.string ⟨(sayB x).toArray⟩) ∧ Fr [] w w' := by
  obtain ⟨ra, rc, hrv, -⟩ := hx.rows.shape
  obtain ⟨la, ln, lc, hcv⟩ := hx.cols
  obtain ⟨tk, kind, code, place, time, n, name, cols, rows, cts⟩ := x
  simp only at hrv hcv h60
  subst hrv
  subst hcv
  have HX := Lib.hid hx
  have HT := Lib.hid hT
  have hnm := size_mk name
  have hnl := hx.name
  simp only at hnl
  clear hx hT
  show Calls Tryz.prog _ #[.agg #[.int .i64 tk, .int .i64 kind, .int .i64 code, .int .i64 place, .int .i64 time, .int .i64 n, .string ⟨name.toArray⟩, .slice la ln lc, .slice ra cts.length rc]] w _
  have h1 : ∀ wi, Fr [] w wi → Calls Tryz.prog 46 #[.slice (some ⟨wi.heap.size, 0, none⟩) 3 3] (wi.alloc (.cells #[.iface 9 (.string ⟨#[101, 114, 114, 111, 114]⟩), .iface 24 (.int .i64 code), .iface 3 (.int .i64 place)] 20))
      fun e w' => e = .returned (.string ⟨(lineT [sError, Lib.itoa code, Lib.itoa place]).toArray⟩) ∧ Fr [] wi w' := fun wi f =>
    line_new [.s sError, .e code, .i place] (by
      intro y hy
      simp only [List.mem_cons, List.not_mem_nil, or_false] at hy
      rcases hy with rfl | rfl | rfl
      · show sError.length ≤ _; decide
      · exact HX.out.code
      · exact HX.out.place) (by simp) (HT.out.fr f)
  have h2 : ∀ wi, Fr [] w wi → Calls Tryz.prog 46 #[.slice (some ⟨wi.heap.size, 0, none⟩) 3 3] (wi.alloc (.cells #[.iface 9 (.string ⟨#[100, 111, 110, 101]⟩), .iface 2 (.int .i64 time), .iface 2 (.int .i64 n)] 20))
      fun e w' => e = .returned (.string ⟨(lineT [sDone, Lib.itoa time, Lib.itoa n]).toArray⟩) ∧ Fr [] wi w' := fun wi f =>
    line_new [.s sDone, .j time, .j n] (by
      intro y hy
      simp only [List.mem_cons, List.not_mem_nil, or_false] at hy
      rcases hy with rfl | rfl | rfl
      · show sDone.length ≤ _; decide
      · exact HX.out.time
      · exact HX.out.n) (by simp) (HT.out.fr f)
  have h3 : ∀ wi, Fr [] w wi → Calls Tryz.prog 46 #[.slice (some ⟨wi.heap.size, 0, none⟩) 3 3] (wi.alloc (.cells #[.iface 9 (.string ⟨#[114, 111, 119, 115]⟩), .iface 2 (.int .i64 time), .iface 3 (.int .i64 (cts.length : Int))] 20))
      fun e w' => e = .returned (.string ⟨(lineT [sRows, Lib.itoa time, Lib.itoa (cts.length : Int)]).toArray⟩) ∧ Fr [] wi w' := fun wi f =>
    line_new [.s sRows, .j time, .i (cts.length : Int)] (by
      intro y hy
      simp only [List.mem_cons, List.not_mem_nil, or_false] at hy
      rcases hy with rfl | rfl | rfl
      · show sRows.length ≤ _; decide
      · exact HX.out.time
      · show fits64 _; unfold fits64; omega) (by simp) (HT.out.fr f)
  have h4 : ∀ wi, Fr [] w wi → Calls Tryz.prog 46 #[.slice (some ⟨wi.heap.size, 0, none⟩) 3 3] (wi.alloc (.cells #[.iface 9 (.string ⟨#[102, 101, 101, 100]⟩), .iface 2 (.int .i64 time), .iface 9 (.string ⟨name.toArray⟩)] 20))
      fun e w' => e = .returned (.string ⟨(lineT [sFeed, Lib.itoa time, name]).toArray⟩) ∧ Fr [] wi w' := fun wi f =>
    line_new [.s sFeed, .j time, .s name] (by
      intro y hy
      simp only [List.mem_cons, List.not_mem_nil, or_false] at hy
      rcases hy with rfl | rfl | rfl
      · show sFeed.length ≤ _; decide
      · exact HX.out.time
      · show name.length ≤ _; omega) (by simp) (HT.out.fr f)
  have H1 := Lib.hid h1
  have H2 := Lib.hid h2
  have H3 := Lib.hid h3
  have H4 := Lib.hid h4
  clear h1 h2 h3 h4
  by_cases k1 : kind = 1
  · have HE := Lib.hid (show sayB ⟨tk, kind, code, place, time, n, name, .slice la ln lc, .slice ra cts.length rc, cts⟩ = lineT [sError, Lib.itoa code, Lib.itoa place] from if_pos k1)
    generalize lineT [sError, Lib.itoa code, Lib.itoa place] = T at *
    subst k1
    go_enter Tryz.func32, Tryz.ntmps32
    go_upto_region 1 with fail
    have hblk := heap_alloc_new w (.cells #[.int .i64 tk, .int .i64 1, .int .i64 code, .int .i64 place, .int .i64 time, .int .i64 n, .string ⟨name.toArray⟩, .slice la ln lc, .slice ra cts.length rc] 34)
    have HF := Lib.hid ((Fr.refl [] w).alloc (.cells #[.int .i64 tk, .int .i64 1, .int .i64 code, .int .i64 place, .int .i64 time, .int .i64 n, .string ⟨name.toArray⟩, .slice la ln lc, .slice ra cts.length rc] 34))
    generalize w.alloc (.cells #[.int .i64 tk, .int .i64 1, .int .i64 code, .int .i64 place, .int .i64 time, .int .i64 n, .string ⟨name.toArray⟩, .slice la ln lc, .slice ra cts.length rc] 34) = w2 at *
    obtain ⟨c0, c1, c2, c3, c4, c5, c6, c7, c8⟩ := blk9 hblk
    have HBlk := Lib.hid hblk
    clear hblk
    go_wp2_with (go_at_call 46; refine (H1.out _ HF.out).mono ?_; rintro e w5 ⟨rfl, f5⟩)
    go_ret
    exact ⟨by rw [HE.out]; rfl, HF.out.trans f5⟩
  by_cases k2 : kind = 2
  · have HE := Lib.hid (show sayB ⟨tk, kind, code, place, time, n, name, .slice la ln lc, .slice ra cts.length rc, cts⟩ = lineT [sDone, Lib.itoa time, Lib.itoa n] by rw [sayB, if_neg k1, if_pos k2])
    generalize lineT [sDone, Lib.itoa time, Lib.itoa n] = T at *
    subst k2
    clear k1
    go_enter Tryz.func32, Tryz.ntmps32
    go_upto_region 1 with fail
    have hblk := heap_alloc_new w (.cells #[.int .i64 tk, .int .i64 2, .int .i64 code, .int .i64 place, .int .i64 time, .int .i64 n, .string ⟨name.toArray⟩, .slice la ln lc, .slice ra cts.length rc] 34)
    have HF := Lib.hid ((Fr.refl [] w).alloc (.cells #[.int .i64 tk, .int .i64 2, .int .i64 code, .int .i64 place, .int .i64 time, .int .i64 n, .string ⟨name.toArray⟩, .slice la ln lc, .slice ra cts.length rc] 34))
    generalize w.alloc (.cells #[.int .i64 tk, .int .i64 2, .int .i64 code, .int .i64 place, .int .i64 time, .int .i64 n, .string ⟨name.toArray⟩, .slice la ln lc, .slice ra cts.length rc] 34) = w2 at *
    obtain ⟨c0, c1, c2, c3, c4, c5, c6, c7, c8⟩ := blk9 hblk
    have HBlk := Lib.hid hblk
    clear hblk
    go_wp2_with (go_at_call 46; refine (H2.out _ HF.out).mono ?_; rintro e w5 ⟨rfl, f5⟩)
    go_ret
    exact ⟨by rw [HE.out]; rfl, HF.out.trans f5⟩
  by_cases k3 : kind = 3
  · have HE := Lib.hid (show sayB ⟨tk, kind, code, place, time, n, name, .slice la ln lc, .slice ra cts.length rc, cts⟩ = lineT [sRows, Lib.itoa time, Lib.itoa (cts.length : Int)] ++ cts.flatMap ctB by rw [sayB, if_neg k1, if_neg k2, if_pos k3])
    have hdl : (lineT [sRows, Lib.itoa time, Lib.itoa (cts.length : Int)]).length ≤ 60 := by
      have e1 := Lib.itoa_length_le time HX.out.time.1 HX.out.time.2
      have e2 := Lib.itoa_length_le (cts.length : Int) (by omega) (by omega)
      simp only [lineT, sRows, Lib.join_cons, Lib.joinTail, List.map_cons, List.map_nil, List.flatten_cons, List.flatten_nil, List.length_append, List.length_cons, List.length_nil]
      omega
    generalize lineT [sRows, Lib.itoa time, Lib.itoa (cts.length : Int)] = T at *
    subst k3
    clear k1 k2
    go_enter Tryz.func32, Tryz.ntmps32
    go_upto_region 1 with fail
    have hblk := heap_alloc_new w (.cells #[.int .i64 tk, .int .i64 3, .int .i64 code, .int .i64 place, .int .i64 time, .int .i64 n, .string ⟨name.toArray⟩, .slice la ln lc, .slice ra cts.length rc] 34)
    have HF := Lib.hid ((Fr.refl [] w).alloc (.cells #[.int .i64 tk, .int .i64 3, .int .i64 code, .int .i64 place, .int .i64 time, .int .i64 n, .string ⟨name.toArray⟩, .slice la ln lc, .slice ra cts.length rc] 34))
    generalize w.alloc (.cells #[.int .i64 tk, .int .i64 3, .int .i64 code, .int .i64 place, .int .i64 time, .int .i64 n, .string ⟨name.toArray⟩, .slice la ln lc, .slice ra cts.length rc] 34) = w2 at *
    obtain ⟨c0, c1, c2, c3, c4, c5, c6, c7, c8⟩ := blk9 hblk
    have HBlk := Lib.hid hblk
    clear hblk
    have q2 := HF.out.size
    have hlt0 : w.heap.size < w2.heap.size := (Array.getElem?_eq_some_iff.1 HBlk.out).1
    go_upto_region 8 with fail
    have HB3 := Lib.hid (Bd.new w2 (Nat.le_refl _))
    have F3 := Lib.hid ((Fr.refl [] w2).alloc (.cells #[.pointer none, .slice none 0 0] TB))
    generalize w2.alloc (.cells #[.pointer none, .slice none 0 0] TB) = w3 at *
    obtain ⟨d0, d1, d2, d3, d4, d5, d6, d7, d8⟩ := blk9 (F3.out.heap HBlk.out (by simp))
    clear c0 c1 c2 c3 c4 c5 c6 c7 c8 d0 d1 d2 d3 d5 d6 d7 H1 H2 H4
    go_upto_region 9 with (first
      | (go_at_call 46; refine (H3.out _ (HF.out.trans F3.out)).mono ?_; rintro e w4 ⟨rfl, f4⟩
         have HB4 := Lib.hid (HB3.out.fr f4 (by simp))
         have F4 := Lib.hid (F3.out.trans f4)
         clear f4)
      | (go_at_call 47; refine (wstr_any HB4.out T (by simp; omega)).mono ?_; rintro e w5 ⟨rfl, h5, b5, -⟩
         have HB5 := Lib.hid h5
         have BL5 := Lib.hid ((F4.out.below (Nat.le_refl _) (by simp)).trans b5)
         have d8' := (blk9 ((b5.block _ hlt0).trans (F4.out.heap HBlk.out (by simp)))).2.2.2.2.2.2.2.2
         clear h5 b5))
    have HLn := Lib.hid (fun (k : Nat) (h : ∀ x ∈ cts.take k, (ctB x).length ≤ 4400000200) => flat_len k cts h)
    go_wp2_with fail
    go_loopw [5, 46] (fun _ a46 wr => SayR w2 T cts a46 wr) (fun _ a46 _ => cts.length - (intOf a46).toNat)
    case atStart => exact ⟨0, Nat.zero_le _, rfl, by simpa using HB5.out, BL5.out⟩
    case round =>
      clear HB3 F3 d4 d8 HB4 F4 HB5 BL5 d8' hnm hnl
      obtain ⟨k, hk, rfl, hb, hbl⟩ := hrel
      have FR := Lib.hid (HF.out.trans (Fr.ofBelow hbl))
      have q3 := hbl.size
      have HB := Lib.hid hb
      have HBl := Lib.hid hbl
      clear hb hbl
      by_cases hlt : k < cts.length
      · obtain ⟨cb, co, rfl, x0, x1, hok⟩ := (HX.out.rows.fr FR.out).at hlt
        have hal : ((cts.take k).flatMap ctB).length ≤ 4400000200 * 60 := by
          refine Nat.le_trans (HLn.out k (fun x hx => ?_)) (Nat.mul_le_mul_left _ (by omega))
          obtain ⟨i, hi, rfl⟩ := List.mem_iff_getElem.1 (List.mem_of_mem_take hx)
          exact ctB_len ((HX.out.rows).ok hi)
        have HTk := Lib.hid (show cts.take (k + 1) = cts.take k ++ [cts[k]] by rw [List.take_add_one, List.getElem?_eq_getElem hlt]; rfl)
        generalize cts[k] = x at *
        obtain ⟨xa, xc, hxv, -⟩ := hok.row.shape
        obtain ⟨v, ds, n⟩ := x
        simp only at hxv
        subst hxv
        have hcl := ctB_len hok
        have HAcc := Lib.hid (show T ++ (cts.take (k + 1)).flatMap ctB = (T ++ (cts.take k).flatMap ctB) ++ lineT [Lib.itoa n, nlB (printR ds)] by rw [HTk.out, List.flatMap_append]; simp [ctB])
        have h5 : ∀ wi, Fr [] wr wi → Calls Tryz.prog 46 #[.slice (some ⟨wi.heap.size, 0, none⟩) 2 2] (wi.alloc (.cells #[.iface 2 (.int .i64 n), .iface 36 (.slice xa ds.length xc)] 20))
            fun e w' => e = .returned (.string ⟨(lineT [Lib.itoa n, nlB (printR ds)]).toArray⟩) ∧ Fr [] wi w' := fun wi f => by
          have hx := hok.fr f
          exact line_new [.j n, .r (.slice xa ds.length xc) ds] (by
            intro y hy
            simp only [List.mem_cons, List.not_mem_nil, or_false] at hy
            rcases hy with rfl | rfl
            · exact hx.n
            · exact ⟨hx.row, hx.dt, hx.len⟩) (by simp) (HT.out.fr (FR.out.trans f))
        have H5 := Lib.hid h5
        have hcl2 : (lineT [Lib.itoa n, nlB (printR ds)]).length ≤ 4400000200 := hcl
        generalize lineT [Lib.itoa n, nlB (printR ds)] = U at *
        clear h5 hok hcl
        have hTl : (T ++ (cts.take k).flatMap ctB).length + U.length ≤ 140737488355328 := by rw [List.length_append]; omega
        generalize T ++ (cts.take k).flatMap ctB = acc at *
        clear hal
        go_upto_region 12 with fail
        have hblk := heap_alloc_new wr (.cells #[.slice xa ds.length xc, .int .i64 n] 81)
        have F6 := Lib.hid ((Fr.refl [] wr).alloc (.cells #[.slice xa ds.length xc, .int .i64 n] 81))
        generalize wr.alloc (.cells #[.slice xa ds.length xc, .int .i64 n] 81) = w6 at *
        have e0 := cell_blk hblk 0 (.slice xa ds.length xc) rfl
        have e1 := cell_blk hblk 1 (.int .i64 n) rfl
        have HB6 := Lib.hid (HB.out.fr F6.out (by simp))
        clear x0 x1 hblk
        go_wp2_with (first
          | (go_at_call 46; refine (H5.out _ F6.out).mono ?_; rintro e w7 ⟨rfl, f7⟩
             have HB7 := Lib.hid (HB6.out.fr f7 (by simp))
             have F7 := Lib.hid (F6.out.trans f7)
             clear f7)
          | (go_at_call 47; refine (wstr_any HB7.out U hTl).mono ?_; rintro e w8 ⟨rfl, h8, b8, -⟩
             have HB8 := Lib.hid h8
             have BL8 := Lib.hid ((HBl.out.trans (F7.out.below (by omega) (by simp))).trans b8)
             clear h8 b8))
        go_roundw
        case rel => exact ⟨k + 1, by omega, by go_num, by rw [HAcc.out]; exact HB8.out, BL8.out⟩
        case measure => simp [intOf]; omega
      · have ht : cts.take k = cts := List.take_of_length_le (by omega)
        rw [ht] at HB
        clear ht
        go_wp2_with (go_at_call 48; refine (bstring_any HB.out).mono ?_; rintro e w8 ⟨rfl, b8⟩)
        go_ret
        exact ⟨by rw [HE.out]; rfl, HF.out.trans (Fr.ofBelow (HBl.out.trans b8))⟩
  by_cases k4 : kind = 4
  · have HE := Lib.hid (show sayB ⟨tk, kind, code, place, time, n, name, .slice la ln lc, .slice ra cts.length rc, cts⟩ = lineT [sFeed, Lib.itoa time, name] by rw [sayB, if_neg k1, if_neg k2, if_neg k3, if_pos k4])
    generalize lineT [sFeed, Lib.itoa time, name] = T at *
    subst k4
    clear k1 k2 k3
    go_enter Tryz.func32, Tryz.ntmps32
    go_upto_region 1 with fail
    have hblk := heap_alloc_new w (.cells #[.int .i64 tk, .int .i64 4, .int .i64 code, .int .i64 place, .int .i64 time, .int .i64 n, .string ⟨name.toArray⟩, .slice la ln lc, .slice ra cts.length rc] 34)
    have HF := Lib.hid ((Fr.refl [] w).alloc (.cells #[.int .i64 tk, .int .i64 4, .int .i64 code, .int .i64 place, .int .i64 time, .int .i64 n, .string ⟨name.toArray⟩, .slice la ln lc, .slice ra cts.length rc] 34))
    generalize w.alloc (.cells #[.int .i64 tk, .int .i64 4, .int .i64 code, .int .i64 place, .int .i64 time, .int .i64 n, .string ⟨name.toArray⟩, .slice la ln lc, .slice ra cts.length rc] 34) = w2 at *
    obtain ⟨c0, c1, c2, c3, c4, c5, c6, c7, c8⟩ := blk9 hblk
    have HBlk := Lib.hid hblk
    clear hblk
    go_wp2_with (go_at_call 46; refine (H4.out _ HF.out).mono ?_; rintro e w5 ⟨rfl, f5⟩)
    go_ret
    exact ⟨by rw [HE.out]; rfl, HF.out.trans f5⟩
  · have HE := Lib.hid (show sayB ⟨tk, kind, code, place, time, n, name, .slice la ln lc, .slice ra cts.length rc, cts⟩ = [] by rw [sayB, if_neg k1, if_neg k2, if_neg k3, if_neg k4])
    have e1 : (kind == 1) = false := by simpa using k1
    have e2 : (kind == 2) = false := by simpa using k2
    have e3 : (kind == 3) = false := by simpa using k3
    have e4 : (kind == 4) = false := by simpa using k4
    clear k1 k2 k3 k4
    go_enter Tryz.func32, Tryz.ntmps32
    go_upto_region 1 with fail
    have hblk := heap_alloc_new w (.cells #[.int .i64 tk, .int .i64 kind, .int .i64 code, .int .i64 place, .int .i64 time, .int .i64 n, .string ⟨name.toArray⟩, .slice la ln lc, .slice ra cts.length rc] 34)
    have HF := Lib.hid ((Fr.refl [] w).alloc (.cells #[.int .i64 tk, .int .i64 kind, .int .i64 code, .int .i64 place, .int .i64 time, .int .i64 n, .string ⟨name.toArray⟩, .slice la ln lc, .slice ra cts.length rc] 34))
    generalize w.alloc (.cells #[.int .i64 tk, .int .i64 kind, .int .i64 code, .int .i64 place, .int .i64 time, .int .i64 n, .string ⟨name.toArray⟩, .slice la ln lc, .slice ra cts.length rc] 34) = w2 at *
    obtain ⟨c0, c1, c2, c3, c4, c5, c6, c7, c8⟩ := blk9 hblk
    have HBlk := Lib.hid hblk
    clear hblk
    go_wp2_with fail
    go_ret
    exact ⟨by rw [HE.out]; rfl, HF.out⟩
end Go.Proofs.YtgdneoajmaeckaaGreatDoor
