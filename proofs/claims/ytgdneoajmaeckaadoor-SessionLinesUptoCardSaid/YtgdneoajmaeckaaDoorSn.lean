/- SessionLines: the walk. Conditions: the sizes; the listed tables lie as their text lays them. -/
import Derived.Test.YtgdneoajmaeckaaDoorFd
import Derived.Test.YtgdneoajmaeckaaDoorCr
import Derived.Test.YtgdneoajmaeckaaDoorRow
import Derived.Test.YtgdneoajmaeckaaDoorRr
namespace Go.Proofs.YtgdneoajmaeckaaDoor
open Go.RowKit

theorem fz (k : Int) (h : -100 ≤ k ∧ k ≤ 100) : fits64 k := by unfold fits64; omega
theorem blk4 {w : World} {b : Nat} {x0 x1 x2 x3 : Value} {t : Nat} (h : w.heap[b]? = some (.cells #[x0, x1, x2, x3] t)) :
    w.cell? ⟨b, 0, none⟩ = some x0 ∧ w.cell? ⟨b, 1, none⟩ = some x1 ∧ w.cell? ⟨b, 2, none⟩ = some x2 ∧ w.cell? ⟨b, 3, none⟩ = some x3 := by
  simp [World.cell?, h]
def cntB (B : ByteArray) : Int := (nl B.data.toList : Int)
/-- A note of a row, as a line. -/
def rowL (k : List UInt8) (a : List Dt) (t n : Int) : List UInt8 := lineT [k, Lib.itoa t, Lib.itoa n, nlB (printR a)]
/-- A reply of two rows, as lines. -/
def linesB (a b : List Dt) (t n : Int) : List UInt8 := lineT [sRows, Lib.itoa t, Lib.itoa (2 : Int)] ++ [(⟨.bool true, a, n⟩ : Ct), ⟨.bool true, b, n⟩].flatMap ctB
theorem rowB_len (k : List UInt8) (a : List Dt) (t n : Int) (hk : k.length ≤ 10) (ho : ∀ d ∈ a, DtOk d) (hm : a.length ≤ 1048576) (ht : fits64 t) (hn : fits64 n) : (rowL k a t n).length ≤ 4400000200 := by
  have h0 := Lib.itoa_length_le t ht.1 ht.2
  have h1 := Lib.itoa_length_le n hn.1 hn.2
  have h2 := printR_len a ho hm
  have h3 := nlB_len (printR a)
  simp only [rowL, lineT, Lib.join_cons, Lib.joinTail, List.map_cons, List.map_nil, List.flatten_cons, List.flatten_nil, List.length_append, List.length_cons, List.length_nil]
  omega
theorem linesB_len (a b : List Dt) (t n : Int) (ho : ∀ d ∈ a, DtOk d) (ho' : ∀ d ∈ b, DtOk d) (hm : a.length ≤ 1048576) (hm' : b.length ≤ 1048576) (ht : fits64 t) (hn : fits64 n) : (linesB a b t n).length ≤ 13200000600 := by
  have h0 := Lib.itoa_length_le t ht.1 ht.2
  have h1 := Lib.itoa_length_le n hn.1 hn.2
  have h4 := Lib.itoa_length_le 2 (by omega) (by omega)
  have h2 := printR_len a ho hm
  have h3 := nlB_len (printR a)
  have h5 := printR_len b ho' hm'
  have h6 := nlB_len (printR b)
  simp only [linesB, ctB, sRows, List.flatMap_cons, List.flatMap_nil, lineT, Lib.join_cons, Lib.joinTail, List.map_cons, List.map_nil, List.flatten_cons, List.flatten_nil, List.length_append, List.length_cons, List.length_nil]
  omega
theorem rowB_nl (k : List UInt8) (a : List Dt) (t n : Int) (hk : ∀ c ∈ k, c ≠ 10) : nl (rowL k a t n) = 1 := lineT_nl _ (words_nonl k t n a hk)
theorem linesB_nl (a b : List Dt) (t n : Int) : nl (linesB a b t n) = 3 := by
  unfold linesB
  rw [nl_app, lineT_nl]
  · simp only [List.flatMap_cons, List.flatMap_nil, List.append_nil]
    rw [nl_app, ctB_nl, ctB_nl]
  · intro x hx
    simp only [List.mem_cons, List.not_mem_nil, or_false] at hx
    rcases hx with rfl | rfl | rfl
    · decide
    · exact itoa_nonl _
    · exact itoa_nonl _
theorem rowB_last (k : List UInt8) (a : List Dt) (t n : Int) : ∃ r, rowL k a t n = r ++ [10] := ⟨_, rfl⟩
theorem linesB_last (a b : List Dt) (t n : Int) : ∃ r, linesB a b t n = r ++ [10] := by
  obtain ⟨r, hr⟩ : ∃ r, ctB ⟨.bool true, b, n⟩ = r ++ [10] := ⟨_, rfl⟩
  refine ⟨lineT [sRows, Lib.itoa t, Lib.itoa (2 : Int)] ++ (ctB ⟨.bool true, a, n⟩ ++ r), ?_⟩
  simp only [linesB, List.flatMap_cons, List.flatMap_nil, List.append_nil, hr, List.append_assoc]
theorem rowB_eq (k : List UInt8) (a : List Dt) (t n : Int) : rowL k a t n = (k ++ 32 :: (Lib.itoa t ++ 32 :: (Lib.itoa n ++ [32]))) ++ (nlB (printR a) ++ [10]) := by
  simp [rowL, lineT, Lib.join_cons, Lib.joinTail]
theorem rowB_inj {a b : List Dt} (t n : Int) (ha : ∀ d ∈ a, rightB d = true) (hb : ∀ d ∈ b, rightB d = true) : rowL sRow a t n = rowL sRow b t n ↔ cmpR a b = 0 := by
  constructor
  · intro h
    rw [rowB_eq, rowB_eq] at h
    have h1 := List.append_cancel_left h
    have h2 := List.append_cancel_right h1
    rw [printR_inj ha hb (nlB_inj h2)]
    exact cmpR_self _
  · intro h
    rw [cmpR_eq h]
theorem rowB_ne (a b : List Dt) (t n t' n' : Int) : rowL sRow a t n ≠ rowL sUpdate b t' n' := by
  intro h
  rw [rowB_eq, rowB_eq] at h
  exact absurd (List.cons.inj h).1 (by decide)

set_option maxRecDepth 100000
set_option maxHeartbeats 6400000 in
theorem lines_any {w : World} {v v' : Value} {a b : List Dt} (h : RowAt w v a) (h' : RowAt w v' b) (ho : ∀ d ∈ a, DtOk d) (ho' : ∀ d ∈ b, DtOk d) (hm : a.length ≤ 1048576) (hm' : b.length ≤ 1048576) (t n : Int) (ht : fits64 t) (hn : fits64 n) (hT : Tabs w) :
    Calls Tryd.prog 5 #[v, v', .int .i64 t, .int .i64 n] w fun e w' => e = .returned (.bool true) ∧ Fr [] w w' := by
  obtain ⟨i0, hi, hz0, hz1, hz2⟩ := info_parts infoD
  have HS1 := Lib.hid (src_row h)
  have HS2 := Lib.hid (src_row h')
  have HR1 := Lib.hid h
  have HR2 := Lib.hid h'
  obtain ⟨aa, ac, rfl, -⟩ := h.shape
  obtain ⟨ba, bc, rfl, -⟩ := h'.shape
  clear h h'
  have HTb := Lib.hid hT
  clear hT
  go_enter Tryd.func5, Tryd.ntmps5
  go_wp2_with (first
    | (at_builtin; refine wpList_append_src _ rfl (.tmp 15) (.tmp 16) 38 rfl w.heap.size 45 i0 _ 3 32 Tryd.underlying38 hi hz0 hz1 hz2 rfl (by decide) _ _ _ rfl (World.ownsRow_made w #[] 0 (Nat.le_refl _) (by decide) rfl) _ a.length _ rfl (HS1.out.alloc _) (by unfold maxLen; omega) (by omega) (by simp) ?_; intro v1 w1 hown1 hgrow1 _
       have f1 := Lib.hid (((Fr.refl [] w).alloc _).fresh hgrow1 (fun r e => Or.inl (by simp [Act.eval, Value.ownBlock] at e; omega)))
       have OC := Lib.hid (show w1.ownsRow w.heap.size 45 3 v1 a.length (dtsC a) by simpa using hown1)
       have q1 := f1.out.size
       clear hown1 hgrow1)
    | (at_builtin; refine wpList_append_src _ rfl (.tmp 17) (.tmp 18) 38 rfl w.heap.size 45 i0 _ 3 32 Tryd.underlying38 hi hz0 hz1 hz2 rfl (by decide) _ _ _ rfl OC.out _ b.length _ rfl (HS2.out.fr f1.out) (by unfold maxLen; omega) (by omega) (by omega) ?_; intro v2 w2 hown2 hgrow2 _
       have f2 := Lib.hid (f1.out.fresh hgrow2 (fun r e => Or.inl (OC.out.lt r e).1))
       have hB := Lib.hid (rowAt_own (show w2.ownsRow w.heap.size 45 3 v2 (a ++ b).length (dtsC (a ++ b)) by
         have : dtsC (a ++ b) = dtsC a ++ dtsC b := by simp [dtsC]
         rw [this, List.length_append]; exact hown2))
       obtain ⟨va, vc, hshape⟩ := ownsRow_shape hown2
       clear hown2 hgrow2
       subst hshape))
  have hok2 : ∀ d ∈ a ++ b, DtOk d := fun d hd => (List.mem_append.1 hd).elim (ho d) (ho' d)
  have hright : (∀ d ∈ a ++ b, rightB d = true) → (∀ d ∈ a, rightB d = true) ∧ (∀ d ∈ b, rightB d = true) := fun h => ⟨fun d hd => h d (List.mem_append_left _ hd), fun d hd => h d (List.mem_append_right _ hd)⟩
  have hlen : (a ++ b).length = a.length + b.length := List.length_append
  have hRt := Lib.hid hright
  have hOk := Lib.hid hok2
  have hOa := Lib.hid ho
  have hOb := Lib.hid ho'
  clear hok2 hright ho ho' OC
  generalize a ++ b = c at *
  go_loopw [21] (fun a21 wr => (∃ k : Nat, k ≤ c.length ∧ a21 = .int .i64 k ∧ Hid (∀ d ∈ c.take k, rightB d = true)) ∧ Fr [] w2 wr) (fun a21 _ => c.length - (intOf a21).toNat)
  case atStart => exact ⟨⟨0, Nat.zero_le _, rfl, Lib.hid (by simp)⟩, Fr.refl _ _⟩
  case round =>
    obtain ⟨⟨k, hk, rfl, HK⟩, hf⟩ := hrel
    have HF := Lib.hid hf
    by_cases hlt : k < c.length
    · obtain ⟨b1, o1, he1, x0, x1, x2⟩ := (hB.out.fr hf).at hlt
      subst he1
      have hs := (hOk.out _ (List.getElem_mem hlt)).2
      have HK2 := Lib.hid (show rightB c[k] = true → ∀ d ∈ c.take (k + 1), rightB d = true by
        intro h d hd
        rw [List.take_succ_eq_append_getElem hlt, List.mem_append, List.mem_singleton] at hd
        rcases hd with hd | rfl
        · exact HK.out d hd
        · exact h)
      clear hf
      generalize c[k] = da at *
      obtain ⟨dk, di, ds⟩ := da
      have hsz := size_mk ds
      have hr := rright_any dk di ⟨ds.toArray⟩
      simp only at hs
      cases hb : rightB ⟨dk, di, ds⟩ with
      | true =>
        rw [hb] at hr
        have HN := Lib.hid (HK2.out hb)
        clear hb HK HK2
        go_wp2_with (go_at_call 15; refine (hr _ (by omega)).mono ?_; rintro e w5 ⟨rfl, f5⟩)
        go_roundw
        case rel => exact ⟨⟨k + 1, by omega, by go_num, HN⟩, (HF.out.alloc _).trans f5⟩
        case measure => simp [intOf]; omega
      | false =>
        rw [hb] at hr
        clear hb HK HK2
        go_wp2_with (go_at_call 15; refine (hr _ (by omega)).mono ?_; rintro e w5 ⟨rfl, f5⟩)
        go_ret
        exact ⟨rfl, f2.out.trans ((HF.out.alloc _).trans f5)⟩
    · have hke : k = c.length := by omega
      have HAll := Lib.hid (hRt.out (show ∀ d ∈ c, rightB d = true by
        have := HK.out
        rw [hke, List.take_of_length_le (Nat.le_refl _)] at this
        exact this))
      have FW := Lib.hid (f2.out.trans hf)
      clear hf HF HK hRt hOk hB
      have hx : ∀ wn, Fr [] w wn → wn.cell? ⟨wr.heap.size, 0, none⟩ = some (.slice aa a.length ac) → wn.cell? ⟨wr.heap.size, 1, none⟩ = some (.int .i64 n) → wn.cell? ⟨wr.heap.size, 2, none⟩ = some (.slice ba b.length bc) → wn.cell? ⟨wr.heap.size, 3, none⟩ = some (.int .i64 n) →
          Calls Tryd.prog 11 #[.agg #[.int .i64 0, .int .i64 3, .int .i64 0, .int .i64 0, .int .i64 t, .int .i64 0, .string ⟨#[]⟩, .slice none 0 0, .slice (some ⟨wr.heap.size, 0, none⟩) 2 2]] wn fun e w' => e = .returned (.string ⟨(linesB a b t n).toArray⟩) ∧ Fr [] wn w' := by
        intro wn f c0 c1 c2 c3
        refine say_any (w := wn) ⟨0, 3, 0, 0, t, 0, [], .slice none 0 0, .slice (some ⟨wr.heap.size, 0, none⟩) 2 2, [⟨.slice aa a.length ac, a, n⟩, ⟨.slice ba b.length bc, b, n⟩]⟩ ⟨fz _ (by simp), fz _ (by simp), fz _ (by simp), fz _ (by simp), ht, fz _ (by simp), by simp, ⟨_, _, _, rfl⟩, ?_⟩ (HTb.out.fr f) (by simp)
        refine ⟨_, 2, rfl, (fun h => by cases h), Nat.le_refl _, fun k x hk => ⟨wr.heap.size, 0, rfl, ?_⟩⟩
        match k, hk with
        | 0, hk =>
          obtain rfl := Option.some.inj hk
          exact ⟨by simpa using c0, by simpa using c1, HR1.out.fr f, hOa.out, hm, hn⟩
        | 1, hk =>
          obtain rfl := Option.some.inj hk
          exact ⟨by simpa using c2, by simpa using c3, HR2.out.fr f, hOb.out, hm', hn⟩
      have hy : ∀ wn, Fr [] w wn → Calls Tryd.prog 13 #[.agg #[.int .i64 1, .int .i64 t, .int .i64 n, .slice aa a.length ac, .int .i64 0]] wn fun e w' => e = .returned (.string ⟨(rowL sRow a t n).toArray⟩) ∧ Fr [] wn w' := fun wn f =>
        tell_any ⟨1, t, n, .slice aa a.length ac, a, 0⟩ ⟨fz _ (by simp), ht, hn, fz _ (by simp), HR1.out.fr f, hOa.out, hm⟩ (HTb.out.fr f)
      have hz : ∀ wn, Fr [] w wn → Calls Tryd.prog 13 #[.agg #[.int .i64 1, .int .i64 t, .int .i64 n, .slice ba b.length bc, .int .i64 0]] wn fun e w' => e = .returned (.string ⟨(rowL sRow b t n).toArray⟩) ∧ Fr [] wn w' := fun wn f =>
        tell_any ⟨1, t, n, .slice ba b.length bc, b, 0⟩ ⟨fz _ (by simp), ht, hn, fz _ (by simp), HR2.out.fr f, hOb.out, hm'⟩ (HTb.out.fr f)
      have hu : ∀ wn, Fr [] w wn → Calls Tryd.prog 13 #[.agg #[.int .i64 2, .int .i64 t, .int .i64 n, .slice aa a.length ac, .int .i64 0]] wn fun e w' => e = .returned (.string ⟨(rowL sUpdate a t n).toArray⟩) ∧ Fr [] wn w' := fun wn f =>
        tell_any ⟨2, t, n, .slice aa a.length ac, a, 0⟩ ⟨fz _ (by simp), ht, hn, fz _ (by simp), HR1.out.fr f, hOa.out, hm⟩ (HTb.out.fr f)
      have hs : ∀ wn, Fr [] w wn → Calls Tryd.prog 17 #[.slice aa a.length ac, .slice ba b.length bc] wn fun e w' => e = .returned (.bool (decide (cmpR a b = 0))) ∧ Fr [] wn w' := fun wn f => rsame_any (HR1.out.fr f) (HR2.out.fr f) (by omega)
      have lx := linesB_len a b t n hOa.out hOb.out hm hm' ht hn
      have ly := rowB_len sRow a t n (by decide) hOa.out hm ht hn
      have lz := rowB_len sRow b t n (by decide) hOb.out hm' ht hn
      have lu := rowB_len sUpdate a t n (by decide) hOa.out hm ht hn
      have gf : ∀ (B : ByteArray) wn, B.size ≤ 140737488351232 → Calls Tryd.prog 16 #[.string B] wn fun e w' => e = .returned (.int .i64 (cntB B)) ∧ Fr [] wn w' := fun B wn hB => feeds_any B.data.toList (by rw [Array.length_toList]; exact hB) wn
      have gx : cntB ⟨(linesB a b t n).toArray⟩ = 3 := congrArg Int.ofNat (linesB_nl a b t n)
      have gy : cntB ⟨(rowL sRow a t n).toArray⟩ = 1 := congrArg Int.ofNat (rowB_nl _ _ _ _ (by decide))
      have gz : cntB ⟨(rowL sRow b t n).toArray⟩ = 1 := congrArg Int.ofNat (rowB_nl _ _ _ _ (by decide))
      have gu : cntB ⟨(rowL sUpdate a t n).toArray⟩ = 1 := congrArg Int.ofNat (rowB_nl _ _ _ _ (by decide))
      have bx := size_mk (linesB a b t n)
      have by_ := size_mk (rowL sRow a t n)
      have bz := size_mk (rowL sRow b t n)
      have bu := size_mk (rowL sUpdate a t n)
      rw [← bx] at lx
      rw [← by_] at ly
      rw [← bz] at lz
      rw [← bu] at lu
      have e1 := rowB_inj t n HAll.out.1 HAll.out.2
      have e2 := rowB_ne a a t n t n
      obtain ⟨rx, ex⟩ := linesB_last a b t n
      obtain ⟨ry, ey⟩ := rowB_last sRow a t n
      have ly0 : (⟨(rowL sRow a t n).toArray⟩ : ByteArray).toList = rowL sRow a t n := ByteArray.toList_eq _
      have lz0 : (⟨(rowL sRow b t n).toArray⟩ : ByteArray).toList = rowL sRow b t n := ByteArray.toList_eq _
      have lu0 : (⟨(rowL sUpdate a t n).toArray⟩ : ByteArray).toList = rowL sUpdate a t n := ByteArray.toList_eq _
      have nx : ∀ h, (⟨(linesB a b t n).toArray⟩ : ByteArray)[rx.length]'h = 10 := by
        intro h
        show ((linesB a b t n).toArray)[rx.length] = 10
        simp [ex]
      have ny : ∀ h, (⟨(rowL sRow a t n).toArray⟩ : ByteArray)[ry.length]'h = 10 := by
        intro h
        show ((rowL sRow a t n).toArray)[ry.length] = 10
        simp [ey]
      have sx : (⟨(linesB a b t n).toArray⟩ : ByteArray).size = rx.length + 1 := by rw [size_mk, ex]; simp
      have sy : (⟨(rowL sRow a t n).toArray⟩ : ByteArray).size = ry.length + 1 := by rw [size_mk, ey]; simp
      have e3 : rowL sRow a t n = rowL sRow b t n → (⟨(rowL sRow b t n).toArray⟩ : ByteArray) = ⟨(rowL sRow a t n).toArray⟩ := fun h => by rw [h]
      clear ex ey bx by_ bz bu
      generalize (⟨(linesB a b t n).toArray⟩ : ByteArray) = X at *
      generalize (⟨(rowL sRow a t n).toArray⟩ : ByteArray) = Y at *
      generalize (⟨(rowL sRow b t n).toArray⟩ : ByteArray) = Z at *
      generalize (⟨(rowL sUpdate a t n).toArray⟩ : ByteArray) = U at *
      rw [← ly0, ← lz0] at e1
      rw [← ly0, ← lu0] at e2
      rw [← ly0, ← lz0] at e3
      clear ly0 lz0 lu0
      generalize cntB = cnt at *
      generalize rx.length = px at *
      generalize ry.length = py at *
      have GF := Lib.hid gf
      clear gf
      have Hx := Lib.hid hx
      have Hy := Lib.hid hy
      have Hz := Lib.hid hz
      have Hu := Lib.hid hu
      have Hs := Lib.hid hs
      have nx2 := nx (by omega)
      have ny2 := ny (by omega)
      have e4 : (Y.toList == U.toList) = false := by simpa using e2
      have ha := heap_alloc_new wr (.cells #[.slice aa a.length ac, .int .i64 n, .slice ba b.length bc, .int .i64 n] 48)
      have FA := Lib.hid (FW.out.alloc (.cells #[.slice aa a.length ac, .int .i64 n, .slice ba b.length bc, .int .i64 n] 48))
      obtain ⟨c0, c1, c2, c3⟩ := blk4 ha
      have HX := Lib.hid (Hx.out _ FA.out c0 c1 c2 c3)
      clear hx hy hz hu hs nx ny ha c0 c1 c2 c3 Hx
      by_cases hc : cmpR a b = 0
      · have h1 := e3 (e1.2 hc)
        subst h1
        have HC := Lib.hid (show decide (cmpR a b = 0) = true by simpa using hc)
        have h2 : (Z.toList == Z.toList) = true := by simp
        clear e1 e2 e3 hc
        rw [HC.out] at Hs
        go_upto_region 8 with (go_at_call 11; refine HX.out.mono ?_; rintro e w3 ⟨rfl, g3⟩; have F3 := Lib.hid (FA.out.trans g3); clear g3)
        go_upto_region 9 with (go_at_call 13; refine (Hy.out _ F3.out).mono ?_; rintro e w4 ⟨rfl, g4⟩; have F4 := Lib.hid (F3.out.trans g4); clear g4)
        go_upto_region 10 with (go_at_call 13; refine (Hz.out _ F4.out).mono ?_; rintro e w5 ⟨rfl, g5⟩; have F5 := Lib.hid (F4.out.trans g5); clear g5)
        go_upto_region 11 with (go_at_call 13; refine (Hu.out _ F5.out).mono ?_; rintro e w6 ⟨rfl, g6⟩; have F6 := Lib.hid (F5.out.trans g6); clear g6)
        clear HX Hy Hz Hu F3 F4 F5 FA
        go_wp2_with (first
          | (go_at_call 16; refine (GF.out _ _ (by first | assumption | omega)).mono ?_; rintro e w7 ⟨rfl, g7⟩; have F6 := Lib.hid (F6.out.trans g7); clear g7)
          | (go_at_call 17; refine (Hs.out _ F6.out).mono ?_; rintro e w11 ⟨rfl, g11⟩; have F6 := Lib.hid (F6.out.trans g11); clear g11))
        go_ret
        exact ⟨by simp, F6.out⟩
      · have h2 : (Y.toList == Z.toList) = false := by
          have : ¬ Y.toList = Z.toList := fun h => hc (e1.1 h)
          simpa using this
        have HC := Lib.hid (show decide (cmpR a b = 0) = false by simpa using hc)
        clear e1 e2 e3 hc
        rw [HC.out] at Hs
        go_upto_region 8 with (go_at_call 11; refine HX.out.mono ?_; rintro e w3 ⟨rfl, g3⟩; have F3 := Lib.hid (FA.out.trans g3); clear g3)
        go_upto_region 9 with (go_at_call 13; refine (Hy.out _ F3.out).mono ?_; rintro e w4 ⟨rfl, g4⟩; have F4 := Lib.hid (F3.out.trans g4); clear g4)
        go_upto_region 10 with (go_at_call 13; refine (Hz.out _ F4.out).mono ?_; rintro e w5 ⟨rfl, g5⟩; have F5 := Lib.hid (F4.out.trans g5); clear g5)
        go_upto_region 11 with (go_at_call 13; refine (Hu.out _ F5.out).mono ?_; rintro e w6 ⟨rfl, g6⟩; have F6 := Lib.hid (F5.out.trans g6); clear g6)
        clear HX Hy Hz Hu F3 F4 F5 FA
        go_wp2_with (first
          | (go_at_call 16; refine (GF.out _ _ (by first | assumption | omega)).mono ?_; rintro e w7 ⟨rfl, g7⟩; have F6 := Lib.hid (F6.out.trans g7); clear g7)
          | (go_at_call 17; refine (Hs.out _ F6.out).mono ?_; rintro e w11 ⟨rfl, g11⟩; have F6 := Lib.hid (F6.out.trans g11); clear g11))
        go_ret
        exact ⟨by simp, F6.out⟩
end Go.Proofs.YtgdneoajmaeckaaDoor
