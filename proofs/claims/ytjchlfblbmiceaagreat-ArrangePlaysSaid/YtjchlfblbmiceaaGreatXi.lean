/- The walk of ArrangePlays. No condition but the sizes. -/
import Derived.Test.YtjchlfblbmiceaaGreatXh
import Derived.Deep.RegionHeld3
namespace Go.Proofs.YtjchlfblbmiceaaGreat
open Go.RowKit srt grp

def ppC (ds : List Duo) : List Value := ds.map fun d => .pointer (some ⟨d.p, 0, none⟩)
def qqC (ds : List Duo) : List Value := ds.map fun d => .pointer (some ⟨d.q, 0, none⟩)
theorem ppC_at {ds : List Duo} {i : Nat} (h : i < ds.length) : (ppC ds)[i]? = some (.pointer (some ⟨(nduo ds i).p, 0, none⟩)) := by unfold ppC; rw [List.getElem?_map, nduo_at h]; rfl
theorem qqC_at {ds : List Duo} {i : Nat} (h : i < ds.length) : (qqC ds)[i]? = some (.pointer (some ⟨(nduo ds i).q, 0, none⟩)) := by unfold qqC; rw [List.getElem?_map, nduo_at h]; rfl
theorem ppC_set {ds : List Duo} {i : Nat} {d : Duo} (hi : i < ds.length) (hp : d.p = (nduo ds i).p) : ppC (ds.set i d) = ppC ds := by
  unfold ppC
  apply List.ext_getElem?
  intro j
  rw [List.getElem?_map, List.getElem?_map, List.getElem?_set]
  by_cases h : i = j
  · subst h
    rw [if_pos rfl, if_pos hi, nduo_at hi]
    simp [hp]
  · rw [if_neg h]
theorem qqC_set {ds : List Duo} {i : Nat} {d : Duo} (hi : i < ds.length) (hp : d.q = (nduo ds i).q) : qqC (ds.set i d) = qqC ds := by
  unfold qqC
  apply List.ext_getElem?
  intro j
  rw [List.getElem?_map, List.getElem?_map, List.getElem?_set]
  by_cases h : i = j
  · subst h
    rw [if_pos rfl, if_pos hi, nduo_at hi]
    simp [hp]
  · rw [if_neg h]
/-- A cell of a list of pointers that is one's own. -/
theorem own_cell {w : World} {base e n : Nat} {a : Option Addr} {c : Nat} {xs : List Value} (h : w.ownsRow base e 1 (.slice a n c) n xs) {j : Nat} {u : Value} (hj : xs[j]? = some u) : ∃ g cur, a = some ⟨g, 0, none⟩ ∧ base ≤ g ∧ w.heap[g]? = some (.cells cur e) ∧ w.cell? ⟨g, j, none⟩ = some u := by
  obtain ⟨hl, h2⟩ := h
  have hjl := (List.getElem?_eq_some_iff.1 hj).1
  rcases h2 with ⟨-, h2⟩ | ⟨g, cap, cur, hv, hg, hh, hc, -, -, htk⟩
  · omega
  · simp only [Value.slice.injEq] at hv
    refine ⟨g, cur, hv.1, hg, hh, cell_blk hh j u ?_⟩
    rw [← htk, List.getElem?_take_of_lt (by omega)] at hj
    simpa using hj
theorem own_one (w : World) (e : Nat) (u : Value) (base : Nat) (hb : base ≤ w.heap.size) : (w.alloc (.cells #[u] e)).ownsRow base e 1 (.slice (some ⟨w.heap.size, 0, none⟩) 1 1) 1 [u] :=
  ⟨rfl, Or.inr ⟨w.heap.size, 1, #[u], rfl, hb, heap_alloc_new w _, by omega, by decide, rfl, rfl⟩⟩
theorem DuoAt.notP {w : World} {d : Duo} (h : DuoAt w d) {b : Nat} {cur : Array Value} {t : Nat} (hb : w.heap[b]? = some (.cells cur t)) (ht : t ≠ 73 ∧ t ≠ 27 ∧ t ≠ 85) : b ∉ d.own := fun hx => by
  have hno : ∀ {c : Array Value} {t' : Nat}, w.heap[b]? = some (.cells c t') → t' = t := fun hc => by
    rw [hb] at hc
    simp only [Option.some.injEq, Obj.cells.injEq] at hc
    exact hc.2.1.symm
  rcases (d.mem b).1 hx with rfl | hx | rfl | hx
  · exact ht.1 (hno h.sp.blk).symm
  · obtain ⟨c, hc⟩ := h.sp.own.ty hx
    exact ht.2.1 (hno hc).symm
  · exact ht.2.2 (hno h.rf.blk).symm
  · obtain ⟨c, hc⟩ := h.rf.own.ty hx
    exact ht.2.1 (hno hc).symm
/-- A list of pointers stays where a pair is called. -/
theorem ownsRow_duo {w w' : World} {d : Duo} {base e n : Nat} {v : Value} {xs : List Value} (ho : w.ownsRow base e 1 v n xs) (h : DuoAt w d) (f : Fr d.own w w') (ht : e ≠ 73 ∧ e ≠ 27 ∧ e ≠ 85) : w'.ownsRow base e 1 v n xs :=
  ownsRow_frS ho f fun g hg => by
    obtain ⟨c, hc⟩ := own_ty ho hg
    exact h.notP hc ht
/-- A list of pointers is grown: the pairs stay. -/
theorem Duos.ptr {w w' : World} {key : List Int} {k base e n : Nat} {ds : List Duo} {v : Value} {xs : List Value} (h : Duos w key k ds) (ho : w.ownsRow base e 1 v n xs) (f : Fr v.ownBlock.toList w w') (ht : e = 26 ∨ e = 45) : Duos w' key k ds := by
  refine h.frC f (fun x hx => ?_) (fun i hi x hx hy => ?_)
  · obtain ⟨c, hc⟩ := own_ty ho (g := x) (by simpa using hx)
    exact ⟨c, e, hc, by rcases ht with h | h <;> simp [h]⟩
  · obtain ⟨c, hc⟩ := own_ty ho (g := x) (by simpa using hy)
    exact (h.here i hi).notP hc (by rcases ht with h | h <;> subst h <;> decide) hx
theorem ptr_other {w w' : World} {base base2 e e2 n n2 : Nat} {v v2 : Value} {xs xs2 : List Value} (h : w.ownsRow base e 1 v n xs) (ho : w.ownsRow base2 e2 1 v2 n2 xs2) (f : Fr v2.ownBlock.toList w w') (hne : e ≠ e2) : w'.ownsRow base e 1 v n xs :=
  ownsRow_frS h f fun g hg hx => by
    obtain ⟨c, hc⟩ := own_ty h hg
    exact own_not ho hc hne hx
theorem infoP : (Tryz.prog.info? 26).map (fun i => (i.zero, i.size, i.bytes)) = some (some (.pointer none), 1, 8) := by kernel_rfl
theorem infoQ : (Tryz.prog.info? 45).map (fun i => (i.zero, i.size, i.bytes)) = some (some (.pointer none), 1, 8) := by kernel_rfl

theorem nduo_left {ds : List Duo} {d' : Duo} {j : Nat} (h : j < ds.length) : nduo (ds ++ [d']) j = nduo ds j := by unfold nduo; rw [List.getElem?_append_left h]
theorem nduo_last (ds : List Duo) (d' : Duo) : nduo (ds ++ [d']) ds.length = d' := by unfold nduo; simp
/-- One more. -/
theorem Duos.more2 {w : World} {key : List Int} {k n : Nat} {ds : List Duo} {d' : Duo} {all : List upd.El} (h : Duos w key k ds) (hk : k + 1 ≤ 60) (hlt : ∀ i, i < ds.length → ∀ x ∈ (nduo ds i).own, x < n) (ha : DuoAt w d') (ho : DuoOk key (k + 1) d' all) (hn : ∀ x ∈ d'.own, n ≤ x) : Duos w key (k + 1) (ds ++ [d']) := by
  have e1 : ∀ j, j < ds.length → nduo (ds ++ [d']) j = nduo ds j := fun j hj => by unfold nduo; rw [List.getElem?_append_left hj]
  have e2 : nduo (ds ++ [d']) ds.length = d' := by unfold nduo; simp
  refine ⟨fun j hj => ?_, fun j hj => ?_, fun a b h1 h2 hab x hx => ?_⟩
  · rw [List.length_append] at hj
    by_cases e : j < ds.length
    · rw [e1 j e]; exact h.here j e
    · obtain rfl : j = ds.length := by simp at hj; omega
      rw [e2]; exact ha
  · rw [List.length_append] at hj
    by_cases e : j < ds.length
    · rw [e1 j e]
      obtain ⟨all', h9⟩ := h.ok j e
      exact ⟨all', h9.mono (by omega) hk⟩
    · obtain rfl : j = ds.length := by simp at hj; omega
      rw [e2]; exact ⟨all, ho⟩
  · rw [List.length_append] at h1 h2
    simp only [List.length_cons, List.length_nil] at h1 h2
    by_cases c1 : a < ds.length
    · rw [e1 a c1] at hx
      by_cases c2 : b < ds.length
      · rw [e1 b c2]; exact h.far a b c1 c2 hab x hx
      · obtain rfl : b = ds.length := by omega
        rw [e2]
        intro hy
        have := hn x hy
        have := hlt a c1 x hx
        omega
    · obtain rfl : a = ds.length := by omega
      rw [e2] at hx
      rw [e1 b (by omega)]
      intro hy
      have := hn x hx
      have := hlt b (by omega) x hy
      omega
def PaR (w : World) (key : List Int) (n : Nat) (a r x : Value) (wr : World) : Prop :=
  ∃ (k : Nat) (ds : List Duo), x = .int .i64 k ∧ k ≤ n ∧ Fr [] w wr ∧ Duos wr key k ds ∧ 1 ≤ ds.length ∧ ds.length ≤ 4 ∧ (∀ i, i < ds.length → ∀ y ∈ (nduo ds i).own, w.heap.size ≤ y) ∧
    wr.ownsRow w.heap.size 26 1 a ds.length (ppC ds) ∧ wr.ownsRow w.heap.size 45 1 r ds.length (qqC ds)
theorem DuoOk.start {key : List Int} (h : keyOk key = true) (p q : Nat) (a a' : Option Addr) (c c' : Nat) : DuoOk key 0 ⟨p, none, spn0 a c key, q, none, spn0 a' c' key⟩ [] :=
  ⟨Gd.start h a c, Gd.start h a' c', ⟨rfl, rfl, rfl, rfl, rfl⟩⟩
theorem Duos.one {w : World} {key : List Int} {k : Nat} {d : Duo} {all : List upd.El} (h : DuoAt w d) (g : DuoOk key k d all) : Duos w key k [d] := by
  have e : ∀ i, i < [d].length → nduo [d] i = d := fun i hi => by
    obtain rfl : i = 0 := by simp at hi; omega
    rfl
  exact ⟨fun i hi => by rw [e i hi]; exact h, fun i hi => by rw [e i hi]; exact ⟨all, g⟩, fun i j hi hj hne => by simp at hi hj; omega⟩
theorem Duos.stands {w : World} {key : List Int} {k i : Nat} {ds : List Duo} (h : Duos w key k ds) (hi : i < ds.length) :
    Calls Tryz.prog 25 #[.pointer (some ⟨(nduo ds i).p, 0, none⟩), .pointer (some ⟨(nduo ds i).q, 0, none⟩)] w fun e w' => e = .returned (.bool true) ∧ Fr [] w w' := by
  obtain ⟨all, g⟩ := h.ok i hi
  have h1 := h.here i hi
  exact stands_any h1.sp h1.rf g.t.szs g.t.since g.t.upper (by have := g.s.bl; have := g.s.few; omega)

set_option maxRecDepth 100000
set_option maxHeartbeats 12800000 in
theorem plays_walk {w : World} {a0 a1 : Option Addr} {c0 c1 : Nat} {key : List Int} {ops : List OpE} (hk : Src w 1 (.slice a0 key.length c0) key.length (kiC key)) (hkl : key.length ≤ 17592186043904) (ho : OpsAt w (.slice a1 ops.length c1) ops) (hoc : ops.length ≤ c1) (hoa : a1 = none → c1 = 0) :
    Calls Tryz.prog 4 #[.slice a0 key.length c0, .slice a1 ops.length c1] w fun e w' => e = .returned (.bool true) ∧ Fr [] w w' := by
  obtain ⟨i0, hi, hz0, hz1, hz2⟩ := info_parts infoP
  obtain ⟨j0, hj, hy0, hy1, hy2⟩ := info_parts infoQ
  have hnew := new_any hk hkl
  have hrnew := fun wi (f : Fr [] w wi) => rnewAt_any (hk.fr f) hkl
  have hcut := fun wi => cut13_any (w := wi) ops.length 60 (by omega) hoc hoa
  obtain ⟨sx, hsl, hst⟩ : ∃ sx : List OpE, sx.length = min ops.length 60 ∧ OpsAt w (.slice a1 sx.length c1) sx := by
    have ht := ho.take (k := min ops.length 60) (by omega)
    have hl : (ops.take (min ops.length 60)).length = min ops.length 60 := by rw [List.length_take]; omega
    exact ⟨_, hl, by rw [hl]; exact ht⟩
  rw [← hsl] at hcut
  have h60 : sx.length ≤ 60 := by omega
  have HO := Lib.hid hst
  have HCut := Lib.hid hcut
  clear hk ho hoc hoa hcut hsl hst
  by_cases hko : keyOk key = true
  · have hn2 : Calls Tryz.prog 17 #[.slice a0 key.length c0] w fun e w' => ∃ p a c, e = .returned (.tuple #[.pointer (some ⟨p, 0, none⟩), .int .i64 0]) ∧ w.heap.size ≤ p ∧ SpAt w' p none (spn0 a c key) ∧ Fr [] w w' := hnew.mono fun e w' ⟨f, hx⟩ => by
      rcases hx with ⟨-, p, a, c, he, hp, hs⟩ | ⟨h9, -⟩
      · exact ⟨p, a, c, he, hp, hs, f⟩
      · rw [hko] at h9; cases h9
    have hn3 : ∀ wi, Fr [] w wi → Calls Tryz.prog 18 #[.slice a0 key.length c0] wi fun e w' => ∃ q a c, e = .returned (.tuple #[.pointer (some ⟨q, 0, none⟩), .int .i64 0]) ∧ wi.heap.size ≤ q ∧ RfAt w' q none (spn0 a c key) ∧ Fr [] wi w' := fun wi f => (hrnew wi f).mono fun e w' ⟨f, hx⟩ => by
      rcases hx with ⟨-, p, a, c, he, hp, hs⟩ | ⟨h9, -⟩
      · exact ⟨p, a, c, he, hp, hs, f⟩
      · rw [hko] at h9; cases h9
    have HN := Lib.hid hn2
    have HRN := Lib.hid hn3
    have HKo := Lib.hid hko
    clear hnew hrnew hn2 hn3 hko
    go_enter Tryz.func4, Tryz.ntmps4
    go_upto_region 2 with (go_at_call 17; refine HN.out.mono ?_; rintro e w1 ⟨p, ka, kc, rfl, hp1, hs1, f1⟩; have P1 := Lib.hid hp1; have H1 := Lib.hid hs1; have F1 := Lib.hid f1; clear hp1 hs1 f1)
    go_upto_region 3 with (go_at_call 18; refine (HRN.out _ F1.out).mono ?_; rintro e w2 ⟨q, qa, qc, rfl, hq2, hs2, f2⟩; have P2 := Lib.hid (Nat.le_trans F1.out.size hq2); have H2 := Lib.hid (H1.out.fr f2); have R2 := Lib.hid hs2; have F2 := Lib.hid (F1.out.trans f2); clear hq2 hs2 f2)
    clear HN HRN H1 F1
    go_upto_region 7 with (go_at_call 6; refine (known13_any _).mono ?_; rintro e w3 ⟨rfl, f3⟩; have F3 := Lib.hid (F2.out.trans f3); have H3 := Lib.hid (H2.out.fr f3); have R3 := Lib.hid (R2.out.fr f3); clear f3)
    go_upto_region 9 with fail
    have f4 : Fr [] w3 (w3.alloc (.cells #[.pointer (some ⟨p, 0, none⟩)] 26)) := (Fr.refl [] w3).alloc _
    have f5 : Fr [] (w3.alloc (.cells #[.pointer (some ⟨p, 0, none⟩)] 26)) ((w3.alloc (.cells #[.pointer (some ⟨p, 0, none⟩)] 26)).alloc (.cells #[.pointer (some ⟨q, 0, none⟩)] 45)) := (Fr.refl [] _).alloc _
    have o4 := own_one w3 26 (.pointer (some ⟨p, 0, none⟩)) w.heap.size F3.out.size
    have O4 := Lib.hid (ownsRow_fr o4 f5 (by simp))
    have hsz4 : (w3.alloc (.cells #[.pointer (some ⟨p, 0, none⟩)] 26)).heap.size = w3.heap.size + 1 := by simp
    have o5 := own_one (w3.alloc (.cells #[.pointer (some ⟨p, 0, none⟩)] 26)) 45 (.pointer (some ⟨q, 0, none⟩)) w.heap.size (Nat.le_trans F3.out.size f4.size)
    rw [hsz4] at o5
    have O5 := Lib.hid o5
    have F5 := Lib.hid ((F3.out.trans f4).trans f5)
    have D5 : Hid (Duos ((w3.alloc (.cells #[.pointer (some ⟨p, 0, none⟩)] 26)).alloc (.cells #[.pointer (some ⟨q, 0, none⟩)] 45)) key 0 [⟨p, none, spn0 ka kc key, q, none, spn0 qa qc key⟩]) := Lib.hid (Duos.one ⟨(H3.out.fr f4).fr f5, (R3.out.fr f4).fr f5, by simp⟩ (DuoOk.start HKo.out p q ka qa kc qc))
    clear f4 f5 o4 o5 hsz4 F2 F3 H2 R2 H3 R3
    generalize (w3.alloc (.cells #[.pointer (some ⟨p, 0, none⟩)] 26)).alloc (.cells #[.pointer (some ⟨q, 0, none⟩)] 45) = w5 at *
    generalize w3.heap.size = gp at *
    go_wp2_with (go_at_call 19; refine (HCut.out _).mono ?_; rintro e w' ⟨rfl, rfl⟩)
    go_loopw [9, 10, 49] (fun a r x wr => PaR w key sx.length a r x wr) (fun _ _ x _ => sx.length - (intOf x).toNat)
    case atStart =>
      refine ⟨0, _, rfl, Nat.zero_le _, F5.out, D5.out, by simp, by simp, fun i hi y hy => ?_, O4.out, O5.out⟩
      obtain rfl : i = 0 := by simp at hi; omega
      rcases ((nduo [(⟨p, none, spn0 ka kc key, q, none, spn0 qa qc key⟩ : Duo)] 0).mem y).1 hy with h9 | h9 | h9 | h9
      · rw [h9]; exact P1.out
      · cases h9
      · rw [h9]; exact P2.out
      · cases h9
    case round =>
      clear D5 F5 O4 O5 P1 P2
      obtain ⟨k, ds, rfl, hk, hf, hd, hd1, hd4, hn, hoa, hor⟩ := hrel
      obtain ⟨va, vc, rfl⟩ := ownsRow_shape hoa
      obtain ⟨ra, rc, rfl⟩ := ownsRow_shape hor
      have HF := Lib.hid hf
      have HD := Lib.hid hd
      have HN := Lib.hid hn
      have HA := Lib.hid hoa
      have HR := Lib.hid hor
      by_cases hlt : k < sx.length
      · as_aux_lemma =>
        obtain ⟨b, off, e1, y0, y1, y2, y3, y4, y5, y6⟩ := (HO.out.fr hf).cell hlt
        subst e1
        have hOi := HO.out.row _ (nop_mem hlt)
        clear hf hd hn hoa hor
        generalize nop sx k = o at *
        have HOi := Lib.hid hOi
        clear hOi
        go_upto_region 12 with fail
        have fa : Fr [] wr (wr.alloc (.cells #[.int .i64 o.kind, .int .i64 o.on, .int .i64 o.fuel, .int .i64 o.upper, .int .i64 o.time, .slice o.ka o.kr.length o.kc, .slice o.la o.l.length o.lc] 54)) := (Fr.refl [] wr).alloc _
        have hb1 := heap_alloc_new wr (.cells #[.int .i64 o.kind, .int .i64 o.on, .int .i64 o.fuel, .int .i64 o.upper, .int .i64 o.time, .slice o.ka o.kr.length o.kc, .slice o.la o.l.length o.lc] 54)
        have HFA := Lib.hid (HF.out.trans fa)
        have HDA := Lib.hid (HD.out.fr fa)
        have HAA := Lib.hid (ownsRow_fr HA.out fa (by simp))
        have HRA := Lib.hid (ownsRow_fr HR.out fa (by simp))
        clear fa HF HD HA HR y0 y1 y2 y3 y4 y5 y6
        generalize wr.heap.size = ub at *
        generalize wr.alloc (.cells #[.int .i64 o.kind, .int .i64 o.on, .int .i64 o.fuel, .int .i64 o.upper, .int .i64 o.time, .slice o.ka o.kr.length o.kc, .slice o.la o.l.length o.lc] 54) = wa at *
        have x0 := cell_blk hb1 0 (.int .i64 o.kind) rfl
        have x1 := cell_blk hb1 1 (.int .i64 o.on) rfl
        have x2 := cell_blk hb1 2 (.int .i64 o.fuel) rfl
        have x3 := cell_blk hb1 3 (.int .i64 o.upper) rfl
        have x4 := cell_blk hb1 4 (.int .i64 o.time) rfl
        have x5 := cell_blk hb1 5 (.slice o.ka o.kr.length o.kc) rfl
        have x6 := cell_blk hb1 6 (.slice o.la o.l.length o.lc) rfl
        have HB1 := Lib.hid hb1
        clear hb1
        have hfe := few_any (HOi.out.fr HFA.out)
        by_cases hfew : fewB o = true
        · have HFew := Lib.hid hfew
          rw [hfew] at hfe
          have HFe := Lib.hid hfe
          clear hfe hfew
          go_upto_region 13 with (go_at_call 20; refine HFe.out.mono ?_; rintro e w5 ⟨rfl, f5⟩)
          have z0 := f5.cell x0 (by simp)
          have z1 := f5.cell x1 (by simp)
          have z2 := f5.cell x2 (by simp)
          have z3 := f5.cell x3 (by simp)
          have z4 := f5.cell x4 (by simp)
          have z5 := f5.cell x5 (by simp)
          have z6 := f5.cell x6 (by simp)
          have HB5 := Lib.hid (f5.heap HB1.out (by simp))
          have HF5 := Lib.hid (HFA.out.trans f5)
          have HD5 := Lib.hid (HDA.out.fr f5)
          have HA5 := Lib.hid (ownsRow_fr HAA.out f5 (by simp))
          have HR5 := Lib.hid (ownsRow_fr HRA.out f5 (by simp))
          clear f5 x0 x1 x2 x3 x4 x5 x6 HB1 HFA HDA HAA HRA HFe
          go_upto_region 14 with (go_at_call 21; refine (place_any o.on ds.length hd1 (by omega) _).mono ?_; rintro e w' ⟨⟨i, rfl, hid⟩, rfl⟩)
          have HId := Lib.hid hid
          by_cases h7 : o.kind = 7
          · have hk7 : (o.kind == 7) = true := by simpa using h7
            clear h7
            have hlt5 : ∀ j, j < ds.length → ∀ x ∈ (nduo ds j).own, x < w5.heap.size := fun j hj => (HD5.out.here j hj).lt
            have HLt5 := Lib.hid hlt5
            clear hlt5
            obtain ⟨ga, ca, e1, -, -, xa⟩ := own_cell HA5.out (ppC_at hid)
            subst e1
            obtain ⟨all, hg⟩ := HD5.out.ok i hid
            have hfew := hg.s.ok.few
            have hfewr := hg.r.ok.few
            have HG := Lib.hid hg
            have i1 : (i : Int) < (ds.length : Int) := by omega
            have HCl := Lib.hid (spClone_any (HD5.out.here i hid).sp (by omega))
            clear hg
            go_upto_region 18 with (go_at_call 22; refine HCl.out.mono ?_; rintro e w6 ⟨p6, wb6, va6, vc6, rfl, hp6, hw6, hs6, f6⟩; have F6 := Lib.hid f6; have S6 := Lib.hid hs6; have P6 := Lib.hid hp6; have W6 := Lib.hid hw6; clear f6 hs6 hp6 hw6)
            have HF6 := Lib.hid (HF5.out.trans F6.out)
            have HD6 := Lib.hid (HD5.out.fr F6.out)
            have HA6 := Lib.hid (ownsRow_fr HA5.out F6.out (by simp))
            have HR6 := Lib.hid (ownsRow_fr HR5.out F6.out (by simp))
            clear xa HCl z0 z1 z2 z3 z4 z5 z6
            by_cases hl4 : ds.length < 4
            · have hsz6 := F6.out.size
              have hsz66 := HF6.out.size
              have fa : Fr [] w6 (w6.alloc (.cells #[.pointer (some ⟨p6, 0, none⟩)] 26)) := (Fr.refl [] w6).alloc _
              have HAA := Lib.hid (ownsRow_fr HA6.out fa (by simp))
              have HRA := Lib.hid (ownsRow_fr HR6.out fa (by simp))
              have HDA := Lib.hid (HD6.out.fr fa)
              have SA := Lib.hid (S6.out.fr fa)
              have FA := Lib.hid (HF6.out.trans fa)
              have hsrc : Src (w6.alloc (.cells #[.pointer (some ⟨p6, 0, none⟩)] 26)) 1 (.slice (some ⟨w6.heap.size, 0, none⟩) 1 1) 1 [.pointer (some ⟨p6, 0, none⟩)] := Src.block (heap_alloc_new w6 _) rfl (by intro u hu; simp at hu; rw [hu]; rfl)
              have HSrc := Lib.hid hsrc
              clear fa hsrc
              go_upto_region 20 with (at_builtin; refine wpList_append_src _ rfl (.tmp 74) (.tmp 76) 48 rfl w.heap.size 26 i0 _ 1 8 Tryz.underlying48 hi hz0 hz1 hz2 rfl (by decide) (.slice (some ⟨ga, 0, none⟩) ds.length vc) ds.length _ rfl HAA.out (.slice (some ⟨w6.heap.size, 0, none⟩) 1 1) 1 [.pointer (some ⟨p6, 0, none⟩)] rfl HSrc.out (by unfold maxLen; omega) (by omega) (by simp; omega) ?_; intro v7 w7 hown7 hgrow7 hblk7; have O7 := Lib.hid hown7; have G7 := Lib.hid hgrow7; clear hown7 hgrow7 hblk7)
              have f7 := Fr.grown G7.out
              have HD7 := Lib.hid (HDA.out.ptr HAA.out f7 (Or.inl rfl))
              have HR7 := Lib.hid (ptr_other HRA.out HAA.out f7 (by decide))
              have S7 := Lib.hid (SA.out.frC f7 (fun x hx => by obtain ⟨c, hc⟩ := own_ty HAA.out (g := x) (by simpa using hx); exact ⟨c, _, hc, by simp⟩) (own_not HAA.out SA.out.blk (by decide)) (fun g9 hg9 => by obtain ⟨c, hc⟩ := SA.out.own.ty hg9; exact own_not HAA.out hc (by decide)))
              have HF7 := Lib.hid (FA.out.past f7 (fun x hx => Or.inl (HAA.out.lt x (by simpa using hx)).1))
              have hsz7 := f7.size
              have hszA : w6.heap.size ≤ (w6.alloc (.cells #[.pointer (some ⟨p6, 0, none⟩)] 26)).heap.size := by simp
              have ho7 := O7.out
              obtain ⟨va7, vc7, rfl⟩ := ownsRow_shape ho7
              obtain ⟨gr, cr, e2, -, -, xr⟩ := own_cell HR7.out (qqC_at hid)
              subst e2
              have HCr := Lib.hid (rfClone_any (HD7.out.here i hid).rf (by omega))
              clear f7 ho7 HAA HRA HDA SA FA HSrc
              go_wp2_with (first
                | (go_at_call 23; refine HCr.out.mono ?_; rintro e w8 ⟨q8, qb8, va8, vc8, rfl, hq8, hw8, hr8, f8⟩; have FF8 := Lib.hid f8; have RA8 := Lib.hid hr8; have Q8 := Lib.hid hq8; have W8 := Lib.hid hw8; have HR8 := Lib.hid (ownsRow_fr (ownsRow_fr HR7.out f8 (by simp)) ((Fr.refl [] w8).alloc (.cells #[.pointer (some ⟨q8, 0, none⟩)] 45)) (by simp)); have hsz8 := f8.size; have hsrc8 : Src (w8.alloc (.cells #[.pointer (some ⟨q8, 0, none⟩)] 45)) 1 (.slice (some ⟨w8.heap.size, 0, none⟩) 1 1) 1 [.pointer (some ⟨q8, 0, none⟩)] := Src.block (heap_alloc_new w8 _) rfl (by intro u hu; simp at hu; rw [hu]; rfl); have HSrc8 := Lib.hid hsrc8; clear f8 hr8 hq8 hw8 hsrc8)
                | (at_builtin; refine wpList_append_src _ rfl (.tmp 78) (.tmp 84) 49 rfl w.heap.size 45 j0 _ 1 8 Tryz.underlying49 hj hy0 hy1 hy2 rfl (by decide) (.slice (some ⟨gr, 0, none⟩) ds.length rc) ds.length _ rfl HR8.out (.slice (some ⟨w8.heap.size, 0, none⟩) 1 1) 1 [.pointer (some ⟨q8, 0, none⟩)] rfl HSrc8.out (by unfold maxLen; omega) (by omega) (by simp; omega) ?_; intro v9 w9 hown9 hgrow9 hblk9; have O9 := Lib.hid hown9; have G9 := Lib.hid hgrow9; clear hown9 hgrow9 hblk9))
              go_roundw
              case rel =>
                have fa8 : Fr [] w8 (w8.alloc (.cells #[.pointer (some ⟨q8, 0, none⟩)] 45)) := (Fr.refl [] w8).alloc _
                have f9 := Fr.grown G9.out
                have hty : TyC (w8.alloc (.cells #[.pointer (some ⟨q8, 0, none⟩)] 45)) (Value.slice (some ⟨gr, 0, none⟩) ds.length rc).ownBlock.toList := fun x hx => by
                  obtain ⟨c, hc⟩ := own_ty HR8.out (g := x) (by simpa using hx)
                  exact ⟨c, _, hc, by simp⟩
                have hD9 := (((HD7.out.fr FF8.out).fr fa8).ptr HR8.out f9 (Or.inr rfl))
                have hS8 := (S7.out.fr FF8.out).fr fa8
                have hR8 := RA8.out.fr fa8
                have hS9 := hS8.frC f9 hty (own_not HR8.out hS8.blk (by decide)) (fun g9 hg9 => by obtain ⟨c, hc⟩ := hS8.own.ty hg9; exact own_not HR8.out hc (by decide))
                have hR9 := hR8.frC f9 hty (own_not HR8.out hR8.blk (by decide)) (fun g9 hg9 => by obtain ⟨c, hc⟩ := hR8.own.ty hg9; exact own_not HR8.out hc (by decide))
                have hO9 : w9.ownsRow w.heap.size 26 1 (.slice va7 (ds.length + 1) vc7) (ds.length + 1) (ppC ds ++ [.pointer (some ⟨p6, 0, none⟩)]) := ptr_other (ownsRow_fr (ownsRow_fr O7.out FF8.out (by simp)) fa8 (by simp)) HR8.out f9 (by decide)
                have hnew : ∀ x ∈ (⟨p6, wb6, { (nduo ds i).s with va := va6, vc := vc6 }, q8, qb8, { (nduo ds i).r with va := va8, vc := vc8 }⟩ : Duo).own, w5.heap.size ≤ x := fun x hx => by
                  rcases (Duo.mem _ x).1 hx with h9 | h9 | h9 | h9
                  · have h8 : x = p6 := h9
                    rw [h8]; exact P6.out
                  · exact W6.out x h9
                  · have h8 : x = q8 := h9
                    have := Q8.out
                    omega
                  · have := W8.out x h9
                    omega
                refine ⟨k + 1, ds ++ [⟨p6, wb6, { (nduo ds i).s with va := va6, vc := vc6 }, q8, qb8, { (nduo ds i).r with va := va8, vc := vc8 }⟩], by go_num, by omega, ((HF7.out.trans FF8.out).trans fa8).past f9 (fun x hx => Or.inl (HR8.out.lt x (by simpa using hx)).1), hD9.more2 (by omega) HLt5.out ⟨hS9, hR9, fun g9 hg9 hq9 => ?_⟩ (HG.out.clone (by omega) p6 q8 wb6 qb8 va6 va8 vc6 vc8) hnew, by simp, by simp; omega, fun j hj y hy => ?_, ?_, ?_⟩
                · have h8 : qb8 = some g9 := hq9
                  have h7 : wb6 = some g9 := hg9
                  have := W8.out g9 h8
                  have := S7.out.lt.2 g9 h7
                  omega
                · rw [List.length_append] at hj
                  by_cases e9 : j < ds.length
                  · have e8 : nduo (ds ++ [⟨p6, wb6, { (nduo ds i).s with va := va6, vc := vc6 }, q8, qb8, { (nduo ds i).r with va := va8, vc := vc8 }⟩]) j = nduo ds j := nduo_left e9
                    rw [e8] at hy
                    exact HN.out j e9 y hy
                  · obtain rfl : j = ds.length := by simp at hj; omega
                    have e8 : nduo (ds ++ [⟨p6, wb6, { (nduo ds i).s with va := va6, vc := vc6 }, q8, qb8, { (nduo ds i).r with va := va8, vc := vc8 }⟩]) ds.length = ⟨p6, wb6, { (nduo ds i).s with va := va6, vc := vc6 }, q8, qb8, { (nduo ds i).r with va := va8, vc := vc8 }⟩ := nduo_last _ _
                    rw [e8] at hy
                    exact Nat.le_trans HF5.out.size (hnew y hy)
                · rw [List.length_append]
                  have e9 : ∀ d9 : Duo, ppC (ds ++ [d9]) = ppC ds ++ [.pointer (some ⟨d9.p, 0, none⟩)] := fun d9 => by simp [ppC]
                  rw [e9]
                  exact hO9
                · rw [List.length_append]
                  have e9 : ∀ d9 : Duo, qqC (ds ++ [d9]) = qqC ds ++ [.pointer (some ⟨d9.q, 0, none⟩)] := fun d9 => by simp [qqC]
                  rw [e9]
                  exact O9.out
              case measure => simp [intOf] <;> omega
            · have hl4' : ¬ (ds.length : Int) < 4 := by omega
              go_wp2_with fail
              go_roundw
              case rel => exact ⟨k + 1, ds, by go_num, by omega, HF6.out, HD6.out.mono (by omega) (by omega), hd1, hd4, HN.out, HA6.out, HR6.out⟩
              case measure => simp [intOf] <;> omega
          · have hk7 : (o.kind == 7) = false := by simpa using h7
            clear h7
            obtain ⟨ga, ca, e1, hga, hba, xa⟩ := own_cell HA5.out (ppC_at hid)
            subst e1
            obtain ⟨gr, cr, e2, hgr, hbr, xr⟩ := own_cell HR5.out (qqC_at hid)
            subst e2
            obtain ⟨all, hg⟩ := HD5.out.ok i hid
            have hstep : ∀ wi, Fr [] w5 wi → Calls Tryz.prog 24 #[.pointer (some ⟨(nduo ds i).p, 0, none⟩), .pointer (some ⟨(nduo ds i).q, 0, none⟩), .agg #[.int .i64 o.kind, .int .i64 o.on, .int .i64 o.fuel, .int .i64 o.upper, .int .i64 o.time, .slice o.ka o.kr.length o.kc, .slice o.la o.l.length o.lc]] wi (StepPost wi key k (nduo ds i)) := fun wi f => step_any (HF5.out.trans f) (HN.out i hid) ((HD5.out.here i hid).fr f) hg HOi.out HFew.out (by omega)
            have HStep := Lib.hid hstep
            have hna : ga ∉ (nduo ds i).own := (HD5.out.here i hid).notP hba (by decide)
            have hnr : gr ∉ (nduo ds i).own := (HD5.out.here i hid).notP hbr (by decide)
            have hnb : ub ∉ (nduo ds i).own := (HD5.out.here i hid).notP HB5.out (by decide)
            have i1 : (i : Int) < (ds.length : Int) := by omega
            have HBA := Lib.hid hba
            have HBR := Lib.hid hbr
            clear hg hstep hba hbr hga hgr
            go_upto_region 21 with fail
            go_region_held3 (fun W => W.cell? ⟨ga, i, none⟩ = some (.pointer (some ⟨(nduo ds i).p, 0, none⟩)) ∧ W.cell? ⟨gr, i, none⟩ = some (.pointer (some ⟨(nduo ds i).q, 0, none⟩)) ∧ W.cell? ⟨ub, 0, none⟩ = some (.int .i64 o.kind) ∧ W.cell? ⟨ub, 1, none⟩ = some (.int .i64 o.on) ∧ W.cell? ⟨ub, 2, none⟩ = some (.int .i64 o.fuel) ∧ W.cell? ⟨ub, 3, none⟩ = some (.int .i64 o.upper) ∧ W.cell? ⟨ub, 4, none⟩ = some (.int .i64 o.time) ∧ W.cell? ⟨ub, 5, none⟩ = some (.slice o.ka o.kr.length o.kc) ∧ W.cell? ⟨ub, 6, none⟩ = some (.slice o.la o.l.length o.lc))
              (first | exact ⟨xa, xr, z0, z1, z2, z3, z4, z5, z6⟩ | exact ⟨ya7, yr7, y70, y71, y72, y73, y74, y75, y76⟩ | exact ⟨ya6, yr6, y60, y61, y62, y63, y64, y65, y66⟩)
              (first
                | (go_at_call 24; refine (HStep.out _ (by repeat (first | exact Fr.refl _ _ | apply Fr.drew))).mono ?_; rintro e w6 ⟨rfl, f6, d', all', hd', hg', ht'⟩; have ya6 := f6.cell xa hna; have yr6 := f6.cell xr hnr; have y60 := f6.cell z0 hnb; have y61 := f6.cell z1 hnb; have y62 := f6.cell z2 hnb; have y63 := f6.cell z3 hnb; have y64 := f6.cell z4 hnb; have y65 := f6.cell z5 hnb; have y66 := f6.cell z6 hnb; have HF6 := Lib.hid f6; have HD6 := Lib.hid (Duos.step (HD5.out.fr ((Fr.refl [] w5).drew)) hid f6 hd' hg' ht'); have HT6 := Lib.hid ht'; have HA6 := Lib.hid (ownsRow_duo (ownsRow_fr HA5.out ((Fr.refl [] w5).drew) (by simp)) ((HD5.out.here i hid).fr ((Fr.refl [] w5).drew)) f6 (by decide)); have HR6 := Lib.hid (ownsRow_duo (ownsRow_fr HR5.out ((Fr.refl [] w5).drew) (by simp)) ((HD5.out.here i hid).fr ((Fr.refl [] w5).drew)) f6 (by decide)); have HSt := Lib.hid (fun (u : Unit) => by have h9 := (Duos.step (HD5.out.fr ((Fr.refl [] w5).drew)) hid f6 hd' hg' ht').stands (i := i) (by rw [List.length_set]; exact hid); rw [nduo_set hid, if_pos rfl, ht'.p, ht'.q] at h9; exact h9); clear f6 hd' hg' ht')
                | (go_at_call 25; refine (HSt.out ()).mono ?_; rintro e w7 ⟨rfl, f7⟩; have ya7 := f7.cell ya6 (by simp); have yr7 := f7.cell yr6 (by simp); have y70 := f7.cell y60 (by simp); have y71 := f7.cell y61 (by simp); have y72 := f7.cell y62 (by simp); have y73 := f7.cell y63 (by simp); have y74 := f7.cell y64 (by simp); have y75 := f7.cell y65 (by simp); have y76 := f7.cell y66 (by simp); have HF7 := Lib.hid f7; clear f7))
            all_goals
              go_wp2_with fail
              go_roundw
              case rel =>
                refine ⟨k + 1, ds.set i d', by go_num, by omega, ((HF5.out.trans ((Fr.refl [] w5).drew)).past HF6.out (fun x hx => Or.inl (HN.out i hid x hx))).trans HF7.out, HD6.out.fr HF7.out, by rw [List.length_set]; exact hd1, by rw [List.length_set]; exact hd4, fun j hj y hy => ?_, ?_, ?_⟩
                · rw [List.length_set] at hj
                  rw [nduo_set hid] at hy
                  split at hy
                  · rcases HT6.out.own y hy with h9 | h9
                    · exact HN.out i hid y h9
                    · exact Nat.le_trans HF5.out.size h9
                  · exact HN.out j hj y hy
                · rw [List.length_set, ppC_set hid HT6.out.p]
                  exact ownsRow_fr HA6.out HF7.out (by simp)
                · rw [List.length_set, qqC_set hid HT6.out.q]
                  exact ownsRow_fr HR6.out HF7.out (by simp)
              case measure => simp [intOf] <;> omega
        · have HFew : Hid (fewB o = false) := Lib.hid (by simpa using hfew)
          rw [HFew.out] at hfe
          have HFe := Lib.hid hfe
          clear hfe hfew
          go_wp2_with (go_at_call 20; refine HFe.out.mono ?_; rintro e w5 ⟨rfl, f5⟩; have HF5 := Lib.hid (HFA.out.trans f5); have HD5 := Lib.hid (HDA.out.fr f5); have HA5 := Lib.hid (ownsRow_fr HAA.out f5 (by simp)); have HR5 := Lib.hid (ownsRow_fr HRA.out f5 (by simp)); clear f5)
          go_roundw
          case rel => exact ⟨k + 1, ds, by go_num, by omega, HF5.out, HD5.out.mono (by omega) (by omega), hd1, hd4, HN.out, HA5.out, HR5.out⟩
          case measure => simp [intOf] <;> omega
      · as_aux_lemma =>
        obtain rfl : k = sx.length := by omega
        clear hf hd hn hoa hor
        go_wp2_with fail
        generalize wr = wz at *
        go_loopw [112] (fun x wq => ∃ i : Nat, x = .int .i64 i ∧ i ≤ ds.length ∧ Fr [] wz wq) (fun x _ => ds.length - (intOf x).toNat)
        case atStart => exact ⟨0, rfl, Nat.zero_le _, Fr.refl _ _⟩
        case round =>
          obtain ⟨i, rfl, hi9, hf⟩ := hrel
          have HFq := Lib.hid hf
          by_cases hid : i < ds.length
          · obtain ⟨ga, ca, e1, -, -, xa⟩ := own_cell (ownsRow_fr HA.out hf (by simp)) (ppC_at hid)
            subst e1
            obtain ⟨gr, cr, e2, -, -, xr⟩ := own_cell (ownsRow_fr HR.out hf (by simp)) (qqC_at hid)
            subst e2
            have hst : ∀ q9 : FrBy wr, Calls Tryz.prog 25 #[.pointer (some ⟨(nduo ds i).p, 0, none⟩), .pointer (some ⟨(nduo ds i).q, 0, none⟩)] q9.wn fun e w' => e = .returned (.bool true) ∧ Fr [] q9.wn w' := fun q9 => (HD.out.fr (HFq.out.trans q9.fr)).stands hid
            have HSt := Lib.hid hst
            have u1 : ∀ q9 : FrBy wr, q9.wn.cell? ⟨ga, i, none⟩ = some (.pointer (some ⟨(nduo ds i).p, 0, none⟩)) := fun q9 => q9.fr.cell xa (by simp)
            have u2 : ∀ q9 : FrBy wr, q9.wn.cell? ⟨gr, i, none⟩ = some (.pointer (some ⟨(nduo ds i).q, 0, none⟩)) := fun q9 => q9.fr.cell xr (by simp)
            have i1 : (i : Int) < (ds.length : Int) := by omega
            clear hf hst xa xr
            go_upto_region 27 with fail
            refine wp_region_fr (by kernel_rfl) (by kernel_rfl) ?_
            repeat (go_big_quiet_step ((go_at_call 25; exact Calls.fr_of (HSt.out _))))
            refine wpQuiet_nil ?_
            intro wn hwn
            have fn : Fr [] wr wn := by obtain ⟨q9, rfl⟩ := hwn; exact q9.fr
            have FN := Lib.hid (HFq.out.trans fn)
            clear hwn u1 u2 fn HSt
            go_wp2_with fail
            go_roundw
            case rel => exact ⟨i + 1, by go_num, by omega, FN.out⟩
            case measure => simp [intOf] <;> omega
          · clear hf
            go_wp2_with fail
            go_ret
            exact ⟨rfl, HF.out.trans HFq.out⟩
  · have hk2 : keyOk key = false := by simpa using hko
    have hn2 : Calls Tryz.prog 17 #[.slice a0 key.length c0] w fun e w' => e = .returned (.tuple #[.pointer none, .int .i64 132]) ∧ Fr [] w w' := hnew.mono fun e w' ⟨f, hx⟩ => by
      rcases hx with ⟨h9, -⟩ | ⟨-, he⟩
      · rw [hk2] at h9; cases h9
      · exact ⟨he, f⟩
    have hn3 : ∀ wi, Fr [] w wi → Calls Tryz.prog 18 #[.slice a0 key.length c0] wi fun e w' => e = .returned (.tuple #[.pointer none, .int .i64 132]) ∧ Fr [] wi w' := fun wi f => (hrnew wi f).mono fun e w' ⟨f, hx⟩ => by
      rcases hx with ⟨h9, -⟩ | ⟨-, he⟩
      · rw [hk2] at h9; cases h9
      · exact ⟨he, f⟩
    have HN := Lib.hid hn2
    have HRN := Lib.hid hn3
    clear hnew hrnew hn2 hn3 hko hk2
    go_enter Tryz.func4, Tryz.ntmps4
    go_upto_region 2 with (go_at_call 17; refine HN.out.mono ?_; rintro e w1 ⟨rfl, f1⟩; have F1 := Lib.hid f1; clear f1)
    go_upto_region 3 with (go_at_call 18; refine (HRN.out _ F1.out).mono ?_; rintro e w2 ⟨rfl, f2⟩; have F2 := Lib.hid (F1.out.trans f2); clear f2)
    go_wp2_with (go_at_call 6; refine (known13_any _).mono ?_; rintro e w3 ⟨rfl, f3⟩; have F3 := Lib.hid (F2.out.trans f3); clear f3)
    go_ret
    exact ⟨rfl, F3.out⟩
end Go.Proofs.YtjchlfblbmiceaaGreat
