/- ArrangeFinds: the plain part; Like of one-element lists; Keyed. No condition but the sizes. -/
import Derived.Test.YtmionipeoffnhaaMc
namespace Go.Proofs.Ytmionipeoffnhaa
open Go.RowKit srt grp

theorem atL_cons (e : upd.El) (l : List upd.El) (t : Int) : atL (e :: l) t = if e.t ≤ t then toC e :: atL l t else atL l t := by
  unfold atL
  rw [List.filter_cons]
  by_cases h : e.t ≤ t <;> simp [h]
theorem sum_find {P : upd.El → Bool} {r : List Dt} {t : Int} : ∀ {l : List upd.El}, (∀ e ∈ l, e.rd = r → e.t ≤ t → P e = true) → sumK ((atL (l.filter P) t).map pr) r = sumK ((atL l t).map pr) r
  | [], _ => rfl
  | e :: l, h => by
    have ih := sum_find (P := P) (r := r) (t := t) (l := l) (fun x hx => h x (by simp [hx]))
    rw [List.filter_cons]
    by_cases hp : P e = true
    · rw [if_pos hp, atL_cons, atL_cons]
      split
      · rw [List.map_cons, List.map_cons, sumK_cons, sumK_cons, ih]
      · exact ih
    · rw [if_neg hp, atL_cons, ih]
      split
      · rename_i ht
        rw [List.map_cons, sumK_cons, if_neg (show ¬ (pr (toC e)).1 = r from fun e9 => hp (h e (by simp) e9 ht))]
        omega
      · rfl
def krOf (key : List Int) (row : List Dt) : List Dt := key.map fun x => nd row x.toNat
theorem krOf_len (key : List Int) (row : List Dt) : (krOf key row).length = key.length := by unfold krOf; simp
theorem krOf_nd {key : List Int} {row : List Dt} {i : Nat} (hi : i < key.length) : nd (krOf key row) i = nd row (nki key i).toNat := by
  have h : (krOf key row)[i]? = some (nd row (nki key i).toNat) := by
    unfold krOf
    rw [List.getElem?_map]
    have := nki_at hi
    rw [this]; rfl
  unfold nd at *
  rw [h]; rfl
/-- That a row has the columns of a key as a row of its columns says. -/
def KeyedP (key : List Int) (kr row : List Dt) : Prop := ∀ i, i < key.length → 0 ≤ nki key i ∧ nki key i < (row.length : Int) ∧ cmpR [nd row (nki key i).toNat] [nd kr i] = 0
theorem keyedB_of {key : List Int} {kr : List Dt} {e : upd.El} (h : keyedB key kr e = true) : ∀ i, i < key.length → cmpR [nd e.rd (nki key i).toNat] [nd kr i] = 0 := by
  unfold keyedB at h
  rw [List.all_eq_true] at h
  intro i hi
  have := h i (List.mem_range.2 hi)
  simpa [hitB] using this
/-- What Find tells of the columns of a row that At told. -/
theorem find_plain {key : List Int} {k : Nat} {s : Spn} {all : List upd.El} {t : Int} {outs : List El} (g : Gd key k s all) (hc : Canon cmpR (outs.map pr) (fun r => 1 * sumK ((atL s.fl t).map pr) r)) {c : El} (hm : c ∈ outs) :
    (∀ x ∈ key, 0 ≤ x ∧ x < (c.rd.length : Int)) ∧ ∀ o2 : List El, Canon cmpR (o2.map pr) (fun r => 1 * sumK ((atL (s.fl.filter (findB key (krOf key c.rd) t)) t).map pr) r) →
      (∀ f ∈ o2, KeyedP key (krOf key c.rd) f.rd) ∧ ∃ f ∈ o2, f.rd = c.rd ∧ f.n = c.n := by
  have hke := g.ke
  have hw := g.wide
  rw [hke] at hw
  have hwc : ∀ x ∈ key, 0 ≤ x ∧ x < (c.rd.length : Int) := by
    obtain ⟨x, hx, hxe⟩ := hc.src cmpRS (l := (atL s.fl t).map pr) (fun r => by omega) (List.mem_map_of_mem (f := pr) hm)
    obtain ⟨y, hy, rfl⟩ := List.mem_map.1 hx
    unfold atL at hy
    obtain ⟨e, he, rfl⟩ := List.mem_map.1 hy
    have h1 : e.rd = c.rd := hxe
    intro x hx
    rw [← h1]
    exact hw e (List.mem_filter.1 he).1 x hx
  refine ⟨hwc, fun o2 h2 => ⟨fun f hf i hi => ?_, ?_⟩⟩
  · obtain ⟨x, hx, hxe⟩ := h2.src cmpRS (l := (atL (s.fl.filter (findB key (krOf key c.rd) t)) t).map pr) (fun r => by omega) (List.mem_map_of_mem (f := pr) hf)
    obtain ⟨y, hy, rfl⟩ := List.mem_map.1 hx
    unfold atL at hy
    obtain ⟨e, he, rfl⟩ := List.mem_map.1 hy
    have h1 : e.rd = f.rd := hxe
    obtain ⟨h3, h4⟩ := List.mem_filter.1 (List.mem_filter.1 he).1
    unfold findB at h4
    rw [Bool.and_eq_true] at h4
    rw [← h1]
    obtain ⟨h5, h6⟩ := hw e h3 _ (nki_mem hi)
    exact ⟨h5, h6, keyedB_of h4.1 i hi⟩
  · have h3 := hc.mem cmpRS (List.mem_map_of_mem (f := pr) hm)
    have h4 := hc.nz _ (List.mem_map_of_mem (f := pr) hm)
    have h5 : sumK ((atL (s.fl.filter (findB key (krOf key c.rd) t)) t).map pr) c.rd = sumK ((atL s.fl t).map pr) c.rd := sum_find fun e he h6 h7 => by
      unfold findB
      rw [Bool.and_eq_true]
      refine ⟨keyed_yes fun i hi => ?_, by simpa using h7⟩
      unfold hitB
      rw [krOf_nd hi, h6, cmpR_self]; rfl
    have h6 : sumK (o2.map pr) c.rd = c.n := by
      rw [h2.sum]
      show 1 * sumK ((atL (s.fl.filter (findB key (krOf key c.rd) t)) t).map pr) c.rd = c.n
      rw [h5]; exact h3
    by_cases hx : ∃ f ∈ o2, f.rd = c.rd
    · obtain ⟨f, hf, hfe⟩ := hx
      refine ⟨f, hf, hfe, ?_⟩
      have h7 := h2.mem cmpRS (List.mem_map_of_mem (f := pr) hf)
      rw [← h2.sum] at h7
      have h8 : sumK (o2.map pr) f.rd = f.n := h7
      rw [hfe, h6] at h8
      exact h8.symm
    · exfalso
      have h7 : sumK (o2.map pr) c.rd = 0 := sumK_none fun p hp e9 => by
        obtain ⟨f, hf, rfl⟩ := List.mem_map.1 hp
        exact hx ⟨f, hf, e9⟩
      exact h4 (h6.symm.trans h7)

def likeB (x y : El) : Bool := decide (cmpR x.rd y.rd = 0) && decide (x.n = y.n)
theorem likeB_yes {x y : El} (h1 : x.rd = y.rd) (h2 : x.n = y.n) : likeB x y = true := by unfold likeB; rw [h1, h2, cmpR_self]; simp

set_option maxRecDepth 100000
set_option maxHeartbeats 3200000 in
theorem like1_any {w : World} {a b : Option Addr} {c d : Nat} {x y : El} (h : Cts w (.slice a 1 c) [x]) (h' : Cts w (.slice b 1 d) [y]) :
    Calls Try.prog 17 #[.slice a 1 c, .slice b 1 d] w fun e w' => e = .returned (.bool (likeB x y)) ∧ Fr [] w w' := by
  have H := Lib.hid h
  have H' := Lib.hid h'
  clear h h'
  go_enter Try.func17, Try.ntmps17
  go_wp2_with fail
  go_loopw [13] (fun v wr => ∃ k : Nat, v = .int .i64 k ∧ k ≤ 1 ∧ Fr [] w wr ∧ Hid (k = 0 ∨ likeB x y = true)) (fun v _ => 1 - (intOf v).toNat)
  case atStart => exact ⟨0, rfl, Nat.zero_le _, Fr.refl _ _, Lib.hid (Or.inl rfl)⟩
  case round =>
    obtain ⟨k, rfl, hk, hf, HK⟩ := hrel
    have HF := Lib.hid hf
    by_cases hlt : k < 1
    · obtain rfl : k = 0 := by omega
      obtain ⟨b1, o1, e1, x0, x1⟩ := (H.out.fr hf).cell (k := 0) (by simp)
      obtain ⟨b2, o2, e2, y0, y1⟩ := (H'.out.fr hf).cell (k := 0) (by simp)
      subst e1
      subst e2
      have r1 := H.out.row x (by simp)
      have r2 := H'.out.row y (by simp)
      have en1 : nth [x] 0 = x := rfl
      have en2 : nth [y] 0 = y := rfl
      rw [en1] at x0 x1
      rw [en2] at y0 y1
      simp only [Nat.zero_mul, Nat.add_zero] at x0 x1 y0 y1
      have hs : ∀ p : FrBy wr, Calls Try.prog 36 #[.slice x.ra x.rl x.rc, .slice y.ra y.rl y.rc] p.wn fun e w' => e = .returned (.bool (decide (cmpR x.rd y.rd = 0))) ∧ Fr [] p.wn w' := fun p => rsame_any (r1.1.fr (hf.trans p.fr)) (r2.1.fr (hf.trans p.fr)) (by have := r1.2.len; omega)
      have u0 : ∀ p : FrBy wr, p.wn.cell? ⟨b1, o1, none⟩ = some (.slice x.ra x.rl x.rc) := fun p => p.fr.cell x0 (by simp)
      have u1 : ∀ p : FrBy wr, p.wn.cell? ⟨b1, o1 + 1, none⟩ = some (.int .i64 x.n) := fun p => p.fr.cell x1 (by simp)
      have v0 : ∀ p : FrBy wr, p.wn.cell? ⟨b2, o2, none⟩ = some (.slice y.ra y.rl y.rc) := fun p => p.fr.cell y0 (by simp)
      have v1 : ∀ p : FrBy wr, p.wn.cell? ⟨b2, o2 + 1, none⟩ = some (.int .i64 y.n) := fun p => p.fr.cell y1 (by simp)
      have hlb : likeB x y = (decide (cmpR x.rd y.rd = 0) && decide (x.n = y.n)) := rfl
      clear x0 x1 y0 y1 r1 r2 hf en1 en2
      generalize decide (cmpR x.rd y.rd = 0) = sb at *
      have HC := Lib.hid hs
      clear hs
      go_upto_region 6 with fail
      cases sb with
      | true =>
        by_cases hn : x.n = y.n
        · have hz : (x.n != y.n) = false := by simp [hn]
          have HL := Lib.hid (show likeB x y = true by rw [hlb]; simp [hn])
          clear hlb hn
          refine wp_region_fr (by kernel_rfl) (by kernel_rfl) ?_
          repeat (go_big_quiet_step ((go_at_call 36; exact Calls.fr_of (HC.out _))))
          refine wpQuiet_nil ?_
          intro wn hwn
          have fn : Fr [] wr wn := by obtain ⟨p, rfl⟩ := hwn; exact p.fr
          have FN := Lib.hid fn
          clear hwn u0 u1 v0 v1 HC fn
          go_wp2_with fail
          go_roundw
          case rel => exact ⟨1, by go_num, by omega, HF.out.trans FN.out, Lib.hid (Or.inr HL.out)⟩
          case measure => simp [intOf]
        · have hz : (x.n != y.n) = true := by simp [hn]
          have HL := Lib.hid (show likeB x y = false by rw [hlb]; simp [hn])
          clear hlb hn
          refine wp_region_fr (by kernel_rfl) (by kernel_rfl) ?_
          repeat (go_big_quiet_step ((go_at_call 36; exact Calls.fr_of (HC.out _))))
          refine wpQuiet_nil ?_
          intro wn hwn
          have fn : Fr [] wr wn := by obtain ⟨p, rfl⟩ := hwn; exact p.fr
          have FN := Lib.hid fn
          clear hwn u0 u1 v0 v1 HC fn
          go_wp2_with fail
          go_ret
          exact ⟨ret_bool HL.out.symm, HF.out.trans FN.out⟩
      | false =>
        have HL := Lib.hid (show likeB x y = false by rw [hlb]; rfl)
        clear hlb
        by_cases hn : x.n = y.n
        · have hz : (x.n != y.n) = false := by simp [hn]
          clear hn
          refine wp_region_fr (by kernel_rfl) (by kernel_rfl) ?_
          repeat (go_big_quiet_step ((go_at_call 36; exact Calls.fr_of (HC.out _))))
          refine wpQuiet_nil ?_
          intro wn hwn
          have fn : Fr [] wr wn := by obtain ⟨p, rfl⟩ := hwn; exact p.fr
          have FN := Lib.hid fn
          clear hwn u0 u1 v0 v1 HC fn
          go_wp2_with fail
          go_ret
          exact ⟨ret_bool HL.out.symm, HF.out.trans FN.out⟩
        · have hz : (x.n != y.n) = true := by simp [hn]
          clear hn
          refine wp_region_fr (by kernel_rfl) (by kernel_rfl) ?_
          repeat (go_big_quiet_step ((go_at_call 36; exact Calls.fr_of (HC.out _))))
          refine wpQuiet_nil ?_
          intro wn hwn
          have fn : Fr [] wr wn := by obtain ⟨p, rfl⟩ := hwn; exact p.fr
          have FN := Lib.hid fn
          clear hwn u0 u1 v0 v1 HC fn
          go_wp2_with fail
          go_ret
          exact ⟨ret_bool HL.out.symm, HF.out.trans FN.out⟩
    · have HL := Lib.hid (show likeB x y = true by
        rcases HK.out with h | h
        · omega
        · exact h)
      go_wp2_with fail
      go_ret
      exact ⟨ret_bool HL.out.symm, HF.out⟩

theorem RowAt.cap {w : World} {a : Option Addr} {n c : Nat} {ds : List Dt} (h : RowAt w (.slice a n c) ds) : ds.length ≤ c := by
  obtain ⟨a', c', hv, hc⟩ := h.shape
  simp only [Value.slice.injEq] at hv
  omega
set_option maxRecDepth 100000
set_option maxHeartbeats 3200000 in
theorem keyed_any {w : World} {ra ka xa : Option Addr} {rc kc xc : Nat} {row kr : List Dt} {key : List Int} (hr : RowAt w (.slice ra row.length rc) row) (hrl : row.length ≤ 4398046511103) (hk : Src w 1 (.slice ka key.length kc) key.length (kiC key)) (hkl : key.length ≤ 17592186043904) (hx : RowAt w (.slice xa kr.length xc) kr) (hn : kr.length = key.length) (hp : KeyedP key kr row) :
    Calls Try.prog 55 #[.slice ra row.length rc, .slice ka key.length kc, .slice xa kr.length xc] w fun e w' => e = .returned (.bool true) ∧ Fr [] w w' := by
  have hrc := hr.cap
  have hxc := hx.cap
  have HR := Lib.hid hr
  have HK := Lib.hid hk
  have HX := Lib.hid hx
  have HN := Lib.hid hn
  have HP := Lib.hid hp
  clear hr hk hx hn hp
  go_enter Try.func55, Try.ntmps55
  go_wp2_with fail
  go_loopw [11] (fun x wr => ∃ i : Nat, x = .int .i64 i ∧ i ≤ key.length ∧ Fr [] w wr) (fun x _ => key.length - (intOf x).toNat)
  case atStart => exact ⟨0, rfl, Nat.zero_le _, Fr.refl _ _⟩
  case round =>
    obtain ⟨i, rfl, hi, hf⟩ := hrel
    have HF := Lib.hid hf
    by_cases hlt : i < key.length
    · obtain ⟨b, off, e1, v0⟩ := src_key (HK.out.fr hf) hlt
      subst e1
      obtain ⟨k0, k1, hz⟩ := HP.out i hlt
      generalize nki key i = kk at *
      obtain ⟨m, rfl⟩ := Int.eq_ofNat_of_zero_le k0
      have hm : m < row.length := by omega
      rw [Int.toNat_natCast] at hz
      have hik : i < kr.length := by rw [HN.out]; exact hlt
      obtain ⟨b1, o1, e2, r1⟩ := (HR.out.fr hf).sub (k := m) (by exact hm)
      obtain ⟨b2, o2, e3, r2⟩ := (HX.out.fr hf).sub hik
      subst e2
      subst e3
      have hsm : ∀ q : FrBy wr, Calls Try.prog 36 #[.slice (some ⟨b1, o1 + m * 3, none⟩) 1 (rc - m), .slice (some ⟨b2, o2 + i * 3, none⟩) 1 (xc - i)] q.wn fun x w' => x = .returned (.bool true) ∧ Fr [] q.wn w' := fun q => (rsame_any ((r1 _ (by omega)).fr q.fr) ((r2 _ (by omega)).fr q.fr) (by simp)).mono fun e w' ⟨he, hfx⟩ => ⟨by rw [he, hz]; rfl, hfx⟩
      have HSm := Lib.hid hsm
      clear hf r1 r2 hsm hz k0
      have hmm : ¬ (row.length : Int) ≤ (m : Int) := by omega
      have g1 : (m : Int) + 1 ≤ (rc : Int) := by omega
      have g2 : (i : Int) + 1 ≤ (xc : Int) := by omega
      have g3 : ((m : Int) + 1).toNat = m + 1 := by omega
      have g4 : ((i : Int) + 1).toNat = i + 1 := by omega
      have g5 : m + 1 - m = 1 := by omega
      have g6 : i + 1 - i = 1 := by omega
      go_upto_region 4 with fail
      have g7 : IntKind.i64.wrap ((m : Int) + 1) = (m : Int) + 1 := by rw [IntKind.wrap_i64]; omega
      have g8 : IntKind.i64.wrap ((i : Int) + 1) = (i : Int) + 1 := by rw [IntKind.wrap_i64]; omega
      refine wp_region_fr (by kernel_rfl) (by kernel_rfl) ?_
      repeat (go_big_quiet_step ((go_at_call 36; exact Calls.fr_of (HSm.out _))))
      refine wpQuiet_nil ?_
      intro wn hwn
      have fn : Fr [] wr wn := by obtain ⟨q, rfl⟩ := hwn; exact q.fr
      have FN := Lib.hid (HF.out.trans fn)
      clear hwn fn HSm g7 g8
      go_wp2_with fail
      go_roundw
      case rel => exact ⟨i + 1, by go_num, by omega, FN.out⟩
      case measure => simp [intOf] <;> omega
    · clear hf
      go_wp2_with fail
      go_ret
      exact ⟨rfl, HF.out⟩
end Go.Proofs.Ytmionipeoffnhaa
