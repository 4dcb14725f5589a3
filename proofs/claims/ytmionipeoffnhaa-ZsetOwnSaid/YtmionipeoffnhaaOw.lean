/- The walk of ZsetOwn: what is told is new memory. No condition but the sizes. -/
import Derived.Test.YtmionipeoffnhaaRp
namespace Go.Proofs.Ytmionipeoffnhaa
open Go.RowKit srt grp

/-- A row whose cells lie in blocks of a stretch and may be written. -/
def RowSh (lo hi : Nat) (w : World) (e : El) : Prop :=
  e.rl = 0 ∨ ∃ b cur, lo ≤ b ∧ b < hi ∧ e.ra = some ⟨b, 0, none⟩ ∧ e.rl ≤ e.rc ∧ w.heap[b]? = some (.cells cur 33) ∧ e.rl * 3 ≤ cur.size
def ListSh (lo hi : Nat) (w : World) (a : Option Addr) (l : List El) : Prop :=
  l = [] ∨ ∃ g cur, lo ≤ g ∧ g < hi ∧ a = some ⟨g, 0, none⟩ ∧ w.heap[g]? = some (.cells cur 31) ∧ (∀ k, k < l.length → cur[k * 2]? = some (nth l k).rv ∧ k * 2 + 1 < cur.size) ∧ ∀ e ∈ l, e.rl ≤ 4398046511103 ∧ RowSh lo hi w e

theorem RowIn.rl {lo : Nat} {w : World} {e : El} (h : RowIn lo w e.rv e.rd) : e.rd.length = e.rl := by
  obtain ⟨a, c, hv, -⟩ := h.row.shape
  unfold El.rv at hv
  simp only [Value.slice.injEq] at hv
  exact hv.2.1.symm
theorem RowIn.sh {lo : Nat} {w : World} {e : El} (h : RowIn lo w e.rv e.rd) : RowSh lo w.heap.size w e := by
  rcases h with ⟨a, c, hv, -, -⟩ | ⟨b, c, cur, hb, hv, hc, hg, htk⟩
  · unfold El.rv at hv
    simp only [Value.slice.injEq] at hv
    exact Or.inl hv.2.1
  · unfold El.rv at hv
    simp only [Value.slice.injEq] at hv
    refine Or.inr ⟨b, cur, hb, (Array.getElem?_eq_some_iff.1 hg).1, hv.1, by omega, hg, ?_⟩
    have h1 := congrArg List.length htk
    rw [dtsC_len, List.length_take, Array.length_toList] at h1
    omega
theorem ListIn.sh {lo : Nat} {w : World} {a : Option Addr} {n c : Nat} {l : List El} (h : ListIn lo w (.slice a n c) l) : ListSh lo w.heap.size w a l := by
  obtain ⟨h, hr⟩ := h
  rcases h with ⟨-, -, -, -, hl⟩ | ⟨g, c, cur, hb, hv, hc, hg, htk⟩
  · exact Or.inl hl
  · simp only [Value.slice.injEq] at hv
    refine Or.inr ⟨g, cur, hb, (Array.getElem?_eq_some_iff.1 hg).1, hv.1, hg, fun k hk => ?_, fun e he => ⟨by rw [← (hr e he).1.rl]; exact (hr e he).2.len, (hr e he).1.sh⟩⟩
    obtain ⟨e0, e1⟩ := elsC_at l k _ (nth_at hk)
    constructor
    · rw [← htk, List.getElem?_take_of_lt (by omega)] at e0
      simpa [El.rv] using e0
    · rw [← htk, List.getElem?_take_of_lt (by omega)] at e1
      have := (List.getElem?_eq_some_iff.1 e1).1
      simpa using this
theorem RowSh.fr {lo hi : Nat} {w w' : World} {e : El} (h : RowSh lo hi w e) (f : Fr [] w w') : RowSh lo hi w' e := by
  rcases h with h | ⟨b, cur, h1, h2, h3, h4, h5, h6⟩
  · exact Or.inl h
  · exact Or.inr ⟨b, cur, h1, h2, h3, h4, f.heap h5 (by simp), h6⟩
theorem ListSh.fr {lo hi : Nat} {w w' : World} {a : Option Addr} {l : List El} (h : ListSh lo hi w a l) (f : Fr [] w w') : ListSh lo hi w' a l := by
  rcases h with h | ⟨g, cur, h1, h2, h3, h4, h5, h6⟩
  · exact Or.inl h
  · exact Or.inr ⟨g, cur, h1, h2, h3, f.heap h4 (by simp), h5, fun e he => ⟨(h6 e he).1, (h6 e he).2.fr f⟩⟩
theorem RowSh.set {lo hi : Nat} {w : World} {e : El} (h : RowSh lo hi w e) (b o : Nat) (v : Value) : RowSh lo hi (w.setCell ⟨b, o, none⟩ v) e := by
  rcases h with h | ⟨b', cur, h1, h2, h3, h4, h5, h6⟩
  · exact Or.inl h
  · by_cases hb : b' = b
    · subst hb
      exact Or.inr ⟨b', _, h1, h2, h3, h4, heap_set h5, by simpa using h6⟩
    · exact Or.inr ⟨b', cur, h1, h2, h3, h4, ((Fr.refl [b] w).setCell (p := ⟨b, o, none⟩) (by simp) v).heap h5 (by simpa using hb), h6⟩
theorem ListSh.few {lo hi : Nat} {w : World} {a : Option Addr} {l : List El} (h : ListSh lo hi w a l) {k : Nat} (hk : k < l.length) : (nth l k).rl ≤ 4398046511103 := by
  rcases h with h | ⟨g, cur, h1, h2, h3, h4, h5, h6⟩
  · rw [h] at hk; simp at hk
  · exact (h6 _ (nth_mem hk)).1
/-- A cell of a row is written. -/
theorem ListSh.setRow {lo hi : Nat} {w : World} {a : Option Addr} {l : List El} (h : ListSh lo hi w a l) {b o : Nat} {cur0 : Array Value} (hb : w.heap[b]? = some (.cells cur0 33)) (v : Value) : ListSh lo hi (w.setCell ⟨b, o, none⟩ v) a l := by
  rcases h with h | ⟨g, cur, h1, h2, h3, h4, h5, h6⟩
  · exact Or.inl h
  · have hne : g ≠ b := fun e => by subst e; rw [h4] at hb; simp at hb
    exact Or.inr ⟨g, cur, h1, h2, h3, ((Fr.refl [b] w).setCell (p := ⟨b, o, none⟩) (by simp) v).heap h4 (by simpa using hne), h5, fun e he => ⟨(h6 e he).1, (h6 e he).2.set b o v⟩⟩
theorem ListSh.setRow3 {lo hi : Nat} {w : World} {a : Option Addr} {l : List El} (h : ListSh lo hi w a l) {b o1 o2 o3 : Nat} {cur0 : Array Value} (hb : w.heap[b]? = some (.cells cur0 33)) (v1 v2 v3 : Value) :
    ListSh lo hi (((w.setCell ⟨b, o1, none⟩ v1).setCell ⟨b, o2, none⟩ v2).setCell ⟨b, o3, none⟩ v3) a l :=
  ((h.setRow hb v1).setRow (heap_set hb) v2).setRow (heap_set (heap_set hb)) v3
/-- A number of the list is written. -/
theorem ListSh.setN {lo hi g : Nat} {w : World} {l : List El} (h : ListSh lo hi w (some ⟨g, 0, none⟩) l) (k : Nat) (v : Value) : ListSh lo hi (w.setCell ⟨g, k * 2 + 1, none⟩ v) (some ⟨g, 0, none⟩) l := by
  rcases h with h | ⟨g', cur, h1, h2, h3, h4, h5, h6⟩
  · exact Or.inl h
  · simp only [Option.some.injEq, Addr.mk.injEq, and_true] at h3
    subst h3
    refine Or.inr ⟨g, _, h1, h2, rfl, heap_set h4, fun j hj => ?_, fun e he => ⟨(h6 e he).1, (h6 e he).2.set g _ v⟩⟩
    obtain ⟨a1, a2⟩ := h5 j hj
    exact ⟨by rw [Array.getElem?_setIfInBounds_ne (by omega)]; exact a1, by simpa using a2⟩
/-- The cells of an element. -/
theorem ListSh.cell {lo hi : Nat} {w : World} {a : Option Addr} {l : List El} (h : ListSh lo hi w a l) {k : Nat} (hk : k < l.length) :
    ∃ g u, lo ≤ g ∧ g < hi ∧ a = some ⟨g, 0, none⟩ ∧ w.cell? ⟨g, k * 2, none⟩ = some (.slice (nth l k).ra (nth l k).rl (nth l k).rc) ∧ w.cell? ⟨g, k * 2 + 1, none⟩ = some u ∧ w.frozen? ⟨g, k * 2 + 1, none⟩ = false := by
  rcases h with h | ⟨g, cur, h1, h2, h3, h4, h5, h6⟩
  · rw [h] at hk; simp at hk
  · obtain ⟨a1, a2⟩ := h5 k hk
    exact ⟨g, cur[k * 2 + 1], h1, h2, h3, by simp [World.cell?, h4]; exact a1, by simp [World.cell?, h4, a2], by simp [World.frozen?, h4]⟩
theorem ListSh.row {lo hi : Nat} {w : World} {a : Option Addr} {l : List El} (h : ListSh lo hi w a l) {k j : Nat} (hk : k < l.length) (hj : j < (nth l k).rl) :
    ∃ b cur u0 u1 u2, lo ≤ b ∧ b < hi ∧ (nth l k).ra = some ⟨b, 0, none⟩ ∧ w.heap[b]? = some (.cells cur 33) ∧ w.cell? ⟨b, j * 3, none⟩ = some u0 ∧ w.cell? ⟨b, j * 3 + 1, none⟩ = some u1 ∧ w.cell? ⟨b, j * 3 + 2, none⟩ = some u2 ∧
      w.frozen? ⟨b, j * 3, none⟩ = false ∧ w.frozen? ⟨b, j * 3 + 1, none⟩ = false ∧ w.frozen? ⟨b, j * 3 + 2, none⟩ = false := by
  rcases h with h | ⟨g, cur, h1, h2, h3, h4, h5, h6⟩
  · rw [h] at hk; simp at hk
  · rcases (h6 _ (nth_mem hk)).2 with h7 | ⟨b, cur, k1, k2, k3, k4, k5, k6⟩
    · omega
    · exact ⟨b, cur, cur[j * 3], cur[j * 3 + 1], cur[j * 3 + 2], k1, k2, k3, k5, by simp [World.cell?, k5], by simp [World.cell?, k5], by simp [World.cell?, k5], by simp [World.frozen?, k5], by simp [World.frozen?, k5], by simp [World.frozen?, k5]⟩

def OwnS (lo hi : Nat) (w3 : World) (a : Option Addr) (l : List El) (wr : World) : Prop := Fr (List.range' lo (hi - lo)) w3 wr ∧ ListSh lo hi wr a l
theorem mem_stretch {lo hi x : Nat} : x ∈ List.range' lo (hi - lo) ↔ lo ≤ x ∧ x < hi := by
  rw [List.mem_range']
  constructor
  · rintro ⟨i, h1, rfl⟩; omega
  · intro h; exact ⟨x - lo, by omega, by omega⟩

set_option maxRecDepth 100000
set_option maxHeartbeats 6400000 in
theorem own_walk {w : World} {a0 : Option Addr} {c0 : Nat} {lx : List El} (hx : Cts w (.slice a0 lx.length c0) lx) (hcx : lx.length ≤ c0) (hax : a0 = none → c0 = 0) (hmx : c0 ≤ 9223372036854775807) :
    Calls Try.prog 3 #[.slice a0 lx.length c0] w fun e w' => e = .returned (.bool true) ∧ Fr [] w w' := by
  have hcut := cut_any (w := w) lx.length hcx hax hmx
  obtain ⟨sx, hsl, hst⟩ : ∃ sx : List El, sx.length = min lx.length 60 ∧ Cts w (.slice a0 sx.length c0) sx := by
    have ht := hx.take (k := min lx.length 60) (by omega)
    have hl : (lx.take (min lx.length 60)).length = min lx.length 60 := by rw [List.length_take]; omega
    exact ⟨_, hl, by rw [hl]; exact ht⟩
  rw [← hsl] at hcut
  have q1 : sx.length ≤ 60 := by omega
  have K0 := Lib.hid hst
  clear hx hcx hax hmx hsl hst
  go_enter Try.func3, Try.ntmps3
  go_upto_region 2 with (go_at_call 14; refine hcut.mono ?_; rintro e w' ⟨rfl, rfl⟩)
  go_upto_region 3 with (go_at_call 15; refine ((rTidy_any K0.out (by omega)).mono fun e w' h => ResPost.ans h).mono ?_; rintro e w1 ⟨o1, x1, y1, r1, rfl, f1, k1, m1, A1⟩)
  replace K0 := Lib.hid (K0.out.fr f1)
  have K1 := Lib.hid k1.cts
  have T := Lib.hid f1
  clear f1 k1 hcut
  go_upto_region 4 with (go_at_call 16; refine ((Tidy_any K0.out (by omega)).mono fun e w' h => ResPost.ans (TidyPost.res h)).mono ?_; rintro e w2 ⟨o2, x2, y2, r2, rfl, f2, k2, m2, A2⟩)
  have KA := Lib.hid (K0.out.fr f2)
  have F12 := Lib.hid f2
  have hlo := f2.size
  have hl0 := T.out.size
  have S2 := Lib.hid k2.sh
  clear f2 k2
  go_upto_region 5 with (go_at_call 16; refine ((Tidy_any KA.out (by omega)).mono fun e w' h => ResPost.ans (TidyPost.res h)).mono ?_; rintro e w3 ⟨o3, x3, y3, r3, rfl, f3, k3, m3, A3⟩)
  have F13 := Lib.hid (F12.out.trans f3)
  replace S2 := Lib.hid (S2.out.fr f3)
  have K3 := Lib.hid k3
  have E2 := Lib.hid (ansR.pair (G := id) A1.out A2.out)
  have E3 := Lib.hid (ansR.pair (G := id) A1.out A3.out)
  clear f3 k3 KA F12 A2 A3
  go_wp2_with fail
  generalize hlod : w1.heap.size = lo at *
  have HLo := Lib.hid hlod
  clear hlod
  generalize w2.heap.size = hi at *
  go_loopw [33] (fun x wr => ∃ k : Nat, x = .int .i64 k ∧ k ≤ o2.length ∧ OwnS lo hi w3 x2 o2 wr) (fun x _ => o2.length - (intOf x).toNat)
  case atStart => exact ⟨0, rfl, Nat.zero_le _, Fr.refl _ _, S2.out⟩
  case round =>
    obtain ⟨k, rfl, hk, hf, hs⟩ := hrel
    have HF := Lib.hid hf
    have HS := Lib.hid hs
    by_cases hlt : k < o2.length
    · as_aux_lemma =>
      obtain ⟨g, u, g1, g2, rfl, z0, z1, z2⟩ := hs.cell hlt
      clear hf hs z1 z2
      have i1 : (k : Int) < (o2.length : Int) := by omega
      have hrl := HS.out.few hlt
      go_upto_region 9 with fail
      go_loopw [42] (fun y wi => ∃ j : Nat, y = .int .i64 j ∧ j ≤ (nth o2 k).rl ∧ OwnS lo hi w3 (some ⟨g, 0, none⟩) o2 wi) (fun y _ => (nth o2 k).rl - (intOf y).toNat)
      case atStart => exact ⟨0, rfl, Nat.zero_le _, HF.out, HS.out⟩
      case round =>
        clear z0 HF HS
        obtain ⟨j, rfl, hj, hf, hs⟩ := hrel
        obtain ⟨wi, rfl⟩ : ∃ wi, wi = wr := ⟨wr, rfl⟩
        have HF := Lib.hid hf
        have HS := Lib.hid hs
        obtain ⟨g', u', -, -, e1, z0, z1, z2⟩ := hs.cell hlt
        simp only [Option.some.injEq, Addr.mk.injEq, and_true] at e1
        subst e1
        by_cases hjl : j < (nth o2 k).rl
        · obtain ⟨b, cur, v0, v1, v2, b1, b2, e2, hb, y0, y1, y2, y3, y4, y5⟩ := hs.row hlt hjl
          have HB := Lib.hid hb
          rw [e2] at z0
          clear hf hs z1 z2 e2 hb
          have i2 : (j : Int) < ((nth o2 k).rl : Int) := by omega
          go_wp2_with fail
          go_roundw
          case rel => exact ⟨j + 1, by go_num, by omega, ((HF.out.setCell (mem_stretch.2 ⟨b1, b2⟩) _).setCell (mem_stretch.2 ⟨b1, b2⟩) _).setCell (mem_stretch.2 ⟨b1, b2⟩) _, HS.out.setRow3 HB.out _ _ _⟩
          case measure => simp [intOf] <;> omega
        · clear hf hs z0
          go_wp2_with fail
          go_roundw
          case rel => exact ⟨k + 1, by go_num, by omega, HF.out.setCell (mem_stretch.2 ⟨g1, g2⟩) _, HS.out.setN k _⟩
          case measure => simp [intOf] <;> omega
    · as_aux_lemma =>
      have F := Lib.hid (F13.out.past hf (fun x hx => Or.inl (by rw [HLo.out]; exact (mem_stretch.1 hx).1)))
      have B := Lib.hid (K3.out.fr hf (fun x hx => (mem_stretch.1 hx).2))
      clear hf hs HF HS K3 F13
      have hcl := rTidy_any (K0.out.fr F.out) (by omega)
      have HCl := Lib.hid (hcl.mono fun e w' h => ResPost.ans h)
      obtain ⟨e2, -⟩ := E2.out
      obtain ⟨e3, p3⟩ := E3.out
      subst e2
      subst e3
      clear E2 E3 hcl
      go_upto_region 16 with (go_at_call 15; refine HCl.out.mono ?_; rintro e w4 ⟨o4, x4, y4, r4, rfl, f4, k4, m4, A4⟩; obtain ⟨e4, p4⟩ := ansR.pair (G := id) A1.out A4.out; subst e4; have L1 := Lib.hid (like_true (B.out.cts.fr f4) (K1.out.fr (F.out.trans f4)) p3.symm (by omega)); have L2 := Lib.hid (fun wi (fi : Fr [] w4 wi) => like_true (k4.cts.fr fi) (K1.out.fr ((F.out.trans f4).trans fi)) p4.symm (by omega)); have F4 := Lib.hid f4; clear p3 p4 k4 f4 A4)
      have tok1 : True := trivial
      have hr : (r4 == r4) = true := by simp
      go_wp2_with (first
        | (go_at_call 17; have _t := tok1; clear _t tok1; refine L1.out.mono ?_; rintro e w5 ⟨rfl, f5⟩)
        | (go_at_call 17; refine (L2.out _ f5).mono ?_; rintro e w6 ⟨rfl, f6⟩))
      go_ret
      exact ⟨rfl, (((T.out.trans F.out).trans F4.out).trans f5).trans f6⟩
end Go.Proofs.Ytmionipeoffnhaa
