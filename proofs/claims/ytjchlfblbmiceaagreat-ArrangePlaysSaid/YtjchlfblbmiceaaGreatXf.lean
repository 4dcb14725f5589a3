/- The laws' spoil, told, place and stands. No condition but the sizes. -/
import Derived.Test.YtjchlfblbmiceaaGreatXe
namespace Go.Proofs.YtjchlfblbmiceaaGreat
open Go.RowKit srt grp

/-! ### what is written into new memory -/
def st (lo hi : Nat) : List Nat := List.range' lo (hi - lo)
theorem mem_st {lo hi x : Nat} : x ∈ st lo hi ↔ lo ≤ x ∧ x < hi := by
  unfold st
  rw [List.mem_range']
  constructor
  · rintro ⟨i, h1, rfl⟩; omega
  · intro h; exact ⟨x - lo, by omega, by omega⟩
/-- A row that may be written. -/
def RowW (lo hi : Nat) (w : World) (a : Option Addr) (n c : Nat) : Prop :=
  n = 0 ∨ ∃ b cur, lo ≤ b ∧ b < hi ∧ a = some ⟨b, 0, none⟩ ∧ n ≤ c ∧ w.heap[b]? = some (.cells cur 94) ∧ n * 3 ≤ cur.size
theorem RowIn.rw {lo n c : Nat} {w : World} {a : Option Addr} {ds : List Dt} (h : RowIn lo w (.slice a n c) ds) : RowW lo w.heap.size w a n c := by
  rcases h with ⟨a, c, hv, -, -⟩ | ⟨b, c, cur, hb, hv, hc, hg, htk⟩
  · simp only [Value.slice.injEq] at hv
    exact Or.inl hv.2.1
  · simp only [Value.slice.injEq] at hv
    obtain ⟨hv1, hv2, hv3⟩ := hv
    refine Or.inr ⟨b, cur, hb, (Array.getElem?_eq_some_iff.1 hg).1, hv1, by omega, hg, ?_⟩
    have h1 : (cur.toList.take (ds.length * 3)).length = (dtsC ds).length := congrArg List.length htk
    rw [dtsC_len, List.length_take] at h1
    have h3 : cur.toList.length = cur.size := Array.length_toList
    omega
/-- Rows alone were written: each block is there, as great as it was; what is no row is as it was. -/
def Spo (w w' : World) : Prop := ∀ (b : Nat) (cur : Array Value) (t : Nat), w.heap[b]? = some (.cells cur t) → ∃ cur' : Array Value, w'.heap[b]? = some (.cells cur' t) ∧ cur'.size = cur.size ∧ (t ≠ 94 → cur' = cur)
theorem Spo.trans {w w' w'' : World} (h : Spo w w') (k : Spo w' w'') : Spo w w'' := fun b cur t hb => by
  obtain ⟨c1, h1, h2, h3⟩ := h b cur t hb
  obtain ⟨c2, k1, k2, k3⟩ := k b c1 t h1
  exact ⟨c2, k1, k2.trans h2, fun ht => (k3 ht).trans (h3 ht)⟩
theorem Spo.fr {w w' : World} (f : Fr [] w w') : Spo w w' := fun b cur t hb => ⟨cur, f.heap hb (by simp), rfl, fun _ => rfl⟩
theorem Spo.set {w : World} {b o : Nat} {cur : Array Value} (hb : w.heap[b]? = some (.cells cur 94)) (v : Value) : Spo w (w.setCell ⟨b, o, none⟩ v) := fun b' cur' t h => by
  by_cases e : b' = b
  · subst e
    rw [hb] at h
    simp only [Option.some.injEq, Obj.cells.injEq] at h
    obtain ⟨rfl, rfl, -⟩ := h
    exact ⟨_, heap_set hb, by simp, fun h9 => absurd rfl h9⟩
  · exact ⟨cur', ((Fr.refl [b] w).setCell (p := ⟨b, o, none⟩) (by simp) v).heap h (by simpa using e), rfl, fun _ => rfl⟩
theorem RowW.spo {lo hi n c : Nat} {w w' : World} {a : Option Addr} (h : RowW lo hi w a n c) (k : Spo w w') : RowW lo hi w' a n c := by
  rcases h with h | ⟨b, cur, h1, h2, h3, h4, h5, h6⟩
  · exact Or.inl h
  · obtain ⟨c1, k1, k2, -⟩ := k b cur _ h5
    exact Or.inr ⟨b, c1, h1, h2, h3, h4, k1, by omega⟩
theorem RowW.at {lo hi n c : Nat} {w : World} {a : Option Addr} (h : RowW lo hi w a n c) {j : Nat} (hj : j < n) :
    ∃ b cur u0 u1 u2, lo ≤ b ∧ b < hi ∧ a = some ⟨b, 0, none⟩ ∧ w.heap[b]? = some (.cells cur 94) ∧ w.cell? ⟨b, j * 3, none⟩ = some u0 ∧ w.cell? ⟨b, j * 3 + 1, none⟩ = some u1 ∧ w.cell? ⟨b, j * 3 + 2, none⟩ = some u2 ∧
      w.frozen? ⟨b, j * 3, none⟩ = false ∧ w.frozen? ⟨b, j * 3 + 1, none⟩ = false ∧ w.frozen? ⟨b, j * 3 + 2, none⟩ = false := by
  rcases h with h | ⟨b, cur, k1, k2, k3, k4, k5, k6⟩
  · omega
  · exact ⟨b, cur, cur[j * 3], cur[j * 3 + 1], cur[j * 3 + 2], k1, k2, k3, k5, by simp [World.cell?, k5], by simp [World.cell?, k5], by simp [World.cell?, k5], by simp [World.frozen?, k5], by simp [World.frozen?, k5], by simp [World.frozen?, k5]⟩

set_option maxRecDepth 100000
set_option maxHeartbeats 1600000 in
theorem spoil_any {w : World} {lo hi n c : Nat} {a : Option Addr} (h : RowW lo hi w a n c) (hn : n ≤ 4398046511103) :
    Calls Tryz.prog 53 #[.slice a n c] w fun e w' => e = .returned (.tuple #[]) ∧ Fr (st lo hi) w w' ∧ Spo w w' := by
  have H := Lib.hid h
  clear h
  go_enter Tryz.func53, Tryz.ntmps53
  go_wp2_with fail
  go_loopw [5] (fun x wr => ∃ k : Nat, x = .int .i64 k ∧ k ≤ n ∧ Fr (st lo hi) w wr ∧ Spo w wr) (fun x _ => n - (intOf x).toNat)
  case atStart => exact ⟨0, rfl, Nat.zero_le _, Fr.refl _ _, Spo.fr (Fr.refl _ _)⟩
  case round =>
    obtain ⟨k, rfl, hk, hf, hs⟩ := hrel
    have HF := Lib.hid hf
    have HS := Lib.hid hs
    by_cases hlt : k < n
    · obtain ⟨b, cur, u0, u1, u2, hb1, hb2, e1, hb, x0, x1, x2, z0, z1, z2⟩ := (H.out.spo hs).at hlt
      subst e1
      have HB := Lib.hid hb
      clear hf hs hb
      go_wp2_with fail
      go_roundw
      case rel => exact ⟨k + 1, by go_num, by omega, ((HF.out.setCell (p := ⟨b, _, none⟩) (mem_st.2 ⟨hb1, hb2⟩) _).setCell (p := ⟨b, _, none⟩) (mem_st.2 ⟨hb1, hb2⟩) _).setCell (p := ⟨b, _, none⟩) (mem_st.2 ⟨hb1, hb2⟩) _, ((HS.out.trans (Spo.set HB.out _)).trans (Spo.set (heap_set HB.out) _)).trans (Spo.set (heap_set (heap_set HB.out)) _)⟩
      case measure => simp [intOf] <;> omega
    · clear hf hs
      go_wp2_with fail
      go_end0
      exact ⟨rfl, HF.out, HS.out⟩

/-- An answered list of counted rows, written from its front. -/
def TaleC (lo hi i : Nat) (w : World) (a : Option Addr) (l : List El) : Prop :=
  l = [] ∨ ∃ g cur, lo ≤ g ∧ g < hi ∧ a = some ⟨g, 0, none⟩ ∧ w.heap[g]? = some (.cells cur 68) ∧ (∀ k, k < l.length → k * 2 + 1 < cur.size ∧ (i ≤ k → cur[k * 2]? = some (nth l k).rv)) ∧ ∀ e ∈ l, e.rl ≤ 4398046511103 ∧ RowW lo hi w e.ra e.rl e.rc
theorem RowIn.rl {lo : Nat} {w : World} {e : El} (h : RowIn lo w e.rv e.rd) : e.rd.length = e.rl := by
  obtain ⟨a, c, hv, -⟩ := h.row.shape
  unfold El.rv at hv
  simp only [Value.slice.injEq] at hv
  exact hv.2.1.symm
theorem ListIn.tale {lo : Nat} {w : World} {a : Option Addr} {n c : Nat} {l : List El} (h : ListIn lo w (.slice a n c) l) : TaleC lo w.heap.size 0 w a l := by
  obtain ⟨h, hr⟩ := h
  rcases h with ⟨-, -, -, -, hl⟩ | ⟨g, c, cur, hb, hv, hc, hg, htk⟩
  · exact Or.inl hl
  · simp only [Value.slice.injEq] at hv
    refine Or.inr ⟨g, cur, hb, (Array.getElem?_eq_some_iff.1 hg).1, hv.1, hg, fun k hk => ?_, fun e he => ⟨by rw [← (hr e he).1.rl]; exact (hr e he).2.len, (hr e he).1.rw⟩⟩
    obtain ⟨e0, e1⟩ := elsC_at l k _ (nth_at hk)
    constructor
    · rw [← htk, List.getElem?_take_of_lt (by omega)] at e1
      have := (List.getElem?_eq_some_iff.1 e1).1
      simpa using this
    · intro _
      rw [← htk, List.getElem?_take_of_lt (by omega)] at e0
      simpa [El.rv] using e0
theorem TaleC.spo {lo hi i : Nat} {w w' : World} {a : Option Addr} {l : List El} (h : TaleC lo hi i w a l) (k : Spo w w') : TaleC lo hi i w' a l := by
  rcases h with h | ⟨g, cur, h1, h2, h3, h4, h5, h6⟩
  · exact Or.inl h
  · obtain ⟨c1, k1, -, k3⟩ := k g cur _ h4
    rw [k3 (by decide)] at k1
    exact Or.inr ⟨g, cur, h1, h2, h3, k1, h5, fun e he => ⟨(h6 e he).1, (h6 e he).2.spo k⟩⟩
theorem TaleC.cell {lo hi i : Nat} {w : World} {a : Option Addr} {l : List El} (h : TaleC lo hi i w a l) (hk : i < l.length) :
    ∃ g u, lo ≤ g ∧ g < hi ∧ a = some ⟨g, 0, none⟩ ∧ w.cell? ⟨g, i * 2, none⟩ = some (.slice (nth l i).ra (nth l i).rl (nth l i).rc) ∧ w.cell? ⟨g, i * 2 + 1, none⟩ = some u ∧ w.frozen? ⟨g, i * 2, none⟩ = false ∧ w.frozen? ⟨g, i * 2 + 1, none⟩ = false ∧ (nth l i).rl ≤ 4398046511103 ∧ RowW lo hi w (nth l i).ra (nth l i).rl (nth l i).rc := by
  rcases h with h | ⟨g, cur, h1, h2, h3, h4, h5, h6⟩
  · rw [h] at hk; simp at hk
  · obtain ⟨a1, a2⟩ := h5 i hk
    obtain ⟨r1, r2⟩ := h6 _ (nth_mem hk)
    exact ⟨g, cur[i * 2 + 1], h1, h2, h3, by simp [World.cell?, h4]; exact a2 (Nat.le_refl _), by simp [World.cell?, h4, a1], by simp [World.frozen?, h4], by simp [World.frozen?, h4], r1, r2⟩
theorem RowW.set {lo hi n c g o : Nat} {w : World} {a : Option Addr} {cur : Array Value} {t : Nat} (h : RowW lo hi w a n c) (hg : w.heap[g]? = some (.cells cur t)) (ht : t ≠ 94) (v : Value) : RowW lo hi (w.setCell ⟨g, o, none⟩ v) a n c := by
  rcases h with h | ⟨b, cb, h1, h2, h3, h4, h5, h6⟩
  · exact Or.inl h
  · have hne : b ≠ g := fun e => by
      subst e
      rw [h5] at hg
      simp only [Option.some.injEq, Obj.cells.injEq] at hg
      exact ht hg.2.1.symm
    exact Or.inr ⟨b, cb, h1, h2, h3, h4, ((Fr.refl [g] w).setCell (p := ⟨g, o, none⟩) (by simp) v).heap h5 (by simpa using hne), h6⟩
/-- An element of the list is written. -/
theorem TaleC.next {lo hi i g : Nat} {w : World} {l : List El} (h : TaleC lo hi i w (some ⟨g, 0, none⟩) l) (v v' : Value) : TaleC lo hi (i + 1) ((w.setCell ⟨g, i * 2, none⟩ v).setCell ⟨g, i * 2 + 1, none⟩ v') (some ⟨g, 0, none⟩) l := by
  rcases h with h | ⟨g', cur, h1, h2, h3, h4, h5, h6⟩
  · exact Or.inl h
  · simp only [Option.some.injEq, Addr.mk.injEq, and_true] at h3
    subst h3
    refine Or.inr ⟨g, _, h1, h2, rfl, heap_set (heap_set h4), fun j hj => ?_, fun e he => ⟨(h6 e he).1, ((h6 e he).2.set h4 (by decide) v).set (heap_set h4) (by decide) v'⟩⟩
    obtain ⟨a1, a2⟩ := h5 j hj
    refine ⟨by simpa using a1, fun hij => ?_⟩
    rw [Array.getElem?_setIfInBounds_ne (by omega), Array.getElem?_setIfInBounds_ne (by omega)]
    exact a2 (by omega)
set_option maxHeartbeats 3200000 in
theorem told_any {w : World} {lo : Nat} {a b : Option Addr} {c d : Nat} {l m : List El} (h : ListIn lo w (.slice a l.length c) l) (h' : Cts w (.slice b m.length d) m) (he : l.map pr = m.map pr) (hn : l.length ≤ 10000) :
    Calls Tryz.prog 49 #[.slice a l.length c, .slice b m.length d] w fun e w' => e = .returned (.bool true) ∧ Fr (st lo w.heap.size) w w' := by
  have hlk := like_true h.cts h' he (by omega)
  have HT := Lib.hid h.tale
  have HL := Lib.hid hlk
  clear h h' he hlk
  generalize w.heap.size = hi at *
  go_enter Tryz.func49, Tryz.ntmps49
  go_upto_region 2 with (go_at_call 12; refine HL.out.mono ?_; rintro e w1 ⟨rfl, f1⟩; have F1 := Lib.hid f1; have T1 := Lib.hid (HT.out.spo (Spo.fr f1)); clear f1)
  go_wp2_with fail
  go_loopw [12] (fun x wr => ∃ k : Nat, x = .int .i64 k ∧ k ≤ l.length ∧ Fr (st lo hi) w1 wr ∧ TaleC lo hi k wr a l) (fun x _ => l.length - (intOf x).toNat)
  case atStart => exact ⟨0, rfl, Nat.zero_le _, Fr.refl _ _, T1.out⟩
  case round =>
    obtain ⟨k, rfl, hk, hf, ht⟩ := hrel
    have HF := Lib.hid hf
    by_cases hlt : k < l.length
    · obtain ⟨g, u, hg1, hg2, e1, x0, -, -, -, hr1, hr2⟩ := ht.cell hlt
      subst e1
      have HT2 := Lib.hid ht
      have HSp := Lib.hid (spoil_any hr2 hr1)
      clear hf ht hr2
      generalize nth l k = e0 at *
      go_upto_region 6 with (go_at_call 53; refine HSp.out.mono ?_; rintro e w2 ⟨rfl, f2, s2⟩; have F2 := Lib.hid (HF.out.trans f2); have T2 := Lib.hid (HT2.out.spo s2); clear f2 s2)
      obtain ⟨g', u', -, -, e2, y0, y1, z0, z1, -, -⟩ := T2.out.cell hlt
      simp only [Option.some.injEq, Addr.mk.injEq, and_true] at e2
      subst e2
      clear x0 HSp
      go_wp2_with fail
      go_roundw
      case rel => exact ⟨k + 1, by go_num, by omega, (F2.out.setCell (p := ⟨g, _, none⟩) (mem_st.2 ⟨hg1, hg2⟩) _).setCell (p := ⟨g, _, none⟩) (mem_st.2 ⟨hg1, hg2⟩) _, T2.out.next _ _⟩
      case measure => simp [intOf] <;> omega
    · clear hf ht
      go_wp2_with fail
      go_ret
      exact ⟨rfl, F1.out.nil.trans HF.out⟩
theorem place_any (n : Int) (m : Nat) (hm : 1 ≤ m) (hm2 : m ≤ 100) (w : World) :
    Calls Tryz.prog 21 #[.int .i64 n, .int .i64 m] w fun e w' => (∃ k : Nat, e = .returned (.int .i64 k) ∧ k < m) ∧ w = w' := by
  have h1 : n.tmod m < m := Int.tmod_lt_of_pos n (by omega)
  have h2 : -(m : Int) < n.tmod m := Int.lt_tmod_of_pos n (by omega)
  have h0 : (m : Int) ≠ 0 := by omega
  go_enter Tryz.func21, Tryz.ntmps21
  go_upto_region 2 with fail
  clear h0
  generalize n.tmod (m : Int) = r at *
  by_cases h3 : r < 0
  · go_wp2_with fail
    go_ret
    exact ⟨⟨(r + m).toNat, ret_int (by omega), by omega⟩, rfl⟩
  · go_wp2_with fail
    go_ret
    exact ⟨⟨r.toNat, ret_int (by omega), by omega⟩, rfl⟩

/-- A list of numbers that may be written. -/
def IntW (lo : Nat) (w : World) (a : Option Addr) (n : Nat) : Prop := n = 0 ∨ ∃ g cur, lo ≤ g ∧ a = some ⟨g, 0, none⟩ ∧ w.heap[g]? = some (.cells cur 3) ∧ n ≤ cur.size
theorem own_intW {w : World} {base n : Nat} {a : Option Addr} {c : Nat} {xs : List Value} (ho : w.ownsRow base 3 1 (.slice a n c) n xs) : IntW base w a n := by
  rcases ho.2 with ⟨-, h2⟩ | ⟨g, cap, cur, hv, hb, hg, hcl, -, hsz, -⟩
  · exact Or.inl h2
  · simp only [Value.slice.injEq] at hv
    exact Or.inr ⟨g, cur, hb, hv.1, hg, by omega⟩
theorem IntW.at {lo n : Nat} {w : World} {a : Option Addr} (h : IntW lo w a n) {k : Nat} (hk : k < n) : ∃ g u, lo ≤ g ∧ a = some ⟨g, 0, none⟩ ∧ w.cell? ⟨g, k, none⟩ = some u ∧ w.frozen? ⟨g, k, none⟩ = false ∧ ∀ v, IntW lo (w.setCell ⟨g, k, none⟩ v) a n := by
  rcases h with h | ⟨g, cur, h1, h2, h3, h4⟩
  · omega
  · exact ⟨g, cur[k], h1, h2, by simp [World.cell?, h3], by simp [World.frozen?, h3], fun v => Or.inr ⟨g, _, h1, h2, heap_set h3, by simpa using h4⟩⟩
theorem own_keyN {w : World} {base : Nat} {a : Option Addr} {c : Nat} {l : List Nat} (ho : w.ownsRow base 3 1 (.slice a l.length c) l.length (kiC (natI l))) : KeyAt w (.slice a l.length c) (natI l) := by
  have h := own_key (l := natI l) (a := a) (c := c) (by rw [natI_len]; exact ho)
  rwa [natI_len] at h
set_option maxHeartbeats 3200000 in
theorem stands_any {w : World} {p q : Nat} {wb qb : Option Nat} {s r : Spn} (h : SpAt w p wb s) (h' : RfAt w q qb r) (hz : szs r.bs = szs s.bs) (hs : r.since = s.since) (hu : r.upper = s.upper) (hb : s.bs.length ≤ 1000000) :
    Calls Tryz.prog 25 #[.pointer (some ⟨p, 0, none⟩), .pointer (some ⟨q, 0, none⟩)] w fun e w' => e = .returned (.bool true) ∧ Fr [] w w' := by
  have hlen : (szs s.bs).length = s.bs.length := szs_len _
  have hrb : r.bs.length ≤ 1000000 := by rw [← szs_len, hz, hlen]; exact hb
  have HSz := Lib.hid (sizesO_any h hb)
  have HRz : Hid (∀ wi, Fr [] w wi → Calls Tryz.prog 55 #[.pointer (some ⟨q, 0, none⟩)] wi (SizesPost wi (szs s.bs))) := Lib.hid (fun wi f => by rw [← hz]; exact rsizes_any (h'.fr f) hrb)
  have HH := Lib.hid h
  have HH' := Lib.hid h'
  have HS := Lib.hid hs
  have HU := Lib.hid hu
  clear h h' hz hs hu hrb
  have hzl : (szs s.bs).length ≤ 1000000 := by omega
  clear hlen
  generalize szs s.bs = zs at *
  go_enter Tryz.func25, Tryz.ntmps25
  go_upto_region 2 with (go_at_call 28; refine HSz.out.mono ?_; rintro e w1 ⟨⟨za, zc, rfl, hz1⟩, f1⟩; have F1 := Lib.hid f1; have O1 := Lib.hid hz1; clear f1 hz1)
  go_upto_region 3 with (first
    | (go_at_call 55; refine (HRz.out _ F1.out).mono ?_; rintro e w2 ⟨⟨ya, yc, rfl, hz2⟩, f2⟩; have F2 := Lib.hid (F1.out.trans f2); have O2 := Lib.hid (ownsRow_fr O1.out f2 (by simp)); have K2 := Lib.hid hz2; clear f2 hz2)
    | (go_at_call 54; refine (ints_true (own_keyN O2.out) K2.out (by omega)).mono ?_; rintro e w3 ⟨rfl, f3⟩; have F3 := Lib.hid (F2.out.trans f3); have O3 := Lib.hid (ownsRow_fr O2.out f3 (by simp)); clear f3))
  clear HSz HRz F1 F2 O1 O2 K2
  go_wp2_with fail
  go_loopw [16] (fun x wr => ∃ k : Nat, x = .int .i64 k ∧ k ≤ zs.length ∧ Fr [] w wr ∧ IntW w.heap.size wr za zs.length) (fun x _ => zs.length - (intOf x).toNat)
  case atStart => exact ⟨0, rfl, Nat.zero_le _, F3.out, own_intW O3.out⟩
  case round =>
    obtain ⟨k, rfl, hk, hf, ho⟩ := hrel
    have HF := Lib.hid hf
    by_cases hlt : k < zs.length
    · obtain ⟨g, u, hg, e1, x0, z0, hset⟩ := ho.at hlt
      subst e1
      have HSet := Lib.hid hset
      clear hf ho hset O3
      go_wp2_with fail
      go_roundw
      case rel => exact ⟨k + 1, by go_num, by omega, HF.out.past ((Fr.refl [g] wr).setCell (p := ⟨g, k, none⟩) (by simp) _) (fun x hx => Or.inl (by rw [List.mem_singleton.1 hx]; exact hg)), HSet.out _⟩
      case measure => simp [intOf] <;> omega
    · obtain ⟨-, -, y2, y3, -, -⟩ := (HH'.out.fr hf).cell
      have c1 : ∀ q : FrBy wr, Calls Tryz.prog 8 #[.pointer (some ⟨p, 0, none⟩)] q.wn fun e w' => e = .returned (.int .i64 s.since) ∧ Fr [] q.wn w' := fun q => (since_any (HH.out.fr (HF.out.trans q.fr))).mono fun e w' ⟨he, hw⟩ => ⟨he, by rw [hw]; exact Fr.refl _ _⟩
      have c2 : ∀ q : FrBy wr, Calls Tryz.prog 10 #[.pointer (some ⟨p, 0, none⟩)] q.wn fun e w' => e = .returned (.int .i64 s.upper) ∧ Fr [] q.wn w' := fun q => (upper_any (HH.out.fr (HF.out.trans q.fr))).mono fun e w' ⟨he, hw⟩ => ⟨he, by rw [hw]; exact Fr.refl _ _⟩
      rw [HS.out] at y2
      rw [HU.out] at y3
      have u2 : ∀ r9 : FrBy wr, r9.wn.cell? ⟨q, 2, none⟩ = some (.int .i64 s.since) := fun r9 => r9.fr.cell y2 (by simp)
      have u3 : ∀ r9 : FrBy wr, r9.wn.cell? ⟨q, 3, none⟩ = some (.int .i64 s.upper) := fun r9 => r9.fr.cell y3 (by simp)
      have C1 := Lib.hid c1
      have C2 := Lib.hid c2
      clear hf ho O3 c1 c2 y2 y3
      generalize s.since = sv at *
      generalize s.upper = uv at *
      have e1 : (sv == sv) = true := by simp
      have e2 : (uv == uv) = true := by simp
      go_upto_region 8 with fail
      refine wp_region_fr (by kernel_rfl) (by kernel_rfl) ?_
      repeat (go_big_quiet_step ((first | (go_at_call 8; exact Calls.fr_of (C1.out _)) | (go_at_call 10; exact Calls.fr_of (C2.out _)))))
      refine wpQuiet_nil ?_
      intro wn hwn
      have fn : Fr [] wr wn := by obtain ⟨r9, rfl⟩ := hwn; exact r9.fr
      have FN := Lib.hid (HF.out.trans fn)
      clear hwn u2 u3 fn
      go_wp2_with fail
      go_ret
      exact ⟨rfl, FN.out⟩
end Go.Proofs.YtjchlfblbmiceaaGreat
