/- zset.Positive and zset.Distinct. No condition but the sizes. -/
import Derived.Test.YtmionipeoffnhaaDl
namespace Go.Proofs.Ytmionipeoffnhaa
open Go.RowKit srt grp

set_option maxRecDepth 100000
theorem index_none (w : World) (a : Option Addr) (c : Nat) : Calls Try.prog 110 #[.slice a 0 c, .func (.func 73) #[] #[]] w fun e w' => e = .returned (.int .i64 (-1)) ∧ w = w' := by
  go_enter Try.func110, Try.ntmps110
  go_wp2_with fail
  refine wp_loop_rounds 1 ?_
  rw [rounds_succ]
  go_wp2_with fail
  go_ret
  exact ⟨rfl, rfl⟩
theorem delete_none (w : World) (a : Option Addr) (c : Nat) : Calls Try.prog 72 #[.slice a 0 c, .func (.func 73) #[] #[]] w fun e w' => e = .returned (.slice a 0 c) ∧ w = w' := by
  go_enter Try.func72, Try.ntmps72
  go_wp2_with (go_at_call 110; refine (index_none _ _ _).mono ?_; rintro e w1 ⟨rfl, rfl⟩)
  go_ret
  exact ⟨rfl, rfl⟩

theorem Srt.cells {g m : Nat} {w : World} {f : Nat → El} (h : Srt g m w f) {l : List El} (hl : l = (List.range m).map f) : ∃ cur, w.heap[g]? = some (.cells cur 31) ∧ cur.toList.take (l.length * 2) = elsC l := by
  obtain ⟨cur, hb, hc⟩ := h
  have hm : l.length = m := by rw [hl]; simp
  refine ⟨cur, hb, ?_⟩
  rw [hm]
  apply List.ext_getElem?
  intro j
  by_cases hj : j < m * 2
  · rw [List.getElem?_take_of_lt hj]
    have hq : j / 2 < m := by omega
    obtain ⟨c0, c1⟩ := hc (j / 2) hq
    have hi : l[j / 2]? = some (f (j / 2)) := by rw [hl, List.getElem?_map, List.getElem?_range hq]; rfl
    obtain ⟨e0, e1⟩ := elsC_at l (j / 2) _ hi
    rcases Nat.mod_two_eq_zero_or_one j with h2 | h2
    · rw [show j = j / 2 * 2 by omega, e0]; simpa [El.rv] using c0
    · rw [show j = j / 2 * 2 + 1 by omega, e1]; simpa using c1
  · rw [List.getElem?_eq_none (by rw [List.length_take]; omega), List.getElem?_eq_none (by rw [elsC_len, hm]; omega)]

theorem RowIn.frG {w w' : World} {B g : Nat} {cur : Array Value} {v : Value} {ds : List Dt} (h : RowIn B w v ds) (hg : w.heap[g]? = some (.cells cur 31)) (f : Fr [g] w w') : RowIn B w' v ds := by
  rcases h with h | ⟨b, cap, cur2, hb, hv, hc, hh, htk⟩
  · exact Or.inl h
  · exact Or.inr ⟨b, cap, cur2, hb, hv, hc, f.heap hh (by
      intro hx
      have : b = g := by simpa using hx
      subst this
      rw [hg] at hh
      simp at hh), htk⟩

/-- A list that lies somewhere: its block, its rows. -/
theorem ListIn.srt {B : Nat} {w : World} {a : Option Addr} {c : Nat} {l : List El} (h : ListIn B w (.slice a l.length c) l) : l = [] ∨ ∃ g cur, a = some ⟨g, 0, none⟩ ∧ B ≤ g ∧ l.length ≤ c ∧ Srt g l.length w (nth l) ∧ w.heap[g]? = some (.cells cur 31) := by
  rcases h.1 with ⟨a', c', hv, hn, hl⟩ | ⟨g, c', cur, hb, hv, hc, hg, htk⟩
  · exact Or.inl hl
  · simp only [Value.slice.injEq] at hv
    refine Or.inr ⟨g, cur, hv.1, hb, by rw [hv.2.2]; exact hc, ⟨cur, hg, fun k hk => ?_⟩, hg⟩
    obtain ⟨e0, e1⟩ := elsC_at l k _ (nth_at hk)
    rw [← htk] at e0 e1
    rw [List.getElem?_take_of_lt (by omega)] at e0
    rw [List.getElem?_take_of_lt (by omega)] at e1
    exact ⟨by simpa [El.rv] using e0, by simpa using e1⟩
theorem ListIn.bound {B : Nat} {w : World} {a : Option Addr} {n c : Nat} {l : List El} (h : ListIn B w (.slice a n c) l) : n = l.length ∧ (a = none → c = 0) := by
  rcases h.1 with ⟨a', c', hv, hn, hl⟩ | ⟨g, c', cur, hb, hv, hc, hg, htk⟩
  · simp only [Value.slice.injEq] at hv
    exact ⟨by rw [hl]; exact hv.2.1, fun e => by rw [hv.2.2]; exact hn (by rw [← hv.1]; exact e)⟩
  · simp only [Value.slice.injEq] at hv
    exact ⟨hv.2.1, fun e => by rw [hv.1] at e; cases e⟩

/-- Behind writes to the list's own block. -/
theorem ListIn.put {B g m c : Nat} {w w' : World} {a : Option Addr} {l l' : List El} {cur : Array Value} {f : Nat → El} (h : ListIn B w (.slice a l.length c) l) (hg : w.heap[g]? = some (.cells cur 31)) (hB : B ≤ g) (fr : Fr [g] w w') (hs : Srt g m w' f) (hl : l' = (List.range m).map f) (hm : m ≤ c)
    (hmem : ∀ e ∈ l', ∃ e0 ∈ l, e.ra = e0.ra ∧ e.rl = e0.rl ∧ e.rc = e0.rc ∧ e.rd = e0.rd ∧ ElOk e) : ListIn B w' (.slice (some ⟨g, 0, none⟩) l'.length c) l' := by
  obtain ⟨cur', hb, htk⟩ := hs.cells hl
  refine ⟨Or.inr ⟨g, c, cur', hB, rfl, by rw [hl]; simpa using hm, hb, htk⟩, fun e he => ?_⟩
  obtain ⟨e0, h0, h1, h2, h3, h4, h5⟩ := hmem e he
  have h6 := (h.2 e0 h0).1.frG hg fr
  refine ⟨?_, h5⟩
  unfold El.rv
  rw [h1, h2, h3, h4]
  exact h6

/-- What Positive answers. -/
def PosPost (w : World) (l : List El) (e : Ending) (w' : World) : Prop :=
  Fr [] w w' ∧ (((∀ r, fitB (1 * sumK (l.map pr) r) = true) ∧ ∃ (os : List (List Dt × Int)) (outs : List El) (a : Option Addr) (c : Nat), e = .returned (.tuple #[.slice a outs.length c, .int .i64 0]) ∧ ListIn w.heap.size w' (.slice a outs.length c) outs ∧ Canon cmpR os (fun r => 1 * sumK (l.map pr) r) ∧ outs.map pr = os.filter (fun p => decide (0 < p.2)) ∧ outs.length ≤ l.length) ∨
    ((∃ r, fitB (1 * sumK (l.map pr) r) = false) ∧ e = .returned (.tuple #[.slice none 0 0, .int .i64 30])))

theorem filt_pr (l : List El) : (l.filter posB).map pr = (l.map pr).filter (fun p => decide (0 < p.2)) := by
  induction l with
  | nil => rfl
  | cons e l ih =>
    rw [List.filter_cons, List.map_cons, List.filter_cons]
    have : posB e = decide (0 < (pr e).2) := rfl
    rw [← this]
    split
    · rw [List.map_cons, ih]
    · exact ih

set_option maxHeartbeats 3200000 in
theorem Positive_any {w : World} {aa : Option Addr} {ac : Nat} {l : List El} (h : Cts w (.slice aa l.length ac) l) (hn : l.length ≤ 4398046511102) :
    Calls Try.prog 32 #[.slice aa l.length ac] w (PosPost w l) := by
  have ht := Tidy_any h hn
  clear h
  go_enter Try.func32, Try.ntmps32
  go_upto_region 2 with (go_at_call 16; refine ht.mono ?_; rintro e w1 ⟨f1, ⟨h1, outs, a, c, rfl, h2, h3, h4⟩ | ⟨h1, rfl⟩⟩)
  · have hbd := h2.bound
    rcases h2.srt with rfl | ⟨g, cur, rfl, hg, hc, hs, hgb⟩
    · have H1 := Lib.hid h1
      have H3 := Lib.hid h3
      have hcn := hbd.2
      have HB := Lib.hid hcn
      clear h1 h3 hbd hcn h2
      go_wp2_with (first
        | (go_at_call 72; refine (delete_none _ _ _).mono ?_; rintro e w2 ⟨rfl, rfl⟩)
        | (go_at_call 74; refine (clip_any _ a 0 c (Nat.zero_le _) HB.out).mono ?_; rintro e w5 ⟨rfl, rfl⟩))
      go_ret2
      exact ⟨f1, Or.inl ⟨H1.out, [], [], a, 0, rfl, ⟨Or.inl ⟨a, 0, rfl, fun _ => rfl, rfl⟩, by simp⟩, H3.out, rfl, Nat.zero_le _⟩⟩
    · have hd := delete_any hs (by omega) hc
      have H1 := Lib.hid h1
      have H2 := Lib.hid h2
      have H3 := Lib.hid h3
      have HG := Lib.hid hgb
      clear h1 h2 h3 hbd hs hgb
      go_wp2_with (first
        | (go_at_call 72; refine hd.mono ?_; rintro e w2 ⟨m, fk, rfl, hm, hs2, hf2, g2⟩; have HF2 := Lib.hid hf2; clear hf2)
        | (go_at_call 74; refine (clip_any _ (some ⟨g, 0, none⟩) m c (by omega) (fun h => by cases h)).mono ?_; rintro e w5 ⟨rfl, rfl⟩))
      go_ret2
      have hfl : (List.range m).map fk = outs.filter posB := by rw [HF2.out, range_nth]
      have hml : (outs.filter posB).length = m := by rw [← hfl]; simp
      refine ⟨f1.past g2 (by simpa using hg), Or.inl ⟨H1.out, outs.map pr, outs.filter posB, some ⟨g, 0, none⟩, m, by rw [hml]; rfl, ?_, H3.out, filt_pr outs, by omega⟩⟩
      have h9 := ListIn.put (c := c) H2.out HG.out hg g2 hs2 hfl.symm (by omega) (fun e he => ⟨e, (List.mem_filter.1 he).1, rfl, rfl, rfl, rfl, (H2.out.2 e (List.mem_filter.1 he).1).2⟩)
      refine ⟨?_, h9.2⟩
      rcases h9.1 with ⟨a', c', hv, -, hl⟩ | ⟨g', c', cur', hb', hv, hc', hg', htk⟩
      · refine Or.inl ⟨some ⟨g, 0, none⟩, m, by rw [hl]; rfl, (fun h => by cases h), hl⟩
      · simp only [Value.slice.injEq] at hv
        exact Or.inr ⟨g', m, cur', hb', by rw [hv.1], by omega, hg', htk⟩
  · have H1 := Lib.hid h1
    clear h1
    go_wp2_with (first
      | (go_at_call 72; refine (delete_none _ _ _).mono ?_; rintro e w2 ⟨rfl, rfl⟩)
      | (go_at_call 74; refine (clip_any _ none 0 0 (Nat.zero_le _) (fun _ => rfl)).mono ?_; rintro e w5 ⟨rfl, rfl⟩))
    go_ret2
    exact ⟨f1, Or.inr ⟨H1.out, rfl⟩⟩

def one (e : El) : El := { e with n := 1 }
/-- The first i are there once. -/
def ones (f : Nat → El) (i : Nat) : Nat → El := fun k => if k < i then one (f k) else f k

/-- What Distinct answers. -/
def DistPost (w : World) (l : List El) (e : Ending) (w' : World) : Prop :=
  Fr [] w w' ∧ (((∀ r, fitB (1 * sumK (l.map pr) r) = true) ∧ ∃ (os : List (List Dt × Int)) (outs : List El) (a : Option Addr) (c : Nat), e = .returned (.tuple #[.slice a outs.length c, .int .i64 0]) ∧ ListIn w.heap.size w' (.slice a outs.length c) outs ∧ Canon cmpR os (fun r => 1 * sumK (l.map pr) r) ∧ outs.map pr = (os.filter (fun p => decide (0 < p.2))).map (fun p => (p.1, 1)) ∧ outs.length ≤ l.length) ∨
    ((∃ r, fitB (1 * sumK (l.map pr) r) = false) ∧ e = .returned (.tuple #[.slice none 0 0, .int .i64 30])))

theorem Srt.one {g N : Nat} {w : World} {f : Nat → El} {i : Nat} (h : Srt g N w (ones f i)) (hi : i < N) : Srt g N (w.setCell ⟨g, i * 2 + 1, none⟩ (.int .i64 1)) (ones f (i + 1)) := by
  obtain ⟨cur, hb, hc⟩ := h
  refine ⟨_, heap_set hb, fun k hk => ?_⟩
  have lk := hc k hk
  have li := hc i hi
  have s1 : i * 2 + 1 < cur.size := (Array.getElem?_eq_some_iff.1 li.2).1
  by_cases h1 : k = i
  · subst h1
    have e1 : ones f k k = f k := by unfold ones; rw [if_neg (by omega)]
    have e2 : ones f (k + 1) k = Go.Proofs.Ytmionipeoffnhaa.one (f k) := by unfold ones; rw [if_pos (by omega)]
    rw [e1] at lk
    rw [e2]
    constructor
    · rw [Array.getElem?_setIfInBounds_ne (by omega)]; exact lk.1
    · rw [Array.getElem?_setIfInBounds_self_of_lt (by omega)]; rfl
  · have e1 : ones f (i + 1) k = ones f i k := by
      unfold ones
      by_cases h2 : k < i
      · rw [if_pos (by omega), if_pos h2]
      · rw [if_neg (by omega), if_neg h2]
    rw [e1]
    constructor
    · rw [Array.getElem?_setIfInBounds_ne (by omega)]; exact lk.1
    · rw [Array.getElem?_setIfInBounds_ne (by omega)]; exact lk.2

set_option maxHeartbeats 3200000 in
theorem Distinct_any {w : World} {aa : Option Addr} {ac : Nat} {l : List El} (h : Cts w (.slice aa l.length ac) l) (hn : l.length ≤ 4398046511102) :
    Calls Try.prog 34 #[.slice aa l.length ac] w (DistPost w l) := by
  have ht := Positive_any h hn
  clear h
  go_enter Try.func34, Try.ntmps34
  go_upto_region 2 with (go_at_call 32; refine ht.mono ?_; rintro e w1 ⟨f1, ⟨h1, os, outs, a, c, rfl, h2, h3, h4, h5⟩ | ⟨h1, rfl⟩⟩)
  · rcases h2.srt with rfl | ⟨g, cur, rfl, hg, hc, hs, hgb⟩
    · have H1 := Lib.hid h1
      have H2 := Lib.hid h2
      have H3 := Lib.hid h3
      have H4 := Lib.hid h4
      clear h1 h3 h2 h4
      go_wp2_with fail
      refine wp_loop_rounds 1 ?_
      rw [rounds_succ]
      go_wp2_with fail
      go_ret2
      exact ⟨f1, Or.inl ⟨H1.out, os, [], a, c, rfl, H2.out, H3.out, by rw [← H4.out]; rfl, Nat.zero_le _⟩⟩
    · have H1 := Lib.hid h1
      have H2 := Lib.hid h2
      have H3 := Lib.hid h3
      have H4 := Lib.hid h4
      have HG := Lib.hid hgb
      have HS := Lib.hid hs
      have F1 := Lib.hid f1
      have hN : outs.length ≤ 4398046511102 := by omega
      clear h1 h2 h3 h4 hgb hs f1
      go_wp2_with fail
      go_loopw [14] (fun x wr => ∃ k : Nat, x = .int .i64 k ∧ k ≤ outs.length ∧ Srt g outs.length wr (ones (nth outs) k) ∧ Fr [g] w1 wr) (fun x _ => outs.length - (intOf x).toNat)
      case atStart => exact ⟨0, rfl, Nat.zero_le _, by have : ones (nth outs) 0 = nth outs := by { funext k; unfold ones; rw [if_neg (by omega)] }; rw [this]; exact HS.out, Fr.refl _ _⟩
      case round =>
        obtain ⟨k, rfl, hk, hs, hf⟩ := hrel
        by_cases hlt : k < outs.length
        · obtain ⟨x0, x1, x2, x3⟩ := hs.cell hlt
          have HS2 := Lib.hid hs
          have HF2 := Lib.hid hf
          clear hs hf
          go_wp2_with fail
          go_roundw
          case rel => exact ⟨k + 1, by go_num, by omega, HS2.out.one hlt, HF2.out.setCell (by simp) _⟩
          case measure => simp [intOf] <;> omega
        · have hkn := Lib.hid (show k = outs.length by omega)
          have HS2 := Lib.hid hs
          have HF2 := Lib.hid hf
          clear hs hf
          go_wp2_with fail
          go_ret2
          have hfl : (List.range outs.length).map (ones (nth outs) k) = outs.map one := by
            conv => rhs; rw [← range_nth outs, List.map_map]
            refine List.map_congr_left fun q hq => ?_
            have := List.mem_range.1 hq
            unfold ones; rw [if_pos (by have := hkn.out; omega)]; rfl
          have hml : (outs.map one).length = outs.length := by simp
          have h9 := ListIn.put (c := c) H2.out HG.out hg HF2.out HS2.out hfl.symm hc (fun e he => by
            obtain ⟨e0, h0, rfl⟩ := List.mem_map.1 he
            exact ⟨e0, h0, rfl, rfl, rfl, rfl, ⟨(H2.out.2 e0 h0).2.len, by simp [one]⟩⟩)
          refine ⟨F1.out.past HF2.out (by simpa using hg), Or.inl ⟨H1.out, os, outs.map one, some ⟨g, 0, none⟩, c, by rw [hml]; rfl, h9, H3.out, ?_, by omega⟩⟩
          rw [← H4.out, List.map_map, List.map_map]
          rfl
  · have H1 := Lib.hid h1
    clear h1
    go_wp2_with fail
    refine wp_loop_rounds 1 ?_
    rw [rounds_succ]
    go_wp2_with fail
    go_ret2
    exact ⟨f1, Or.inr ⟨H1.out, rfl⟩⟩
end Go.Proofs.Ytmionipeoffnhaa
