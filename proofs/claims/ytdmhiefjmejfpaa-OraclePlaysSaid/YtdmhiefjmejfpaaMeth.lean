/- The contracts of the oracle's methods, over the given translation. No condition but that the oracle is well. -/
import Derived.Test.YtdmhiefjmejfpaaRows
import Derived.Test.YtdmhiefjmejfpaaPlain
import Derived.Maps.OwnOps
import Derived.WalkKit
import Derived.Lib.Hide
import Derived.Deep.QuietTactic
import Derived.BigQuiet
import Derived.StillTailTactics
import Derived.Maps.OwnSet
namespace Go.Proofs.Ytdmhiefjmejfpaa
open Go.RowKit Go.Maps

theorem law3 : Keyed Try.prog 3 := int_keyed Try.underlying3
theorem zero2 (w : World) : (zeroValue 2).run Try.prog w = .ok (.int .i64 0) w := by kernel_rfl

def cellsOf (s : Orc) (bm : Nat) : Array Value := #[.int .i64 s.last, .int .i64 s.read, .map (some bm), .int .i64 s.made]

/-- Block bx is an oracle that stands as s, its holds in the map bm. -/
structure Own (w : World) (bx bm : Nat) (s : Orc) : Prop where
  blk : w.heap[bx]? = some (.cells (cellsOf s bm) 59 (0, 0))
  map : w.ownsMap Try.prog 3 (plainElem Try.prog 2) bm s.L.length (mapOf s.L)

structure Good (s : Orc) : Prop where
  r0 : 0 ≤ s.read
  rl : s.read ≤ s.last
  lm : s.last ≤ 1099511627776
  m0 : 0 ≤ s.made
  m1 : s.made ≤ 1099511627776
  rise : s.L.Pairwise (fun a b => a.1 < b.1)
  mem : ∀ p ∈ s.L, 1 ≤ p.1 ∧ p.1 ≤ s.made ∧ 0 ≤ p.2 ∧ p.2 ≤ s.read
  few : s.L.length ≤ 64

theorem Own.ne {w : World} {bx bm : Nat} {s : Orc} (h : Own w bx bm s) : bx ≠ bm := by
  intro e
  obtain ⟨es, clock, hb, _⟩ := h.map
  rw [← e, h.blk] at hb; simp at hb

theorem Own.fr {w w' : World} {bx bm : Nat} {s : Orc} {S : List Nat} (h : Own w bx bm s) (f : Fr S w w') (h1 : bx ∉ S) (h2 : bm ∉ S) : Own w' bx bm s := by
  refine ⟨f.heap h.blk h1, ?_⟩
  obtain ⟨es, clock, hb, r⟩ := h.map
  exact ⟨es, clock, f.heap hb h2, r⟩

theorem Own.cells {w : World} {bx bm : Nat} {s : Orc} (h : Own w bx bm s) : w.cell? ⟨bx, 0, none⟩ = some (.int .i64 s.last) ∧ w.cell? ⟨bx, 1, none⟩ = some (.int .i64 s.read) ∧
    w.cell? ⟨bx, 2, none⟩ = some (.map (some bm)) ∧ w.cell? ⟨bx, 3, none⟩ = some (.int .i64 s.made) ∧ ∀ o, w.frozen? ⟨bx, o, none⟩ = false := by
  have hb := h.blk
  refine ⟨?_, ?_, ?_, ?_, ?_⟩
  · simp [World.cell?, hb, cellsOf]
  · simp [World.cell?, hb, cellsOf]
  · simp [World.cell?, hb, cellsOf]
  · simp [World.cell?, hb, cellsOf]
  · intro o; simp [World.frozen?, hb]

theorem read_any {w : World} {bx bm : Nat} {s : Orc} (h : Own w bx bm s) :
    Calls Try.prog 8 #[.pointer (some ⟨bx, 0, none⟩)] w fun e w' => e = .returned (.int .i64 s.read) ∧ w = w' := by
  obtain ⟨-, c1, -, -, -⟩ := h.cells
  clear h
  go_enter Try.func8, Try.ntmps8
  go_wp2
  go_ret
  exact ⟨rfl, rfl⟩

/-- What holds of the least so far: l: the read one, left: what is still to come. -/
def SoFar (L : List (Int × Int)) (r : Int) (left : Lit → Bool) (m : Int) : Prop :=
  m ≤ r ∧ (∀ p ∈ L, left (.int .i64 p.1) = false → m ≤ p.2) ∧ (m = r ∨ ∃ p ∈ L, m = p.2)

theorem SoFar.start (L : List (Int × Int)) (r : Int) : SoFar L r (Maps.has (mapOf L)) r := by
  refine ⟨Int.le_refl _, ?_, Or.inl rfl⟩
  intro p hp h
  rw [has_mapOf] at h
  have := List.any_eq_false.1 h p hp
  simp at this

theorem SoFar.step {L : List (Int × Int)} {r m x c : Int} {left : Lit → Bool} (h : SoFar L r left m) (hs : L.Pairwise (fun a b => a.1 < b.1))
    (hat : ∀ zd, (mapOf L).atKey (.int .i64 x) zd = .lit (.int .i64 c)) : SoFar L r (fun z => left z && !z.sameKey (.int .i64 x)) (if c < m then c else m) := by
  have hm := mem_of_atKey hat
  have emin : (if c < m then c else m) = min m c := by split <;> omega
  rw [emin]
  obtain ⟨h1, h2, h3⟩ := h
  refine ⟨by omega, ?_, ?_⟩
  · intro p hp hl
    simp only [sameKey_int, Bool.and_eq_false_iff, Bool.not_eq_false', decide_eq_true_eq] at hl
    rcases hl with hl | hl
    · have := h2 p hp hl; omega
    · have : p = (x, c) := by
        by_cases e : p = (x, c)
        · exact e
        · exfalso
          rcases List.pairwise_iff_getElem.1 hs with hs'
          obtain ⟨i, hi, e1⟩ := List.mem_iff_getElem.1 hp
          obtain ⟨j, hj, e2⟩ := List.mem_iff_getElem.1 hm
          rcases Nat.lt_trichotomy i j with hij | hij | hij
          · have := hs' i j hi hj hij; rw [e1, e2] at this; simp at this; omega
          · subst hij; rw [e1] at e2; exact e e2
          · have := hs' j i hj hi hij; rw [e1, e2] at this; simp at this; omega
      rw [this]; simp; omega
  · rcases h3 with h3 | ⟨p, hp, h3⟩
    · by_cases hc : m ≤ c
      · exact Or.inl (by omega)
      · exact Or.inr ⟨_, hm, by simp; omega⟩
    · by_cases hc : m ≤ c
      · exact Or.inr ⟨p, hp, by omega⟩
      · exact Or.inr ⟨_, hm, by simp; omega⟩

theorem SoFar.done {L : List (Int × Int)} {r m : Int} {left : Lit → Bool} (h : SoFar L r left m) (hl : ∀ kl, left kl = false) : m = leastOf r L :=
  leastOf_uniq h.1 (fun p hp => h.2.1 p hp (hl _)) h.2.2

theorem ret_int {k : IntKind} {a b : Int} (h : a = b) : Ending.returned (.int k a) = .returned (.int k b) := by rw [h]

set_option maxRecDepth 100000 in
theorem least_any {w : World} {bx bm : Nat} {s : Orc} (h : Own w bx bm s) (g : Good s) :
    Calls Try.prog 9 #[.pointer (some ⟨bx, 0, none⟩)] w fun e w' => e = .returned (.int .i64 (leastOf s.read s.L)) ∧ Fr [] w w' := by
  obtain ⟨-, c1, c2, -, -⟩ := h.cells
  have hown := h.map
  have hrise := g.rise
  have hl0 := g.mem
  have r0 := g.r0
  have r1 := g.rl
  have r2 := g.lm
  clear h g
  go_enter Try.func9, Try.ntmps9
  go_wp2_with (first
    | (at_range; refine wpList_range_own _ rfl _ 57 rfl 3 2 law3 Try.underlying57 _ bm _ _ rfl hown ?_; intro w0 hrg0 hg0 hs0)
    | fail)
  go_frame
  go_loopw [3] (fun m wr => ∃ (left : Lit → Bool) (cnt : Nat) (q : Int), wr.ranges Try.prog 3 (plainElem Try.prog 2) bm w.heap.size s.L.length (mapOf s.L) left cnt ∧ Fr [] w wr ∧ m = .int .i64 q ∧ SoFar s.L s.read left q)
    (fun _ wr => wr.rangeLeft bm w.heap.size)
  case atStart => exact ⟨_, _, _, hrg0, (Fr.grown hg0).mono (by simp), rfl, SoFar.start _ _⟩
  case round =>
    obtain ⟨left, cnt, q, hrg, hfr, rfl, hso⟩ := hrel
    go_wp2_with (first
      | (at_next; refine wpList_next_ranges_ii _ rfl _ rfl 3 2 .i64 .i64 law3 Try.underlying3 Try.underlying2 bm w.heap.size _ _ _ _ rfl hrg ?_ ?_)
      | fail)
    · intro _ hl
      have HE := Lib.hid (hso.done hl)
      go_wp2
      go_ret
      exact ⟨ret_int HE.out, hfr⟩
    · intro x c w1 cnt1 hwx hwc hlx hat hrg1 hlt hg1 hs1 hen
      have HS := hso.step hrise hat
      go_wp2
      go_roundw
      case rel => exact ⟨_, cnt1, _, hrg1, hfr.fresh hg1 (fun r e => by cases e; exact Or.inl (Nat.le_refl _)), rfl, HS⟩
      case measure => rw [hrg1.left_eq, hrg.left_eq]; exact hlt

def wrS (s : Orc) : Orc := if 1099511627776 ≤ s.last then s else { s with last := s.last + 1 }

theorem Own.setLast {w : World} {bx bm : Nat} {s : Orc} (h : Own w bx bm s) (v : Int) : Own (w.setCell ⟨bx, 0, none⟩ (.int .i64 v)) bx bm { s with last := v } := by
  refine ⟨?_, h.map.setCell (fun e => h.ne e.symm) _⟩
  simp [World.setCell, Array.getElem?_modify, h.blk, cellsOf]
theorem Own.setRead {w : World} {bx bm : Nat} {s : Orc} (h : Own w bx bm s) (v : Int) : Own (w.setCell ⟨bx, 1, none⟩ (.int .i64 v)) bx bm { s with read := v } := by
  refine ⟨?_, h.map.setCell (fun e => h.ne e.symm) _⟩
  simp [World.setCell, Array.getElem?_modify, h.blk, cellsOf]
theorem Own.setMade {w : World} {bx bm : Nat} {s : Orc} (h : Own w bx bm s) (v : Int) : Own (w.setCell ⟨bx, 3, none⟩ (.int .i64 v)) bx bm { s with made := v } := by
  refine ⟨?_, h.map.setCell (fun e => h.ne e.symm) _⟩
  simp [World.setCell, Array.getElem?_modify, h.blk, cellsOf]

theorem write_full {w : World} {bx bm : Nat} {s : Orc} (h : Own w bx bm s) (hl : 1099511627776 ≤ s.last) :
    Calls Try.prog 12 #[.pointer (some ⟨bx, 0, none⟩)] w fun e w' => e = .returned (.tuple #[.int .i64 0, .int .i64 2]) ∧ w = w' := by
  obtain ⟨c0, -, -, -, -⟩ := h.cells
  clear h
  go_enter Try.func12, Try.ntmps12
  go_wp2
  go_ret2
  exact ⟨rfl, rfl⟩

theorem write_some {w : World} {bx bm : Nat} {s : Orc} (h : Own w bx bm s) (hl : s.last < 1099511627776) (h0 : 0 ≤ s.last) :
    Calls Try.prog 12 #[.pointer (some ⟨bx, 0, none⟩)] w fun e w' => e = .returned (.tuple #[.int .i64 (s.last + 1), .int .i64 0]) ∧ Own w' bx bm { s with last := s.last + 1 } ∧ Fr [bx] w w' := by
  obtain ⟨c0, -, -, -, f0⟩ := h.cells
  have f00 := f0 0
  clear f0
  go_enter Try.func12, Try.ntmps12
  go_wp2
  go_ret2
  exact ⟨rfl, h.setLast _, (Fr.refl _ _).setCell (by simp) _⟩

theorem settle_no {w : World} {bx bm : Nat} {s : Orc} (h : Own w bx bm s) (t : Int) (ht : t < s.read ∨ s.last < t) :
    Calls Try.prog 13 #[.pointer (some ⟨bx, 0, none⟩), .int .i64 t] w fun e w' => e = .returned (.int .i64 120) ∧ w = w' := by
  obtain ⟨c0, c1, -, -, -⟩ := h.cells
  clear h
  by_cases h1 : t < s.read
  · clear ht
    go_enter Try.func13, Try.ntmps13
    go_wp2
    go_ret
    exact ⟨rfl, rfl⟩
  · have h2 : s.last < t := by omega
    clear ht
    go_enter Try.func13, Try.ntmps13
    go_wp2
    go_ret
    exact ⟨rfl, rfl⟩

theorem settle_yes {w : World} {bx bm : Nat} {s : Orc} (h : Own w bx bm s) (t : Int) (h1 : s.read ≤ t) (h2 : t ≤ s.last) :
    Calls Try.prog 13 #[.pointer (some ⟨bx, 0, none⟩), .int .i64 t] w fun e w' => e = .returned (.int .i64 0) ∧ Own w' bx bm { s with read := t } ∧ Fr [bx] w w' := by
  obtain ⟨c0, c1, -, -, f0⟩ := h.cells
  have f01 := f0 1
  clear f0
  go_enter Try.func13, Try.ntmps13
  go_wp2
  go_ret
  exact ⟨rfl, h.setRead _, (Fr.refl _ _).setCell (by simp) _⟩

theorem leastLo {s : Orc} (g : Good s) : 0 ≤ leastOf s.read s.L := by
  obtain ⟨-, -, h⟩ := leastOf_le s.L s.read
  have := g.r0
  rcases h with h | ⟨p, hp, h⟩
  · omega
  · have := g.mem p hp; omega

theorem hold_since {w : World} {bx bm : Nat} {s : Orc} (h : Own w bx bm s) (g : Good s) (t : Int) (ht : t < leastOf s.read s.L) :
    Calls Try.prog 14 #[.pointer (some ⟨bx, 0, none⟩), .int .i64 t] w fun e w' => e = .returned (.tuple #[.int .i64 0, .int .i64 130]) ∧ Fr [] w w' := by
  go_enter Try.func14, Try.ntmps14
  go_wp2_with (go_at_call 9; refine (least_any h g).mono ?_; rintro e w1 ⟨rfl, hf1⟩)
  go_ret2
  exact ⟨rfl, hf1⟩

theorem hold_upper {w : World} {bx bm : Nat} {s : Orc} (h : Own w bx bm s) (g : Good s) (t : Int) (ht0 : leastOf s.read s.L ≤ t) (ht : s.read < t) :
    Calls Try.prog 14 #[.pointer (some ⟨bx, 0, none⟩), .int .i64 t] w fun e w' => e = .returned (.tuple #[.int .i64 0, .int .i64 131]) ∧ Fr [] w w' := by
  go_enter Try.func14, Try.ntmps14
  go_wp2_with (go_at_call 9; refine (least_any h g).mono ?_; rintro e w1 ⟨rfl, hf1⟩; obtain ⟨-, c1, -, -, -⟩ := (h.fr hf1 (by simp) (by simp)).cells)
  go_ret2
  exact ⟨rfl, hf1⟩

theorem hold_long {w : World} {bx bm : Nat} {s : Orc} (h : Own w bx bm s) (g : Good s) (t : Int) (ht0 : leastOf s.read s.L ≤ t) (ht : t ≤ s.read) (hn : 64 ≤ s.L.length) :
    Calls Try.prog 14 #[.pointer (some ⟨bx, 0, none⟩), .int .i64 t] w fun e w' => e = .returned (.tuple #[.int .i64 0, .int .i64 2]) ∧ Fr [] w w' := by
  have hn' : (64 : Int) ≤ (s.L.length : Int) := by omega
  go_enter Try.func14, Try.ntmps14
  go_wp2_with (first
    | (go_at_call 9; refine (least_any h g).mono ?_; rintro e w1 ⟨rfl, hf1⟩; have h1 := h.fr hf1 (by simp) (by simp); obtain ⟨-, c1, c2, -, -⟩ := h1.cells)
    | (at_len; refine wpList_len_own _ rfl _ 57 rfl 3 2 Try.underlying57 _ bm _ _ rfl h1.map ?_; rw [size_mapOf]))
  go_ret2
  exact ⟨rfl, hf1⟩

theorem hold_yes {w : World} {bx bm : Nat} {s : Orc} (h : Own w bx bm s) (g : Good s) (t : Int) (ht0 : leastOf s.read s.L ≤ t) (ht : t ≤ s.read) (hn : s.L.length < 64) (hm : s.made < 1099511627776) :
    Calls Try.prog 14 #[.pointer (some ⟨bx, 0, none⟩), .int .i64 t] w fun e w' => e = .returned (.tuple #[.int .i64 (s.made + 1), .int .i64 0]) ∧ Own w' bx bm { s with L := s.L ++ [(s.made + 1, t)], made := s.made + 1 } ∧ Fr [bx, bm] w w' := by
  have hn' : (s.L.length : Int) < 64 := by omega
  have m0 := g.m0
  go_enter Try.func14, Try.ntmps14
  go_wp2_with (first
    | (go_at_call 9; refine (least_any h g).mono ?_; rintro e w1 ⟨rfl, hf1⟩; have h1 := h.fr hf1 (by simp) (by simp); obtain ⟨-, c1, c2, c3, f0⟩ := h1.cells; have f3 := f0 3)
    | (at_len; refine wpList_len_own _ rfl _ 57 rfl 3 2 Try.underlying57 _ bm _ _ rfl h1.map ?_; rw [size_mapOf]))
  have h2 := h1.setMade (s.made + 1)
  obtain ⟨-, -, c2, c3, -⟩ := h2.cells
  simp only at c3
  have hf2 : Fr [bx, bm] w1 (w1.setCell ⟨bx, 3, none⟩ (.int .i64 (s.made + 1))) := (Fr.refl _ _).setCell (by simp) _
  have hu := leastOf_le s.L s.read
  have g1 := g.rl
  have g2 := g.lm
  have hb := leastLo g
  generalize w1.setCell ⟨bx, 3, none⟩ (.int .i64 (s.made + 1)) = w2 at *
  refine wp_region_still_tail 9 (by kernel_rfl) (by kernel_rfl) ?_
  change wpStill _ _ w2.drew (fun a' => wpList _ _ _ _ a' w2.drew) _ _
  simp only [List.take_succ_cons, List.take_zero, List.drop_succ_cons, List.drop_zero]
  refine wpStill_step (fun K hK => ?_)
  go_simp
  refine hK _ ?_
  clear hK K
  repeat still_step
  refine wpStill_nil ?_
  show wpList _ _ _ _ _ _
  have hk := keyOf_int_mk (P := Try.prog) Try.underlying3 (a := s.made + 1) (WalkArith.wf_i64 (by omega))
  refine wpList_mapUpdate_in _ rfl _ _ _ 57 rfl 3 2 law3 Try.underlying57 _ bm _ _ rfl h2.map.drew (by unfold maxLen; simp only; omega) _ _ _ rfl rfl hk _ [] (plainElem_int Try.underlying2 (WalkArith.wf_i64 (by omega))) ?_
  intro w3 hown3 hturn3
  have hput := put_new (L := s.L) (k := s.made + 1) (t := t) (fun p hp => by have := g.mem p hp; omega)
  rw [hput] at hown3
  have hb3 : w3.heap[bx]? = some (.cells (cellsOf { s with L := s.L ++ [(s.made + 1, t)], made := s.made + 1 } bm) 59 (0, 0)) :=
    (Fr.grown hturn3.grown).heap (k := bx) h2.blk (by simpa using h.ne)
  have h3 : Own w3 bx bm { s with L := s.L ++ [(s.made + 1, t)], made := s.made + 1 } := ⟨hb3, hown3.mono (by simp)⟩
  obtain ⟨-, -, -, d3, -⟩ := h3.cells
  simp only at d3
  clear hput hown3 hb3 c1 c2 c3 f0 f3
  have HF : Fr [bx, bm] w w3 := ((hf1.nil).trans hf2).trans ((Fr.drew (Fr.refl _ _)).trans ((Fr.grown hturn3.grown).mono (by simp)))
  clear hturn3
  go_wp2
  go_ret2
  exact ⟨rfl, h3, HF⟩

theorem lit_int_inj {a b : Int} (h : (DataW.lit (.int .i64 a) : DataW Unit) = .lit (.int .i64 b)) : a = b := by simpa using h

theorem move_none {w : World} {bx bm : Nat} {s : Orc} (h : Own w bx bm s) (k t : Int) (hk : (Lit.int .i64 k).wf = true) (hn : timeOf s.L k = none) :
    Calls Try.prog 15 #[.pointer (some ⟨bx, 0, none⟩), .int .i64 k, .int .i64 t] w fun e w' => e = .returned (.int .i64 180) ∧ w = w' := by
  obtain ⟨-, -, c2, -, -⟩ := h.cells
  have hkey := keyOf_int_mk (P := Try.prog) Try.underlying3 hk
  have hown := h.map
  have HN : Hid (Maps.has (mapOf s.L) (.int .i64 k) = false) := Lib.hid (by rw [has_mapOf, any_timeOf, hn]; rfl)
  clear h hn
  go_enter Try.func15, Try.ntmps15
  go_wp2_with (at_lookup; refine wpList_lookup_own_ok_int _ rfl _ _ 57 rfl 3 2 .i64 law3 Try.underlying57 Try.underlying2 (zero2 _) bm _ _ rfl hown _ _ rfl hkey ?_; rw [HN.out]; intro c hat hwc; clear hat hwc)
  go_ret
  exact ⟨rfl, rfl⟩

theorem atKey_time {L : List (Int × Int)} {k c t : Int} (h : timeOf L k = some t) (hat : (mapOf L).atKey (.int .i64 k) (.lit (.int .i64 0)) = .lit (.int .i64 c)) : c = t := by
  rw [atKey_mapOf, h] at hat
  exact (lit_int_inj hat).symm

theorem move_since {w : World} {bx bm : Nat} {s : Orc} (h : Own w bx bm s) (k t t0 : Int) (hk : (Lit.int .i64 k).wf = true) (hn : timeOf s.L k = some t0) (ht : t < t0) :
    Calls Try.prog 15 #[.pointer (some ⟨bx, 0, none⟩), .int .i64 k, .int .i64 t] w fun e w' => e = .returned (.int .i64 130) ∧ w = w' := by
  obtain ⟨-, -, c2, -, -⟩ := h.cells
  have hkey := keyOf_int_mk (P := Try.prog) Try.underlying3 hk
  have hown := h.map
  have HN : Hid (Maps.has (mapOf s.L) (.int .i64 k) = true) := Lib.hid (by rw [has_mapOf, any_timeOf, hn]; rfl)
  have HT := Lib.hid hn
  clear h hn
  go_enter Try.func15, Try.ntmps15
  go_wp2_with (at_lookup; refine wpList_lookup_own_ok_int _ rfl _ _ 57 rfl 3 2 .i64 law3 Try.underlying57 Try.underlying2 (zero2 _) bm _ _ rfl hown _ _ rfl hkey ?_; rw [HN.out]; intro c hat hwc; obtain rfl := atKey_time HT.out hat; clear hat hwc)
  go_ret
  exact ⟨rfl, rfl⟩

theorem move_upper {w : World} {bx bm : Nat} {s : Orc} (h : Own w bx bm s) (k t t0 : Int) (hk : (Lit.int .i64 k).wf = true) (hn : timeOf s.L k = some t0) (ht : t0 ≤ t) (hr : s.read < t) :
    Calls Try.prog 15 #[.pointer (some ⟨bx, 0, none⟩), .int .i64 k, .int .i64 t] w fun e w' => e = .returned (.int .i64 131) ∧ w = w' := by
  obtain ⟨-, c1, c2, -, -⟩ := h.cells
  have hkey := keyOf_int_mk (P := Try.prog) Try.underlying3 hk
  have hown := h.map
  have HN : Hid (Maps.has (mapOf s.L) (.int .i64 k) = true) := Lib.hid (by rw [has_mapOf, any_timeOf, hn]; rfl)
  have HT := Lib.hid hn
  clear h hn
  go_enter Try.func15, Try.ntmps15
  go_wp2_with (at_lookup; refine wpList_lookup_own_ok_int _ rfl _ _ 57 rfl 3 2 .i64 law3 Try.underlying57 Try.underlying2 (zero2 _) bm _ _ rfl hown _ _ rfl hkey ?_; rw [HN.out]; intro c hat hwc; obtain rfl := atKey_time HT.out hat; clear hat hwc)
  go_ret
  exact ⟨rfl, rfl⟩

theorem Own.turn {w w' : World} {bx bm n : Nat} {s : Orc} {L : List (Int × Int)} (h : Own w bx bm s) (hm : w.mapTurned w' bm) (ho : w'.ownsMap Try.prog 3 (plainElem Try.prog 2) bm n (mapOf L)) (hn : n ≤ L.length) :
    Own w' bx bm { s with L := L } :=
  ⟨(Fr.grown hm.grown).heap (k := bx) h.blk (by simpa using h.ne), ho.mono hn⟩

theorem ownsMap_exact {w : World} {bm n : Nat} {L : List (Int × Int)} (ho : w.ownsMap Try.prog 3 (plainElem Try.prog 2) bm n (mapOf L)) : w.ownsMap Try.prog 3 (plainElem Try.prog 2) bm L.length (mapOf L) := by
  obtain ⟨es, clock, hb, F, hs, hD⟩ := ho
  refine ⟨es, clock, hb, F, ?_, hD⟩
  have := congrArg Maps.size hD
  rw [size_mapOf] at this
  simp only [Maps.size, length_read] at this
  omega

theorem move_yes {w : World} {bx bm : Nat} {s : Orc} (h : Own w bx bm s) (g : Good s) (k t t0 : Int) (hk : (Lit.int .i64 k).wf = true) (hn : timeOf s.L k = some t0) (ht : t0 ≤ t) (hr : t ≤ s.read) :
    Calls Try.prog 15 #[.pointer (some ⟨bx, 0, none⟩), .int .i64 k, .int .i64 t] w fun e w' => e = .returned (.int .i64 0) ∧ Own w' bx bm { s with L := setT s.L k t } ∧ Fr [bm] w w' := by
  obtain ⟨-, c1, c2, -, -⟩ := h.cells
  have hkey := keyOf_int_mk (P := Try.prog) Try.underlying3 hk
  have hown := h.map
  have HN : Hid (Maps.has (mapOf s.L) (.int .i64 k) = true) := Lib.hid (by rw [has_mapOf, any_timeOf, hn]; rfl)
  have hmem := timeOf_some hn
  have HT := Lib.hid hn
  have b1 := g.rl
  have b2 := g.lm
  have b3 := (g.mem _ hmem).2.2.1
  simp only at b3
  have b4 := g.few
  have HP := Lib.hid (put_old (t := t) g.rise ⟨_, hmem, rfl⟩)
  clear hn hmem
  go_enter Try.func15, Try.ntmps15
  go_wp2_with (first
    | (at_lookup; refine wpList_lookup_own_ok_int _ rfl _ _ 57 rfl 3 2 .i64 law3 Try.underlying57 Try.underlying2 (zero2 _) bm _ _ rfl hown _ _ rfl hkey ?_; rw [HN.out]; intro c hat hwc; obtain rfl := atKey_time HT.out hat; clear hat hwc)
    | (at_mapUpdate; refine wpList_mapUpdate_in _ rfl _ _ _ 57 rfl 3 2 law3 Try.underlying57 _ bm _ _ rfl hown (by unfold maxLen; omega) _ _ _ rfl rfl hkey _ [] (plainElem_int Try.underlying2 (WalkArith.wf_i64 (by omega))) ?_; intro w3 hown3 hturn3))
  go_ret
  rw [HP.out] at hown3
  exact ⟨rfl, h.turn hturn3 (ownsMap_exact hown3) (Nat.le_refl _), (Fr.grown hturn3.grown).mono (by simp)⟩

theorem free_no {w : World} {bx bm : Nat} {s : Orc} (h : Own w bx bm s) (k : Int) (hk : (Lit.int .i64 k).wf = true) (hn : timeOf s.L k = none) :
    Calls Try.prog 16 #[.pointer (some ⟨bx, 0, none⟩), .int .i64 k] w fun e w' => e = .returned (.int .i64 180) ∧ Fr [] w w' := by
  obtain ⟨-, -, c2, -, -⟩ := h.cells
  have hkey := keyOf_int_mk (P := Try.prog) Try.underlying3 hk
  have hown := h.map
  have HN : Hid (Maps.has (mapOf s.L) (.int .i64 k) = false) := Lib.hid (by rw [has_mapOf, any_timeOf, hn]; rfl)
  clear h hn
  go_enter Try.func16, Try.ntmps16
  go_wp2_with (at_lookup; refine wpList_lookup_own_ok_int _ rfl _ _ 57 rfl 3 2 .i64 law3 Try.underlying57 Try.underlying2 (zero2 _) bm _ _ rfl hown _ _ rfl hkey ?_; rw [HN.out]; intro c hat hwc; clear hat hwc)
  go_ret
  exact ⟨rfl, Fr.refl _ _⟩

def without (L : List (Int × Int)) (k : Int) : List (Int × Int) := L.filter fun p => !decide (p.1 = k)

theorem free_yes {w : World} {bx bm : Nat} {s : Orc} (h : Own w bx bm s) (k t0 : Int) (hk : (Lit.int .i64 k).wf = true) (hn : timeOf s.L k = some t0) :
    Calls Try.prog 16 #[.pointer (some ⟨bx, 0, none⟩), .int .i64 k] w fun e w' => e = .returned (.int .i64 0) ∧ Own w' bx bm { s with L := without s.L k } ∧ Fr [bm] w w' := by
  obtain ⟨-, -, c2, -, -⟩ := h.cells
  have hkey := keyOf_int_mk (P := Try.prog) Try.underlying3 hk
  have hown := h.map
  have HN : Hid (Maps.has (mapOf s.L) (.int .i64 k) = true) := Lib.hid (by rw [has_mapOf, any_timeOf, hn]; rfl)
  clear hn
  go_enter Try.func16, Try.ntmps16
  go_wp2_with (first
    | (at_lookup; refine wpList_lookup_own_ok_int _ rfl _ _ 57 rfl 3 2 .i64 law3 Try.underlying57 Try.underlying2 (zero2 _) bm _ _ rfl hown _ _ rfl hkey ?_; rw [HN.out]; intro c hat hwc; clear hat hwc)
    | (at_delete; refine wpList_delete_own _ rfl _ _ 57 3 rfl 2 law3 Try.underlying57 _ bm _ _ rfl hown _ _ rfl hkey ?_; intro w1 hown1 hturn1))
  go_ret
  rw [del_mapOf] at hown1
  exact ⟨rfl, h.turn hturn1 (ownsMap_exact hown1) (Nat.le_refl _), (Fr.grown hturn1.grown).mono (by simp)⟩

theorem new_no {w : World} (f : Int) (hf : f < 0 ∨ 1099511627776 < f) :
    Calls Try.prog 7 #[.int .i64 f] w fun e w' => e = .returned (.tuple #[.pointer none, .int .i64 1]) ∧ w = w' := by
  by_cases h1 : f < 0
  · clear hf
    go_enter Try.func7, Try.ntmps7
    go_wp2
    go_ret2
    exact ⟨rfl, rfl⟩
  · have h2 : 1099511627776 < f := by omega
    clear hf
    go_enter Try.func7, Try.ntmps7
    go_wp2
    go_ret2
    exact ⟨rfl, rfl⟩

theorem new_yes {w : World} (f : Int) (h1 : 0 ≤ f) (h2 : f ≤ 1099511627776) :
    Calls Try.prog 7 #[.int .i64 f] w fun e w' => ∃ bx bm : Nat, e = .returned (.tuple #[.pointer (some ⟨bx, 0, none⟩), .int .i64 0]) ∧ w.heap.size ≤ bx ∧ w.heap.size ≤ bm ∧ Own w' bx bm { last := f, read := f, L := [], made := 0 } ∧ Fr [] w w' := by
  have hmm := @run_makeMap Try.prog
  go_enter Try.func7, Try.ntmps7
  go_wp2
  go_ret2
  refine ⟨w.heap.size + 1, w.heap.size, rfl, by omega, by omega, ⟨?_, ?_⟩, ((Fr.refl _ _).alloc _).alloc _⟩
  · rw [show w.heap.size + 1 = (w.alloc (.map #[] 0)).heap.size from by simp]
    exact heap_alloc_new _ _
  · exact (World.ownsMap_made w Try.prog 3 (plainElem Try.prog 2)).alloc _

theorem new_good (f : Int) (h1 : 0 ≤ f) (h2 : f ≤ 1099511627776) : Good { last := f, read := f, L := [], made := 0 } :=
  ⟨h1, Int.le_refl _, h2, Int.le_refl _, by simp, List.Pairwise.nil, by simp, by simp⟩

end Go.Proofs.Ytdmhiefjmejfpaa
