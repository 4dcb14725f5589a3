/- The contracts of the reference's oracle that make new rows: Hold, Move, Free. -/
import Derived.Test.YtdmhiefjmejfpaaRef
import Derived.Test.YtdmhiefjmejfpaaApp
import Derived.Test.YtdmhiefjmejfpaaNbWalk
import Derived.Deep.RegionHeld3
import Derived.Deep.RegionLaw
import Derived.Deep.DeepCutAuto
namespace Go.Proofs.Ytdmhiefjmejfpaa
open Go.RowKit Go.Maps

theorem flat_one_cell (L : List (Int × Int)) : ∀ u ∈ flat L, u.oneCell' = true := by
  intro u hu
  unfold flat at hu
  obtain ⟨p, -, hp⟩ := List.mem_flatMap.1 hu
  simp at hp
  rcases hp with rfl | rfl <;> rfl

theorem Fr.cell {S : List Nat} {a b : World} (h : Fr S a b) {p : Addr} {v : Value} (hp : a.cell? p = some v) (hS : p.block ∉ S) : b.cell? p = some v :=
  (World.cell?_of_block (h.block p.block (World.block_lt_of_cell? a p hp) hS)).trans hp

theorem rhold_since {w : World} {br : Nat} {v : Value} {s : Orc} (h : RefAt w br v s) (g : Good s) (t : Int) (ht : t < leastOf s.read s.L) :
    Calls Try.prog 26 #[.pointer (some ⟨br, 0, none⟩), .int .i64 t] w fun e w' => e = .returned (.tuple #[.int .i64 0, .int .i64 130]) ∧ Fr [] w w' := by
  go_enter Try.func26, Try.ntmps26
  go_wp2_with (go_at_call 22; refine (rleast_any h g).mono ?_; rintro e w1 ⟨rfl, hf1⟩)
  go_ret2
  exact ⟨rfl, hf1⟩

theorem rhold_upper {w : World} {br : Nat} {v : Value} {s : Orc} (h : RefAt w br v s) (g : Good s) (t : Int) (ht0 : leastOf s.read s.L ≤ t) (ht : s.read < t) :
    Calls Try.prog 26 #[.pointer (some ⟨br, 0, none⟩), .int .i64 t] w fun e w' => e = .returned (.tuple #[.int .i64 0, .int .i64 131]) ∧ Fr [] w w' := by
  go_enter Try.func26, Try.ntmps26
  go_wp2_with (go_at_call 22; refine (rleast_any h g).mono ?_; rintro e w1 ⟨rfl, hf1⟩; obtain ⟨-, c1, -, -, -⟩ := (h.fr hf1 (by simp) (NoRow.nil _)).cells)
  go_ret2
  exact ⟨rfl, hf1⟩

theorem rhold_long {w : World} {br : Nat} {v : Value} {s : Orc} (h : RefAt w br v s) (g : Good s) (t : Int) (ht0 : leastOf s.read s.L ≤ t) (ht : t ≤ s.read) (hn : 64 ≤ s.L.length) :
    Calls Try.prog 26 #[.pointer (some ⟨br, 0, none⟩), .int .i64 t] w fun e w' => e = .returned (.tuple #[.int .i64 0, .int .i64 2]) ∧ Fr [] w w' := by
  have hn' : (64 : Int) ≤ (s.L.length : Int) := by omega
  obtain ⟨ad, cap, rfl, -⟩ := rowslice h.row
  go_enter Try.func26, Try.ntmps26
  go_wp2_with (go_at_call 22; refine (rleast_any h g).mono ?_; rintro e w1 ⟨rfl, hf1⟩; obtain ⟨-, c1, c2, -, -⟩ := (h.fr hf1 (by simp) (NoRow.nil _)).cells)
  go_ret2
  exact ⟨rfl, hf1⟩

theorem RefAt.setMade {w : World} {br : Nat} {v : Value} {s : Orc} (h : RefAt w br v s) (u : Int) : RefAt (w.setCell ⟨br, 3, none⟩ (.int .i64 u)) br v { s with made := u } := by
  refine ⟨?_, ownsRow_frx h.row ((Fr.refl [br] w).setCell (by simp) _) h.noRow⟩
  simp [World.setCell, Array.getElem?_modify, h.blk, refCells]

theorem heap_top {w : World} {o : Obj} {i : Nat} (h : i = w.heap.size) : (w.alloc o).heap[i]? = some o := by subst h; exact heap_alloc_new w o
theorem heap_under {w : World} {o x : Obj} {i : Nat} (h : w.heap[i]? = some x) : (w.alloc o).heap[i]? = some x := by
  rw [heap_alloc_old w o i (Array.getElem?_eq_some_iff.1 h).1]; exact h
theorem heap_dr {w : World} {x : Obj} {i : Nat} (h : w.heap[i]? = some x) : w.drew.heap[i]? = some x := h
theorem heap_gr {w w' : World} {x : Obj} {i : Nat} {row : Option Nat} (h : w.heap[i]? = some x) (hg : w.grownBy w' row) (hn : some i ≠ row) : w'.heap[i]? = some x :=
  (hg.block i (Array.getElem?_eq_some_iff.1 h).1 hn).trans h
theorem emptyRow {w : World} {g : Nat} (hb : w.heap[g]? = some (.cells #[] 40 (0, 0))) : w.ownsRow 0 40 2 (.slice (some ⟨g, 0, none⟩) 0 0) 0 [] :=
  ⟨rfl, .inr ⟨g, 0, #[], rfl, Nat.zero_le _, hb, Nat.le_refl _, Nat.zero_le _, rfl, rfl⟩⟩

theorem R_end {w2 w4 : World} {br n : Nat} {v v' : Value} {s : Orc} {L : List (Int × Int)} {xs : List Value} (h : RefAt w2 br v s) (f : Fr [] w2 w4) (r : w4.ownsRow 0 40 2 v' n xs) (hn : n = L.length) (hx : xs = flat L) :
    RefAt (w4.setCell ⟨br, 2, none⟩ v') br v' { s with L := L } := by
  have hb : w4.heap[br]? = some (.cells (refCells s v) 56 (0, 0)) := f.heap h.blk (by simp)
  have hnr : NoRow w4 [br] := by
    intro x hx cs fz e
    rw [List.mem_singleton] at hx
    subst hx
    rw [hb] at e
    simp at e
  refine ⟨?_, ?_⟩
  · simp [World.setCell, Array.getElem?_modify, hb, refCells]
  · have := ownsRow_frx r ((Fr.refl [br] w4).setCell (p := ⟨br, 2, none⟩) (by simp) v') hnr
    rw [hn, hx] at this
    exact this

set_option maxHeartbeats 1600000 in
theorem rhold_yes {w : World} {br : Nat} {v : Value} {s : Orc} (h : RefAt w br v s) (g : Good s) (t : Int) (ht0 : leastOf s.read s.L ≤ t) (ht : t ≤ s.read) (hn : s.L.length < 64) (hm : s.made < 1099511627776) :
    Calls Try.prog 26 #[.pointer (some ⟨br, 0, none⟩), .int .i64 t] w fun e w' => e = .returned (.tuple #[.int .i64 (s.made + 1), .int .i64 0]) ∧ RefOwn w' br { s with L := s.L ++ [(s.made + 1, t)], made := s.made + 1 } ∧ Fr [br] w w' := by
  have hn' : (s.L.length : Int) < 64 := by omega
  have m0 := g.m0
  obtain ⟨i0, hi, hz0, hz1, hz2⟩ := info_parts info40
  obtain ⟨ad, cap, rfl, -⟩ := rowslice h.row
  go_enter Try.func26, Try.ntmps26
  go_wp2_with (go_at_call 22; refine (rleast_any h g).mono ?_; rintro e w1 ⟨rfl, hf1⟩; have h1 := h.fr hf1 (by simp) (NoRow.nil _); obtain ⟨-, c1, c2, c3, f0⟩ := h1.cells; have f3 := f0 3)
  have h2 := h1.setMade (s.made + 1)
  have hf2 : Fr [br] w1 (w1.setCell ⟨br, 3, none⟩ (.int .i64 (s.made + 1))) := (Fr.refl _ _).setCell (by simp) _
  generalize w1.setCell ⟨br, 3, none⟩ (.int .i64 (s.made + 1)) = w2 at *
  obtain ⟨-, -, d2, d3, g0⟩ := h2.cells
  have hlt2 : br < w2.heap.size := (Array.getElem?_eq_some_iff.1 h2.blk).1
  have g02 := g0 2
  have ea := World.new_ne w2 _ d3
  clear c1 c2 c3 f0 f3 h1
  go_cut [] (fun wx => ∃ v', RefAt wx br v' { s with L := s.L ++ [(s.made + 1, t)], made := s.made + 1 } ∧ Fr [br] w2 wx)
  case first =>
    go_region_law (first
        | (refine step_append_src _ (by rfl) _ _ 29 (by rfl) 0 40 i0 _ 2 16 Try.underlying29 hi hz0 hz1 hz2 rfl (by omega) (.slice (some ⟨_, 0, none⟩) 0 0) 0 [] rfl ?own (.slice ad s.L.length cap) s.L.length (flat s.L) rfl ?src (by unfold maxLen; omega) (by omega) (by simp) ?_
           case own => exact emptyRow (by repeat (first | exact heap_top (by simp) | apply heap_under | apply heap_dr))
           case src => exact Src.row (ownsRow_frx h2.row (by repeat (first | assumption | exact Fr.refl _ _ | apply Fr.drew | apply Fr.alloc)) (NoRow.nil _)) (flat_one_cell _)
           intro v1 w3 r3 hg3 hl3
           simp only [Nat.zero_add, List.nil_append] at r3
           have F3 : Fr [] w2 w3 := Fr.fresh (by repeat (first | assumption | exact Fr.refl _ _ | apply Fr.drew | apply Fr.alloc)) hg3 (by intro r e; simp [Value.ownBlock] at e; left; omega)
           have x2 := F3.cell d2 (by simp)
           have x3 := F3.cell d3 (by simp)
           have y2 := (World.frozen?_of_block (F3.block br hlt2 (by simp))).trans g02)
        | (refine step_append_src _ (by rfl) _ _ 29 (by rfl) 0 40 i0 _ 2 16 Try.underlying29 hi hz0 hz1 hz2 rfl (by omega) v1 s.L.length (flat s.L) rfl ?own _ 1 [.int .i64 (s.made + 1), .int .i64 t] rfl ?src (by unfold maxLen; omega) (by omega) (by simp) ?_
           case own => first | exact r3 | exact r3.alloc _
           case src => exact Src.block (cs := #[.int .i64 (s.made + 1), .int .i64 t]) (t := 40) (fz := (0, 0)) (by first | exact heap_top (by simp) | (refine heap_gr ?_ hg3 (by simp [Value.ownBlock]); repeat (first | exact heap_top (by simp) | apply heap_under | apply heap_dr))) rfl (by simp [Value.oneCell'])
           intro v2 w4 r4 hg4 hl4
           have F4 : Fr [] w2 w4 := Fr.fresh (by repeat (first | assumption | exact Fr.refl _ _ | apply Fr.drew | apply Fr.alloc)) hg4 (by intro r e; rcases hl3 with h3 | h3 <;> rw [h3] at e <;> simp [Value.ownBlock] at e <;> left <;> omega)
           have z2 := F4.cell d2 (by simp)
           have z3 := F4.cell d3 (by simp)
           have u2 := (World.frozen?_of_block (F4.block br hlt2 (by simp))).trans g02
           obtain ⟨g2, cp2, rfl, -⟩ := row_shape r4 (by omega)))
    all_goals (go_wp2_with fail; go_meet; exact ⟨_, R_end h2 F4 r4 (by simp) (by simp [flat_append, flat_one]), (F4.nil).trans ((Fr.refl [br] _).setCell (by simp) _)⟩)
  case rest =>
    generalize wc = w5 at *
    obtain ⟨v', h5, f5⟩ := hcut
    obtain ⟨-, -, -, d5, -⟩ := h5.cells
    simp only at d5
    clear d2 d3 g02
    go_wp2
    go_ret2
    exact ⟨rfl, ⟨v', h5⟩, ((hf1.nil).trans hf2).trans f5⟩

end Go.Proofs.Ytdmhiefjmejfpaa
