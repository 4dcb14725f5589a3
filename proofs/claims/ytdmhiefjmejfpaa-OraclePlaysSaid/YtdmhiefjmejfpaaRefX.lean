/- The contracts of the reference's Move and Free. -/
import Derived.Test.YtdmhiefjmejfpaaRefP
import Derived.Test.YtdmhiefjmejfpaaRefW
namespace Go.Proofs.Ytdmhiefjmejfpaa
open Go.RowKit Go.Maps

theorem RefAt.setRow {w : World} {br g n c j : Nat} {s : Orc} {u : Value} {L : List (Int × Int)} (h : RefAt w br (.slice (some ⟨g, 0, none⟩) n c) s) (hne : g ≠ br) (hx : (flat s.L).set j u = flat L) (hl : L.length = s.L.length) :
    RefAt (w.setCell ⟨g, j, none⟩ u) br (.slice (some ⟨g, 0, none⟩) n c) { s with L := L } := by
  refine ⟨?_, ?_⟩
  · rw [Below.heap_setCell _ _ _ _ (fun e => hne e.symm)]; exact h.blk
  · obtain ⟨ad, cap, he, -⟩ := rowslice h.row
    simp only [Value.slice.injEq] at he
    obtain ⟨rfl, rfl, rfl⟩ := he
    have := (h.row.stored j u).1
    rw [hx] at this
    simp only [hl]
    exact this

theorem rmove_none {w : World} {br : Nat} {v : Value} {s : Orc} (h : RefAt w br v s) (g : Good s) (k t : Int) (hn : timeOf s.L k = none) :
    Calls Try.prog 27 #[.pointer (some ⟨br, 0, none⟩), .int .i64 k, .int .i64 t] w fun e w' => e = .returned (.int .i64 180) ∧ Fr [] w w' := by
  have HP : Hid (placeInt s.L k = -1) := by
    show placeInt s.L k = -1
    unfold placeInt; rw [placeOf_none hn]
  clear hn
  go_enter Try.func27, Try.ntmps27
  go_wp2_with (go_at_call 30; refine (rat_any h g k).mono ?_; rintro e w1 ⟨rfl, hf1⟩; rw [HP.out])
  go_ret
  exact ⟨rfl, hf1⟩

theorem rmove_since {w : World} {br : Nat} {v : Value} {s : Orc} (h : RefAt w br v s) (g : Good s) (k t t0 : Int) (hn : timeOf s.L k = some t0) (ht : t < t0) :
    Calls Try.prog 27 #[.pointer (some ⟨br, 0, none⟩), .int .i64 k, .int .i64 t] w fun e w' => e = .returned (.int .i64 130) ∧ Fr [] w w' := by
  obtain ⟨i, hp, hi, hL⟩ := placeOf_some hn
  have HP : Hid (placeInt s.L k = (i : Int)) := by
    show placeInt s.L k = _
    unfold placeInt; rw [hp]
  have hfew := g.few
  obtain ⟨ad, cap, rfl, hg, -⟩ := rowslice h.row
  obtain ⟨gb, rfl⟩ := hg (by omega)
  have hcell := (flat_get hi).2
  rw [hL] at hcell
  have HC := Lib.hid hcell
  clear hn hp hcell hL
  go_enter Try.func27, Try.ntmps27
  go_wp2_with (go_at_call 30; refine (rat_any h g k).mono ?_; rintro e w1 ⟨rfl, hf1⟩; rw [HP.out]; have h1 := h.fr hf1 (by simp) (NoRow.nil _); obtain ⟨-, c1, c2, -, -⟩ := h1.cells; have e1 := ((row_cells h1.row).1 (i * 2 + 1) (by omega)).trans HC.out; simp only at e1; clear h1)
  go_ret
  exact ⟨rfl, hf1⟩

theorem rmove_upper {w : World} {br : Nat} {v : Value} {s : Orc} (h : RefAt w br v s) (g : Good s) (k t t0 : Int) (hn : timeOf s.L k = some t0) (ht : t0 ≤ t) (hr : s.read < t) :
    Calls Try.prog 27 #[.pointer (some ⟨br, 0, none⟩), .int .i64 k, .int .i64 t] w fun e w' => e = .returned (.int .i64 131) ∧ Fr [] w w' := by
  obtain ⟨i, hp, hi, hL⟩ := placeOf_some hn
  have HP : Hid (placeInt s.L k = (i : Int)) := by
    show placeInt s.L k = _
    unfold placeInt; rw [hp]
  have hfew := g.few
  obtain ⟨ad, cap, rfl, hg, -⟩ := rowslice h.row
  obtain ⟨gb, rfl⟩ := hg (by omega)
  have hcell := (flat_get hi).2
  rw [hL] at hcell
  have HC := Lib.hid hcell
  clear hn hp hcell hL
  go_enter Try.func27, Try.ntmps27
  go_wp2_with (go_at_call 30; refine (rat_any h g k).mono ?_; rintro e w1 ⟨rfl, hf1⟩; rw [HP.out]; have h1 := h.fr hf1 (by simp) (NoRow.nil _); obtain ⟨-, c1, c2, -, -⟩ := h1.cells; have e1 := ((row_cells h1.row).1 (i * 2 + 1) (by omega)).trans HC.out; simp only at e1; clear h1)
  go_ret
  exact ⟨rfl, hf1⟩

set_option maxHeartbeats 800000 in
theorem rmove_yes {w : World} {br : Nat} {v : Value} {s : Orc} (h : RefAt w br v s) (g : Good s) (k t t0 : Int) (hn : timeOf s.L k = some t0) (ht : t0 ≤ t) (hr : t ≤ s.read) :
    Calls Try.prog 27 #[.pointer (some ⟨br, 0, none⟩), .int .i64 k, .int .i64 t] w fun e w' => e = .returned (.int .i64 0) ∧ RefOwn w' br { s with L := setT s.L k t } ∧ Fr [br] w w' := by
  obtain ⟨i0, hi0, hz0, hz1, hz2⟩ := info_parts info40
  obtain ⟨i, hp, hi, hL⟩ := placeOf_some hn
  have HP : Hid (placeInt s.L k = (i : Int)) := by
    show placeInt s.L k = _
    unfold placeInt; rw [hp]
  have hfew := g.few
  obtain ⟨ad, cap, rfl, hg, -⟩ := rowslice h.row
  obtain ⟨gb, rfl⟩ := hg (by omega)
  have hcell := (flat_get hi).2
  rw [hL] at hcell
  have HC := Lib.hid hcell
  have HS := Lib.hid (setT_set (t := t) g.rise hi hL)
  have HF : Hid ((flat s.L).set (i * 2 + 1) (.int .i64 t) = flat (s.L.set i (k, t))) := by
    have := flat_set t hi
    rw [hL] at this
    exact this
  clear hn hp hcell hL
  go_enter Try.func27, Try.ntmps27
  go_wp2_with (first
    | (go_at_call 30; refine (rat_any h g k).mono ?_; rintro e w1 ⟨rfl, hf1⟩; rw [HP.out]; have h1 := h.fr hf1 (by simp) (NoRow.nil _); obtain ⟨-, c1, c2, -, f0⟩ := h1.cells; have f2 := f0 2; have ea := World.new_ne w1 _ c2; have hb1 : br < w1.heap.size := (Array.getElem?_eq_some_iff.1 h1.blk).1; have e1 := ((row_cells h1.row).1 (i * 2 + 1) (by omega)).trans HC.out; simp only at e1)
    | (at_builtin; refine wpList_append_src _ rfl _ _ 29 rfl 0 40 i0 _ 2 16 Try.underlying29 hi0 hz0 hz1 hz2 rfl (by decide) (.slice (some ⟨w1.heap.size, 0, none⟩) 0 0) 0 [] rfl (emptyRow (heap_top rfl)) (.slice (some ⟨gb, 0, none⟩) s.L.length cap) s.L.length (flat s.L) rfl (Src.row (h1.row.alloc _) (flat_one_cell _)) (by unfold maxLen; omega) (by omega) (by simp) ?_; intro v1 w3 r3 hg3 hl3; simp only [Nat.zero_add, List.nil_append] at r3; obtain ⟨g2, cp2, rfl, -, -, -⟩ := row_shape r3 (by omega); have F3 : Fr [] w1 w3 := ((Fr.refl [] w1).alloc _).fresh hg3 (by intro r e; simp [Value.ownBlock] at e; left; omega); have x2 := F3.cell c2 (by simp); have y2 := (World.frozen?_of_block (F3.block br hb1 (by simp))).trans f2; have e3 := ((row_cells r3).1 (i * 2 + 1) (by omega)).trans HC.out; have z3 := (row_cells r3).2 (i * 2 + 1); have hne := row_ne r3 (F3.heap h1.blk (by simp)) (by decide); have hne' := Ne.symm hne))
  go_ret
  have hg2 : w1.heap.size ≤ g2 := by simp [Value.ownBlock] at hl3; omega
  have R1 := R_end (L := s.L) h1 F3 r3 rfl rfl
  have R2 := R1.setRow (j := i * 2 + 1) (u := .int .i64 t) (L := s.L.set i (k, t)) hne HF.out (by simp)
  refine ⟨rfl, ⟨_, by rw [HS.out]; exact R2⟩, ?_⟩
  have q1 : Fr [br] w (w3.setCell ⟨br, 2, none⟩ (.slice (some ⟨g2, 0, none⟩) s.L.length cp2)) := ((hf1.trans F3).nil).setCell (by simp) _
  exact q1.past ((Fr.refl [g2] _).setCell (by simp) _) (by simp; left; have := hf1.size; omega)

theorem rfree_no {w : World} {br : Nat} {v : Value} {s : Orc} (h : RefAt w br v s) (g : Good s) (k : Int) (hn : timeOf s.L k = none) :
    Calls Try.prog 28 #[.pointer (some ⟨br, 0, none⟩), .int .i64 k] w fun e w' => e = .returned (.int .i64 180) ∧ Fr [] w w' := by
  have HP : Hid (placeInt s.L k = -1) := by
    show placeInt s.L k = -1
    unfold placeInt; rw [placeOf_none hn]
  clear hn
  go_enter Try.func28, Try.ntmps28
  go_wp2_with (go_at_call 30; refine (rat_any h g k).mono ?_; rintro e w1 ⟨rfl, hf1⟩; rw [HP.out])
  go_ret
  exact ⟨rfl, hf1⟩

/-- Its copy leads to the same holds. -/
theorem rclone_any {w : World} {br : Nat} {v : Value} {s : Orc} (h : RefAt w br v s) :
    Calls Try.prog 20 #[.pointer (some ⟨br, 0, none⟩)] w fun e w' => e = .returned (.pointer (some ⟨w.heap.size, 0, none⟩)) ∧ RefAt w' w.heap.size v s ∧ Fr [] w w' := by
  obtain ⟨c0, c1, c2, c3, -⟩ := h.cells
  obtain ⟨ad, cap, rfl, -⟩ := rowslice h.row
  go_enter Try.func20, Try.ntmps20
  go_wp2
  go_ret
  exact ⟨rfl, ⟨heap_alloc_new _ _, h.row.alloc _⟩, (Fr.refl _ _).alloc _⟩

end Go.Proofs.Ytdmhiefjmejfpaa
