/- The contract of the reference's Free where the hold is there. -/
import Derived.Test.YtdmhiefjmejfpaaRefX
import Derived.IntWalk
namespace Go.Proofs.Ytdmhiefjmejfpaa
open Go.RowKit Go.Maps

theorem Src.left {w : World} {ad : Addr} {c n i : Nat} {L : List (Int × Int)} (hn : n = L.length) (h : L.length ≤ i) : Src w 2 (.slice (some ad) (n - i) c) (n - i) (flat (L.drop i)) := by
  have e : n - i = 0 := by omega
  rw [e, List.drop_eq_nil_of_le h]
  exact Src.empty w ad c

set_option maxHeartbeats 3200000 in
theorem rfree_yes {w : World} {br : Nat} {v : Value} {s : Orc} (h : RefAt w br v s) (g : Good s) (k t0 : Int) (hn : timeOf s.L k = some t0) :
    Calls Try.prog 28 #[.pointer (some ⟨br, 0, none⟩), .int .i64 k] w fun e w' => e = .returned (.int .i64 0) ∧ RefOwn w' br { s with L := without s.L k } ∧ Fr [br] w w' := by
  obtain ⟨i0, hi0, hz0, hz1, hz2⟩ := info_parts info40
  obtain ⟨i, hp, hi, hL⟩ := placeOf_some hn
  have HP : Hid (placeInt s.L k = (i : Int)) := by
    show placeInt s.L k = _
    unfold placeInt; rw [hp]
  have hfew := g.few
  obtain ⟨ad, cap, rfl, hg, hcap, hcm⟩ := rowslice h.row
  unfold maxLen at hcm
  obtain ⟨gb, rfl⟩ := hg (by omega)
  have HW := Lib.hid (without_cut g.rise hi hL)
  clear hn hp hL
  have hi' : (i : Int) < 64 := by omega
  have hiL : (i : Int) + 1 ≤ (s.L.length : Int) := by omega
  have hcl : (s.L.length : Int) ≤ (cap : Int) := by omega
  have hi2 : i ≤ s.L.length := by omega
  have hi3 : i ≤ cap := by omega
  have hi4 : i + 1 ≤ s.L.length := by omega
  by_cases hce : cap = i + 1
  · have hce2 : i + 1 = cap := hce.symm
    clear hce
    subst hce2
    have hle : (i : Int) ≤ (i : Int) + 1 := by omega
    have hle2 : (i : Int) + 1 ≤ (i : Int) + 1 := by omega
    go_enter Try.func28, Try.ntmps28
    go_wp2_with (go_at_call 30; refine (rat_any h g k).mono ?_; rintro e w1 ⟨rfl, hf1⟩; rw [HP.out]; have h1 := h.fr hf1 (by simp) (NoRow.nil _); obtain ⟨-, -, c2, -, f0⟩ := h1.cells; have f2 := f0 2; have ea := World.new_ne w1 _ c2; have hb1 : br < w1.heap.size := (Array.getElem?_eq_some_iff.1 h1.blk).1)
    go_cut [] (fun wx => ∃ v', RefAt wx br v' { s with L := without s.L k } ∧ Fr [br] w1 wx)
    case first =>
      have hw1 : IntKind.i64.wrap ((i : Int) + 1) = (i : Int) + 1 := IntWalk.i64_in _ (by omega)
      have hw2 : ((i : Int) + 1).toNat = i + 1 := by omega
      have hw3 : (0 : Int) ≤ (i : Int) + 1 := by omega
      go_region_law (first
        | (refine step_append_src _ (by rfl) _ _ 29 (by rfl) 0 40 i0 _ 2 16 Try.underlying29 hi0 hz0 hz1 hz2 rfl (by omega) (.slice (some ⟨_, 0, none⟩) 0 0) 0 [] rfl ?own (.slice (some ⟨gb, 0, none⟩) i (i + 1)) i (flat (s.L.take i)) rfl ?src (by unfold maxLen; omega) (by omega) (by simp) ?_
           case own => exact emptyRow (by repeat (first | exact heap_top (by simp) | apply heap_under | apply heap_dr))
           case src => exact Src.head (ownsRow_frx h1.row (by repeat (first | assumption | exact Fr.refl _ _ | apply Fr.drew | apply Fr.alloc)) (NoRow.nil _)) (flat_one_cell _) hi2 rfl (i + 1)
           intro v1 w3 r3 hg3 hl3
           simp only [Nat.zero_add, List.nil_append] at r3
           have F3 : Fr [] w1 w3 := Fr.fresh (by repeat (first | assumption | exact Fr.refl _ _ | apply Fr.drew | apply Fr.alloc)) hg3 (by intro r e; simp [Value.ownBlock] at e; left; omega)
           have x2 := F3.cell c2 (by simp)
           have y2 := (World.frozen?_of_block (F3.block br hb1 (by simp))).trans f2)
        | (refine step_append_src _ (by rfl) _ _ 29 (by rfl) 0 40 i0 _ 2 16 Try.underlying29 hi0 hz0 hz1 hz2 rfl (by omega) v1 i (flat (s.L.take i)) rfl ?own _ 0 [] rfl ?src (by unfold maxLen; omega) (by omega) (by simp) ?_
           case own => exact r3
           case src => exact Src.empty _ _ _
           intro v2 w4 r4 hg4 hl4
           have F4 : Fr [] w1 w4 := Fr.fresh F3 hg4 (by intro r e; rcases hl3 with h3 | h3 <;> rw [h3] at e <;> simp [Value.ownBlock] at e <;> left <;> omega)
           have z2 := F4.cell c2 (by simp)
           have u2 := (World.frozen?_of_block (F4.block br hb1 (by simp))).trans f2
           obtain ⟨ad2, cp2, rfl, -⟩ := rowslice r4))
      all_goals (go_wp2_with fail; go_meet; exact ⟨_, by rw [HW.out]; exact R_end h1 F4 r4 (by simp; omega) (by rw [flat_append, List.drop_eq_nil_of_le (by omega)]; rfl), (F4.nil).trans ((Fr.refl [br] _).setCell (by simp) _)⟩)
    case rest =>
      obtain ⟨v', h5, f5⟩ := hcut
      go_wp2
      go_ret
      exact ⟨rfl, ⟨v', h5⟩, (hf1.nil).trans f5⟩

  · have hce' : i + 1 < cap := by omega
    have hce2 : ¬ cap = i + 1 := hce
    go_enter Try.func28, Try.ntmps28
    go_wp2_with (go_at_call 30; refine (rat_any h g k).mono ?_; rintro e w1 ⟨rfl, hf1⟩; rw [HP.out]; have h1 := h.fr hf1 (by simp) (NoRow.nil _); obtain ⟨-, -, c2, -, f0⟩ := h1.cells; have f2 := f0 2; have ea := World.new_ne w1 _ c2; have hb1 : br < w1.heap.size := (Array.getElem?_eq_some_iff.1 h1.blk).1)
    go_cut [] (fun wx => ∃ v', RefAt wx br v' { s with L := without s.L k } ∧ Fr [br] w1 wx)
    case first =>
      have hw1 : IntKind.i64.wrap ((i : Int) + 1) = (i : Int) + 1 := IntWalk.i64_in _ (by omega)
      have hw2 : ((i : Int) + 1).toNat = i + 1 := by omega
      have hw3 : (0 : Int) ≤ (i : Int) + 1 := by omega
      go_region_law (first
        | (refine step_append_src _ (by rfl) _ _ 29 (by rfl) 0 40 i0 _ 2 16 Try.underlying29 hi0 hz0 hz1 hz2 rfl (by omega) (.slice (some ⟨_, 0, none⟩) 0 0) 0 [] rfl ?own (.slice (some ⟨gb, 0, none⟩) i cap) i (flat (s.L.take i)) rfl ?src (by unfold maxLen; omega) (by omega) (by simp) ?_
           case own => exact emptyRow (by repeat (first | exact heap_top (by simp) | apply heap_under | apply heap_dr))
           case src => exact Src.head (ownsRow_frx h1.row (by repeat (first | assumption | exact Fr.refl _ _ | apply Fr.drew | apply Fr.alloc)) (NoRow.nil _)) (flat_one_cell _) hi2 rfl cap
           intro v1 w3 r3 hg3 hl3
           simp only [Nat.zero_add, List.nil_append] at r3
           have F3 : Fr [] w1 w3 := Fr.fresh (by repeat (first | assumption | exact Fr.refl _ _ | apply Fr.drew | apply Fr.alloc)) hg3 (by intro r e; simp [Value.ownBlock] at e; left; omega)
           have x2 := F3.cell c2 (by simp)
           have y2 := (World.frozen?_of_block (F3.block br hb1 (by simp))).trans f2)
        | (refine step_append_src _ (by rfl) _ _ 29 (by rfl) 0 40 i0 _ 2 16 Try.underlying29 hi0 hz0 hz1 hz2 rfl (by omega) v1 i (flat (s.L.take i)) rfl ?own _ (s.L.length - (i + 1)) (flat (s.L.drop (i + 1))) rfl ?src (by unfold maxLen; omega) (by omega) (by simp) ?_
           case own => exact r3
           case src => exact Src.tail (ownsRow_frx h1.row F3 (NoRow.nil _)) (flat_one_cell _) hi4 rfl _
           intro v2 w4 r4 hg4 hl4
           have F4 : Fr [] w1 w4 := Fr.fresh F3 hg4 (by intro r e; rcases hl3 with h3 | h3 <;> rw [h3] at e <;> simp [Value.ownBlock] at e <;> left <;> omega)
           have z2 := F4.cell c2 (by simp)
           have u2 := (World.frozen?_of_block (F4.block br hb1 (by simp))).trans f2
           obtain ⟨ad2, cp2, rfl, -⟩ := rowslice r4))
      all_goals (go_wp2_with fail; go_meet; exact ⟨_, by rw [HW.out]; exact R_end h1 F4 r4 (by simp; omega) (by rw [flat_append]), (F4.nil).trans ((Fr.refl [br] _).setCell (by simp) _)⟩)
    case rest =>
      obtain ⟨v', h5, f5⟩ := hcut
      go_wp2
      go_ret
      exact ⟨rfl, ⟨v', h5⟩, (hf1.nil).trans f5⟩

end Go.Proofs.Ytdmhiefjmejfpaa
