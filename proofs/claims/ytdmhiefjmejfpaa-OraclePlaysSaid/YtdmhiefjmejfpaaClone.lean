/- The contract of the oracle's Clone. No condition. -/
import Derived.Test.YtdmhiefjmejfpaaMeth
import Derived.Shelf.SlMaps.Clone
namespace Go.Proofs.Ytdmhiefjmejfpaa
open Go.RowKit Go.Maps

theorem mclone_any (b : Nat) (es : Array MapEntry) (clock : Nat) (w : World) (hb : w.heap[b]? = some (.map es clock)) :
    Calls Try.prog 23 #[.map (some b)] w fun e w' => e = .returned (.map (some w.heap.size)) ∧ w' = w.alloc (.map es clock) := by
  have hq := fun w => run_eql_map_nil_sl (P := Try.prog) w 57 _ _ (some b) Try.underlying57
  go_enter Try.func23, Try.ntmps23
  go_wp2
  rw [run_callFunc_extern Try.func29 (by kernel_rfl) (by kernel_rfl) (by kernel_rfl) (e := Extern.MapsClone.clone) (by kernel_rfl), run_maps_clone_sl w 57 hb]
  simp only [Result.andThen]
  rw [Oper.upon_value]
  go_wp2
  rw [run_typeAssert_map_sl _ 57 20 _ _ _ Try.underlying57]
  simp only [Result.andThen]
  rw [Oper.upon_value]
  go_wp2
  go_ret
  exact ⟨rfl, rfl⟩

theorem clone_any {w : World} {bx bm : Nat} {s : Orc} (h : Own w bx bm s) :
    Calls Try.prog 19 #[.pointer (some ⟨bx, 0, none⟩)] w fun e w' => ∃ bx' bm', e = .returned (.pointer (some ⟨bx', 0, none⟩)) ∧ w.heap.size ≤ bx' ∧ w.heap.size ≤ bm' ∧ Own w' bx' bm' s ∧ Fr [] w w' := by
  obtain ⟨c0, c1, c2, c3, -⟩ := h.cells
  obtain ⟨es, clock, hb, r⟩ := h.map
  have hlt : bx < w.heap.size := (Array.getElem?_eq_some_iff.1 h.blk).1
  have hltm : bm < w.heap.size := (Array.getElem?_eq_some_iff.1 hb).1
  have hcl := mclone_any bm es clock (w.alloc (.cells (cellsOf s bm) 59)) (by rw [heap_alloc_old w _ bm hltm]; exact hb)
  have hne : bx ≠ w.heap.size := by omega
  clear h
  go_enter Try.func19, Try.ntmps19
  go_wp2_with fail
  refine hcl.mono ?_
  rintro e w1 ⟨rfl, rfl⟩
  go_wp2_with fail
  go_ret
  refine ⟨w.heap.size, w.heap.size + 1, rfl, Nat.le_refl _, by omega, ⟨?_, es, clock, ?_, r⟩, ((Fr.refl [] w).alloc _).alloc _⟩
  · rw [heap_alloc_old _ _ _ (by simp), heap_alloc_new]
    simp [cellsOf]
  · have := heap_alloc_new (w.alloc (.cells ((cellsOf s bm).setIfInBounds 2 (.map (some (w.heap.size + 1)))) 59)) (.map es clock)
    simpa using this

end Go.Proofs.Ytdmhiefjmejfpaa
