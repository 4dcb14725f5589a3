/- The walk of ZsetGroup. No condition but the sizes. -/
import Derived.Test.YtmionipeoffnhaaZb
namespace Go.Proofs.Ytmionipeoffnhaa
open Go.RowKit srt grp

theorem tidyFit {w : World} {aa : Option Addr} {ac : Nat} {l : List El} (h : Cts w (.slice aa l.length ac) l) (hn : l.length ≤ 1000) (hf : ∀ r, fitB (1 * sumK (l.map pr) r) = true) :
    Calls Try.prog 16 #[.slice aa l.length ac] w (TidyOk w l 1) := (Tidy_any h (by omega)).mono fun _ _ h => h.fit hf
theorem negFit {w : World} {aa : Option Addr} {ac : Nat} {l : List El} (h : Cts w (.slice aa l.length ac) l) (hn : l.length ≤ 1000) (hf : ∀ r, fitB (-1 * sumK (l.map pr) r) = true) :
    Calls Try.prog 19 #[.slice aa l.length ac] w (TidyOk w l (-1)) := (Negate_any h (by omega)).mono fun _ _ h => h.fit hf

/-! ### a row that is there three times -/
def kd : Dt := ⟨2, 7, []⟩
def kEl (b : Nat) (n : Int) : El := ⟨some ⟨b, 0, none⟩, 1, 1, n, [kd]⟩
def kWorld (w : World) : World := ((w.alloc (.cells #[.int .i64 2, .int .i64 7, .string ⟨#[]⟩] 33)).alloc (.cells #[.int .i64 2, .int .i64 7, .string ⟨#[]⟩] 33)).alloc
  (.cells #[.slice (some ⟨w.heap.size, 0, none⟩) 1 1, .int .i64 1, .slice (some ⟨w.heap.size + 1, 0, none⟩) 1 1, .int .i64 2] 31)
theorem kFr (w : World) : Fr [] w (kWorld w) := (((Fr.refl [] w).alloc _).alloc _).alloc _
theorem kRow {w : World} {b : Nat} (h : w.heap[b]? = some (.cells #[.int .i64 2, .int .i64 7, .string ⟨#[]⟩] 33)) : RowAt w (.slice (some ⟨b, 0, none⟩) 1 1) [kd] := by
  refine Or.inr ⟨b, 0, 1, rfl, Nat.le_refl _, fun i d hi => ?_⟩
  cases i with
  | succ i => simp at hi
  | zero =>
    simp at hi
    subst hi
    exact ⟨cell_blk h 0 _ rfl, cell_blk h 1 _ rfl, cell_blk h 2 _ rfl⟩
theorem kCts (w : World) : Cts (kWorld w) (.slice (some ⟨w.heap.size + 2, 0, none⟩) 2 2) [kEl w.heap.size 1, kEl (w.heap.size + 1) 2] := by
  have h0 : (w.alloc (.cells #[.int .i64 2, .int .i64 7, .string ⟨#[]⟩] 33)).heap[w.heap.size]? = some (.cells #[.int .i64 2, .int .i64 7, .string ⟨#[]⟩] 33) := heap_alloc_new w _
  have h1 := heap_alloc_new (w.alloc (.cells #[.int .i64 2, .int .i64 7, .string ⟨#[]⟩] 33)) (.cells #[.int .i64 2, .int .i64 7, .string ⟨#[]⟩] 33)
  have e1 : (w.alloc (.cells #[.int .i64 2, .int .i64 7, .string ⟨#[]⟩] 33)).heap.size = w.heap.size + 1 := by simp
  rw [e1] at h1
  have h2 : (kWorld w).heap[w.heap.size + 2]? = some (.cells #[.slice (some ⟨w.heap.size, 0, none⟩) 1 1, .int .i64 1, .slice (some ⟨w.heap.size + 1, 0, none⟩) 1 1, .int .i64 2] 31) := by
    have := heap_alloc_new ((w.alloc (.cells #[.int .i64 2, .int .i64 7, .string ⟨#[]⟩] 33)).alloc (.cells #[.int .i64 2, .int .i64 7, .string ⟨#[]⟩] 33)) (.cells #[.slice (some ⟨w.heap.size, 0, none⟩) 1 1, .int .i64 1, .slice (some ⟨w.heap.size + 1, 0, none⟩) 1 1, .int .i64 2] 31)
    have e2 : ((w.alloc (.cells #[.int .i64 2, .int .i64 7, .string ⟨#[]⟩] 33)).alloc (.cells #[.int .i64 2, .int .i64 7, .string ⟨#[]⟩] 33)).heap.size = w.heap.size + 2 := by simp
    rw [e2] at this
    exact this
  have f1 : Fr [] (w.alloc (.cells #[.int .i64 2, .int .i64 7, .string ⟨#[]⟩] 33)) (kWorld w) := ((Fr.refl [] _).alloc _).alloc _
  have f2 : Fr [] ((w.alloc (.cells #[.int .i64 2, .int .i64 7, .string ⟨#[]⟩] 33)).alloc (.cells #[.int .i64 2, .int .i64 7, .string ⟨#[]⟩] 33)) (kWorld w) := (Fr.refl [] _).alloc _
  refine ⟨Src.block (cs := #[.slice (some ⟨w.heap.size, 0, none⟩) 1 1, .int .i64 1, .slice (some ⟨w.heap.size + 1, 0, none⟩) 1 1, .int .i64 2]) h2 rfl (by intro u hu; simp at hu; rcases hu with rfl | rfl | rfl | rfl <;> rfl), fun e he => ?_⟩
  simp only [List.mem_cons, List.not_mem_nil, or_false] at he
  rcases he with rfl | rfl
  · exact ⟨kRow (f1.heap h0 (by simp)), ⟨by simp [kEl], by simp [kEl]⟩⟩
  · exact ⟨kRow (f2.heap h1 (by simp)), ⟨by simp [kEl], by simp [kEl]⟩⟩

theorem k_tidy (w : World) : Calls Try.prog 16 #[.slice (some ⟨w.heap.size + 2, 0, none⟩) 2 2] (kWorld w) fun e w' => ∃ (b off c : Nat), e = .returned (.tuple #[.slice (some ⟨b, off, none⟩) 1 c, .int .i64 0]) ∧ Fr [] w w' ∧ w'.cell? ⟨b, off + 1, none⟩ = some (.int .i64 3) := by
  have hsum : ∀ r, sumK ([kEl w.heap.size 1, kEl (w.heap.size + 1) 2].map pr) r = if [kd] = r then 3 else 0 := fun r => by
    simp only [List.map_cons, List.map_nil, sumK_cons, sumK_nil, pr, kEl]
    split <;> rfl
  have ht := tidyFit (l := [kEl w.heap.size 1, kEl (w.heap.size + 1) 2]) (kCts w) (by show (2 : Nat) ≤ 1000; omega) (fun r => by rw [hsum]; split <;> simp [fitB])
  refine ht.mono fun e w' h => ?_
  obtain ⟨outs, a, c, rfl, f, hl, hc, -⟩ := h
  have hu : outs.map pr = [([kd], (3 : Int))] := Canon.uniq cmpRS hc ⟨List.pairwise_singleton _ _, by simp, fun r => by
    show _ = 1 * sumK ([kEl w.heap.size 1, kEl (w.heap.size + 1) 2].map pr) r
    rw [hsum, sumK_cons, sumK_nil]; split <;> rfl⟩
  have hlen : outs.length = 1 := by have := congrArg List.length hu; simpa using this
  obtain ⟨b, off, rfl, -, h1⟩ := hl.cts.cell (k := 0) (by omega)
  have hn : (nth outs 0).n = 3 := by
    have h2 := congrArg (fun x => x[0]?) hu
    simp only [List.getElem?_map, nth_at (show 0 < outs.length by omega), Option.map_some, List.getElem?_cons_zero, Option.some.injEq, pr, Prod.mk.injEq] at h2
    exact h2.2
  rw [hn] at h1
  rw [hlen]
  exact ⟨b, off, c, rfl, (kFr w).trans f, by simpa using h1⟩

set_option maxRecDepth 100000
theorem known_any (w : World) : Calls Try.prog 20 #[] w fun e w' => e = .returned (.bool true) ∧ Fr [] w w' := by
  have hk := k_tidy w
  unfold kWorld at hk
  go_enter Try.func20, Try.ntmps20
  go_wp2_with (go_at_call 16; refine hk.mono ?_; rintro e w1 ⟨b, off, c, rfl, f1, h1⟩)
  go_ret
  exact ⟨rfl, f1⟩
end Go.Proofs.Ytmionipeoffnhaa
