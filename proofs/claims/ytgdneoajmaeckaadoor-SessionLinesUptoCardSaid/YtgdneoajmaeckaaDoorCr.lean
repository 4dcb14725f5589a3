/- Rows as cells. No condition. -/
import Derived.Test.YtgdneoajmaeckaaDoorRwa
import Derived.Test.YtgdneoajmaeckaaDoorMm
namespace Go.Proofs.YtgdneoajmaeckaaDoor
open Go.RowKit

def Dt.cells (d : Dt) : List Value := [.int .i64 d.kind, .int .i64 d.i, .string ⟨d.s.toArray⟩]
def dtsC (l : List Dt) : List Value := l.flatMap Dt.cells
theorem dtsC_one (l : List Dt) : ∀ u ∈ dtsC l, u.oneCell' = true := by
  intro u hu
  simp only [dtsC, List.mem_flatMap, Dt.cells] at hu
  obtain ⟨d, -, hd⟩ := hu
  simp at hd
  rcases hd with rfl | rfl | rfl <;> rfl
theorem dtsC_len (l : List Dt) : (dtsC l).length = l.length * 3 := by
  induction l with
  | nil => rfl
  | cons d l ih => simp only [dtsC, List.flatMap_cons, List.length_append, List.length_cons] at ih ⊢; rw [ih]; simp [Dt.cells]; omega
theorem dtsC_one' (d : Dt) : ∀ u ∈ d.cells, u.oneCell' = true := by
  intro u hu
  simp [Dt.cells] at hu
  rcases hu with rfl | rfl | rfl <;> rfl
theorem infoD : (Tryd.prog.info? 45).map (fun i => (i.zero, i.size, i.bytes)) = some (some (.agg #[.int .i64 0, .int .i64 0, .string ⟨#[]⟩]), 3, 32) := by kernel_rfl
theorem dtsC_at (ds : List Dt) (i : Nat) (d : Dt) (h : ds[i]? = some d) : (dtsC ds)[i * 3]? = some (.int .i64 d.kind) ∧ (dtsC ds)[i * 3 + 1]? = some (.int .i64 d.i) ∧ (dtsC ds)[i * 3 + 2]? = some (.string ⟨d.s.toArray⟩) := by
  induction ds generalizing i with
  | nil => simp at h
  | cons e ds ih =>
    cases i with
    | zero => simp at h; subst h; simp [dtsC, Dt.cells]
    | succ i =>
      have := ih i (by simpa using h)
      have e1 : (i + 1) * 3 = i * 3 + 3 := by omega
      have hc : dtsC (e :: ds) = [Value.int .i64 e.kind, .int .i64 e.i, .string ⟨e.s.toArray⟩] ++ dtsC ds := rfl
      rw [e1, hc]
      refine ⟨?_, ?_, ?_⟩
      · rw [List.getElem?_append_right (by simp)]; simpa using this.1
      · rw [List.getElem?_append_right (by simp)]; simpa using this.2.1
      · rw [List.getElem?_append_right (by simp)]; simpa using this.2.2
theorem rowAt_own {w : World} {base : Nat} {v : Value} {ds : List Dt} (h : w.ownsRow base 45 3 v ds.length (dtsC ds)) : RowAt w v ds := by
  obtain ⟨h1, h2⟩ := h
  rcases h2 with ⟨rfl, h2⟩ | ⟨g, cap, cur, rfl, hb, hg, hc, hc2, hsz, htk⟩
  · exact Or.inl ⟨_, _, rfl, fun _ => rfl, List.length_eq_zero_iff.1 h2⟩
  · refine Or.inr ⟨g, 0, cap, rfl, hc, fun i d hi => ?_⟩
    obtain ⟨e0, e1, e2⟩ := dtsC_at ds i d hi
    have hlt : i < ds.length := (List.getElem?_eq_some_iff.1 hi).1
    have key : ∀ j u, j < ds.length * 3 → (dtsC ds)[j]? = some u → w.cell? ⟨g, j, none⟩ = some u := by
      intro j u hj hu
      rw [← htk, List.getElem?_take, if_pos hj] at hu
      simp [World.cell?, hg]
      simpa using hu
    simp only [Nat.zero_add]
    exact ⟨key _ _ (by omega) e0, key _ _ (by omega) e1, key _ _ (by omega) e2⟩
theorem dtsC_of : ∀ (ds : List Dt) (j : Nat) (u : Value), (dtsC ds)[j]? = some u → ∃ i d, ds[i]? = some d ∧ ((j = i * 3 ∧ u = .int .i64 d.kind) ∨ (j = i * 3 + 1 ∧ u = .int .i64 d.i) ∨ (j = i * 3 + 2 ∧ u = .string ⟨d.s.toArray⟩))
  | [], j, u, h => by simp [dtsC] at h
  | e :: ds, j, u, h => by
    have hc : dtsC (e :: ds) = [Value.int .i64 e.kind, .int .i64 e.i, .string ⟨e.s.toArray⟩] ++ dtsC ds := rfl
    rw [hc] at h
    match j, h with
    | 0, h => exact ⟨0, e, rfl, Or.inl ⟨rfl, by simpa using h.symm⟩⟩
    | 1, h => exact ⟨0, e, rfl, Or.inr (Or.inl ⟨rfl, by simpa using h.symm⟩)⟩
    | 2, h => exact ⟨0, e, rfl, Or.inr (Or.inr ⟨rfl, by simpa using h.symm⟩)⟩
    | j + 3, h =>
      rw [List.getElem?_append_right (by simp)] at h
      obtain ⟨i, d, hi, hd⟩ := dtsC_of ds j u (by simpa using h)
      refine ⟨i + 1, d, by simpa using hi, ?_⟩
      rcases hd with ⟨h1, h2⟩ | ⟨h1, h2⟩ | ⟨h1, h2⟩
      · exact Or.inl ⟨by omega, h2⟩
      · exact Or.inr (Or.inl ⟨by omega, h2⟩)
      · exact Or.inr (Or.inr ⟨by omega, h2⟩)
theorem src_row {w : World} {v : Value} {ds : List Dt} (h : RowAt w v ds) : Src w 3 v ds.length (dtsC ds) := by
  refine ⟨dtsC_len ds, dtsC_one ds, ?_⟩
  rcases h with ⟨a, c, rfl, hn, rfl⟩ | ⟨b, off, c, rfl, hc, hd⟩
  · cases a with
    | none => rw [hn rfl]; exact Or.inl ⟨rfl, rfl⟩
    | some ad => exact Or.inr ⟨ad, c, rfl, by simp [dtsC]⟩
  · refine Or.inr ⟨⟨b, off, none⟩, c, rfl, fun j u hj => ?_⟩
    have hadd : (⟨b, off, none⟩ : Addr).add j = ⟨b, off + j, none⟩ := by unfold Addr.add; split <;> simp_all
    rw [hadd]
    obtain ⟨i, d, hi, hu⟩ := dtsC_of ds j u hj
    obtain ⟨h0, h1, h2⟩ := hd i d hi
    rcases hu with ⟨rfl, rfl⟩ | ⟨rfl, rfl⟩ | ⟨rfl, rfl⟩
    · exact h0
    · rw [← Nat.add_assoc]; exact h1
    · rw [← Nat.add_assoc]; exact h2

/-- A row in blocks from base on. -/
theorem dtsC_snoc (l : List Dt) (d : Dt) : dtsC (l ++ [d]) = dtsC l ++ d.cells := by simp [dtsC]
theorem cell_three_new (w : World) (a b c : Value) (t : Nat) : ∀ j u, [a, b, c][j]? = some u → (w.alloc (.cells #[a, b, c] t)).cell? ((⟨w.heap.size, 0, none⟩ : Addr).add j) = some u := by
  intro j u hj
  have hadd : (⟨w.heap.size, 0, none⟩ : Addr).add j = ⟨w.heap.size, j, none⟩ := by unfold Addr.add; split <;> simp_all
  rw [hadd]
  exact cell_blk (heap_alloc_new w _) j u (by simpa using hj)
end Go.Proofs.YtgdneoajmaeckaaDoor
