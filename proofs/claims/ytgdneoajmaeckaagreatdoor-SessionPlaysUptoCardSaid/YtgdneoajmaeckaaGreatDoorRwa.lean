/- A row in memory. No condition. -/
import Derived.Test.YtgdneoajmaeckaaGreatDoorOrd
import Derived.Test.YtgdneoajmaeckaaGreatDoorFr
namespace Go.Proofs.YtgdneoajmaeckaaGreatDoor
open Go.RowKit

/-- A slice value that reads as these values. -/
def RowAt (w : World) (v : Value) (ds : List Dt) : Prop :=
  (∃ a c, v = .slice a 0 c ∧ (a = none → c = 0) ∧ ds = []) ∨ ∃ b off c, v = .slice (some ⟨b, off, none⟩) ds.length c ∧ ds.length ≤ c ∧
    ∀ i d, ds[i]? = some d → w.cell? ⟨b, off + i * 3, none⟩ = some (.int .i64 d.kind) ∧ w.cell? ⟨b, off + i * 3 + 1, none⟩ = some (.int .i64 d.i) ∧ w.cell? ⟨b, off + i * 3 + 2, none⟩ = some (.string ⟨d.s.toArray⟩)

theorem RowAt.fr {w w' : World} {v : Value} {ds : List Dt} (h : RowAt w v ds) (f : Fr [] w w') : RowAt w' v ds := by
  rcases h with h | ⟨b, off, c, hv, hc, hd⟩
  · exact Or.inl h
  · refine Or.inr ⟨b, off, c, hv, hc, fun i d hi => ?_⟩
    obtain ⟨h0, h1, h2⟩ := hd i d hi
    exact ⟨f.cell h0 (by simp), f.cell h1 (by simp), f.cell h2 (by simp)⟩

theorem RowAt.shape {w : World} {v : Value} {ds : List Dt} (h : RowAt w v ds) : ∃ a c, v = .slice a ds.length c ∧ ds.length ≤ c := by
  rcases h with ⟨a, c, rfl, -, rfl⟩ | ⟨b, off, c, rfl, hc, -⟩
  · exact ⟨a, c, rfl, by simp⟩
  · exact ⟨some ⟨b, off, none⟩, c, rfl, hc⟩

theorem RowAt.at {w : World} {a : Option Addr} {n c : Nat} {ds : List Dt} (h : RowAt w (.slice a n c) ds) {k : Nat} (hk : k < ds.length) :
    ∃ b off, a = some ⟨b, off, none⟩ ∧ w.cell? ⟨b, off + k * 3, none⟩ = some (.int .i64 ds[k].kind) ∧ w.cell? ⟨b, off + k * 3 + 1, none⟩ = some (.int .i64 ds[k].i) ∧ w.cell? ⟨b, off + k * 3 + 2, none⟩ = some (.string ⟨ds[k].s.toArray⟩) := by
  rcases h with ⟨-, -, -, -, rfl⟩ | ⟨b, off, c', hv, hc, hd⟩
  · simp at hk
  · simp only [Value.slice.injEq] at hv
    exact ⟨b, off, hv.1, hd k ds[k] (List.getElem?_eq_getElem hk)⟩

end Go.Proofs.YtgdneoajmaeckaaGreatDoor
