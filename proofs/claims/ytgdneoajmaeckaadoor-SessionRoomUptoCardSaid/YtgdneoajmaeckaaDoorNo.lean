/- A list of notes that came in. No condition. -/
import Derived.Test.YtgdneoajmaeckaaDoorArg
namespace Go.Proofs.YtgdneoajmaeckaaDoor
open Go.ChangeShapes Go.WideShapes Go.RowKit Go.Deep

/-- A list of notes that came in. -/
def NotesAt (w : World) (v : Value) (l : List Nt) : Prop :=
  ∃ a c, v = .slice a l.length c ∧ (a = none → c = 0) ∧ l.length ≤ c ∧ ∀ k x, l[k]? = some x → ∃ b off, a = some ⟨b, off, none⟩ ∧ w.cell? ⟨b, off + k * 5, none⟩ = some (.int .i64 x.kind) ∧ w.cell? ⟨b, off + k * 5 + 1, none⟩ = some (.int .i64 x.time) ∧
    w.cell? ⟨b, off + k * 5 + 2, none⟩ = some (.int .i64 x.n) ∧ w.cell? ⟨b, off + k * 5 + 3, none⟩ = some x.row ∧ w.cell? ⟨b, off + k * 5 + 4, none⟩ = some (.int .i64 x.code) ∧ x.Ok w
theorem NotesAt.fr {w w' : World} {v : Value} {l : List Nt} (h : NotesAt w v l) (f : Fr [] w w') : NotesAt w' v l := by
  obtain ⟨a, c, h1, h2, h3, h4⟩ := h
  refine ⟨a, c, h1, h2, h3, fun k x hk => ?_⟩
  obtain ⟨b, off, h5, g0, g1, g2, g3, g4, h8⟩ := h4 k x hk
  exact ⟨b, off, h5, f.cell g0 (by simp), f.cell g1 (by simp), f.cell g2 (by simp), f.cell g3 (by simp), f.cell g4 (by simp), h8.fr f⟩
theorem NotesAt.shape {w : World} {v : Value} {l : List Nt} (h : NotesAt w v l) : ∃ a c, v = .slice a l.length c ∧ (a = none → c = 0) ∧ l.length ≤ c := by
  obtain ⟨a, c, h1, h2, h3, -⟩ := h
  exact ⟨a, c, h1, h2, h3⟩
theorem NotesAt.at {w : World} {a : Option Addr} {n c : Nat} {l : List Nt} (h : NotesAt w (.slice a n c) l) {k : Nat} (hk : k < l.length) :
    ∃ b off, a = some ⟨b, off, none⟩ ∧ w.cell? ⟨b, off + k * 5, none⟩ = some (.int .i64 l[k].kind) ∧ w.cell? ⟨b, off + k * 5 + 1, none⟩ = some (.int .i64 l[k].time) ∧
    w.cell? ⟨b, off + k * 5 + 2, none⟩ = some (.int .i64 l[k].n) ∧ w.cell? ⟨b, off + k * 5 + 3, none⟩ = some l[k].row ∧ w.cell? ⟨b, off + k * 5 + 4, none⟩ = some (.int .i64 l[k].code) ∧ l[k].Ok w := by
  obtain ⟨a', c', h1, -, -, h4⟩ := h
  simp only [Value.slice.injEq] at h1
  obtain ⟨rfl, -, -⟩ := h1
  exact h4 k _ (List.getElem?_eq_getElem hk)

section
variable {H : Type} {enc : TypeId × Value → H} {w : World} {base : Nat} {spare : Nat → Bool} {held : Bool}
theorem notes_of_trod {fuel : Nat} {v : Value} {y : DataW H × List MemPlace} (h : DataW.trod enc Tryd.prog w base spare held fuel 52 [v] = some y) (hb : Rows.uptoBulk y.1 ≤ 1048576) : ∃ l : List Nt, NotesAt w v l := by
  rcases slice_of_trod Tryd.underlying52 noteF noteO noteC h with hv | ⟨a, len, cap, D, s, hv, hl, hx, hel⟩
  · simp only [List.cons.injEq, and_true] at hv
    exact ⟨[], none, 0, hv, fun _ => rfl, Nat.le_refl _, by simp⟩
  · simp only [List.cons.injEq, and_true] at hv
    rw [hx] at hb
    have key : ∀ i, i < len → ∃ e : Nt, w.cell? (a.add (i * 5)) = some (.int .i64 e.kind) ∧ w.cell? (a.add (i * 5 + 1)) = some (.int .i64 e.time) ∧ w.cell? (a.add (i * 5 + 2)) = some (.int .i64 e.n) ∧ w.cell? (a.add (i * 5 + 3)) = some e.row ∧ w.cell? (a.add (i * 5 + 4)) = some (.int .i64 e.code) ∧ e.Ok w := by
      intro i hi
      obtain ⟨parts, n, hD, hf⟩ := hel i hi
      have hbi : Rows.uptoBulk (D i) ≤ 1048576 := Nat.le_trans (bulk_elem (List.mem_map_of_mem (List.mem_range.2 hi))) hb
      rw [hD] at hbi
      rw [noteZ] at hf
      obtain ⟨v0, y0, h0, -, t0⟩ := hf 0 3 (by kernel_rfl)
      obtain ⟨v1, y1, h1, -, t1⟩ := hf 1 2 (by kernel_rfl)
      obtain ⟨v2, y2, h2, -, t2⟩ := hf 2 2 (by kernel_rfl)
      obtain ⟨v3, y3, h3, g3, t3⟩ := hf 3 38 (by kernel_rfl)
      obtain ⟨v4, y4, h4, -, t4⟩ := hf 4 24 (by kernel_rfl)
      obtain ⟨k0, rfl, f0⟩ := int_of Tryd.underlying3 t0
      obtain ⟨k1, rfl, f1⟩ := int_of Tryd.underlying2 t1
      obtain ⟨k2, rfl, f2⟩ := int_of Tryd.underlying2 t2
      obtain ⟨ds, hr, hd, hn⟩ := row_of_trod t3 (Nat.le_trans (bulk_agg g3) hbi)
      obtain ⟨k4, rfl, f4⟩ := int_of Tryd.underlying24 t4
      exact ⟨⟨k0, k1, k2, v3, ds, k4⟩, h0, h1, h2, h3, h4, f0, f1, f2, f4, hr, hd, hn⟩
    have hch : ∀ i, ∃ e : Nt, i < len → (w.cell? (a.add (i * 5)) = some (.int .i64 e.kind) ∧ w.cell? (a.add (i * 5 + 1)) = some (.int .i64 e.time) ∧ w.cell? (a.add (i * 5 + 2)) = some (.int .i64 e.n) ∧ w.cell? (a.add (i * 5 + 3)) = some e.row ∧ w.cell? (a.add (i * 5 + 4)) = some (.int .i64 e.code) ∧ e.Ok w) := by
      intro i
      by_cases hi : i < len
      · obtain ⟨e, he⟩ := key i hi
        exact ⟨e, fun _ => he⟩
      · exact ⟨⟨0, 0, 0, .bool true, [], 0⟩, fun h => absurd h hi⟩
    obtain ⟨f, hf⟩ := Classical.axiomOfChoice hch
    refine ⟨(List.range len).map f, some a, cap, by rw [hv]; simp, (fun h => by cases h), by simpa using hl, fun i d hi => ?_⟩
    have hil : i < len := by
      have := (List.getElem?_eq_some_iff.1 hi).1
      simpa using this
    have hd : f i = d := by simpa [hil] using hi
    subst hd
    have ha := addr_plain (by simpa using (hf 0 (by omega)).1)
    obtain ⟨e0, e1, e2, e3, e4, e5⟩ := hf i hil
    exact ⟨a.block, a.off, by rw [← ha], cell_add e0, by have := cell_add e1; rwa [← Nat.add_assoc] at this, by have := cell_add e2; rwa [← Nat.add_assoc] at this, by have := cell_add e3; rwa [← Nat.add_assoc] at this, by have := cell_add e4; rwa [← Nat.add_assoc] at this, e5⟩
end
end Go.Proofs.YtgdneoajmaeckaaDoor
