/- The bound of a narrowed statement (from the guide's UptoLemmas), and a row's length below it. No condition. -/
import Derived.Test.YtpcmibimglkocaaDoorRows
import Derived.Test.YtpcmibimglkocaaDoorArg
namespace Go.Proofs.YtpcmibimglkocaaDoor.bulks

theorem one_le {H : Type} (d : DataW H) : 1 ≤ Rows.uptoBulk d := by
  cases d with
  | lit l => cases l <;> simp [Rows.uptoBulk]
  | nil => simp [Rows.uptoBulk]
  | ptr d => simp [Rows.uptoBulk]
  | slice elems spare => simp [Rows.uptoBulk]
  | agg parts => simp [Rows.uptoBulk]
  | iface t d => simp [Rows.uptoBulk]
  | map entries => simp [Rows.uptoBulk]
  | held h => simp [Rows.uptoBulk]

/-- a part's bulk is at most the whole's -/
theorem part_le {H : Type} {d : DataW H} {l : List (DataW H)} (h : d ∈ l) : Rows.uptoBulk d ≤ Rows.uptoBulkAll l := by
  induction l with
  | nil => cases h
  | cons x r ih =>
    simp only [Rows.uptoBulkAll]
    cases List.mem_cons.1 h with
    | inl e => subst e; omega
    | inr e => have := ih e; omega

theorem append {H : Type} (l r : List (DataW H)) : Rows.uptoBulkAll (l ++ r) = Rows.uptoBulkAll l + Rows.uptoBulkAll r := by
  induction l with
  | nil => simp [Rows.uptoBulkAll]
  | cons x l ih => simp only [List.cons_append, Rows.uptoBulkAll, ih]; omega

/-- so many values at the most -/
theorem length_le {H : Type} (l : List (DataW H)) : l.length ≤ Rows.uptoBulkAll l := by
  induction l with
  | nil => simp [Rows.uptoBulkAll]
  | cons x r ih => have := one_le x; simp only [Rows.uptoBulkAll, List.length_cons]; omega

/-- a slice's places, and what they hold -/
theorem slice_le {H : Type} (elems spare : List (DataW H)) : elems.length + spare.length + 1 ≤ Rows.uptoBulk (.slice elems spare) := by
  have h1 := length_le elems
  have h2 := length_le spare
  simp only [Rows.uptoBulk]
  omega
theorem slice_elems {H : Type} (elems spare : List (DataW H)) : Rows.uptoBulkAll elems + 1 ≤ Rows.uptoBulk (.slice elems spare) := by
  simp only [Rows.uptoBulk]
  omega

/-- a string's letters -/
theorem string_eq {H : Type} (bytes : List UInt8) : Rows.uptoBulk (DataW.lit (H := H) (.string bytes)) = bytes.length + 1 := by
  simp [Rows.uptoBulk]

/-- THE BOUND, as the builder hands it over ('hk') -/
theorem bound {H : Type} {l : List (DataW H)} (hk : Rows.uptoSmall H l = true) : Rows.uptoBulkAll l ≤ 1048576 := by
  simpa [Rows.uptoSmall] using hk

open Go.ChangeShapes Go.WideShapes Go.RowKit Go.Deep
theorem row_bulk {H : Type} {enc : TypeId × Value → H} {w : World} {base : Nat} {spare : Nat → Bool} {held : Bool} {fuel : Nat} {v : Value} {d : DataW H} {p : List MemPlace} {ds : List Dt}
    (h : DataW.trod enc Tryd.prog w base spare held fuel 23 [v] = some (d, p)) (hr : RowAt w v ds) : ds.length ≤ Rows.uptoBulk d := by
  rcases open_slice_fields Tryd.underlying23 rowStruct rowOne rowCells h with ⟨hv, hx⟩ | ⟨a, len, cap, m, D, Pl, hv, -, -, -, -, hx, -⟩
  · simp only [List.cons.injEq, and_true] at hv
    rcases hr with ⟨a, c, h1, -, h2⟩ | ⟨b, o, c, h1, -, -⟩
    · rw [h2]; simp
    · rw [hv] at h1; cases h1
  · simp only [List.cons.injEq, and_true] at hv
    simp only [Prod.mk.injEq] at hx
    have h3 := slice_le ((List.range len).map D) ((List.range (m - len)).map fun j => D (len + j))
    rw [hx.1]
    rcases hr with ⟨a, c, h1, -, h2⟩ | ⟨b, o, c, h1, -, -⟩
    · rw [h2]; simp
    · rw [hv] at h1
      simp only [Value.slice.injEq] at h1
      have h4 : ((List.range len).map D).length = len := by simp
      omega

theorem two_le {H : Type} {a b : DataW H} {l : List (DataW H)} (hk : Rows.uptoSmall H ([a, b] ++ l) = true) : Rows.uptoBulk a ≤ 1048576 ∧ Rows.uptoBulk b ≤ 1048576 := by
  have h := bound hk
  simp only [List.cons_append, Rows.uptoBulkAll] at h
  omega
end Go.Proofs.YtpcmibimglkocaaDoor.bulks
