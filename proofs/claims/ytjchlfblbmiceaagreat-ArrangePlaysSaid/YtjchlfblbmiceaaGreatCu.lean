/- A list of updates that came in: its elements, off the form's reading. No condition. -/
import Derived.Test.YtjchlfblbmiceaaGreatWc
import Derived.Test.YtjchlfblbmiceaaGreatArg
import Derived.OpenShut
namespace Go.Proofs.YtjchlfblbmiceaaGreat
open Go.ChangeShapes Go.WideShapes Go.RowKit Go.Deep

def updateFields : Array Field := #[{ name := "Row", type := 52, offset := 0, embedded := false, tag := "", pkgPath := "", byteOffset := 0 }, { name := "Time", type := 2, offset := 1, embedded := false, tag := "", pkgPath := "", byteOffset := 24 }, { name := "Diff", type := 2, offset := 2, embedded := false, tag := "", pkgPath := "", byteOffset := 32 }]
theorem updateStruct : Tryz.prog.underlying 65 = some (.struct updateFields) := Tryz.underlying65
theorem updateOne : oneCellFields Tryz.prog updateFields = true := by kernel_rfl
theorem updateCells : Tryz.prog.cellsOf 65 = updateFields.size := by kernel_rfl
theorem updateBytes : Tryz.prog.bytesOf 65 = 40 := by kernel_rfl

section
variable {H : Type} {enc : TypeId × Value → H} {w : World} {base : Nat} {spare : Nat → Bool} {held : Bool}

/-- What the form's reading of a list of updates gives. -/
theorem updates_of_trod {fuel len cap : Nat} {ad : Option Addr} {d : DataW H} {p : List MemPlace} (h : DataW.trod enc Tryz.prog w base spare held fuel 27 [.slice ad len cap] = some (d, p)) (hw : ∀ n ∈ d.weights Tryz.prog 27, n ≤ reachBytes) :
    ∃ l : List upd.El, l.length = len ∧ upd.Cts w (.slice ad l.length cap) l ∧ l.length ≤ cap ∧ (ad = none → cap = 0) ∧ cap ≤ 9223372036854775807 ∧ l.length ≤ 3518437208881 := by
  have hreach : reachBytes = 140737488351232 := by decide
  rcases open_slice_fields Tryz.underlying27 updateStruct updateOne updateCells h with ⟨hv, hx⟩ | ⟨a, len2, cap2, m, D, Pl, hv, hb, hl, hm, hmm, hx, hel⟩
  · simp only [List.cons.injEq, and_true, Value.slice.injEq] at hv
    obtain ⟨rfl, rfl, rfl⟩ := hv
    exact ⟨[], rfl, ⟨⟨upd.elsC_len _, upd.elsC_one _, Or.inl ⟨rfl, rfl⟩⟩, by simp⟩, by simp, fun _ => rfl, by omega, by simp⟩
  · simp only [List.cons.injEq, and_true, Value.slice.injEq] at hv
    obtain ⟨rfl, rfl, rfl⟩ := hv
    simp only [Prod.mk.injEq] at hx
    have hlm : len ≤ m := by rw [hmm]; split <;> omega
    have hw1 : ∀ n ∈ (DataW.slice ((List.range len).map D) ((List.range (m - len)).map fun j => D (len + j))).weights Tryz.prog 27, n ≤ reachBytes := by rw [← hx.1]; exact hw
    have key : ∀ i, i < len → ∃ e : upd.El, w.cell? (a.add (i * 3)) = some (.slice e.ra e.rl e.rc) ∧ w.cell? (a.add (i * 3 + 1)) = some (.int .i64 e.t) ∧ w.cell? (a.add (i * 3 + 2)) = some (.int .i64 e.n) ∧ RowAt w e.rv e.rd ∧ upd.ElOk e := by
      intro i hi
      obtain ⟨ys, n, hD, -, hyl, hf⟩ := hel i (by omega)
      obtain ⟨v0, y0, h0, g0, t0⟩ := hf 0 _ rfl
      obtain ⟨v1, y1, h1, g1, t1⟩ := hf 1 _ rfl
      obtain ⟨q, hq, -, hqw⟩ := DataW.trod_int Tryz.underlying2 t1
      simp only [List.cons.injEq, and_true] at hq
      subst hq
      obtain ⟨v2, y2, h2, g2, t2⟩ := hf 2 _ rfl
      obtain ⟨q2, hq2, -, hqw2⟩ := DataW.trod_int Tryz.underlying2 t2
      simp only [List.cons.injEq, and_true] at hq2
      subst hq2
      have hwr : ∀ n ∈ y0.1.weights Tryz.prog 52, n ≤ reachBytes := fun n hn => by
        refine hw1 n ?_
        simp only [DataW.weights, Tryz.underlying27, List.mem_cons, List.mem_append]
        refine Or.inr (Or.inl (weightsAll_mem (d := D i) (List.mem_map_of_mem (List.mem_range.2 hi)) _ ?_))
        rw [hD]
        match ys, hyl, g0 with
        | [z0, z1, z2], _, g0 =>
          simp only [List.getElem?_cons_zero, Option.some.injEq] at g0
          subst g0
          simp only [List.map_cons, List.map_nil, DataW.weights, Tryz.underlying65, DataW.weightsEach, List.mem_append]
          exact Or.inl hn
      obtain ⟨ds, hr, -, hdl⟩ := row_of_trod (v := v0) (d := y0.1) (p := y0.2) t0 hwr
      obtain ⟨ra, rc, rfl, -⟩ := hr.shape
      have hq3 := wf_i64 hqw
      have hq4 := wf_i64 hqw2
      exact ⟨⟨ra, ds.length, rc, q, q2, ds⟩, h0, h1, h2, hr, ⟨by show ds.length ≤ _; omega, hq3, hq4⟩⟩
    have hch : ∀ i, ∃ e : upd.El, i < len → (w.cell? (a.add (i * 3)) = some (.slice e.ra e.rl e.rc) ∧ w.cell? (a.add (i * 3 + 1)) = some (.int .i64 e.t) ∧ w.cell? (a.add (i * 3 + 2)) = some (.int .i64 e.n) ∧ RowAt w e.rv e.rd ∧ upd.ElOk e) := by
      intro i
      by_cases hi : i < len
      · obtain ⟨e, he⟩ := key i hi
        exact ⟨e, fun _ => he⟩
      · exact ⟨default, fun h => absurd h hi⟩
    obtain ⟨f, hf⟩ := Classical.axiomOfChoice hch
    have hlen : len * 40 ≤ 140737488351232 := by
      rw [← hreach, ← updateBytes]
      refine Nat.le_trans ?_ (hw1 (((List.range len).map D).length * Tryz.prog.bytesOf 65 + ((List.range (m - len)).map fun j => D (len + j)).length * Tryz.prog.bytesOf 65) ?_)
      · simp
      · simp only [DataW.weights, Tryz.underlying27, List.mem_cons, Nat.add_mul, true_or]
    have hll : ((List.range len).map f).length = len := by simp
    refine ⟨(List.range len).map f, hll, ⟨⟨upd.elsC_len _, upd.elsC_one _, Or.inr ⟨a, cap, rfl, fun j u hj => ?_⟩⟩, fun e he => ?_⟩, by rw [hll]; exact hl, (fun h => by cases h), hm, by rw [hll]; omega⟩
    · obtain ⟨i, d, hi, hu⟩ := upd.elsC_of _ j u hj
      have hil : i < len := by
        have := (List.getElem?_eq_some_iff.1 hi).1
        simpa using this
      have hd : f i = d := by simpa [hil] using hi
      subst hd
      obtain ⟨e0, e1, e2, -, -⟩ := hf i hil
      rcases hu with ⟨rfl, rfl⟩ | ⟨rfl, rfl⟩ | ⟨rfl, rfl⟩
      · exact e0
      · exact e1
      · exact e2
    · obtain ⟨i, hi, rfl⟩ := List.mem_map.1 he
      exact (hf i (List.mem_range.1 hi)).2.2.2
end
end Go.Proofs.YtjchlfblbmiceaaGreat
