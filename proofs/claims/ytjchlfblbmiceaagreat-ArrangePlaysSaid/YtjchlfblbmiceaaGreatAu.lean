/- Lists of numbers and of calls that came in: their elements, off the form's reading. No condition. -/
import Derived.Test.YtjchlfblbmiceaaGreatMb
import Derived.Test.YtjchlfblbmiceaaGreatCu
namespace Go.Proofs.YtjchlfblbmiceaaGreat
open Go.ChangeShapes Go.WideShapes Go.RowKit Go.Deep

def opFields : Array Field := #[{ name := "Kind", type := 3, offset := 0, embedded := false, tag := "", pkgPath := "", byteOffset := 0 }, { name := "On", type := 3, offset := 1, embedded := false, tag := "", pkgPath := "", byteOffset := 8 }, { name := "Fuel", type := 3, offset := 2, embedded := false, tag := "", pkgPath := "", byteOffset := 16 }, { name := "Upper", type := 2, offset := 3, embedded := false, tag := "", pkgPath := "", byteOffset := 24 }, { name := "Time", type := 2, offset := 4, embedded := false, tag := "", pkgPath := "", byteOffset := 32 }, { name := "Key", type := 52, offset := 5, embedded := false, tag := "", pkgPath := "", byteOffset := 40 }, { name := "L", type := 27, offset := 6, embedded := false, tag := "", pkgPath := "", byteOffset := 64 }]
theorem opStruct : Tryz.prog.underlying 54 = some (.struct opFields) := Tryz.underlying54
theorem opOne : oneCellFields Tryz.prog opFields = true := by kernel_rfl
theorem opCells : Tryz.prog.cellsOf 54 = opFields.size := by kernel_rfl
theorem opBytes : Tryz.prog.bytesOf 54 = 88 := by kernel_rfl
theorem intBytes : Tryz.prog.bytesOf 3 = 8 := by kernel_rfl
theorem intCells : Tryz.prog.cellsOf 3 = 1 := by kernel_rfl

section
variable {H : Type} {enc : TypeId × Value → H} {w : World} {base : Nat} {spare : Nat → Bool} {held : Bool}

/-- What the form's reading of a list of numbers gives. -/
theorem ints_of_trod {fuel len cap : Nat} {ad : Option Addr} {d : DataW H} {p : List MemPlace} (h : DataW.trod enc Tryz.prog w base spare held fuel 22 [.slice ad len cap] = some (d, p)) (hw : ∀ n ∈ d.weights Tryz.prog 22, n ≤ reachBytes) :
    ∃ l : List Int, l.length = len ∧ Src w 1 (.slice ad l.length cap) l.length (kiC l) ∧ l.length ≤ cap ∧ (ad = none → cap = 0) ∧ l.length ≤ 17592186043904 ∧ ∀ x ∈ l, -9223372036854775808 ≤ x ∧ x ≤ 9223372036854775807 := by
  have hreach : reachBytes = 140737488351232 := by decide
  rcases open_ints Tryz.underlying22 Tryz.underlying3 intCells h with ⟨hv, hx⟩ | ⟨a, len2, cap2, zs, hv, hb, hl, hm, hmm, hx, hel, hwf⟩
  · simp only [List.cons.injEq, and_true, Value.slice.injEq] at hv
    obtain ⟨rfl, rfl, rfl⟩ := hv
    exact ⟨[], rfl, ⟨rfl, by simp [kiC], Or.inl ⟨rfl, rfl⟩⟩, by simp, fun _ => rfl, by simp, by simp⟩
  · simp only [List.cons.injEq, and_true, Value.slice.injEq] at hv
    obtain ⟨rfl, rfl, rfl⟩ := hv
    simp only [Prod.mk.injEq] at hx
    have hlz : len ≤ zs.length := by rw [hmm]; split <;> omega
    have hll : (zs.take len).length = len := by rw [List.length_take]; omega
    have hlen : len * 8 ≤ 140737488351232 := by
      rw [← hreach, ← intBytes]
      rw [hx.1] at hw
      refine Nat.le_trans ?_ (hw ((lits (H := H) .i64 (zs.take len)).length * Tryz.prog.bytesOf 3 + (lits (H := H) .i64 (zs.drop len)).length * Tryz.prog.bytesOf 3) ?_)
      · have : (lits (H := H) .i64 (zs.take len)).length = len := by simp [lits, hlz]
        rw [this]; omega
      · simp only [DataW.weights, Tryz.underlying22, List.mem_cons, Nat.add_mul, true_or]
    refine ⟨zs.take len, hll, ⟨by rw [kiC_len, Nat.mul_one], kiC_one _, Or.inr ⟨a, cap, rfl, fun j u hj => ?_⟩⟩, by rw [hll]; exact hl, (fun h => by cases h), by rw [hll]; omega, fun x hx => ?_⟩
    · have hjl : j < len := by
        have := (List.getElem?_eq_some_iff.1 hj).1
        rw [kiC_len, hll] at this
        exact this
      rw [hel j (by omega)]
      unfold kiC at hj
      rw [List.getElem?_map, List.getElem?_take_of_lt hjl, List.getElem?_eq_getElem (by omega)] at hj
      rw [List.getD_eq_getElem?_getD, List.getElem?_eq_getElem (by omega)]
      exact hj
    · exact wf_i64 (hwf x (List.mem_of_mem_take hx))

theorem weights_slice {es rest : List (DataW H)} {t e : TypeId} (ht : Tryz.prog.underlying t = some (.slice e)) {x : DataW H} (hx : x ∈ es) {n : Nat} (hn : n ∈ x.weights Tryz.prog e) : n ∈ (DataW.slice es rest).weights Tryz.prog t := by
  simp only [DataW.weights, ht, List.mem_cons, List.mem_append]
  exact Or.inr (Or.inl (weightsAll_mem (d := x) hx _ hn))

theorem updates_shape {fuel : Nat} {v : Value} {x : DataW H × List MemPlace} (h : DataW.trod enc Tryz.prog w base spare held fuel 27 [v] = some x) : ∃ a n c, v = .slice a n c := by
  rcases open_slice_fields Tryz.underlying27 updateStruct updateOne updateCells h with ⟨hv, -⟩ | ⟨a, len2, cap2, m, D, Pl, hv, -⟩
  · simp only [List.cons.injEq, and_true] at hv; exact ⟨_, _, _, hv⟩
  · simp only [List.cons.injEq, and_true] at hv; exact ⟨_, _, _, hv⟩
set_option maxRecDepth 100000 in
/-- What the form's reading of a list of calls gives. -/
theorem ops_of_trod {fuel len cap : Nat} {ad : Option Addr} {d : DataW H} {p : List MemPlace} (h : DataW.trod enc Tryz.prog w base spare held fuel 23 [.slice ad len cap] = some (d, p)) (hw : ∀ n ∈ d.weights Tryz.prog 23, n ≤ reachBytes) :
    ∃ l : List OpE, l.length = len ∧ OpsAt w (.slice ad l.length cap) l ∧ l.length ≤ cap ∧ (ad = none → cap = 0) := by
  have hreach : reachBytes = 140737488351232 := by decide
  rcases open_slice_fields Tryz.underlying23 opStruct opOne opCells h with ⟨hv, hx⟩ | ⟨a, len2, cap2, m, D, Pl, hv, hb, hl, hm, hmm, hx, hel⟩
  · simp only [List.cons.injEq, and_true, Value.slice.injEq] at hv
    obtain ⟨rfl, rfl, rfl⟩ := hv
    exact ⟨[], rfl, ⟨⟨rfl, by simp [opsC], Or.inl ⟨rfl, rfl⟩⟩, by simp⟩, by simp, fun _ => rfl⟩
  · simp only [List.cons.injEq, and_true, Value.slice.injEq] at hv
    obtain ⟨rfl, rfl, rfl⟩ := hv
    simp only [Prod.mk.injEq] at hx
    have hlm : len ≤ m := by rw [hmm]; split <;> omega
    have hw1 : ∀ n ∈ (DataW.slice ((List.range len).map D) ((List.range (m - len)).map fun j => D (len + j))).weights Tryz.prog 23, n ≤ reachBytes := by rw [← hx.1]; exact hw
    have key : ∀ i, i < len → ∃ o : OpE, (∀ j u, o.cells[j]? = some u → w.cell? (a.add (i * 7 + j)) = some u) ∧ OpIn w o := by
      intro i hi
      obtain ⟨ys, n, hD, -, hyl, hf⟩ := hel i (by omega)
      obtain ⟨v0, y0, h0, g0, t0⟩ := hf 0 _ rfl
      obtain ⟨v1, y1, h1, g1, t1⟩ := hf 1 _ rfl
      obtain ⟨v2, y2, h2, g2, t2⟩ := hf 2 _ rfl
      obtain ⟨v3, y3, h3, g3, t3⟩ := hf 3 _ rfl
      obtain ⟨v4, y4, h4, g4, t4⟩ := hf 4 _ rfl
      obtain ⟨v5, y5, h5, g5, t5⟩ := hf 5 _ rfl
      obtain ⟨v6, y6, h6, g6, t6⟩ := hf 6 _ rfl
      obtain ⟨q0, e0, -, -⟩ := DataW.trod_int Tryz.underlying3 t0
      obtain ⟨q1, e1, -, -⟩ := DataW.trod_int Tryz.underlying3 t1
      obtain ⟨q2, e2, -, -⟩ := DataW.trod_int Tryz.underlying3 t2
      obtain ⟨q3, e3, -, w3⟩ := DataW.trod_int Tryz.underlying2 t3
      obtain ⟨q4, e4, -, w4⟩ := DataW.trod_int Tryz.underlying2 t4
      simp only [List.cons.injEq, and_true] at e0 e1 e2 e3 e4
      subst e0 e1 e2 e3 e4
      have hmem : D i ∈ (List.range len).map D := List.mem_map_of_mem (List.mem_range.2 hi)
      have hsub : ∀ n ∈ (D i).weights Tryz.prog 54, n ≤ reachBytes := fun n hn => hw1 n (weights_slice Tryz.underlying23 hmem hn)
      rw [hD] at hsub
      match ys, hyl, g5, g6 with
      | [z0, z1, z2, z3, z4, z5, z6], _, g5, g6 =>
        simp only [List.getElem?_cons_succ, List.getElem?_cons_zero, Option.some.injEq] at g5 g6
        subst g5
        subst g6
        simp only [List.map_cons, List.map_nil, DataW.weights, Tryz.underlying54, DataW.weightsEach, List.mem_append] at hsub
        have hwr : ∀ n ∈ z5.1.weights Tryz.prog 52, n ≤ reachBytes := fun n hn => hsub n (by simp [hn])
        have hwu : ∀ n ∈ z6.1.weights Tryz.prog 27, n ≤ reachBytes := fun n hn => hsub n (by simp [hn])
        obtain ⟨ds, hr, -, hdl⟩ := row_of_trod (v := v5) (d := z5.1) (p := z5.2) t5 hwr
        obtain ⟨ra, rc, rfl, hrc⟩ := hr.shape
        rcases updates_shape t6 with ⟨la, ln, lc, rfl⟩
        obtain ⟨ul, hul, hu, hulc, hun, -, hulen⟩ := updates_of_trod t6 hwu
        refine ⟨⟨q0, q1, q2, q3, q4, ra, rc, ds, la, lc, ul⟩, ?_, ⟨hr, hrc, by show ds.length ≤ _; omega, hu, by show ul.length ≤ _; omega, wf_i64 w3, wf_i64 w4⟩⟩
        intro j u hj
        match j, hj with
        | 0, hj => cases hj; exact h0
        | 1, hj => cases hj; exact h1
        | 2, hj => cases hj; exact h2
        | 3, hj => cases hj; exact h3
        | 4, hj => cases hj; exact h4
        | 5, hj => cases hj; exact h5
        | 6, hj => cases hj; rw [hul]; exact h6
        | j + 7, hj => simp [OpE.cells] at hj
    have hch : ∀ i, ∃ o : OpE, i < len → ((∀ j u, o.cells[j]? = some u → w.cell? (a.add (i * 7 + j)) = some u) ∧ OpIn w o) := by
      intro i
      by_cases hi : i < len
      · obtain ⟨o, ho⟩ := key i hi
        exact ⟨o, fun _ => ho⟩
      · exact ⟨default, fun h => absurd h hi⟩
    obtain ⟨f, hf⟩ := Classical.axiomOfChoice hch
    have hll : ((List.range len).map f).length = len := by simp
    refine ⟨(List.range len).map f, hll, ⟨⟨opsC_len _, opsC_one _, Or.inr ⟨a, cap, by rw [hll], fun j u hj => ?_⟩⟩, fun o ho => ?_⟩, by rw [hll]; exact hl, fun h => by cases h⟩
    · obtain ⟨i, o, m2, hi, hu, rfl⟩ := opsC_of _ j u hj
      have hil : i < len := by
        have := (List.getElem?_eq_some_iff.1 hi).1
        simpa using this
      have hd : f i = o := by simpa [hil] using hi
      subst hd
      exact (hf i hil).1 m2 u hu
    · obtain ⟨i, hi, rfl⟩ := List.mem_map.1 ho
      exact (hf i (List.mem_range.1 hi)).2
end
end Go.Proofs.YtjchlfblbmiceaaGreat
