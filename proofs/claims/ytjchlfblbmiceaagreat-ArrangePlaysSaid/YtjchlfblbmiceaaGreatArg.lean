/- A row that came in: its values, off the form's reading. No condition. -/
import Derived.Test.YtjchlfblbmiceaaGreatRow
import Derived.Deep.Slices
import Derived.Deep.Fields
import Derived.ChangeSame
import Derived.SizedLaws
namespace Go.Proofs.YtjchlfblbmiceaaGreat
open Go.ChangeShapes Go.WideShapes Go.RowKit Go.Deep

section
variable {H : Type} {enc : TypeId × Value → H} {P : Program} {w : World} {base : Nat} {spare : Nat → Bool} {held : Bool}

theorem open_slice_fields {t e : TypeId} {fs : Array Field} {fuel : Nat} {cs : List Value} {x : DataW H × List MemPlace} (ht : P.underlying t = some (.slice e)) (he : P.underlying e = some (.struct fs))
    (hone : oneCellFields P fs = true) (hC : P.cellsOf e = fs.size) (h : DataW.trod enc P w base spare held fuel t cs = some x) :
    (cs = [.slice none 0 0] ∧ x = (.nil, [])) ∨
    ∃ (a : Addr) (len cap m : Nat) (D : Nat → DataW H) (Pl : Nat → List MemPlace), cs = [.slice (some a) len cap] ∧ base ≤ a.block ∧ len ≤ cap ∧ cap ≤ maxLen ∧ m = (if spare a.block then cap else len) ∧
      x = (.slice ((List.range len).map D) ((List.range (m - len)).map fun j => D (len + j)), MemPlace.row a (m * fs.size) ++ (List.range m).flatMap Pl) ∧
      ∀ i, i < m → ∃ (ys : List (DataW H × List MemPlace)) (n : Nat), D i = .agg (ys.map (·.1)) ∧ Pl i = ys.flatMap (·.2) ∧ ys.length = fs.size ∧
        ∀ (j : Nat) (f : Field), fs[j]? = some f → ∃ (v : Value) (y : DataW H × List MemPlace), w.cell? (a.add (i * fs.size + j)) = some v ∧ ys[j]? = some y ∧ DataW.trod enc P w base spare held n f.type [v] = some y := by
  rcases open_slice ht h with h0 | ⟨a, len, cap, m, n, D, Pl, hcs, hb, hl, hm, hmm, hx, hi⟩
  · exact .inl h0
  · refine .inr ⟨a, len, cap, m, D, Pl, hcs, hb, hl, hm, hmm, by rw [hC] at hx; exact hx, fun i him => ?_⟩
    obtain ⟨cs', hc, ht'⟩ := hi i him
    rw [hC] at hc
    obtain ⟨ys, n', hn', hy, hlen, hyl, hf⟩ := DataW.trod_struct he ht'
    obtain ⟨_, hcl, hat⟩ := World.cells?_some hc
    simp only [Prod.mk.injEq] at hy
    refine ⟨ys, n', hy.1, hy.2, hyl, fun j f hj => ?_⟩
    obtain ⟨ho, hk⟩ := hone_of hone j f hj
    have hjl : j < fs.size := (Array.getElem?_eq_some_iff.1 hj).1
    have hcell := hat j hjl
    have hv : cs'[j]? = some (cs'[j]'(by omega)) := List.getElem?_eq_getElem (by omega)
    have h1 := hf j f hj
    rw [ho, hk] at h1
    have hone' : (cs'.drop j).take 1 = [cs'[j]'(by omega)] := by
      rw [List.drop_eq_getElem_cons (by omega)]
      rfl
    rw [hone'] at h1
    have hys : ys[j]? = some (ys[j]'(by omega)) := List.getElem?_eq_getElem (by omega)
    refine ⟨_, _, ?_, hys, h1.trans hys⟩
    rw [← Go.Deep.add_add, hcell, hv]
end

theorem addr_plain {w : World} {a : Addr} {v : Value} (h : w.cell? (a.add 0) = some v) : a = ⟨a.block, a.off, none⟩ := by
  simp only [Addr.add, if_true] at h
  obtain ⟨b, o, sp⟩ := a
  cases sp with
  | none => rfl
  | some x => unfold World.cell? at h; split at h <;> simp at h

theorem cell_add {w : World} {a : Addr} {k : Nat} {v : Value} (h : w.cell? (a.add k) = some v) : w.cell? ⟨a.block, a.off + k, none⟩ = some v := by
  unfold Addr.add at h
  by_cases hk : k = 0
  · subst hk
    simp only [if_true] at h
    obtain ⟨b, o, sp⟩ := a
    cases sp with
    | none => exact h
    | some x => unfold World.cell? at h; split at h <;> simp at h
  · rw [if_neg hk] at h; exact h

theorem wf_i64 {n : Int} (h : (Lit.int .i64 n).wf = true) : fits64 n := by
  have h1 : IntKind.min .i64 = -9223372036854775808 := by decide
  have h2 : IntKind.max .i64 = 9223372036854775807 := by decide
  simp only [Lit.wf, Bool.and_eq_true, decide_eq_true_eq, h1, h2] at h
  exact h

def rowFields : Array Field := #[{ name := "Kind", type := 3, offset := 0, embedded := false, tag := "", pkgPath := "", byteOffset := 0 }, { name := "I", type := 2, offset := 1, embedded := false, tag := "", pkgPath := "", byteOffset := 8 }, { name := "S", type := 9, offset := 2, embedded := false, tag := "", pkgPath := "", byteOffset := 16 }]
theorem rowStruct : Tryz.prog.underlying 94 = some (.struct rowFields) := Tryz.underlying94
theorem rowOne : oneCellFields Tryz.prog rowFields = true := by kernel_rfl
theorem rowCells : Tryz.prog.cellsOf 94 = rowFields.size := by kernel_rfl
theorem rowBytes : Tryz.prog.bytesOf 94 = 32 := by kernel_rfl

section
variable {H : Type} {enc : TypeId × Value → H} {w : World} {base : Nat} {spare : Nat → Bool} {held : Bool}

theorem weightsAll_mem {P : Program} {e : TypeId} {d : DataW H} {l : List (DataW H)} (hd : d ∈ l) : ∀ n ∈ d.weights P e, n ∈ DataW.weightsAll P e l := by
  induction l with
  | nil => cases hd
  | cons x l ih =>
    intro n hn
    simp only [DataW.weightsAll, List.mem_append]
    rcases List.mem_cons.1 hd with rfl | h
    · exact Or.inl hn
    · exact Or.inr (ih h n hn)

/-- What the form's reading of a row gives. -/
theorem row_of_trod {fuel : Nat} {v : Value} {d : DataW H} {p : List MemPlace} (h : DataW.trod enc Tryz.prog w base spare held fuel 52 [v] = some (d, p)) (hw : ∀ n ∈ d.weights Tryz.prog 52, n ≤ reachBytes) :
    ∃ ds : List Dt, RowAt w v ds ∧ (∀ x ∈ ds, DtOk x) ∧ ds.length * 32 ≤ 140737488351232 := by
  have hreach : reachBytes = 140737488351232 := by decide
  rcases open_slice_fields Tryz.underlying52 rowStruct rowOne rowCells h with ⟨hv, hx⟩ | ⟨a, len, cap, m, D, Pl, hv, hb, hl, hm, hmm, hx, hel⟩
  · simp only [List.cons.injEq, and_true] at hv
    exact ⟨[], Or.inl ⟨none, 0, hv, fun _ => rfl, rfl⟩, by simp, by simp⟩
  · simp only [List.cons.injEq, and_true] at hv
    simp only [Prod.mk.injEq] at hx
    have hlm : len ≤ m := by rw [hmm]; split <;> omega
    have hw1 : ∀ n ∈ (DataW.slice ((List.range len).map D) ((List.range (m - len)).map fun j => D (len + j))).weights Tryz.prog 52, n ≤ reachBytes := by rw [← hx.1]; exact hw
    have key : ∀ i, i < len → ∃ e : Dt, w.cell? (a.add (i * 3)) = some (.int .i64 e.kind) ∧ w.cell? (a.add (i * 3 + 1)) = some (.int .i64 e.i) ∧ w.cell? (a.add (i * 3 + 2)) = some (.string ⟨e.s.toArray⟩) ∧ DtOk e := by
      intro i hi
      obtain ⟨ys, n, hD, -, hyl, hf⟩ := hel i (by omega)
      obtain ⟨v0, y0, h0, g0, t0⟩ := hf 0 _ rfl
      obtain ⟨v1, y1, h1, g1, t1⟩ := hf 1 _ rfl
      obtain ⟨v2, y2, h2, g2, t2⟩ := hf 2 _ rfl
      obtain ⟨k, hk, -, -⟩ := DataW.trod_int Tryz.underlying3 t0
      obtain ⟨q, hq, -, hqw⟩ := DataW.trod_int Tryz.underlying2 t1
      obtain ⟨s, hs, hsd, -⟩ := DataW.trod_string Tryz.underlying9 t2
      simp only [List.cons.injEq, and_true] at hk hq hs
      subst hk hq hs
      have hsl : s.data.toList.length ≤ 140737488351232 := by
        rw [← hreach]
        refine hw1 _ ?_
        simp only [DataW.weights, Tryz.underlying52, List.mem_cons, List.mem_append]
        refine Or.inr (Or.inl (weightsAll_mem (d := D i) (List.mem_map_of_mem (List.mem_range.2 hi)) _ ?_))
        rw [hD]
        match ys, hyl, g0, g1, g2 with
        | [z0, z1, z2], _, _, _, g2 =>
          simp only [List.getElem?_cons_succ, List.getElem?_cons_zero, Option.some.injEq] at g2
          subst g2
          simp [DataW.weights, Tryz.underlying94, DataW.weightsEach, hsd]
      exact ⟨⟨k, q, s.data.toList⟩, h0, h1, h2, wf_i64 hqw, hsl⟩
    have hch : ∀ i, ∃ e : Dt, i < len → (w.cell? (a.add (i * 3)) = some (.int .i64 e.kind) ∧ w.cell? (a.add (i * 3 + 1)) = some (.int .i64 e.i) ∧ w.cell? (a.add (i * 3 + 2)) = some (.string ⟨e.s.toArray⟩) ∧ DtOk e) := by
      intro i
      by_cases hi : i < len
      · obtain ⟨e, he⟩ := key i hi
        exact ⟨e, fun _ => he⟩
      · exact ⟨⟨0, 0, []⟩, fun h => absurd h hi⟩
    obtain ⟨f, hf⟩ := Classical.axiomOfChoice hch
    have hlen : len * 32 ≤ 140737488351232 := by
      rw [← hreach, ← rowBytes]
      refine Nat.le_trans ?_ (hw1 (((List.range len).map D).length * Tryz.prog.bytesOf 94 + ((List.range (m - len)).map fun j => D (len + j)).length * Tryz.prog.bytesOf 94) ?_)
      · simp
      · simp only [DataW.weights, Tryz.underlying52, List.mem_cons, Nat.add_mul, true_or]
    refine ⟨(List.range len).map f, ?_, ?_, by simpa using hlen⟩
    · rcases Nat.eq_zero_or_pos len with h0 | h0
      · subst h0
        exact Or.inl ⟨some a, cap, hv, (fun h => by cases h), rfl⟩
      · have ha := addr_plain (by simpa using (hf 0 h0).1)
        refine Or.inr ⟨a.block, a.off, cap, by rw [hv]; simp only [List.length_map, List.length_range]; rw [← ha], by simpa using hl, fun i d hi => ?_⟩
        have hil : i < len := by
          have := (List.getElem?_eq_some_iff.1 hi).1
          simpa using this
        have hd : f i = d := by simpa [hil] using hi
        subst hd
        obtain ⟨e0, e1, e2, -⟩ := hf i hil
        exact ⟨cell_add e0, by have := cell_add e1; rwa [← Nat.add_assoc] at this, by have := cell_add e2; rwa [← Nat.add_assoc] at this⟩
    · intro x hx
      obtain ⟨i, hi, rfl⟩ := List.mem_map.1 hx
      exact (hf i (List.mem_range.1 hi)).2.2.2
end

end Go.Proofs.YtjchlfblbmiceaaGreat
