/- Rows, counted rows, replies and notes that came in: off the form's reading, below the bound of a narrowed statement. No condition. -/
import Derived.Test.YtgdneoajmaeckaaGreatDoorRows
import Derived.Test.YtgdneoajmaeckaaGreatDoorAw
import Derived.Test.YtgdneoajmaeckaaGreatDoorSz
namespace Go.Proofs.YtgdneoajmaeckaaGreatDoor
open Go.ChangeShapes Go.WideShapes Go.RowKit Go.Deep

theorem bulk_le {H : Type} {l : List (DataW H)} (hk : Rows.uptoSmall H l = true) : Rows.uptoBulkAll l ≤ 1048576 := by
  simpa [Rows.uptoSmall] using hk
theorem bulk_one {H : Type} (d : DataW H) : 1 ≤ Rows.uptoBulk d := by
  cases d with
  | lit l => cases l <;> simp [Rows.uptoBulk]
  | nil => simp [Rows.uptoBulk]
  | ptr d => simp [Rows.uptoBulk]
  | slice elems spare => simp [Rows.uptoBulk]
  | agg parts => simp [Rows.uptoBulk]
  | iface t d => simp [Rows.uptoBulk]
  | map entries => simp [Rows.uptoBulk]
  | held h => simp [Rows.uptoBulk]
/-- a part's bulk is at most the whole's -/
theorem bulk_in {H : Type} {d : DataW H} {l : List (DataW H)} (h : d ∈ l) : Rows.uptoBulk d ≤ Rows.uptoBulkAll l := by
  induction l with
  | nil => cases h
  | cons x r ih =>
    simp only [Rows.uptoBulkAll]
    cases List.mem_cons.1 h with
    | inl e => subst e; omega
    | inr e => have := ih e; omega
theorem bulk_part {H : Type} {d : DataW H} {l : List (DataW H)} (hB : Rows.uptoBulkAll l ≤ 1048576) (h : d ∈ l) : Rows.uptoBulk d ≤ 1048576 := Nat.le_trans (bulk_in h) hB
theorem bulk_length {H : Type} (l : List (DataW H)) : l.length ≤ Rows.uptoBulkAll l := by
  induction l with
  | nil => simp [Rows.uptoBulkAll]
  | cons x r ih => have := bulk_one x; simp only [Rows.uptoBulkAll, List.length_cons]; omega
theorem bulk_agg {H : Type} {d : DataW H} {l : List (DataW H)} (h : d ∈ l) : Rows.uptoBulk d ≤ Rows.uptoBulk (.agg l) := by
  have := bulk_in h
  simp only [Rows.uptoBulk]
  omega
theorem bulk_elem {H : Type} {d : DataW H} {l s : List (DataW H)} (h : d ∈ l) : Rows.uptoBulk d ≤ Rows.uptoBulk (.slice l s) := by
  have := bulk_in h
  simp only [Rows.uptoBulk]
  omega
theorem bulk_len {H : Type} {l s : List (DataW H)} : l.length ≤ Rows.uptoBulk (.slice l s) := by
  have := bulk_length l
  simp only [Rows.uptoBulk]
  omega
theorem bulk_string {H : Type} (bytes : List UInt8) : bytes.length ≤ Rows.uptoBulk (DataW.lit (H := H) (.string bytes)) := by
  simp [Rows.uptoBulk]

def fieldsOf (P : Program) (t : TypeId) : Array Field := match P.underlying t with
  | some (.struct fs) => fs
  | _ => #[]

section
variable {H : Type} {enc : TypeId × Value → H} {P : Program} {w : World} {base : Nat} {spare : Nat → Bool} {held : Bool}

/-- a struct whose fields are one cell each -/
theorem fields_of_trod {t : TypeId} {fs : Array Field} {fuel : Nat} {cs : List Value} {x : DataW H × List MemPlace} (ht : P.underlying t = some (.struct fs)) (hone : oneCellFields P fs = true) (hC : P.cellsOf t = fs.size)
    (h : DataW.trod enc P w base spare held fuel t cs = some x) :
    ∃ (ys : List (DataW H × List MemPlace)) (n : Nat), x.1 = .agg (ys.map (·.1)) ∧ ys.length = fs.size ∧ cs.length = fs.size ∧
      ∀ (j : Nat) (T : TypeId), (fs[j]?).map (·.type) = some T → ∃ (v : Value) (y : DataW H × List MemPlace), cs[j]? = some v ∧ ys[j]? = some y ∧ y.1 ∈ ys.map (·.1) ∧ DataW.trod enc P w base spare held n T [v] = some y := by
  obtain ⟨ys, n, hn', hy, hlen, hyl, hf⟩ := DataW.trod_struct ht h
  rw [hC] at hlen
  refine ⟨ys, n, by rw [hy], hyl, hlen, fun j T hj => ?_⟩
  obtain ⟨f, hfj, rfl⟩ := Option.map_eq_some_iff.1 hj
  obtain ⟨ho, hk⟩ := hone_of hone j f hfj
  have hjl : j < fs.size := (Array.getElem?_eq_some_iff.1 hfj).1
  have h1 := hf j f hfj
  rw [ho, hk] at h1
  have hone' : (cs.drop j).take 1 = [cs[j]'(by omega)] := by
    rw [List.drop_eq_getElem_cons (by omega)]
    rfl
  rw [hone'] at h1
  have hys : ys[j]? = some (ys[j]'(by omega)) := List.getElem?_eq_getElem (by omega)
  exact ⟨_, _, List.getElem?_eq_getElem (by omega), hys, List.mem_map_of_mem (List.getElem_mem _), h1.trans hys⟩

/-- a slice whose elements are such structs -/
theorem slice_of_trod {t e : TypeId} {fs : Array Field} {fuel : Nat} {cs : List Value} {x : DataW H × List MemPlace} (ht : P.underlying t = some (.slice e)) (he : P.underlying e = some (.struct fs))
    (hone : oneCellFields P fs = true) (hC : P.cellsOf e = fs.size) (h : DataW.trod enc P w base spare held fuel t cs = some x) :
    (cs = [.slice none 0 0]) ∨
    ∃ (a : Addr) (len cap : Nat) (D : Nat → DataW H) (s : List (DataW H)), cs = [.slice (some a) len cap] ∧ len ≤ cap ∧ x.1 = .slice ((List.range len).map D) s ∧
      ∀ i, i < len → ∃ (parts : List (DataW H)) (n : Nat), D i = .agg parts ∧
        ∀ (j : Nat) (T : TypeId), (fs[j]?).map (·.type) = some T → ∃ (v : Value) (y : DataW H × List MemPlace), w.cell? (a.add (i * fs.size + j)) = some v ∧ y.1 ∈ parts ∧ DataW.trod enc P w base spare held n T [v] = some y := by
  rcases open_slice ht h with ⟨h0, -⟩ | ⟨a, len, cap, m, n, D, Pl, hcs, hb, hl, hm, hmm, hx, hi⟩
  · exact .inl h0
  · have hlm : len ≤ m := by rw [hmm]; split <;> omega
    refine .inr ⟨a, len, cap, D, _, hcs, hl, by rw [hx], fun i him => ?_⟩
    obtain ⟨cs', hc, ht'⟩ := hi i (by omega)
    rw [hC] at hc
    obtain ⟨_, hcl, hat⟩ := World.cells?_some hc
    obtain ⟨ys, n', hD, -, -, hf⟩ := fields_of_trod he hone hC ht'
    refine ⟨_, n', hD, fun j T hj => ?_⟩
    obtain ⟨v, y, h1, -, h2, h3⟩ := hf j T hj
    have hjl : j < cs'.length := (List.getElem?_eq_some_iff.1 h1).1
    have hcell := hat j (by omega)
    refine ⟨v, y, ?_, h2, h3⟩
    rw [← Go.Deep.add_add, hcell]
    exact h1
end

theorem rowF : Tryz.prog.underlying 103 = some (.struct (fieldsOf Tryz.prog 103)) := by kernel_rfl
theorem rowO : oneCellFields Tryz.prog (fieldsOf Tryz.prog 103) = true := by kernel_rfl
theorem rowC : Tryz.prog.cellsOf 103 = (fieldsOf Tryz.prog 103).size := by kernel_rfl
theorem rowZ : (fieldsOf Tryz.prog 103).size = 3 := by kernel_rfl
theorem ctF : Tryz.prog.underlying 81 = some (.struct (fieldsOf Tryz.prog 81)) := by kernel_rfl
theorem ctO : oneCellFields Tryz.prog (fieldsOf Tryz.prog 81) = true := by kernel_rfl
theorem ctC : Tryz.prog.cellsOf 81 = (fieldsOf Tryz.prog 81).size := by kernel_rfl
theorem ctZ : (fieldsOf Tryz.prog 81).size = 2 := by kernel_rfl
theorem repF : Tryz.prog.underlying 34 = some (.struct (fieldsOf Tryz.prog 34)) := by kernel_rfl
theorem repO : oneCellFields Tryz.prog (fieldsOf Tryz.prog 34) = true := by kernel_rfl
theorem repC : Tryz.prog.cellsOf 34 = (fieldsOf Tryz.prog 34).size := by kernel_rfl
theorem repZ : (fieldsOf Tryz.prog 34).size = 9 := by kernel_rfl
theorem noteF : Tryz.prog.underlying 38 = some (.struct (fieldsOf Tryz.prog 38)) := by kernel_rfl
theorem noteO : oneCellFields Tryz.prog (fieldsOf Tryz.prog 38) = true := by kernel_rfl
theorem noteC : Tryz.prog.cellsOf 38 = (fieldsOf Tryz.prog 38).size := by kernel_rfl
theorem noteZ : (fieldsOf Tryz.prog 38).size = 5 := by kernel_rfl

section
variable {H : Type} {enc : TypeId × Value → H} {w : World} {base : Nat} {spare : Nat → Bool} {held : Bool}

theorem int_of {T : TypeId} {fuel : Nat} {v : Value} {y : DataW H × List MemPlace} (ht : Tryz.prog.underlying T = some (.int .i64)) (h : DataW.trod enc Tryz.prog w base spare held fuel T [v] = some y) : ∃ k : Int, v = .int .i64 k ∧ fits64 k := by
  obtain ⟨k, hk, -, hw⟩ := DataW.trod_int ht h
  simp only [List.cons.injEq, and_true] at hk
  exact ⟨k, hk, wf_i64 hw⟩
theorem string_of {T : TypeId} {fuel : Nat} {v : Value} {y : DataW H × List MemPlace} (ht : Tryz.prog.underlying T = some .string) (hb : Rows.uptoBulk y.1 ≤ 1048576) (h : DataW.trod enc Tryz.prog w base spare held fuel T [v] = some y) :
    ∃ s : List UInt8, v = .string ⟨s.toArray⟩ ∧ s.length ≤ 1048576 := by
  obtain ⟨s, hs, hd, -⟩ := DataW.trod_string ht h
  simp only [List.cons.injEq, and_true] at hs
  subst hs
  refine ⟨s.data.toList, rfl, Nat.le_trans ?_ hb⟩
  rw [hd]
  exact bulk_string _

/-- What the form's reading of a row gives. -/
theorem row_of_trod {fuel : Nat} {v : Value} {y : DataW H × List MemPlace} (h : DataW.trod enc Tryz.prog w base spare held fuel 36 [v] = some y) (hb : Rows.uptoBulk y.1 ≤ 1048576) :
    ∃ ds : List Dt, RowAt w v ds ∧ (∀ x ∈ ds, DtOk x) ∧ ds.length ≤ 1048576 := by
  rcases slice_of_trod Tryz.underlying36 rowF rowO rowC h with hv | ⟨a, len, cap, D, s, hv, hl, hx, hel⟩
  · simp only [List.cons.injEq, and_true] at hv
    exact ⟨[], Or.inl ⟨none, 0, hv, fun _ => rfl, rfl⟩, by simp, by simp⟩
  · simp only [List.cons.injEq, and_true] at hv
    rw [hx] at hb
    have hlen : len ≤ 1048576 := by
      have := Nat.le_trans (bulk_len (l := (List.range len).map D) (s := s)) hb
      simpa using this
    have key : ∀ i, i < len → ∃ e : Dt, w.cell? (a.add (i * 3)) = some (.int .i64 e.kind) ∧ w.cell? (a.add (i * 3 + 1)) = some (.int .i64 e.i) ∧ w.cell? (a.add (i * 3 + 2)) = some (.string ⟨e.s.toArray⟩) ∧ DtOk e := by
      intro i hi
      obtain ⟨parts, n, hD, hf⟩ := hel i hi
      have hbi : Rows.uptoBulk (D i) ≤ 1048576 := Nat.le_trans (bulk_elem (List.mem_map_of_mem (List.mem_range.2 hi))) hb
      rw [hD] at hbi
      rw [rowZ] at hf
      obtain ⟨v0, y0, h0, -, t0⟩ := hf 0 3 (by kernel_rfl)
      obtain ⟨v1, y1, h1, -, t1⟩ := hf 1 2 (by kernel_rfl)
      obtain ⟨v2, y2, h2, g2, t2⟩ := hf 2 9 (by kernel_rfl)
      obtain ⟨k, rfl, -⟩ := int_of Tryz.underlying3 t0
      obtain ⟨q, rfl, hq⟩ := int_of Tryz.underlying2 t1
      obtain ⟨s, rfl, hs⟩ := string_of Tryz.underlying9 (Nat.le_trans (bulk_agg g2) hbi) t2
      exact ⟨⟨k, q, s⟩, h0, h1, h2, hq, by simp only; omega⟩
    have hch : ∀ i, ∃ e : Dt, i < len → (w.cell? (a.add (i * 3)) = some (.int .i64 e.kind) ∧ w.cell? (a.add (i * 3 + 1)) = some (.int .i64 e.i) ∧ w.cell? (a.add (i * 3 + 2)) = some (.string ⟨e.s.toArray⟩) ∧ DtOk e) := by
      intro i
      by_cases hi : i < len
      · obtain ⟨e, he⟩ := key i hi
        exact ⟨e, fun _ => he⟩
      · exact ⟨⟨0, 0, []⟩, fun h => absurd h hi⟩
    obtain ⟨f, hf⟩ := Classical.axiomOfChoice hch
    refine ⟨(List.range len).map f, ?_, ?_, by simpa using hlen⟩
    · rcases Nat.eq_zero_or_pos len with h0 | h0
      · subst h0
        exact Or.inl ⟨some a, cap, hv, (fun h => by cases h), rfl⟩
      · have ha := addr_plain (by simpa using (hf 0 h0).1)
        refine Or.inr ⟨a.block, a.off, cap, by rw [hv]; simp only [List.length_map, List.length_range]; rw [← ha], by simpa using hl, fun i d hi => ?_⟩
        have hil : i < len := by
          have := (List.getElem?_eq_some_iff.1 hi).1
          simpa using this
        have hd : f i = d := by simpa [hil] using hi
        subst hd
        obtain ⟨e0, e1, e2, -⟩ := hf i hil
        exact ⟨cell_add e0, by have := cell_add e1; rwa [← Nat.add_assoc] at this, by have := cell_add e2; rwa [← Nat.add_assoc] at this⟩
    · intro x hx
      obtain ⟨i, hi, rfl⟩ := List.mem_map.1 hx
      exact (hf i (List.mem_range.1 hi)).2.2.2

/-- What the form's reading of a list of counted rows gives. -/
theorem cts_of_trod {fuel : Nat} {v : Value} {y : DataW H × List MemPlace} (h : DataW.trod enc Tryz.prog w base spare held fuel 32 [v] = some y) (hb : Rows.uptoBulk y.1 ≤ 1048576) : ∃ l : List Ct, CtsAt w v l := by
  rcases slice_of_trod Tryz.underlying32 ctF ctO ctC h with hv | ⟨a, len, cap, D, s, hv, hl, hx, hel⟩
  · simp only [List.cons.injEq, and_true] at hv
    exact ⟨[], none, 0, hv, fun _ => rfl, Nat.le_refl _, by simp⟩
  · simp only [List.cons.injEq, and_true] at hv
    rw [hx] at hb
    have key : ∀ i, i < len → ∃ e : Ct, w.cell? (a.add (i * 2)) = some e.v ∧ w.cell? (a.add (i * 2 + 1)) = some (.int .i64 e.n) ∧ e.Ok w := by
      intro i hi
      obtain ⟨parts, n, hD, hf⟩ := hel i hi
      have hbi : Rows.uptoBulk (D i) ≤ 1048576 := Nat.le_trans (bulk_elem (List.mem_map_of_mem (List.mem_range.2 hi))) hb
      rw [hD] at hbi
      rw [ctZ] at hf
      obtain ⟨v0, y0, h0, g0, t0⟩ := hf 0 36 (by kernel_rfl)
      obtain ⟨v1, y1, h1, -, t1⟩ := hf 1 2 (by kernel_rfl)
      obtain ⟨ds, hr, hd, hn⟩ := row_of_trod t0 (Nat.le_trans (bulk_agg g0) hbi)
      obtain ⟨q, rfl, hq⟩ := int_of Tryz.underlying2 t1
      exact ⟨⟨v0, ds, q⟩, h0, h1, hr, hd, hn, hq⟩
    have hch : ∀ i, ∃ e : Ct, i < len → (w.cell? (a.add (i * 2)) = some e.v ∧ w.cell? (a.add (i * 2 + 1)) = some (.int .i64 e.n) ∧ e.Ok w) := by
      intro i
      by_cases hi : i < len
      · obtain ⟨e, he⟩ := key i hi
        exact ⟨e, fun _ => he⟩
      · exact ⟨⟨.bool true, [], 0⟩, fun h => absurd h hi⟩
    obtain ⟨f, hf⟩ := Classical.axiomOfChoice hch
    refine ⟨(List.range len).map f, some a, cap, by rw [hv]; simp, (fun h => by cases h), by simpa using hl, fun i d hi => ?_⟩
    have hil : i < len := by
      have := (List.getElem?_eq_some_iff.1 hi).1
      simpa using this
    have hd : f i = d := by simpa [hil] using hi
    subst hd
    have ha := addr_plain (by simpa using (hf 0 (by omega)).1)
    obtain ⟨e0, e1, e2⟩ := hf i hil
    exact ⟨a.block, a.off, by rw [← ha], cell_add e0, by have := cell_add e1; rwa [← Nat.add_assoc] at this, e2⟩

/-- What the form's reading of a reply's cells gives. -/
theorem reply_cells {fuel : Nat} {cs : List Value} {y : DataW H × List MemPlace} (h : DataW.trod enc Tryz.prog w base spare held fuel 34 cs = some y) (hb : Rows.uptoBulk y.1 ≤ 1048576) :
    ∃ R : Rp, Value.agg cs.toArray = R.val ∧ R.Ok w := by
  obtain ⟨ys, n, hD, hyl, hcl, hf⟩ := fields_of_trod repF repO repC h
  rw [hD] at hb
  rw [repZ] at hcl
  obtain ⟨v0, y0, h0, -, -, t0⟩ := hf 0 3 (by kernel_rfl)
  obtain ⟨v1, y1, h1, -, -, t1⟩ := hf 1 3 (by kernel_rfl)
  obtain ⟨v2, y2, h2, -, -, t2⟩ := hf 2 24 (by kernel_rfl)
  obtain ⟨v3, y3, h3, -, -, t3⟩ := hf 3 3 (by kernel_rfl)
  obtain ⟨v4, y4, h4, -, -, t4⟩ := hf 4 2 (by kernel_rfl)
  obtain ⟨v5, y5, h5, -, -, t5⟩ := hf 5 2 (by kernel_rfl)
  obtain ⟨v6, y6, h6, -, g6, t6⟩ := hf 6 9 (by kernel_rfl)
  obtain ⟨v7, y7, h7, -, -, t7⟩ := hf 7 31 (by kernel_rfl)
  obtain ⟨v8, y8, h8, -, g8, t8⟩ := hf 8 32 (by kernel_rfl)
  obtain ⟨k0, rfl, f0⟩ := int_of Tryz.underlying3 t0
  obtain ⟨k1, rfl, f1⟩ := int_of Tryz.underlying3 t1
  obtain ⟨k2, rfl, f2⟩ := int_of Tryz.underlying24 t2
  obtain ⟨k3, rfl, f3⟩ := int_of Tryz.underlying3 t3
  obtain ⟨k4, rfl, f4⟩ := int_of Tryz.underlying2 t4
  obtain ⟨k5, rfl, f5⟩ := int_of Tryz.underlying2 t5
  obtain ⟨s, rfl, hs⟩ := string_of Tryz.underlying9 (Nat.le_trans (bulk_agg g6) hb) t6
  have hcv : ∃ a n c, v7 = .slice a n c := by
    rcases open_slice Tryz.underlying31 t7 with ⟨hv, -⟩ | ⟨a, len, cap, m, n, D, Pl, hv, -⟩ <;> simp only [List.cons.injEq, and_true] at hv
    · exact ⟨none, 0, 0, hv⟩
    · exact ⟨some a, len, cap, hv⟩
  obtain ⟨l, hl⟩ := cts_of_trod t8 (Nat.le_trans (bulk_agg g8) hb)
  refine ⟨⟨k0, k1, k2, k3, k4, k5, s, v7, v8, l⟩, ?_, f0, f1, f2, f3, f4, f5, hs, hcv, hl⟩
  match cs, hcl, h0, h1, h2, h3, h4, h5, h6, h7, h8 with
  | [c0, c1, c2, c3, c4, c5, c6, c7, c8], _, h0, h1, h2, h3, h4, h5, h6, h7, h8 =>
    simp only [List.getElem?_cons_succ, List.getElem?_cons_zero, Option.some.injEq] at h0 h1 h2 h3 h4 h5 h6 h7 h8
    subst h0 h1 h2 h3 h4 h5 h6 h7 h8
    rfl

/-- What the form's reading of a note's cells gives. -/
theorem note_cells {fuel : Nat} {cs : List Value} {y : DataW H × List MemPlace} (h : DataW.trod enc Tryz.prog w base spare held fuel 38 cs = some y) (hb : Rows.uptoBulk y.1 ≤ 1048576) :
    ∃ X : Nt, Value.agg cs.toArray = X.val ∧ X.Ok w := by
  obtain ⟨ys, n, hD, hyl, hcl, hf⟩ := fields_of_trod noteF noteO noteC h
  rw [hD] at hb
  rw [noteZ] at hcl
  obtain ⟨v0, y0, h0, -, -, t0⟩ := hf 0 3 (by kernel_rfl)
  obtain ⟨v1, y1, h1, -, -, t1⟩ := hf 1 2 (by kernel_rfl)
  obtain ⟨v2, y2, h2, -, -, t2⟩ := hf 2 2 (by kernel_rfl)
  obtain ⟨v3, y3, h3, -, g3, t3⟩ := hf 3 36 (by kernel_rfl)
  obtain ⟨v4, y4, h4, -, -, t4⟩ := hf 4 24 (by kernel_rfl)
  obtain ⟨k0, rfl, f0⟩ := int_of Tryz.underlying3 t0
  obtain ⟨k1, rfl, f1⟩ := int_of Tryz.underlying2 t1
  obtain ⟨k2, rfl, f2⟩ := int_of Tryz.underlying2 t2
  obtain ⟨ds, hr, hd, hn⟩ := row_of_trod t3 (Nat.le_trans (bulk_agg g3) hb)
  obtain ⟨k4, rfl, f4⟩ := int_of Tryz.underlying24 t4
  refine ⟨⟨k0, k1, k2, v3, ds, k4⟩, ?_, f0, f1, f2, f4, hr, hd, hn⟩
  match cs, hcl, h0, h1, h2, h3, h4 with
  | [c0, c1, c2, c3, c4], _, h0, h1, h2, h3, h4 =>
    simp only [List.getElem?_cons_succ, List.getElem?_cons_zero, Option.some.injEq] at h0 h1 h2 h3 h4
    subst h0 h1 h2 h3 h4
    rfl

set_option maxRecDepth 100000 in
theorem reply_of_trod {fuel base2 : Nat} {v : Value} {y : DataW H × List MemPlace} (hv : Value.okWide Tryz.prog w .any base2 34 v) (h : DataW.trod enc Tryz.prog w base spare held fuel 34 v.cells.toList = some y) (hb : Rows.uptoBulk y.1 ≤ 1048576) :
    ∃ R : Rp, v = R.val ∧ R.Ok w := by
  obtain ⟨cs, rfl, -⟩ := okWide_struct repF hv
  obtain ⟨R, hR, hok⟩ := reply_cells h hb
  exact ⟨R, by simpa [Value.cells] using hR, hok⟩
set_option maxRecDepth 100000 in
theorem note_of_trod {fuel base2 : Nat} {v : Value} {y : DataW H × List MemPlace} (hv : Value.okWide Tryz.prog w .any base2 38 v) (h : DataW.trod enc Tryz.prog w base spare held fuel 38 v.cells.toList = some y) (hb : Rows.uptoBulk y.1 ≤ 1048576) :
    ∃ X : Nt, v = X.val ∧ X.Ok w := by
  obtain ⟨cs, rfl, -⟩ := okWide_struct noteF hv
  obtain ⟨R, hR, hok⟩ := note_cells h hb
  exact ⟨R, by simpa [Value.cells] using hR, hok⟩
end
end Go.Proofs.YtgdneoajmaeckaaGreatDoor
