/- A list of calls that came in: off the form's reading, below the bound of a narrowed statement. No condition. -/
import Derived.Test.YtgdneoajmaeckaaGreatDoorArg
namespace Go.Proofs.YtgdneoajmaeckaaGreatDoor
open Go.ChangeShapes Go.WideShapes Go.RowKit Go.Deep

/-- A call. -/
structure Opn where
  kind : Int
  n : Int
  b : List UInt8
  r : Rp
  x : Nt
def Opn.cells (o : Opn) : List Value :=
  [.int .i64 o.kind, .int .i64 o.n, .string ⟨o.b.toArray⟩, .int .i64 o.r.tk, .int .i64 o.r.kind, .int .i64 o.r.code, .int .i64 o.r.place, .int .i64 o.r.time, .int .i64 o.r.n, .string ⟨o.r.name.toArray⟩, o.r.cols, o.r.rows,
    .int .i64 o.x.kind, .int .i64 o.x.time, .int .i64 o.x.n, o.x.row, .int .i64 o.x.code]
structure Opn.Ok (w : World) (o : Opn) : Prop where
  kind : fits64 o.kind
  n : fits64 o.n
  b : o.b.length ≤ 1048576
  r : o.r.Ok w
  x : o.x.Ok w
theorem Opn.Ok.fr {w w' : World} {o : Opn} (h : o.Ok w) (f : Fr [] w w') : o.Ok w' := ⟨h.kind, h.n, h.b, h.r.fr f, h.x.fr f⟩

/-- A list of calls that came in. -/
def OpsAt (w : World) (v : Value) (l : List Opn) : Prop :=
  ∃ a c, v = .slice a l.length c ∧ (a = none → c = 0) ∧ l.length ≤ c ∧ ∀ k o, l[k]? = some o → ∃ b off, a = some ⟨b, off, none⟩ ∧ (∀ j u, o.cells[j]? = some u → w.cell? ⟨b, off + k * 17 + j, none⟩ = some u) ∧ o.Ok w
theorem OpsAt.fr {w w' : World} {v : Value} {l : List Opn} (h : OpsAt w v l) (f : Fr [] w w') : OpsAt w' v l := by
  obtain ⟨a, c, h1, h2, h3, h4⟩ := h
  refine ⟨a, c, h1, h2, h3, fun k x hk => ?_⟩
  obtain ⟨b, off, h5, g0, h8⟩ := h4 k x hk
  exact ⟨b, off, h5, fun j u hu => f.cell (g0 j u hu) (by simp), h8.fr f⟩
theorem OpsAt.shape {w : World} {v : Value} {l : List Opn} (h : OpsAt w v l) : ∃ a c, v = .slice a l.length c ∧ (a = none → c = 0) ∧ l.length ≤ c := by
  obtain ⟨a, c, h1, h2, h3, -⟩ := h
  exact ⟨a, c, h1, h2, h3⟩
theorem OpsAt.at {w : World} {a : Option Addr} {n c : Nat} {l : List Opn} (h : OpsAt w (.slice a n c) l) {k : Nat} (hk : k < l.length) :
    ∃ b off, a = some ⟨b, off, none⟩ ∧ (∀ j u, l[k].cells[j]? = some u → w.cell? ⟨b, off + k * 17 + j, none⟩ = some u) ∧ l[k].Ok w := by
  obtain ⟨a', c', h1, -, -, h4⟩ := h
  simp only [Value.slice.injEq] at h1
  obtain ⟨rfl, -, -⟩ := h1
  exact h4 k _ (List.getElem?_eq_getElem hk)
theorem OpsAt.take {w : World} {a : Option Addr} {n c : Nat} {l : List Opn} (h : OpsAt w (.slice a n c) l) (m : Nat) (hm : m ≤ l.length) : OpsAt w (.slice a m c) (l.take m) := by
  obtain ⟨a', c', h1, h2, h3, h4⟩ := h
  simp only [Value.slice.injEq] at h1
  obtain ⟨rfl, -, rfl⟩ := h1
  refine ⟨a, c, by rw [List.length_take, Nat.min_eq_left hm], h2, by rw [List.length_take]; omega, fun k o hk => h4 k o ?_⟩
  rw [List.getElem?_take] at hk
  split at hk
  · exact hk
  · cases hk

theorem opF : Tryz.prog.underlying 40 = some (.struct (fieldsOf Tryz.prog 40)) := by kernel_rfl
theorem opC : Tryz.prog.cellsOf 40 = 17 := by kernel_rfl

section
variable {H : Type} {enc : TypeId × Value → H} {w : World} {base : Nat} {spare : Nat → Bool} {held : Bool}

/-- a struct's field, of any number of cells -/
theorem part_of_trod {P : Program} {t : TypeId} {fs : Array Field} {fuel : Nat} {cs : List Value} {x : DataW H × List MemPlace} (ht : P.underlying t = some (.struct fs)) (h : DataW.trod enc P w base spare held fuel t cs = some x) :
    ∃ (parts : List (DataW H)) (n : Nat), x.1 = .agg parts ∧ cs.length = P.cellsOf t ∧
      ∀ (j : Nat) (T : TypeId) (o k : Nat), (fs[j]?).map (fun f => (f.type, f.offset)) = some (T, o) → P.cellsOf T = k → ∃ y : DataW H × List MemPlace, y.1 ∈ parts ∧ DataW.trod enc P w base spare held n T ((cs.drop o).take k) = some y := by
  obtain ⟨ys, n, hn', hy, hlen, hyl, hf⟩ := DataW.trod_struct ht h
  refine ⟨_, n, by rw [hy], hlen, fun j T o k hj hk => ?_⟩
  obtain ⟨f, hfj, he⟩ := Option.map_eq_some_iff.1 hj
  simp only [Prod.mk.injEq] at he
  obtain ⟨rfl, rfl⟩ := he
  subst hk
  have hjl : j < fs.size := (Array.getElem?_eq_some_iff.1 hfj).1
  have hys : ys[j]? = some (ys[j]'(by omega)) := List.getElem?_eq_getElem (by omega)
  exact ⟨_, List.mem_map_of_mem (List.getElem_mem _), (hf j f hfj).trans hys⟩

/-- What the form's reading of a call's cells gives. -/
theorem op_cells {fuel : Nat} {cs : List Value} {y : DataW H × List MemPlace} (h : DataW.trod enc Tryz.prog w base spare held fuel 40 cs = some y) (hb : Rows.uptoBulk y.1 ≤ 1048576) :
    ∃ O : Opn, cs = O.cells ∧ O.Ok w := by
  obtain ⟨parts, n, hD, hlen, hf⟩ := part_of_trod opF h
  rw [opC] at hlen
  rw [hD] at hb
  obtain ⟨y0, g0, t0⟩ := hf 0 3 0 1 (by kernel_rfl) (by kernel_rfl)
  obtain ⟨y1, g1, t1⟩ := hf 1 3 1 1 (by kernel_rfl) (by kernel_rfl)
  obtain ⟨y2, g2, t2⟩ := hf 2 9 2 1 (by kernel_rfl) (by kernel_rfl)
  obtain ⟨y3, g3, t3⟩ := hf 3 34 3 9 (by kernel_rfl) (by kernel_rfl)
  obtain ⟨y4, g4, t4⟩ := hf 4 38 12 5 (by kernel_rfl) (by kernel_rfl)
  match cs, hlen with
  | [c0, c1, c2, c3, c4, c5, c6, c7, c8, c9, c10, c11, c12, c13, c14, c15, c16], _ =>
    simp only [List.drop_zero, List.drop_succ_cons, List.take_succ_cons, List.take_zero] at t0 t1 t2 t3 t4
    obtain ⟨k0, rfl, f0⟩ := int_of Tryz.underlying3 t0
    obtain ⟨k1, rfl, f1⟩ := int_of Tryz.underlying3 t1
    obtain ⟨s, rfl, hs⟩ := string_of Tryz.underlying9 (Nat.le_trans (bulk_agg g2) hb) t2
    obtain ⟨R, hR, hRo⟩ := reply_cells t3 (Nat.le_trans (bulk_agg g3) hb)
    obtain ⟨X, hX, hXo⟩ := note_cells t4 (Nat.le_trans (bulk_agg g4) hb)
    refine ⟨⟨k0, k1, s, R, X⟩, ?_, f0, f1, hs, hRo, hXo⟩
    have hR2 : [c3, c4, c5, c6, c7, c8, c9, c10, c11] = [.int .i64 R.tk, .int .i64 R.kind, .int .i64 R.code, .int .i64 R.place, .int .i64 R.time, .int .i64 R.n, .string ⟨R.name.toArray⟩, R.cols, R.rows] := congrArg (fun v => v.cells.toList) hR
    have hX2 : [c12, c13, c14, c15, c16] = [.int .i64 X.kind, .int .i64 X.time, .int .i64 X.n, X.row, .int .i64 X.code] := congrArg (fun v => v.cells.toList) hX
    simp only [List.cons.injEq] at hR2 hX2
    obtain ⟨rfl, rfl, rfl, rfl, rfl, rfl, rfl, rfl, rfl, -⟩ := hR2
    obtain ⟨rfl, rfl, rfl, rfl, rfl, -⟩ := hX2
    rfl

theorem ops_of_trod {fuel : Nat} {v : Value} {y : DataW H × List MemPlace} (h : DataW.trod enc Tryz.prog w base spare held fuel 22 [v] = some y) (hb : Rows.uptoBulk y.1 ≤ 1048576) : ∃ l : List Opn, OpsAt w v l := by
  rcases open_slice Tryz.underlying22 h with ⟨hv, -⟩ | ⟨a, len, cap, m, n, D, Pl, hv, hb2, hl, hm, hmm, hx, hi⟩
  · simp only [List.cons.injEq, and_true] at hv
    exact ⟨[], none, 0, hv, fun _ => rfl, Nat.le_refl _, by simp⟩
  · simp only [List.cons.injEq, and_true] at hv
    rw [hx] at hb
    have hlm : len ≤ m := by rw [hmm]; split <;> omega
    have key : ∀ i, i < len → ∃ e : Opn, (∀ j u, e.cells[j]? = some u → w.cell? (a.add (i * 17 + j)) = some u) ∧ e.Ok w := by
      intro i hil
      obtain ⟨cs', hc, ht'⟩ := hi i (by omega)
      rw [opC] at hc
      obtain ⟨_, hcl, hat⟩ := World.cells?_some hc
      have hbi : Rows.uptoBulk (D i) ≤ 1048576 := Nat.le_trans (bulk_elem (List.mem_map_of_mem (List.mem_range.2 hil))) hb
      obtain ⟨O, rfl, hO⟩ := op_cells ht' hbi
      refine ⟨O, fun j u hu => ?_, hO⟩
      have hjl : j < O.cells.length := (List.getElem?_eq_some_iff.1 hu).1
      have hcell := hat j (by omega)
      rw [← Go.Deep.add_add, hcell]
      exact hu
    have hch : ∀ i, ∃ e : Opn, i < len → ((∀ j u, e.cells[j]? = some u → w.cell? (a.add (i * 17 + j)) = some u) ∧ e.Ok w) := by
      intro i
      by_cases hi : i < len
      · obtain ⟨e, he⟩ := key i hi
        exact ⟨e, fun _ => he⟩
      · exact ⟨⟨0, 0, [], ⟨0, 0, 0, 0, 0, 0, [], .bool true, .bool true, []⟩, ⟨0, 0, 0, .bool true, [], 0⟩⟩, fun h => absurd h hi⟩
    obtain ⟨f, hf⟩ := Classical.axiomOfChoice hch
    refine ⟨(List.range len).map f, some a, cap, by rw [hv]; simp, (fun h => by cases h), by simpa using hl, fun i d hi => ?_⟩
    have hil : i < len := by
      have := (List.getElem?_eq_some_iff.1 hi).1
      simpa using this
    have hd : f i = d := by simpa [hil] using hi
    subst hd
    have ha := addr_plain (by simpa using (hf 0 (by omega)).1 0 _ rfl)
    obtain ⟨e0, e1⟩ := hf i hil
    exact ⟨a.block, a.off, by rw [← ha], fun j u hu => by have := cell_add (e0 j u hu); rwa [← Nat.add_assoc] at this, e1⟩
end
end Go.Proofs.YtgdneoajmaeckaaGreatDoor
