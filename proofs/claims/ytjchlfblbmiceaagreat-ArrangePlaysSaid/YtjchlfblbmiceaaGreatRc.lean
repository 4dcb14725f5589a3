/- Rows and lists of counted rows as cells; copies of them. No condition but the sizes. -/
import Derived.Test.YtjchlfblbmiceaaGreatLg
import Derived.Test.YtjchlfblbmiceaaGreatApp
import Derived.Test.YtjchlfblbmiceaaGreatSh
import Derived.WalkSpells
namespace Go.Proofs.YtjchlfblbmiceaaGreat
open Go.RowKit srt grp

theorem cell_blk {w : World} {b : Nat} {cs : Array Value} {t : Nat} (h : w.heap[b]? = some (.cells cs t)) (j : Nat) (u : Value) (hj : cs[j]? = some u) : w.cell? ⟨b, j, none⟩ = some u := by
  simp [World.cell?, h, hj]

def Dt.cells (d : Dt) : List Value := [.int .i64 d.kind, .int .i64 d.i, .string ⟨d.s.toArray⟩]
def dtsC (l : List Dt) : List Value := l.flatMap Dt.cells
theorem dtsC_one (l : List Dt) : ∀ u ∈ dtsC l, u.oneCell' = true := by
  intro u hu
  simp only [dtsC, List.mem_flatMap, Dt.cells] at hu
  obtain ⟨d, -, hd⟩ := hu
  simp at hd
  rcases hd with rfl | rfl | rfl <;> rfl
theorem dtsC_len (l : List Dt) : (dtsC l).length = l.length * 3 := by
  induction l with
  | nil => rfl
  | cons d l ih => simp only [dtsC, List.flatMap_cons, List.length_append, List.length_cons] at ih ⊢; rw [ih]; simp [Dt.cells]; omega
theorem ownsRow_base {w : World} {b base e size n : Nat} {v : Value} {xs : List Value} (h : w.ownsRow base e size v n xs) (hb : b ≤ base) : w.ownsRow b e size v n xs := by
  obtain ⟨h1, h2⟩ := h
  refine ⟨h1, ?_⟩
  rcases h2 with h2 | ⟨g, cap, cur, hv, hg, hh, r⟩
  · exact Or.inl h2
  · exact Or.inr ⟨g, cap, cur, hv, by omega, hh, r⟩
theorem ownsRow_fr {w w' : World} {S : List Nat} {base e size n : Nat} {v : Value} {xs : List Value} (h : w.ownsRow base e size v n xs) (f : Fr S w w') (hS : ∀ x ∈ S, x < base) : w'.ownsRow base e size v n xs := by
  obtain ⟨h1, h2⟩ := h
  refine ⟨h1, ?_⟩
  rcases h2 with h2 | ⟨g, cap, cur, hv, hg, hh, r⟩
  · exact Or.inl h2
  · exact Or.inr ⟨g, cap, cur, hv, hg, f.heap hh (fun hx => by have := hS g hx; omega), r⟩
theorem dtsC_one' (d : Dt) : ∀ u ∈ d.cells, u.oneCell' = true := by
  intro u hu
  simp [Dt.cells] at hu
  rcases hu with rfl | rfl | rfl <;> rfl
theorem dtsC_snoc (l : List Dt) (d : Dt) : dtsC (l ++ [d]) = dtsC l ++ d.cells := by simp [dtsC]
theorem cell_three_new (w : World) (a b c : Value) (t : Nat) : ∀ j u, [a, b, c][j]? = some u → (w.alloc (.cells #[a, b, c] t)).cell? ((⟨w.heap.size, 0, none⟩ : Addr).add j) = some u := by
  intro j u hj
  have hadd : (⟨w.heap.size, 0, none⟩ : Addr).add j = ⟨w.heap.size, j, none⟩ := by unfold Addr.add; split <;> simp_all
  rw [hadd]
  exact cell_blk (heap_alloc_new w _) j u (by simpa using hj)
theorem ownsRow_shape {w : World} {base e size n : Nat} {v : Value} {xs : List Value} (h : w.ownsRow base e size v n xs) : ∃ a c, v = .slice a n c := by
  rcases h.2 with ⟨rfl, rfl⟩ | ⟨g, cap, cur, rfl, -⟩
  · exact ⟨_, _, rfl⟩
  · exact ⟨_, _, rfl⟩
theorem Src.alloc {w : World} {size m : Nat} {x : Value} {news : List Value} (h : Src w size x m news) (o : Obj) : Src (w.alloc o) size x m news := by
  obtain ⟨h1, h2, h3⟩ := h
  refine ⟨h1, h2, ?_⟩
  rcases h3 with h3 | ⟨ad, c, h3, h4⟩
  · exact Or.inl h3
  · exact Or.inr ⟨ad, c, h3, fun j u hj => ((Fr.refl [] w).alloc o).cell (h4 j u hj) (by simp)⟩
theorem infoD : (Tryz.prog.info? 94).map (fun i => (i.zero, i.size, i.bytes)) = some (some (.agg #[.int .i64 0, .int .i64 0, .string ⟨#[]⟩]), 3, 32) := by kernel_rfl

theorem dtsC_at (ds : List Dt) (i : Nat) (d : Dt) (h : ds[i]? = some d) : (dtsC ds)[i * 3]? = some (.int .i64 d.kind) ∧ (dtsC ds)[i * 3 + 1]? = some (.int .i64 d.i) ∧ (dtsC ds)[i * 3 + 2]? = some (.string ⟨d.s.toArray⟩) := by
  induction ds generalizing i with
  | nil => simp at h
  | cons e ds ih =>
    cases i with
    | zero => simp at h; subst h; simp [dtsC, Dt.cells]
    | succ i =>
      have := ih i (by simpa using h)
      have e1 : (i + 1) * 3 = i * 3 + 3 := by omega
      have hc : dtsC (e :: ds) = [Value.int .i64 e.kind, .int .i64 e.i, .string ⟨e.s.toArray⟩] ++ dtsC ds := rfl
      rw [e1, hc]
      refine ⟨?_, ?_, ?_⟩
      · rw [List.getElem?_append_right (by simp)]; simpa using this.1
      · rw [List.getElem?_append_right (by simp)]; simpa using this.2.1
      · rw [List.getElem?_append_right (by simp)]; simpa using this.2.2

theorem rowAt_own {w : World} {base : Nat} {v : Value} {ds : List Dt} (h : w.ownsRow base 94 3 v ds.length (dtsC ds)) : RowAt w v ds := by
  obtain ⟨h1, h2⟩ := h
  rcases h2 with ⟨rfl, h2⟩ | ⟨g, cap, cur, rfl, hb, hg, hc, hc2, hsz, htk⟩
  · exact Or.inl ⟨_, _, rfl, fun _ => rfl, List.length_eq_zero_iff.1 h2⟩
  · refine Or.inr ⟨g, 0, cap, rfl, hc, fun i d hi => ?_⟩
    obtain ⟨e0, e1, e2⟩ := dtsC_at ds i d hi
    have hlt : i < ds.length := (List.getElem?_eq_some_iff.1 hi).1
    have key : ∀ j u, j < ds.length * 3 → (dtsC ds)[j]? = some u → w.cell? ⟨g, j, none⟩ = some u := by
      intro j u hj hu
      rw [← htk, List.getElem?_take, if_pos hj] at hu
      simp [World.cell?, hg]
      simpa using hu
    simp only [Nat.zero_add]
    exact ⟨key _ _ (by omega) e0, key _ _ (by omega) e1, key _ _ (by omega) e2⟩

theorem dtsC_of : ∀ (ds : List Dt) (j : Nat) (u : Value), (dtsC ds)[j]? = some u → ∃ i d, ds[i]? = some d ∧ ((j = i * 3 ∧ u = .int .i64 d.kind) ∨ (j = i * 3 + 1 ∧ u = .int .i64 d.i) ∨ (j = i * 3 + 2 ∧ u = .string ⟨d.s.toArray⟩))
  | [], j, u, h => by simp [dtsC] at h
  | e :: ds, j, u, h => by
    have hc : dtsC (e :: ds) = [Value.int .i64 e.kind, .int .i64 e.i, .string ⟨e.s.toArray⟩] ++ dtsC ds := rfl
    rw [hc] at h
    match j, h with
    | 0, h => exact ⟨0, e, rfl, Or.inl ⟨rfl, by simpa using h.symm⟩⟩
    | 1, h => exact ⟨0, e, rfl, Or.inr (Or.inl ⟨rfl, by simpa using h.symm⟩)⟩
    | 2, h => exact ⟨0, e, rfl, Or.inr (Or.inr ⟨rfl, by simpa using h.symm⟩)⟩
    | j + 3, h =>
      rw [List.getElem?_append_right (by simp)] at h
      obtain ⟨i, d, hi, hd⟩ := dtsC_of ds j u (by simpa using h)
      refine ⟨i + 1, d, by simpa using hi, ?_⟩
      rcases hd with ⟨h1, h2⟩ | ⟨h1, h2⟩ | ⟨h1, h2⟩
      · exact Or.inl ⟨by omega, h2⟩
      · exact Or.inr (Or.inl ⟨by omega, h2⟩)
      · exact Or.inr (Or.inr ⟨by omega, h2⟩)

theorem src_row {w : World} {v : Value} {ds : List Dt} (h : RowAt w v ds) : Src w 3 v ds.length (dtsC ds) := by
  refine ⟨dtsC_len ds, dtsC_one ds, ?_⟩
  rcases h with ⟨a, c, rfl, hn, rfl⟩ | ⟨b, off, c, rfl, hc, hd⟩
  · cases a with
    | none => rw [hn rfl]; exact Or.inl ⟨rfl, rfl⟩
    | some ad => exact Or.inr ⟨ad, c, rfl, by simp [dtsC]⟩
  · refine Or.inr ⟨⟨b, off, none⟩, c, rfl, fun j u hj => ?_⟩
    have hadd : (⟨b, off, none⟩ : Addr).add j = ⟨b, off + j, none⟩ := by unfold Addr.add; split <;> simp_all
    rw [hadd]
    obtain ⟨i, d, hi, hu⟩ := dtsC_of ds j u hj
    obtain ⟨h0, h1, h2⟩ := hd i d hi
    rcases hu with ⟨rfl, rfl⟩ | ⟨rfl, rfl⟩ | ⟨rfl, rfl⟩
    · exact h0
    · rw [← Nat.add_assoc]; exact h1
    · rw [← Nat.add_assoc]; exact h2

/-- A row in blocks from base on. -/
def RowIn (base : Nat) (w : World) (v : Value) (ds : List Dt) : Prop :=
  (∃ a c, v = .slice a 0 c ∧ (a = none → c = 0) ∧ ds = []) ∨ ∃ b c cur, base ≤ b ∧ v = .slice (some ⟨b, 0, none⟩) ds.length c ∧ ds.length ≤ c ∧ w.heap[b]? = some (.cells cur 94) ∧ cur.toList.take (ds.length * 3) = dtsC ds

theorem RowIn.of {w : World} {base : Nat} {v : Value} {ds : List Dt} (h : w.ownsRow base 94 3 v ds.length (dtsC ds)) : RowIn base w v ds := by
  obtain ⟨h1, h2⟩ := h
  rcases h2 with ⟨rfl, h2⟩ | ⟨g, cap, cur, rfl, hb, hg, hc, hc2, hsz, htk⟩
  · exact Or.inl ⟨none, 0, rfl, fun _ => rfl, List.length_eq_zero_iff.1 h2⟩
  · exact Or.inr ⟨g, cap, cur, hb, rfl, hc, hg, htk⟩

theorem RowIn.row {w : World} {base : Nat} {v : Value} {ds : List Dt} (h : RowIn base w v ds) : RowAt w v ds := by
  rcases h with h | ⟨g, cap, cur, hb, rfl, hc, hg, htk⟩
  · exact Or.inl h
  · refine Or.inr ⟨g, 0, cap, rfl, hc, fun i d hi => ?_⟩
    obtain ⟨e0, e1, e2⟩ := dtsC_at ds i d hi
    have hlt : i < ds.length := (List.getElem?_eq_some_iff.1 hi).1
    have key : ∀ j u, j < ds.length * 3 → (dtsC ds)[j]? = some u → w.cell? ⟨g, j, none⟩ = some u := by
      intro j u hj hu
      rw [← htk, List.getElem?_take, if_pos hj] at hu
      simp [World.cell?, hg]
      simpa using hu
    simp only [Nat.zero_add]
    exact ⟨key _ _ (by omega) e0, key _ _ (by omega) e1, key _ _ (by omega) e2⟩

theorem RowIn.fr {w w' : World} {S : List Nat} {base : Nat} {v : Value} {ds : List Dt} (h : RowIn base w v ds) (f : Fr S w w') (hS : ∀ x ∈ S, x < base) : RowIn base w' v ds := by
  rcases h with h | ⟨g, cap, cur, hb, hv, hc, hg, htk⟩
  · exact Or.inl h
  · exact Or.inr ⟨g, cap, cur, hb, hv, hc, f.heap hg (fun hx => by have := hS g hx; omega), htk⟩

theorem RowIn.base {w : World} {b base : Nat} {v : Value} {ds : List Dt} (h : RowIn base w v ds) (hb : b ≤ base) : RowIn b w v ds := by
  rcases h with h | ⟨g, cap, cur, hb2, hv, hc, hg, htk⟩
  · exact Or.inl h
  · exact Or.inr ⟨g, cap, cur, by omega, hv, hc, hg, htk⟩

set_option maxRecDepth 100000
/-- slices.Clone at a row. -/
theorem cloneRow_any {w : World} {v : Value} {ds : List Dt} (h : RowAt w v ds) (hn : ds.length ≤ 4398046511103) :
    Calls Tryz.prog 74 #[v] w fun e w' => (∃ a c, e = .returned (.slice a ds.length c) ∧ RowIn w.heap.size w' (.slice a ds.length c) ds) ∧ Fr [] w w' := by
  obtain ⟨i0, hi, hz0, hz1, hz2⟩ := info_parts infoD
  have HS := Lib.hid (src_row h)
  obtain ⟨aa, ac, rfl, hac⟩ := h.shape
  cases aa with
  | none =>
    have hnil : ds = [] ∧ ac = 0 := by
      rcases h with ⟨a, c, hv, hn, hd⟩ | ⟨b, off, c, hv, -⟩
      · simp only [Value.slice.injEq] at hv
        exact ⟨hd, by rw [hv.2.2]; exact hn hv.1.symm⟩
      · simp at hv
    obtain ⟨rfl, rfl⟩ := hnil
    change Calls _ _ #[.slice none 0 0] w _
    have hq := fun w => Lib.run_eql_slice_nil (P := Tryz.prog) w 52 94 none 0 0 0 0 Tryz.underlying52
    clear h HS
    go_enter Tryz.func74, Tryz.ntmps74
    go_wp2
    go_ret
    exact ⟨⟨none, 0, rfl, Or.inl ⟨none, 0, rfl, fun _ => rfl, rfl⟩⟩, Fr.refl _ _⟩
  | some ad =>
    have hq := fun w => Lib.run_eql_slice_nil (P := Tryz.prog) w 52 94 (some ad) ds.length ac 0 0 Tryz.underlying52
    clear h
    go_enter Tryz.func74, Tryz.ntmps74
    go_wp2_with (at_builtin; refine wpList_append_src _ rfl (.tmp 5) (.tmp 6) 52 rfl w.heap.size 94 i0 _ 3 32 Tryz.underlying52 hi hz0 hz1 hz2 rfl (by decide) _ _ _ rfl (World.ownsRow_made w #[] 0 (Nat.le_refl _) (by decide) rfl) _ ds.length _ rfl (HS.out.alloc _) (by unfold maxLen; omega) (by omega) (by simp) ?_; intro v' w1 hown hgrow _)
    go_wp2
    go_ret
    have ho : w1.ownsRow w.heap.size 94 3 v' ds.length (dtsC ds) := by simpa using hown
    obtain ⟨a, c, rfl⟩ := ownsRow_shape ho
    exact ⟨⟨a, c, rfl, RowIn.of ho⟩, ((Fr.refl [] w).alloc _).fresh hgrow (fun r e => Or.inl (by simp [Act.eval, Value.ownBlock] at e; omega))⟩

end Go.Proofs.YtjchlfblbmiceaaGreat
