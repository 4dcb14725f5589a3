/- Lists of updates as cells; their copies; the three functions that zset.Settle hands on. No condition but the sizes. -/
import Derived.Test.YtjchlfblbmiceaaGreatUh
import Derived.Test.YtjchlfblbmiceaaGreatTc
namespace Go.Proofs.YtjchlfblbmiceaaGreat.upd
open Go.RowKit srt grp

def El.cells (e : El) : List Value := [.slice e.ra e.rl e.rc, .int .i64 e.t, .int .i64 e.n]
def elsC (l : List El) : List Value := l.flatMap El.cells
theorem elsC_one (l : List El) : ∀ u ∈ elsC l, u.oneCell' = true := by
  intro u hu
  simp only [elsC, List.mem_flatMap, El.cells] at hu
  obtain ⟨d, -, hd⟩ := hu
  simp at hd
  rcases hd with rfl | rfl | rfl <;> rfl
theorem elsC_len (l : List El) : (elsC l).length = l.length * 3 := by
  induction l with
  | nil => rfl
  | cons d l ih => simp only [elsC, List.flatMap_cons, List.length_append, List.length_cons] at ih ⊢; rw [ih]; simp [El.cells]; omega
theorem elsC_append (a b : List El) : elsC (a ++ b) = elsC a ++ elsC b := by simp [elsC]
theorem elsC_snoc (l : List El) (d : El) : elsC (l ++ [d]) = elsC l ++ d.cells := by simp [elsC]
theorem elsC_at (l : List El) (i : Nat) (d : El) (h : l[i]? = some d) : (elsC l)[i * 3]? = some (.slice d.ra d.rl d.rc) ∧ (elsC l)[i * 3 + 1]? = some (.int .i64 d.t) ∧ (elsC l)[i * 3 + 2]? = some (.int .i64 d.n) := by
  induction l generalizing i with
  | nil => simp at h
  | cons e l ih =>
    cases i with
    | zero => simp at h; subst h; simp [elsC, El.cells]
    | succ i =>
      have := ih i (by simpa using h)
      have e1 : (i + 1) * 3 = i * 3 + 3 := by omega
      have hc : elsC (e :: l) = [Value.slice e.ra e.rl e.rc, .int .i64 e.t, .int .i64 e.n] ++ elsC l := rfl
      rw [e1, hc]
      refine ⟨?_, ?_, ?_⟩
      · rw [List.getElem?_append_right (by simp)]; simpa using this.1
      · rw [List.getElem?_append_right (by simp)]; simpa using this.2.1
      · rw [List.getElem?_append_right (by simp)]; simpa using this.2.2
theorem elsC_of : ∀ (l : List El) (j : Nat) (u : Value), (elsC l)[j]? = some u → ∃ i d, l[i]? = some d ∧ ((j = i * 3 ∧ u = .slice d.ra d.rl d.rc) ∨ (j = i * 3 + 1 ∧ u = .int .i64 d.t) ∨ (j = i * 3 + 2 ∧ u = .int .i64 d.n))
  | [], j, u, h => by simp [elsC] at h
  | e :: l, j, u, h => by
    have hc : elsC (e :: l) = [Value.slice e.ra e.rl e.rc, .int .i64 e.t, .int .i64 e.n] ++ elsC l := rfl
    rw [hc] at h
    match j, h with
    | 0, h => exact ⟨0, e, rfl, Or.inl ⟨rfl, by simpa using h.symm⟩⟩
    | 1, h => exact ⟨0, e, rfl, Or.inr (Or.inl ⟨rfl, by simpa using h.symm⟩)⟩
    | 2, h => exact ⟨0, e, rfl, Or.inr (Or.inr ⟨rfl, by simpa using h.symm⟩)⟩
    | j + 3, h =>
      rw [List.getElem?_append_right (by simp)] at h
      obtain ⟨i, d, hi, hd⟩ := elsC_of l j u (by simpa using h)
      refine ⟨i + 1, d, by simpa using hi, ?_⟩
      rcases hd with ⟨h1, h2⟩ | ⟨h1, h2⟩ | ⟨h1, h2⟩
      · exact Or.inl ⟨by omega, h2⟩
      · exact Or.inr (Or.inl ⟨by omega, h2⟩)
      · exact Or.inr (Or.inr ⟨by omega, h2⟩)

theorem infoU : (Tryz.prog.info? 65).map (fun i => (i.zero, i.size, i.bytes)) = some (some (.agg #[.slice none 0 0, .int .i64 0, .int .i64 0]), 3, 40) := by kernel_rfl

/-- An element that may be: its row, its numbers. -/
structure ElOk (e : El) : Prop where
  len : e.rd.length ≤ 4398046511103
  t : -9223372036854775808 ≤ e.t ∧ e.t ≤ 9223372036854775807
  n : -9223372036854775808 ≤ e.n ∧ e.n ≤ 9223372036854775807

instance : Inhabited El := ⟨⟨none, 0, 0, 0, 0, []⟩⟩
def nth (l : List El) (k : Nat) : El := (l[k]?).getD default
theorem nth_at {l : List El} {k : Nat} (h : k < l.length) : l[k]? = some (nth l k) := by unfold nth; rw [List.getElem?_eq_getElem h]; rfl
theorem nth_mem {l : List El} {k : Nat} (h : k < l.length) : nth l k ∈ l := List.mem_of_getElem? (nth_at h)
theorem range_nth (l : List El) : (List.range l.length).map (nth l) = l := by
  apply List.ext_getElem?
  intro i
  by_cases h : i < l.length
  · rw [List.getElem?_map, List.getElem?_range h]; exact (nth_at h).symm
  · rw [List.getElem?_eq_none (by simpa using h), List.getElem?_eq_none (by simpa using h)]

/-- What is owned lies as a row that can be sorted. -/
theorem Srt.own {w : World} {base cap : Nat} {a : Option Addr} {l : List El} (h : w.ownsRow base 65 3 (.slice a l.length cap) l.length (elsC l)) :
    (a = none ∧ cap = 0 ∧ l = []) ∨ ∃ g, a = some ⟨g, 0, none⟩ ∧ base ≤ g ∧ l.length ≤ cap ∧ Srt g l.length w (nth l) := by
  obtain ⟨h1, h2⟩ := h
  rcases h2 with ⟨hv, h2⟩ | ⟨g, c, cur, hv, hb, hg, hc, hc2, hsz, htk⟩
  · simp only [Value.slice.injEq] at hv
    exact Or.inl ⟨hv.1, hv.2.2, List.length_eq_zero_iff.1 h2⟩
  · simp only [Value.slice.injEq] at hv
    refine Or.inr ⟨g, hv.1, hb, by rw [hv.2.2]; exact hc, cur, hg, fun k hk => ?_⟩
    obtain ⟨e0, e1, e2⟩ := elsC_at l k _ (nth_at hk)
    rw [← htk] at e0 e1 e2
    rw [List.getElem?_take_of_lt (by omega)] at e0
    rw [List.getElem?_take_of_lt (by omega)] at e1
    rw [List.getElem?_take_of_lt (by omega)] at e2
    exact ⟨by simpa [El.rv] using e0, by simpa using e1, by simpa using e2⟩

set_option maxRecDepth 100000
/-- slices.Clone at a list of updates. -/
theorem cloneC_any {w : World} {aa : Option Addr} {ac : Nat} {l : List El} (h : Src w 3 (.slice aa l.length ac) l.length (elsC l)) (hn : l.length ≤ 3518437208882) :
    Calls Tryz.prog 64 #[.slice aa l.length ac] w fun e w' => (∃ a c, e = .returned (.slice a l.length c) ∧ w'.ownsRow w.heap.size 65 3 (.slice a l.length c) l.length (elsC l)) ∧ Fr [] w w' := by
  obtain ⟨i0, hi, hz0, hz1, hz2⟩ := info_parts infoU
  have HS := Lib.hid h
  cases aa with
  | none =>
    have hnil : l = [] ∧ ac = 0 := by
      obtain ⟨-, -, ⟨hv, hd⟩ | ⟨ad, c, hv, -⟩⟩ := h
      · simp only [Value.slice.injEq] at hv
        exact ⟨List.length_eq_zero_iff.1 hd, hv.2.2⟩
      · simp at hv
    obtain ⟨rfl, rfl⟩ := hnil
    change Calls _ _ #[.slice none 0 0] w _
    have hq := fun w => Lib.run_eql_slice_nil (P := Tryz.prog) w 27 65 none 0 0 0 0 Tryz.underlying27
    clear h HS
    go_enter Tryz.func64, Tryz.ntmps64
    go_wp2
    go_ret
    exact ⟨⟨none, 0, rfl, World.ownsRow_nil _ _ _ _⟩, Fr.refl _ _⟩
  | some ad =>
    have hq := fun w => Lib.run_eql_slice_nil (P := Tryz.prog) w 27 65 (some ad) l.length ac 0 0 Tryz.underlying27
    clear h
    go_enter Tryz.func64, Tryz.ntmps64
    go_wp2_with (at_builtin; refine wpList_append_src _ rfl (.tmp 5) (.tmp 6) 27 rfl w.heap.size 65 i0 _ 3 40 Tryz.underlying27 hi hz0 hz1 hz2 rfl (by decide) _ _ _ rfl (World.ownsRow_made w #[] 0 (Nat.le_refl _) (by decide) rfl) _ l.length _ rfl (HS.out.alloc _) (by unfold maxLen; omega) (by omega) (by simp) ?_; intro v' w1 hown hgrow _)
    go_wp2
    go_ret
    have ho : w1.ownsRow w.heap.size 65 3 v' l.length (elsC l) := by simpa using hown
    obtain ⟨a, c, rfl⟩ := ownsRow_shape ho
    exact ⟨⟨a, c, rfl, ho⟩, ((Fr.refl [] w).alloc _).fresh hgrow (fun r e => Or.inl (by simp [Act.eval, Value.ownBlock] at e; omega))⟩

def sameB (e e' : El) : Bool := decide (key e = key e')
theorem sameB_cmp (e e' : El) : (ec e e' == 0) = sameB e e' := by
  rw [Bool.eq_iff_iff, beq_iff_eq]
  unfold sameB ec
  rw [decide_eq_true_iff]
  refine ⟨cmpU_eq, fun h => ?_⟩
  rw [h]
  have := cmpU_swap (key e') (key e')
  omega

theorem same_any {w : World} {bx : Nat} {e e' : El} (hx : w.cell? ⟨bx, 0, none⟩ = some (.func (.func 65) #[] #[])) (h : RowAt w e.rv e.rd) (h' : RowAt w e'.rv e'.rd) (hm : e.rd.length ≤ 140737488351232) :
    Calls Tryz.prog 71 #[.agg #[.slice e.ra e.rl e.rc, .int .i64 e.t, .int .i64 e.n], .agg #[.slice e'.ra e'.rl e'.rc, .int .i64 e'.t, .int .i64 e'.n], .pointer (some ⟨bx, 0, none⟩)] w fun x w' => x = .returned (.bool (sameB e e')) ∧ Fr [] w w' := by
  have hc : ∀ wi, Fr [] w wi → Calls Tryz.prog 65 #[.agg #[.slice e.ra e.rl e.rc, .int .i64 e.t, .int .i64 e.n], .agg #[.slice e'.ra e'.rl e'.rc, .int .i64 e'.t, .int .i64 e'.n]] wi fun x w' => x = .returned (.int .i64 (ec e e')) ∧ Fr [] wi w' := fun wi f => cmpEl_any (h.fr f) (h'.fr f) hm
  have hb := sameB_cmp e e'
  have hx2 := (((Fr.refl [] w).alloc (.cells #[.slice e.ra e.rl e.rc, .int .i64 e.t, .int .i64 e.n] 65)).alloc (.cells #[.slice e'.ra e'.rl e'.rc, .int .i64 e'.t, .int .i64 e'.n] 65)).cell hx (by simp)
  generalize sameB e e' = d at *
  generalize ec e e' = cv at *
  clear h h' hx
  go_enter Tryz.func71, Tryz.ntmps71
  go_wp2_with (go_at_call 65; refine (hc _ (((Fr.refl [] w).alloc _).alloc _)).mono ?_; rintro x w5 ⟨rfl, f5⟩)
  go_ret
  exact ⟨rfl, (((Fr.refl [] w).alloc _).alloc _).trans f5⟩

theorem nOf_any (w : World) (e : El) : Calls Tryz.prog 72 #[.agg #[.slice e.ra e.rl e.rc, .int .i64 e.t, .int .i64 e.n]] w fun x w' => x = .returned (.int .i64 e.n) ∧ Fr [] w w' := by
  go_enter Tryz.func72, Tryz.ntmps72
  go_wp2
  go_ret
  exact ⟨rfl, (Fr.refl [] w).alloc _⟩
end Go.Proofs.YtjchlfblbmiceaaGreat.upd
