/- What zset.tidy puts into its answer: one counted row more. No condition but the sizes. -/
import Derived.Test.YtjchlfblbmiceaaGreatTc
import Derived.Deep.RegionHeld3
import Derived.Deep.RegionLaw
namespace Go.Proofs.YtjchlfblbmiceaaGreat
open Go.RowKit srt grp

/-- A call of a Go function with one argument, at a step of a region that draws its order. -/
theorem step_call1 {P : Program} (w : World) {ops : Array Oper} {o : Oper} {a : Act} {K : Act → World → Prop} {Q : Exit → Act → World → Prop} {E : Prop} (hgd : o.guard = none) (f : FuncId) (s : Operand) (t : TypeId)
    (ho : o.op = .call { callee := .value (.func f), args := #[s], argTypes := #[t] }) (v : Value) (hs : a.eval s = v) (hf : (callFunc f #[v]).run P w = .ok (.enter f #[v]) w)
    {R : Ending → World → Prop} (hc : Calls P f #[v] w R) (h : ∀ e w', R e w' → ∃ x, e = .returned x ∧ K (a.put o.dst x) w') : if Region.wanted o (yielded ops a.tmps) = true then Oper.wp P o a w K Q else E := by
  have hw : Region.wanted o (yielded ops a.tmps) = true := by simp [Region.wanted, hgd]
  rw [if_pos hw]
  unfold Oper.wp execOp
  simp only [ho, resolve, invoke, Sem.run_bind, List.map_toArray, List.map_cons, List.map_nil, hs]
  simp [Act.eval, hf, Oper.upon, go_sem]
  refine hc.mono fun e w' he => ?_
  obtain ⟨x, rfl, hx⟩ := h e w' he
  exact hx

/-- Variable bo holds the list outs, in memory that is newer than w0. -/
def OutAt (w0 w : World) (bo : Nat) (outs : List El) : Prop :=
  bo < w0.heap.size ∧ Fr [bo] w0 w ∧ ∃ v, w.heap[bo]? = some (.cells #[v] 31) ∧ w.ownsRow w0.heap.size 68 2 v outs.length (elsC outs) ∧ ∀ e ∈ outs, RowIn w0.heap.size w e.rv e.rd

theorem heap_set1 {w : World} {g : Nat} {v u : Value} {t : Nat} (h : w.heap[g]? = some (.cells #[u] t)) : (w.setCell ⟨g, 0, none⟩ v).heap[g]? = some (.cells #[v] t) := by
  rw [heap_set h]; rfl

theorem ownsRow_set {w : World} {base e size n p i : Nat} {v u : Value} {xs : List Value} (h : w.ownsRow base e size v n xs) (hp : p < base) : (w.setCell ⟨p, i, none⟩ u).ownsRow base e size v n xs :=
  ownsRow_fr h ((Fr.refl [p] w).setCell (by simp) u) (by simpa using hp)

/-- A row is in no block of counted rows. -/
theorem RowIn.grown {w w' : World} {base b2 n : Nat} {v x : Value} {ds : List Dt} {xs : List Value} (h : RowIn base w v ds) (ho : w.ownsRow b2 68 2 x n xs) (hg : w.grownBy w' x.ownBlock) : RowIn base w' v ds := by
  rcases h with h | ⟨g, cap, cur, hb, hv, hc, hh, htk⟩
  · exact Or.inl h
  · have hlt : g < w.heap.size := (Array.getElem?_eq_some_iff.1 hh).1
    refine Or.inr ⟨g, cap, cur, hb, hv, hc, ?_, htk⟩
    rw [hg.block g hlt (fun e => ?_)]
    · exact hh
    · rcases ho.2 with ⟨rfl, -⟩ | ⟨g2, c2, cur2, rfl, -, h2, -⟩
      · simp [Value.ownBlock] at e
      · simp only [Value.ownBlock, Option.some.injEq] at e
        subst e
        rw [h2] at hh
        simp at hh

theorem OutAt.put {w0 w w1 w5 w6 : World} {bo : Nat} {outs : List El} {va ca a6 : Option Addr} {vc cc c6 : Nat} {i : Int} {ds : List Dt} {o : Obj} (h : OutAt w0 w bo outs) (ho : w.ownsRow w0.heap.size 68 2 (.slice va outs.length vc) outs.length (elsC outs)) (fa : Fr [] w w1) (f5 : Fr [] w1.drew w5)
    (hin : RowIn w1.drew.heap.size w5 (.slice ca ds.length cc) ds) (hg : (w5.alloc o).grownBy w6 (Value.slice va outs.length vc).ownBlock) (ho6 : w6.ownsRow w0.heap.size 68 2 (.slice a6 (outs.length + 1) c6) (outs.length + 1) (elsC outs ++ [.slice ca ds.length cc, .int .i64 i]))
    (hb6 : w6.heap[bo]? = some (.cells #[.slice va outs.length vc] 31)) : OutAt w0 (w6.setCell ⟨bo, 0, none⟩ (.slice a6 (outs.length + 1) c6)) bo (outs ++ [⟨ca, ds.length, cc, i, ds⟩]) := by
  obtain ⟨hbo, hf, v, hcell, hown, hrows⟩ := h
  have k5 : Fr [] w (w5.alloc o) := (fa.drew.trans f5).alloc o
  have ho5 := ownsRow_fr ho k5 (by simp)
  have k6 : Fr [bo] w0 w6 := (hf.trans k5.nil).fresh hg (fun r e => Or.inl (ho.lt r e).1)
  have hs : w0.heap.size ≤ w1.drew.heap.size := Nat.le_trans hf.size fa.size
  refine ⟨hbo, k6.setCell (by simp) _, _, heap_set1 hb6, ?_, fun e he => ?_⟩
  · rw [elsC_snoc]
    simpa [El.cells] using ownsRow_set ho6 hbo
  · rcases List.mem_append.1 he with he | he
    · exact (((hrows e he).fr k5 (by simp)).grown ho5 hg).fr ((Fr.refl [bo] w6).setCell (by simp) _) (by simpa using hbo)
    · rw [List.mem_singleton.1 he]
      exact (((hin.base hs).fr ((Fr.refl [] w5).alloc o) (by simp)).grown ho5 hg).fr ((Fr.refl [bo] w6).setCell (by simp) _) (by simpa using hbo)

set_option maxRecDepth 100000
set_option maxHeartbeats 1600000 in
theorem put_any {w0 w : World} {bo : Nat} {outs : List El} {e : El} {i : Int} (h : OutAt w0 w bo outs) (hr : RowAt w e.rv e.rd) (he : e.rd.length ≤ 4398046511103) (hm : outs.length ≤ 4398046511102) :
    Calls Tryz.prog 105 #[.agg #[.slice e.ra e.rl e.rc, .int .i64 e.n], .int .i64 i, .pointer (some ⟨bo, 0, none⟩)] w fun x w' => x = .returned (.tuple #[]) ∧ ∃ e' : El, e'.rd = e.rd ∧ e'.n = i ∧ OutAt w0 w' bo (outs ++ [e']) := by
  obtain ⟨i0, hi, hz0, hz1, hz2⟩ := info_parts infoC
  obtain ⟨hbo, hf, v, hcell, hown, hrows⟩ := h
  obtain ⟨va, vc, rfl⟩ := ownsRow_shape hown
  have hsz := hf.size
  have H : Hid (OutAt w0 w bo outs) := ⟨hbo, hf, _, hcell, hown, hrows⟩
  have HO := Lib.hid hown
  have HR := Lib.hid hr
  have HC := Lib.hid hcell
  clear hf hown hrows hr
  go_enter Tryz.func105, Tryz.ntmps105
  go_upto_region 1 with fail
  have fa : Fr [] w (w.alloc (.cells #[.slice e.ra e.rl e.rc, .int .i64 e.n] 68)) := (Fr.refl [] w).alloc _
  have hb1 := fa.heap hcell (by simp)
  have x0 : (w.alloc (.cells #[.slice e.ra e.rl e.rc, .int .i64 e.n] 68)).cell? ⟨bo, 0, none⟩ = some (.slice va outs.length vc) := by simp [World.cell?, hb1]
  have y0 : (w.alloc (.cells #[.slice e.ra e.rl e.rc, .int .i64 e.n] 68)).cell? ⟨w.heap.size, 0, none⟩ = some (.slice e.ra e.rl e.rc) := by simp
  have FA := Lib.hid fa
  have HB1 := Lib.hid hb1
  have hfar : ∀ r, r ∈ (Value.slice va outs.length vc).ownBlock.toList → w0.heap.size ≤ r ∧ r < w.heap.size := fun r hr => by
    have e : (Value.slice va outs.length vc).ownBlock = some r := by simpa using hr
    exact HO.out.lt r e
  have HF := Lib.hid hfar
  have hsz1 : w0.heap.size ≤ (w.alloc (.cells #[.slice e.ra e.rl e.rc, .int .i64 e.n] 68)).heap.size := by have := FA.out.size; omega
  clear fa hb1 hcell hfar
  generalize w.heap.size = bx at *
  generalize w.alloc (.cells #[.slice e.ra e.rl e.rc, .int .i64 e.n] 68) = w1 at *
  go_region_law (first
    | (refine step_call1 _ (by rfl) 74 _ _ (by rfl) (.slice e.ra e.rl e.rc) rfl (by kernel_rfl) (cloneRow_any (v := .slice e.ra e.rl e.rc) (HR.out.fr (FA.out.drew)) he) ?_; rintro x w5 ⟨⟨ca, cc, rfl, hin5⟩, f5⟩; have x5 := f5.cell x0 (by simp); have x7 : ∀ o, (w5.alloc o).cell? ⟨bo, 0, none⟩ = some (.slice va outs.length vc) := fun o => ((Fr.refl [] w5).alloc o).cell x5 (by simp); refine ⟨_, rfl, ?_⟩)
    | (refine step_append_src _ (by rfl) _ _ 31 (by rfl) w0.heap.size 68 i0 _ 2 32 Tryz.underlying31 hi hz0 hz1 hz2 rfl (by omega) (.slice va outs.length vc) outs.length (elsC outs) rfl ?own (.slice (some ⟨w5.heap.size, 0, none⟩) 1 1) 1 [.slice ca e.rd.length cc, .int .i64 i] rfl ?src (by unfold maxLen; omega) (by omega) ?bs ?_
       case own => exact ownsRow_fr HO.out ((FA.out.drew.trans f5).alloc _) (by simp)
       case src => exact Src.block (heap_alloc_new w5 _) rfl (by intro u hu; simp at hu; rcases hu with rfl | rfl <;> rfl)
       case bs => have := f5.size; simp at this ⊢; omega
       intro v2 w6 hown6 hgrow6 hblk6
       obtain ⟨a6, c6, rfl⟩ := ownsRow_shape hown6
       have k6 : Fr (Value.slice va outs.length vc).ownBlock.toList w1 w6 := Fr.trans (Fr.nil (Fr.alloc (Fr.trans (Fr.drew (Fr.refl [] w1)) f5) _)) (Fr.grown hgrow6)
       have x6 := k6.cell x0 (fun hx => by have := HF.out _ hx; simp at this; omega)
       have y6 := k6.cell y0 (fun hx => by have := HF.out _ hx; simp at this)
       have hb6 := k6.heap HB1.out (fun hx => by have := HF.out _ hx; omega)
       have z6 : w6.frozen? ⟨bo, 0, none⟩ = false := by simp [World.frozen?, hb6]
       have HOwn6 := Lib.hid hown6
       have HG6 := Lib.hid hgrow6
       have K6 := Lib.hid k6
       have HB6 := Lib.hid hb6
       clear hown6 hgrow6 k6 hb6 hblk6))
  all_goals
    go_wp2_with fail
    go_end0
    exact ⟨rfl, ⟨ca, e.rd.length, cc, i, e.rd⟩, rfl, rfl, H.out.put HO.out FA.out f5 hin5 HG6.out HOwn6.out HB6.out⟩
end Go.Proofs.YtjchlfblbmiceaaGreat
