/- the reference's sums, At, Settle and Later. No condition but the sizes. -/
import Derived.Test.YtjchlfblbmiceaaGreatWa
import Derived.Test.YtjchlfblbmiceaaGreatWc
import Derived.Deep.CutRange
import Derived.Deep.DeepCutAuto
import Derived.Deep.RegionWith
namespace Go.Proofs.YtjchlfblbmiceaaGreat
open Go.RowKit srt grp

/-! ### plain -/
def insStep (x : El) (s : List El × Bool) (r : El) : List El × Bool :=
  if s.2 = false ∧ cmpR x.rd r.rd ≤ 0 then (s.1 ++ (if cmpR x.rd r.rd < 0 then [x] else []) ++ [r], true) else (s.1 ++ [r], s.2)
def ins (x : El) : List El → List El
  | [] => [x]
  | r :: l => if cmpR x.rd r.rd < 0 then x :: r :: l else if cmpR x.rd r.rd = 0 then r :: l else r :: ins x l
theorem fold_true (x : El) : ∀ (l nx : List El), l.foldl (insStep x) (nx, true) = (nx ++ l, true)
  | [], nx => by simp
  | r :: l, nx => by
    rw [List.foldl_cons, show insStep x (nx, true) r = (nx ++ [r], true) from if_neg (by simp), fold_true x l]
    simp
theorem fold_ins (x : El) : ∀ (l nx : List El), (if (l.foldl (insStep x) (nx, false)).2 = true then (l.foldl (insStep x) (nx, false)).1 else (l.foldl (insStep x) (nx, false)).1 ++ [x]) = nx ++ ins x l
  | [], nx => by simp [ins]
  | r :: l, nx => by
    rw [List.foldl_cons]
    by_cases h1 : cmpR x.rd r.rd < 0
    · rw [show insStep x (nx, false) r = (nx ++ [x] ++ [r], true) by unfold insStep; rw [if_pos ⟨rfl, by omega⟩, if_pos h1], fold_true]
      simp [ins, h1]
    · by_cases h2 : cmpR x.rd r.rd = 0
      · rw [show insStep x (nx, false) r = (nx ++ [r], true) by unfold insStep; rw [if_pos ⟨rfl, by omega⟩, if_neg h1, List.append_nil], fold_true]
        simp [ins, h2]
      · rw [show insStep x (nx, false) r = (nx ++ [r], false) by unfold insStep; rw [if_neg (fun h => by have := h.2; omega)], fold_ins x l]
        simp [ins, h1, h2]
theorem ins_sub (x : El) : ∀ (l : List El), ∀ e ∈ ins x l, e = x ∨ e ∈ l
  | [], e, h => by simpa [ins] using h
  | r :: l, e, h => by
    unfold ins at h
    split at h
    · simpa using h
    · split at h
      · exact Or.inr h
      · rcases List.mem_cons.1 h with rfl | h
        · exact Or.inr (by simp)
        · rcases ins_sub x l e h with h | h
          · exact Or.inl h
          · exact Or.inr (by simp [h])
theorem ins_mem (x : El) (r : List Dt) : ∀ (l : List El), r ∈ (ins x l).map (·.rd) ↔ r = x.rd ∨ r ∈ l.map (·.rd)
  | [] => by simp [ins]
  | e :: l => by
    unfold ins
    split
    · simp
    · split
      · rename_i h
        have := cmpR_eq h
        simp only [List.map_cons, List.mem_cons]
        rw [this]
        constructor
        · intro h; exact Or.inr h
        · rintro (h | h | h)
          · exact Or.inl h
          · exact Or.inl h
          · exact Or.inr h
      · rw [List.map_cons, List.mem_cons, ins_mem x r l, List.map_cons, List.mem_cons]
        constructor
        · rintro (h | h | h)
          · exact Or.inr (Or.inl h)
          · exact Or.inl h
          · exact Or.inr (Or.inr h)
        · rintro (h | h | h)
          · exact Or.inr (Or.inl h)
          · exact Or.inl h
          · exact Or.inr (Or.inr h)
theorem ins_rise (x : El) : ∀ (l : List El), l.Pairwise (fun a b => cmpR a.rd b.rd < 0) → (ins x l).Pairwise (fun a b => cmpR a.rd b.rd < 0)
  | [], _ => by simp [ins]
  | r :: l, h => by
    obtain ⟨h1, h2⟩ := List.pairwise_cons.1 h
    unfold ins
    split
    · rename_i hlt
      refine List.pairwise_cons.2 ⟨fun b hb => ?_, h⟩
      rcases List.mem_cons.1 hb with rfl | hb
      · exact hlt
      · exact cmpRS.lt_trans hlt (h1 b hb)
    · split
      · exact h
      · rename_i n1 n2
        refine List.pairwise_cons.2 ⟨fun b hb => ?_, ins_rise x l h2⟩
        rcases ins_sub x l b hb with rfl | hb
        · have := cmpRS.swap b.rd r.rd
          omega
        · exact h1 b hb
theorem ins_len (x : El) : ∀ (l : List El), (ins x l).length ≤ l.length + 1
  | [] => by simp [ins]
  | r :: l => by
    unfold ins
    split
    · simp
    · split
      · simp
      · have := ins_len x l; simp; omega
theorem insStep_len (x : El) (s : List El × Bool) (r : El) : (insStep x s r).1.length ≤ s.1.length + 2 := by
  unfold insStep
  split
  · split <;> simp
  · simp

/-! ### rows in a list -/
def rowsC (l : List El) : List Value := l.map fun e => .slice e.ra e.rl e.rc
theorem rowsC_len (l : List El) : (rowsC l).length = l.length := by simp [rowsC]
theorem rowsC_one (l : List El) : ∀ u ∈ rowsC l, u.oneCell' = true := by
  intro u hu
  obtain ⟨d, -, rfl⟩ := List.mem_map.1 hu
  rfl
theorem rowsC_append (a b : List El) : rowsC (a ++ b) = rowsC a ++ rowsC b := by simp [rowsC]
theorem rowsC_at {l : List El} {k : Nat} (h : k < l.length) : (rowsC l)[k]? = some (.slice (nth l k).ra (nth l k).rl (nth l k).rc) := by
  unfold rowsC; rw [List.getElem?_map, nth_at h]; rfl
theorem infoR : (Tryz.prog.info? 52).map (fun i => (i.zero, i.size, i.bytes)) = some (some (.slice none 0 0), 1, 24) := by kernel_rfl

/-- A row of one type is in no block of another's. -/
theorem own_far {w w' : World} {b1 b2 n m e1 e2 s1 s2 : Nat} {v x : Value} {xs ys : List Value} (hne : e1 ≠ e2) (h : w.ownsRow b1 e1 s1 v n xs) (ho : w.ownsRow b2 e2 s2 x m ys) (hg : w.grownBy w' x.ownBlock) : w'.ownsRow b1 e1 s1 v n xs := by
  obtain ⟨h1, h2⟩ := h
  refine ⟨h1, ?_⟩
  rcases h2 with h2 | ⟨g, cap, cur, hv, hb, hh, r⟩
  · exact Or.inl h2
  · have hlt : g < w.heap.size := (Array.getElem?_eq_some_iff.1 hh).1
    refine Or.inr ⟨g, cap, cur, hv, hb, ?_, r⟩
    rw [hg.block g hlt (fun e => ?_)]
    · exact hh
    · rcases ho.2 with ⟨rfl, -⟩ | ⟨g2, c2, cur2, rfl, -, h2, -⟩
      · simp [Value.ownBlock] at e
      · simp only [Value.ownBlock, Option.some.injEq] at e
        subst e
        rw [h2] at hh
        simp only [Option.some.injEq, Obj.cells.injEq] at hh
        exact hne hh.2.1.symm
/-- A list of rows that can be read. -/
structure Rws (w : World) (v : Value) (l : List El) : Prop where
  src : Src w 1 v l.length (rowsC l)
  row : ∀ e ∈ l, RowAt w e.rv e.rd ∧ e.rd.length ≤ 4398046511103
theorem Rws.fr {w w' : World} {v : Value} {l : List El} (h : Rws w v l) (f : Fr [] w w') : Rws w' v l := ⟨h.src.fr f, fun e he => ⟨(h.row e he).1.fr f, (h.row e he).2⟩⟩
theorem Rws.cell {w : World} {a : Option Addr} {n c : Nat} {l : List El} (h : Rws w (.slice a n c) l) {k : Nat} (hk : k < l.length) :
    ∃ b off, a = some ⟨b, off, none⟩ ∧ w.cell? ⟨b, off + k, none⟩ = some (.slice (nth l k).ra (nth l k).rl (nth l k).rc) := by
  rcases h.src.2.2 with ⟨-, h2⟩ | ⟨ad, c, hv, hc⟩
  · omega
  · simp only [Value.slice.injEq] at hv
    have c0 := hc _ _ (rowsC_at hk)
    have hp := addr_plain (a := ad) (hc 0 _ (rowsC_at (show 0 < l.length by omega)))
    exact ⟨ad.block, ad.off, by rw [hv.1]; exact congrArg some hp, cell_add c0⟩
theorem own_rws {w : World} {base : Nat} {v : Value} {l : List El} (h : w.ownsRow base 52 1 v l.length (rowsC l)) (hr : ∀ e ∈ l, RowAt w e.rv e.rd ∧ e.rd.length ≤ 4398046511103) : Rws w v l := ⟨Src.row h (rowsC_one l), hr⟩

def RInsR (w : World) (x : El) (l : List El) (a b i : Value) (wr : World) : Prop :=
  ∃ (k : Nat) (nx : List El) (dn : Bool), i = .int .i64 (k : Int) ∧ b = .bool dn ∧ k ≤ l.length ∧ Hid ((l.take k).foldl (insStep x) ([], false) = (nx, dn)) ∧ nx.length ≤ 2 * k ∧ wr.ownsRow w.heap.size 52 1 a nx.length (rowsC nx) ∧ Fr [] w wr

set_option maxRecDepth 100000
set_option maxHeartbeats 3200000 in
theorem insert_any {w : World} {aa : Option Addr} {ac : Nat} {l : List El} {x : El} (h : Rws w (.slice aa l.length ac) l) (hn : l.length ≤ 100000) (hx : RowAt w x.rv x.rd) (hxl : x.rd.length ≤ 4398046511103) :
    Calls Tryz.prog 107 #[.slice aa l.length ac, .slice x.ra x.rl x.rc] w fun e w' => ∃ a c, e = .returned (.slice a (ins x l).length c) ∧ Fr [] w w' ∧ w'.ownsRow w.heap.size 52 1 (.slice a (ins x l).length c) (ins x l).length (rowsC (ins x l)) := by
  obtain ⟨i0, hi, hz0, hz1, hz2⟩ := info_parts infoR
  have HC := Lib.hid h
  have HX := Lib.hid hx
  clear h hx
  go_enter Tryz.func107, Tryz.ntmps107
  go_wp2_with fail
  go_loopw [5, 6, 13] (fun a b i wr => RInsR w x l a b i wr) (fun _ _ i _ => l.length - (intOf i).toNat)
  case atStart => exact ⟨0, [], false, rfl, rfl, Nat.zero_le _, Lib.hid rfl, by simp, World.ownsRow_made w #[] 0 (Nat.le_refl _) (by decide) rfl, (Fr.refl [] w).alloc _⟩
  case round =>
    obtain ⟨k, nx, dn, rfl, rfl, hk, HF, hnl, ho, hf⟩ := hrel
    have HO := Lib.hid ho
    have HFr := Lib.hid hf
    obtain ⟨va, vc, rfl⟩ := ownsRow_shape ho
    have hsz := hf.size
    by_cases hlt : k < l.length
    · obtain ⟨b, off, e1, z0⟩ := (HC.out.fr hf).cell hlt
      subst e1
      have r1 := (HC.out.fr hf).row _ (nth_mem hlt)
      have hcm := rrow_cmp (HX.out.fr hf) r1.1 (by omega)
      have hst : (l.take (k + 1)).foldl (insStep x) ([], false) = insStep x (nx, dn) (nth l k) := by
        rw [List.take_add_one, nth_at hlt, List.foldl_append, HF.out]; rfl
      have HSt := Lib.hid hst
      have HCm := Lib.hid hcm
      clear hst hcm ho hf r1
      generalize hr : nth l k = r at *
      have hst2 : ∀ nx1, insStep x (nx, dn) r = (nx1 ++ [r], if dn = false ∧ cmpR x.rd r.rd ≤ 0 then true else dn) ↔ nx1 = nx ++ (if dn = false ∧ cmpR x.rd r.rd < 0 then [x] else []) := fun nx1 => by
        unfold insStep
        by_cases h1 : dn = false ∧ cmpR x.rd r.rd ≤ 0
        · rw [if_pos h1, if_pos h1]
          by_cases h2 : cmpR x.rd r.rd < 0
          · rw [if_pos h2, if_pos ⟨h1.1, h2⟩]
            simp only [Prod.mk.injEq, and_true]
            constructor
            · intro h; exact (List.append_cancel_right h).symm
            · rintro rfl; rfl
          · rw [if_neg h2, if_neg (fun h => h2 h.2)]
            simp only [Prod.mk.injEq, and_true]
            constructor
            · intro h; exact (List.append_cancel_right h).symm
            · rintro rfl; rfl
        · rw [if_neg h1, if_neg h1, if_neg (fun h => h1 ⟨h.1, by omega⟩)]
          simp only [Prod.mk.injEq, and_true, List.append_nil]
          constructor
          · intro h; exact (List.append_cancel_right h).symm
          · rintro rfl; rfl
      have HS2 := Lib.hid hst2
      clear hst2
      generalize cmpR x.rd r.rd = cv at *
      cases dn with
      | true =>
        have HS3 := Lib.hid (show (l.take (k + 1)).foldl (insStep x) ([], false) = (nx ++ [r], true) by rw [HSt.out, (HS2.out nx).2 (by simp)]; simp)
        clear HS2 HSt
        go_wp2_with (first
          | (go_at_call 63; refine HCm.out.mono ?_; rintro e w4 ⟨rfl, f4⟩; have HO4 := Lib.hid (ownsRow_fr HO.out f4 (by simp)); have F4 := Lib.hid (HFr.out.trans f4); have hsz4 := (HFr.out.trans f4).size; clear f4)
          | (at_builtin; refine wpList_append_src _ rfl (.tmp 32) (.tmp 34) 118 rfl w.heap.size 52 i0 _ 1 24 Tryz.underlying118 hi hz0 hz1 hz2 rfl (by decide) (.slice va nx.length vc) (nx.length) _ rfl (ownsRow_fr HO4.out ((Fr.refl [] w4).alloc _) (by simp)) (.slice (some ⟨w4.heap.size, 0, none⟩) 1 1) 1 [.slice r.ra r.rl r.rc] rfl (Src.block (heap_alloc_new w4 _) rfl (by intro u hu; simp at hu; rcases hu with rfl; rfl)) (by unfold maxLen; omega) (by omega) (by simp; omega) ?_; intro v6 w6 hown6 hgrow6 _; have HOwn6 := Lib.hid hown6; have HG6 := Lib.hid hgrow6; clear hown6 hgrow6))
        go_roundw
        case rel => exact ⟨k + 1, nx ++ [r], true, by go_num, rfl, by omega, Lib.hid HS3.out, by simp; omega, by
          rw [rowsC_append, List.length_append]
          exact HOwn6.out, (F4.out.alloc _).fresh HG6.out (fun q e => Or.inl (HO4.out.lt q e).1)⟩
        case measure => simp [intOf] <;> omega
      | false =>
        by_cases h1 : cv < 0
        · have h2 : cv ≤ 0 := by omega
          have HS3 := Lib.hid (show (l.take (k + 1)).foldl (insStep x) ([], false) = (nx ++ [x] ++ [r], true) by rw [HSt.out, (HS2.out (nx ++ [x])).2 (by simp [h1])]; simp [h2])
          clear HS2 HSt
          go_wp2_with (first
            | (go_at_call 63; refine HCm.out.mono ?_; rintro e w4 ⟨rfl, f4⟩; have HO4 := Lib.hid (ownsRow_fr HO.out f4 (by simp)); have F4 := Lib.hid (HFr.out.trans f4); have hsz4 := (HFr.out.trans f4).size; clear f4)
            | (at_builtin; refine wpList_append_src _ rfl (.tmp 28) (.tmp 30) 118 rfl w.heap.size 52 i0 _ 1 24 Tryz.underlying118 hi hz0 hz1 hz2 rfl (by decide) (.slice va nx.length vc) (nx.length) _ rfl (ownsRow_fr HO4.out ((Fr.refl [] w4).alloc _) (by simp)) (.slice (some ⟨w4.heap.size, 0, none⟩) 1 1) 1 [.slice x.ra x.rl x.rc] rfl (Src.block (heap_alloc_new w4 _) rfl (by intro u hu; simp at hu; rcases hu with rfl; rfl)) (by unfold maxLen; omega) (by omega) (by simp; omega) ?_; intro v5 w5 hown5 hgrow5 _; obtain ⟨v5a, v5c, rfl⟩ := ownsRow_shape hown5; have hsz5 := ((F4.out.alloc _).fresh hgrow5 (fun q e => Or.inl (HO4.out.lt q e).1)).size; have F5 := Lib.hid ((F4.out.alloc _).fresh hgrow5 (fun q e => Or.inl (HO4.out.lt q e).1)); have HO5 := Lib.hid hown5; clear hown5 hgrow5)
            | (at_builtin; refine wpList_append_src _ rfl (.tmp 32) (.tmp 34) 118 rfl w.heap.size 52 i0 _ 1 24 Tryz.underlying118 hi hz0 hz1 hz2 rfl (by decide) (.slice v5a (nx.length + 1) v5c) (nx.length + 1) _ rfl (ownsRow_fr HO5.out ((Fr.refl [] w5).alloc _) (by simp)) (.slice (some ⟨w5.heap.size, 0, none⟩) 1 1) 1 [.slice r.ra r.rl r.rc] rfl (Src.block (heap_alloc_new w5 _) rfl (by intro u hu; simp at hu; rcases hu with rfl; rfl)) (by unfold maxLen; omega) (by omega) (by simp; omega) ?_; intro v6 w6 hown6 hgrow6 _; have HOwn6 := Lib.hid hown6; have HG6 := Lib.hid hgrow6; clear hown6 hgrow6))
          go_roundw
          case rel => exact ⟨k + 1, nx ++ [x] ++ [r], true, by go_num, rfl, by omega, Lib.hid HS3.out, by simp; omega, by
            have h9 := HOwn6.out
            rw [rowsC_append, rowsC_append, List.length_append, List.length_append]
            exact h9, (F5.out.alloc _).fresh HG6.out (fun q e => Or.inl (HO5.out.lt q e).1)⟩
          case measure => simp [intOf] <;> omega
        · by_cases h2 : cv ≤ 0
          · have HS3 := Lib.hid (show (l.take (k + 1)).foldl (insStep x) ([], false) = (nx ++ [r], true) by rw [HSt.out, (HS2.out nx).2 (by simp [h1])]; simp [h2])
            clear HS2 HSt
            go_wp2_with (first
              | (go_at_call 63; refine HCm.out.mono ?_; rintro e w4 ⟨rfl, f4⟩; have HO4 := Lib.hid (ownsRow_fr HO.out f4 (by simp)); have F4 := Lib.hid (HFr.out.trans f4); have hsz4 := (HFr.out.trans f4).size; clear f4)
              | (at_builtin; refine wpList_append_src _ rfl (.tmp 32) (.tmp 34) 118 rfl w.heap.size 52 i0 _ 1 24 Tryz.underlying118 hi hz0 hz1 hz2 rfl (by decide) (.slice va nx.length vc) (nx.length) _ rfl (ownsRow_fr HO4.out ((Fr.refl [] w4).alloc _) (by simp)) (.slice (some ⟨w4.heap.size, 0, none⟩) 1 1) 1 [.slice r.ra r.rl r.rc] rfl (Src.block (heap_alloc_new w4 _) rfl (by intro u hu; simp at hu; rcases hu with rfl; rfl)) (by unfold maxLen; omega) (by omega) (by simp; omega) ?_; intro v6 w6 hown6 hgrow6 _; have HOwn6 := Lib.hid hown6; have HG6 := Lib.hid hgrow6; clear hown6 hgrow6))
            go_roundw
            case rel => exact ⟨k + 1, nx ++ [r], true, by go_num, rfl, by omega, Lib.hid HS3.out, by simp; omega, by
              rw [rowsC_append, List.length_append]
              exact HOwn6.out, (F4.out.alloc _).fresh HG6.out (fun q e => Or.inl (HO4.out.lt q e).1)⟩
            case measure => simp [intOf] <;> omega
          · have HS3 := Lib.hid (show (l.take (k + 1)).foldl (insStep x) ([], false) = (nx ++ [r], false) by rw [HSt.out, (HS2.out nx).2 (by simp [h1])]; simp [h2])
            clear HS2 HSt
            go_wp2_with (first
              | (go_at_call 63; refine HCm.out.mono ?_; rintro e w4 ⟨rfl, f4⟩; have HO4 := Lib.hid (ownsRow_fr HO.out f4 (by simp)); have F4 := Lib.hid (HFr.out.trans f4); have hsz4 := (HFr.out.trans f4).size; clear f4)
              | (at_builtin; refine wpList_append_src _ rfl (.tmp 32) (.tmp 34) 118 rfl w.heap.size 52 i0 _ 1 24 Tryz.underlying118 hi hz0 hz1 hz2 rfl (by decide) (.slice va nx.length vc) (nx.length) _ rfl (ownsRow_fr HO4.out ((Fr.refl [] w4).alloc _) (by simp)) (.slice (some ⟨w4.heap.size, 0, none⟩) 1 1) 1 [.slice r.ra r.rl r.rc] rfl (Src.block (heap_alloc_new w4 _) rfl (by intro u hu; simp at hu; rcases hu with rfl; rfl)) (by unfold maxLen; omega) (by omega) (by simp; omega) ?_; intro v6 w6 hown6 hgrow6 _; have HOwn6 := Lib.hid hown6; have HG6 := Lib.hid hgrow6; clear hown6 hgrow6))
            go_roundw
            case rel => exact ⟨k + 1, nx ++ [r], false, by go_num, rfl, by omega, Lib.hid HS3.out, by simp; omega, by
              rw [rowsC_append, List.length_append]
              exact HOwn6.out, (F4.out.alloc _).fresh HG6.out (fun q e => Or.inl (HO4.out.lt q e).1)⟩
            case measure => simp [intOf] <;> omega
    · obtain rfl : k = l.length := by omega
      have hfo := HF.out
      rw [List.take_length] at hfo
      have hfi := fold_ins x l []
      rw [hfo, List.nil_append] at hfi
      cases dn with
      | true =>
        have HE := Lib.hid (show ins x l = nx from hfi.symm)
        clear hfi hfo ho hf hk hlt
        go_wp2_with fail
        go_ret
        rw [HE.out]
        exact ⟨va, vc, rfl, HFr.out, HO.out⟩
      | false =>
        have HE := Lib.hid (show ins x l = nx ++ [x] from hfi.symm)
        clear hfi hfo ho hf hk hlt
        go_wp2_with (at_builtin; refine wpList_append_src _ rfl (.tmp 39) (.tmp 41) 118 rfl w.heap.size 52 i0 _ 1 24 Tryz.underlying118 hi hz0 hz1 hz2 rfl (by decide) (.slice va nx.length vc) nx.length _ rfl (ownsRow_fr HO.out ((Fr.refl [] wr).alloc _) (by simp)) (.slice (some ⟨wr.heap.size, 0, none⟩) 1 1) 1 [.slice x.ra x.rl x.rc] rfl (Src.block (heap_alloc_new wr _) rfl (by intro u hu; simp at hu; rcases hu with rfl; rfl)) (by unfold maxLen; omega) (by omega) (by simp; omega) ?_; intro v6 w6 hown6 hgrow6 _; obtain ⟨v6a, v6c, rfl⟩ := ownsRow_shape hown6; have HOwn6 := Lib.hid hown6; have HG6 := Lib.hid hgrow6; clear hown6 hgrow6)
        go_ret
        rw [HE.out, List.length_append]
        exact ⟨v6a, v6c, rfl, (HFr.out.alloc _).fresh HG6.out (fun q e => Or.inl (HO.out.lt q e).1), by rw [rowsC_append]; exact HOwn6.out⟩

/-- The rows of a list, rising, each once. -/
structure RowsOf (w : World) (l : List El) (R : List El) : Prop where
  up : R.Pairwise fun a b => cmpR a.rd b.rd < 0
  mem : ∀ r, r ∈ R.map (·.rd) ↔ r ∈ l.map (·.rd)
  len : R.length ≤ l.length
  row : ∀ e ∈ R, RowAt w e.rv e.rd ∧ e.rd.length ≤ 4398046511103
  sub : ∀ e ∈ R, e ∈ l
theorem RowsOf.snoc {w : World} {l R : List El} {e : El} (h : RowsOf w l R) (he : RowAt w e.rv e.rd ∧ e.rd.length ≤ 4398046511103) : RowsOf w (l ++ [e]) (ins e R) := by
  refine ⟨ins_rise e R h.up, fun r => ?_, by have := ins_len e R; have := h.len; simp; omega, fun x hx => ?_, fun x hx => ?_⟩
  · rw [ins_mem, h.mem]
    simp only [List.map_append, List.map_cons, List.map_nil, List.mem_append, List.mem_singleton]
    exact Or.comm
  · rcases ins_sub e R x hx with rfl | hx
    · exact he
    · exact h.row x hx
  · rcases ins_sub e R x hx with rfl | hx
    · simp
    · simp [h.sub x hx]

set_option maxHeartbeats 3200000 in
theorem rows_any {w : World} {aa : Option Addr} {ac : Nat} {l : List El} (h : Cts w (.slice aa l.length ac) l) (hn : l.length ≤ 10000) :
    Calls Tryz.prog 86 #[.slice aa l.length ac] w fun e w' => ∃ (R : List El) (a : Option Addr) (c : Nat), e = .returned (.slice a R.length c) ∧ Fr [] w w' ∧ w'.ownsRow w.heap.size 52 1 (.slice a R.length c) R.length (rowsC R) ∧ RowsOf w l R := by
  have HC := Lib.hid h
  clear h
  go_enter Tryz.func86, Tryz.ntmps86
  go_wp2_with fail
  go_loopw [3, 9] (fun v x wr => ∃ (k : Nat) (R : List El), x = .int .i64 (k : Int) ∧ k ≤ l.length ∧ Fr [] w wr ∧ wr.ownsRow w.heap.size 52 1 v R.length (rowsC R) ∧ RowsOf w (l.take k) R) (fun _ x _ => l.length - (intOf x).toNat)
  case atStart => exact ⟨0, [], rfl, Nat.zero_le _, (Fr.refl [] w).alloc _, World.ownsRow_made w #[] 0 (Nat.le_refl _) (by decide) rfl, ⟨by simp, by simp, by simp, by simp, by simp⟩⟩
  case round =>
    obtain ⟨k, R, rfl, hk, hf, ho, hR⟩ := hrel
    obtain ⟨va, vc, rfl⟩ := ownsRow_shape ho
    have HR := Lib.hid hR
    have hrl := hR.len
    rw [List.length_take] at hrl
    by_cases hlt : k < l.length
    · obtain ⟨b, off, e1, z0, z1⟩ := (HC.out.fr hf).cell hlt
      subst e1
      have r1 := (HC.out.fr hf).row _ (nth_mem hlt)
      have fa : Fr [] wr (wr.alloc (.cells #[.slice (nth l k).ra (nth l k).rl (nth l k).rc, .int .i64 (nth l k).n] 68)) := (Fr.refl [] wr).alloc _
      have hins := insert_any (own_rws (ownsRow_fr ho fa (by simp)) fun e he => ⟨((hR.row e he).1.fr hf).fr fa, (hR.row e he).2⟩) (by omega) (r1.1.fr fa) r1.2.len
      have HIns := Lib.hid hins
      have F1 := Lib.hid (hf.trans fa)
      have hsz := (hf.trans fa).size
      have hts : l.take (k + 1) = l.take k ++ [nth l k] := by rw [List.take_add_one, nth_at hlt]; rfl
      have HTs := Lib.hid hts
      have HRow := Lib.hid (HC.out.row _ (nth_mem hlt))
      clear ho hf r1 hins fa hts hR
      go_upto_region 5 with fail
      have y0 : (wr.alloc (.cells #[.slice (nth l k).ra (nth l k).rl (nth l k).rc, .int .i64 (nth l k).n] 68)).cell? ⟨wr.heap.size, 0, none⟩ = some (.slice (nth l k).ra (nth l k).rl (nth l k).rc) := cell_blk (heap_alloc_new wr _) 0 _ rfl
      generalize wr.heap.size = bx at *
      generalize wr.alloc (.cells #[.slice (nth l k).ra (nth l k).rl (nth l k).rc, .int .i64 (nth l k).n] 68) = wa at *
      go_wp2_with (go_at_call 107; refine HIns.out.mono ?_; rintro e w4 ⟨ia, ic, rfl, f4, o4⟩; have F4 := Lib.hid (F1.out.trans f4); have O4 := Lib.hid (ownsRow_base o4 hsz); clear f4 o4)
      go_roundw
      case rel => exact ⟨k + 1, ins (nth l k) R, by go_num, by omega, F4.out, O4.out, by rw [HTs.out]; exact HR.out.snoc ⟨HRow.out.1, HRow.out.2.len⟩⟩
      case measure => simp [intOf] <;> omega
    · obtain rfl : k = l.length := by omega
      rw [List.take_length] at HR
      have HO := Lib.hid ho
      have HF := Lib.hid hf
      clear ho hf hR hk hlt hrl
      go_wp2_with fail
      go_ret
      exact ⟨R, va, vc, rfl, HF.out, HO.out, HR.out⟩
end Go.Proofs.YtjchlfblbmiceaaGreat
namespace Go.Proofs.YtjchlfblbmiceaaGreat
open Go.RowKit srt grp big

/-- A variable that holds a whole number. -/
def VarBig (w0 wr : World) (g : Nat) (z : Int) : Prop :=
  ∃ ra rc, wr.heap[g]? = some (.cells #[.bool (decide (z < 0)), .slice ra (dg z.natAbs).length rc] 122) ∧ BigAt wr (.agg #[.bool (decide (z < 0)), .slice ra (dg z.natAbs).length rc]) z ∧ Fr [] w0 wr
theorem VarBig.fr {w0 w w' : World} {g : Nat} {z : Int} (h : VarBig w0 w g z) (f : Fr [] w w') : VarBig w0 w' g z := by
  obtain ⟨ra, rc, h1, h2, h3⟩ := h
  exact ⟨ra, rc, f.heap h1 (by simp), h2.fr f, h3.trans f⟩
theorem VarBig.zero {w0 w : World} (f : Fr [] w0 w) {g : Nat} (h : w.heap[g]? = some (.cells #[.bool false, .slice none 0 0] 122)) : VarBig w0 w g 0 :=
  ⟨none, 0, h, ⟨_, rfl, none, 0, rfl, Nat.le_refl _, fun _ => rfl, by simp [cel, dz, dg_zero], by simp [cel, dz, dg_zero], Or.inl ⟨rfl, rfl⟩⟩, f⟩
theorem VarBig.put {w0 w : World} {g n0 c0 : Nat} {z : Int} {m : Bool} {a0 : Option Addr} {ra : Option Addr} {rc : Nat} (f : Fr [] w0 w) (hg : w0.heap.size ≤ g) (h : w.heap[g]? = some (.cells #[.bool m, .slice a0 n0 c0] 122)) (hb : BigAt w (.agg #[.bool (decide (z < 0)), .slice ra (dg z.natAbs).length rc]) z) :
    VarBig w0 ((w.setCell ⟨g, 0, none⟩ (.bool (decide (z < 0)))).setCell ⟨g, 1, none⟩ (.slice ra (dg z.natAbs).length rc)) g z :=
  ⟨ra, rc, heap_set12 h, hb.set2 h, ret_fr f hg⟩

theorem dg_bound {z : Int} (h : -100000000000000000000000 ≤ z ∧ z ≤ 100000000000000000000000) : (dg z.natAbs).length ≤ 1000 := Nat.le_trans (dg_len_le (k := 4) (by omega)) (by decide)
theorem sumK_take {l : List El} {k : Nat} (h : k < l.length) (r : List Dt) : sumK ((l.take (k + 1)).map pr) r = sumK ((l.take k).map pr) r + if (nth l k).rd = r then (nth l k).n else 0 := by
  rw [List.take_add_one, nth_at h, List.map_append, sumK_append]
  simp [sumK_cons, sumK_nil, pr]
theorem take_bound {l : List El} (hl : l.length ≤ 10000) (hn : ∀ e ∈ l, ElOk e) (k : Nat) (r : List Dt) : -100000000000000000000000 ≤ sumK ((l.take k).map pr) r ∧ sumK ((l.take k).map pr) r ≤ 100000000000000000000000 := by
  have h := sum_bound (l := l.take k) (B := 9223372036854775808) (fun e he => by have := (hn e (List.mem_of_mem_take he)).n; omega) r
  have : (l.take k).length ≤ 10000 := by rw [List.length_take]; omega
  omega

set_option maxRecDepth 100000
set_option maxHeartbeats 3200000 in
theorem sum_any {w : World} {aa : Option Addr} {ac : Nat} {l : List El} {ra : Option Addr} {rc : Nat} {rd : List Dt} (h : Cts w (.slice aa l.length ac) l) (hn : l.length ≤ 10000) (hr : RowAt w (.slice ra rd.length rc) rd) :
    Calls Tryz.prog 87 #[.slice aa l.length ac, .slice ra rd.length rc] w fun e w' => ∃ v, e = .returned v ∧ BigAt w' v (sumK (l.map pr) rd) ∧ Fr [] w w' := by
  obtain ⟨f2, b1, b2, hs2⟩ := box2 w (.cells #[.bool false, .slice none 0 0] 122) (.cells #[.bool false, .slice none 0 0] 122)
  have HC := Lib.hid h
  have HR := Lib.hid hr
  have F2 := Lib.hid f2
  have B1 := Lib.hid b1
  have B2 := Lib.hid b2
  clear h hr f2 b1 b2
  go_enter Tryz.func87, Tryz.ntmps87
  go_upto_region 2 with fail
  generalize (w.alloc (.cells #[.bool false, .slice none 0 0] 122)).alloc (.cells #[.bool false, .slice none 0 0] 122) = w2 at *
  have hg5 : w.heap.size + 1 < w2.heap.size := by omega
  have HG5 := Lib.hid (show w.heap.size ≤ w.heap.size + 1 by omega)
  have HG4 := Lib.hid (show w.heap.size ≤ w.heap.size by omega)
  generalize hgg5 : w.heap.size + 1 = g5 at *
  generalize hgg4 : w.heap.size = g4 at *
  have HGG := Lib.hid (show w.heap.size ≤ g4 ∧ w.heap.size ≤ g5 by omega)
  have hne : g4 ≠ g5 := by omega
  clear hgg5 hgg4 HG5 HG4 hs2
  go_wp2_with fail
  go_loopw [11] (fun x wr => ∃ k : Nat, x = .int .i64 (k : Int) ∧ k ≤ l.length ∧ VarBig w wr g5 (sumK ((l.take k).map pr) rd) ∧ Fr [g5] w2 wr) (fun x _ => l.length - (intOf x).toNat)
  case atStart => exact ⟨0, rfl, Nat.zero_le _, VarBig.zero F2.out B2.out, Fr.refl _ _⟩
  case round =>
    obtain ⟨k, rfl, hk, hv, hf⟩ := hrel
    have HV := Lib.hid hv
    have HF := Lib.hid hf
    by_cases hlt : k < l.length
    · obtain ⟨sa, sc, b5, big5, f5⟩ := hv
      obtain ⟨b, off, e1, z0, z1⟩ := (HC.out.fr f5).cell hlt
      subst e1
      have r1 := (HC.out.fr f5).row _ (nth_mem hlt)
      have hst := sumK_take hlt rd
      have hbd := take_bound hn (fun e he => (HC.out.row e he).2) k rd
      have hn1 := r1.2.n
      have ha1 := z0
      clear hf
      go_upto_region 5 with fail
      have fa : Fr [] wr (wr.alloc (.cells #[.slice (nth l k).ra (nth l k).rl (nth l k).rc, .int .i64 (nth l k).n] 68)) := (Fr.refl [] wr).alloc _
      have hbx := heap_alloc_new wr (.cells #[.slice (nth l k).ra (nth l k).rl (nth l k).rc, .int .i64 (nth l k).n] 68)
      have b6 := fa.heap b5 (by simp)
      have RW := Lib.hid (r1.1.fr fa)
      have R2 := Lib.hid (HR.out.fr (f5.trans fa))
      have HLen := Lib.hid r1.2.len
      have HB6 := Lib.hid b6
      have Big6 := Lib.hid (big5.fr fa)
      have F6 := Lib.hid (f5.trans fa)
      have HV6 := Lib.hid (HV.out.fr fa)
      have HF6 := Lib.hid (HF.out.trans fa.nil)
      have hbg : wr.heap.size ≠ g5 := by
        have := (Array.getElem?_eq_some_iff.1 b5).1
        omega
      clear fa b5 b6 big5 f5 r1 z0 z1 ha1 HV HF
      generalize wr.heap.size = bx at *
      generalize wr.alloc (.cells #[.slice (nth l k).ra (nth l k).rl (nth l k).rc, .int .i64 (nth l k).n] 68) = wa at *
      have y0 := cell_blk hbx 0 (.slice (nth l k).ra (nth l k).rl (nth l k).rc) rfl
      have HBx := Lib.hid hbx
      clear hbx
      by_cases hc : (nth l k).rd = rd
      · rw [if_pos hc] at hst
        have hsame := (rsame_any RW.out R2.out (by have := HLen.out; omega)).mono fun e w' (hh : e = .returned (.bool (decide (cmpR (nth l k).rd rd = 0))) ∧ Fr [] wa w') => (⟨by rw [hh.1, hc, cmpR_self]; rfl, hh.2⟩ : e = .returned (.bool true) ∧ Fr [] wa w')
        have HSame := Lib.hid hsame
        have HSt := Lib.hid hst
        clear hsame hst hc
        generalize sumK ((l.take k).map pr) rd = S at *
        have HBd := Lib.hid hbd
        clear hbd
        generalize hSl : (dg S.natAbs).length = kS at *
        generalize hmS : decide (S < 0) = mS at *
        go_upto_if 18 with (go_at_call 36; refine HSame.out.mono ?_; rintro e w7 ⟨rfl, f7⟩; have b7 := f7.heap HB6.out (by simp); have c7 := f7.heap HBx.out (by simp); have HB7 := Lib.hid b7; have HC7 := Lib.hid c7; have Big7 := Lib.hid (Big6.out.fr f7); have F7 := Lib.hid (F6.out.trans f7); have HF7 := Lib.hid (HF6.out.trans f7.nil); clear b7 c7 f7)
        have t0 := cell_blk HB7.out 0 (.bool mS) rfl
        have t1 := cell_blk HB7.out 1 (.slice sa kS sc) rfl
        have u1 := cell_blk HC7.out 1 (.int .i64 (nth l k).n) rfl
        have d0 : w7.drew.cell? ⟨g5, 0, none⟩ = some (.bool mS) := t0
        have d1 : w7.drew.cell? ⟨g5, 1, none⟩ = some (.slice sa kS sc) := t1
        have d2 : w7.drew.cell? ⟨bx, 1, none⟩ = some (.int .i64 (nth l k).n) := u1
        go_upto_region 6 with fail
        go_region_with (first
            | (go_at_call 109; refine (of_any hn1).mono ?_; rintro e wo ⟨r1, rfl, hr1, fo⟩; have t2 := fo.cell d0 (by simp); have t3 := fo.cell d1 (by simp); have FO := Lib.hid (F7.out.drew.trans fo); have FF := Lib.hid (HF7.out.drew.trans fo.nil); have HR1 := Lib.hid hr1; have HRo := Lib.hid ((Big7.out.fr (Fr.refl [] w7).drew).fr fo); have bo := fo.heap (a := w7.drew) HB7.out (by simp); have BO := Lib.hid bo; clear hr1 fo bo)
            | (go_at_call 108; refine (bplus_any HRo.out HR1.out (dg_bound (by have := HBd.out; omega)) (dg_bound (by omega))).mono ?_; rintro e wp ⟨r2, rfl, hr2, fp⟩; obtain ⟨rb, rd', rfl, -⟩ := hr2.shape; have HR2 := Lib.hid hr2; have FP := Lib.hid (FO.out.trans fp); have FFP := Lib.hid (FF.out.trans fp.nil); have bp := fp.heap BO.out (by simp); have t4 := cell_blk bp 0 (.bool mS) rfl; have t5 := cell_blk bp 1 (.slice sa kS sc) rfl; have t6 : wp.frozen? ⟨g5, 0, none⟩ = false := (by simp [World.frozen?, bp]); have t7 : wp.frozen? ⟨g5, 1, none⟩ = false := (by simp [World.frozen?, bp]); have BP := Lib.hid bp; clear hr2 fp bp))
        all_goals
          go_wp2_with fail
          go_roundw
          case rel => exact ⟨k + 1, by go_num, by omega, by rw [HSt.out]; exact VarBig.put FP.out HGG.out.2 BP.out HR2.out, (FFP.out.setCell (by simp) _).setCell (by simp) _⟩
          case measure => simp [intOf] <;> omega
      · rw [if_neg hc, Int.add_zero] at hst
        have hsame := (rsame_any RW.out R2.out (by have := HLen.out; omega)).mono fun e w' (hh : e = .returned (.bool (decide (cmpR (nth l k).rd rd = 0))) ∧ Fr [] wa w') => (⟨by rw [hh.1, decide_eq_false (fun h0 => hc (cmpR_eq h0))], hh.2⟩ : e = .returned (.bool false) ∧ Fr [] wa w')
        have HSame := Lib.hid hsame
        have HSt := Lib.hid hst
        clear hsame hst hc hbd
        go_wp2_with (go_at_call 36; refine HSame.out.mono ?_; rintro e w7 ⟨rfl, f7⟩)
        go_roundw
        case rel => exact ⟨k + 1, by go_num, by omega, by rw [HSt.out]; exact HV6.out.fr f7, HF6.out.trans f7.nil⟩
        case measure => simp [intOf] <;> omega
    · obtain rfl : k = l.length := by omega
      rw [List.take_length] at hv
      obtain ⟨sa, sc, b5, big5, f5⟩ := hv
      have b4 := hf.heap B1.out (by simpa using hne)
      have t0 := cell_blk b5 0 (.bool (decide (sumK (l.map pr) rd < 0))) rfl
      have t1 := cell_blk b5 1 (.slice sa (dg (sumK (l.map pr) rd).natAbs).length sc) rfl
      have z0 := cell_blk b4 0 (.bool false) rfl
      have z1 := cell_blk b4 1 (.slice none 0 0) rfl
      have z2 : wr.frozen? ⟨g4, 0, none⟩ = false := by simp [World.frozen?, b4]
      have z3 : wr.frozen? ⟨g4, 1, none⟩ = false := by simp [World.frozen?, b4]
      have hd5 := big5
      obtain ⟨s5, hv5, hd5⟩ := hd5
      simp only [Value.agg.injEq, Array.mk.injEq, List.cons.injEq, and_true, true_and] at hv5
      subst hv5
      obtain ⟨hbig, hfr, t2, t3⟩ := ret_big f5 HGG.out.1 b4 rfl rfl hd5
      have HBig := Lib.hid hbig
      have HFr := Lib.hid hfr
      clear hf b5 big5 f5 b4 hd5 HV HF hbig hfr hk hlt
      generalize (dg (sumK (l.map pr) rd).natAbs).length = kS at *
      generalize decide (sumK (l.map pr) rd < 0) = mS at *
      go_wp2_with fail
      refine bodyPost_ret (v := .agg #[.bool mS, .slice sa kS sc]) (by simp [results, Tryz.results87, go_sem, t2, t3]) rfl ⟨_, rfl, HBig.out, HFr.out⟩
end Go.Proofs.YtjchlfblbmiceaaGreat
namespace Go.Proofs.YtjchlfblbmiceaaGreat
open Go.RowKit srt grp big

set_option maxRecDepth 100000
/-- freshetref02.Copy. -/
theorem copy_any {w : World} {ra : Option Addr} {rc : Nat} {ds : List Dt} (h : RowAt w (.slice ra ds.length rc) ds) (hn : ds.length ≤ 4398046511103) :
    Calls Tryz.prog 90 #[.slice ra ds.length rc] w fun e w' => (∃ a c, e = .returned (.slice a ds.length c) ∧ RowIn w.heap.size w' (.slice a ds.length c) ds) ∧ Fr [] w w' := by
  obtain ⟨i0, hi, hz0, hz1, hz2⟩ := info_parts infoD
  have HS := Lib.hid (src_row h)
  clear h
  go_enter Tryz.func90, Tryz.ntmps90
  go_wp2_with (at_builtin; refine wpList_append_src _ rfl (.tmp 3) (.tmp 4) 52 rfl w.heap.size 94 i0 _ 3 32 Tryz.underlying52 hi hz0 hz1 hz2 rfl (by decide) _ _ _ rfl (World.ownsRow_made w #[] 0 (Nat.le_refl _) (by decide) rfl) _ ds.length _ rfl (HS.out.alloc _) (by unfold maxLen; omega) (by omega) (by simp) ?_; intro v' w1 hown hgrow _)
  go_ret
  have ho : w1.ownsRow w.heap.size 94 3 v' ds.length (dtsC ds) := by simpa using hown
  obtain ⟨a, c, rfl⟩ := ownsRow_shape ho
  exact ⟨⟨a, c, rfl, RowIn.of ho⟩, ((Fr.refl [] w).alloc _).fresh hgrow (fun r e => Or.inl (by simp [Act.eval, Value.ownBlock] at e; omega))⟩

/-- What both answer. -/
def ResPost (w : World) (l : List El) (s : Int) (e : Ending) (w' : World) : Prop :=
  Fr [] w w' ∧ (((∀ r, fitB (s * sumK (l.map pr) r) = true) ∧ ∃ (outs : List El) (a : Option Addr) (c : Nat), e = .returned (.tuple #[.slice a outs.length c, .int .i64 0]) ∧ ListIn w.heap.size w' (.slice a outs.length c) outs ∧ Canon cmpR (outs.map pr) (fun r => s * sumK (l.map pr) r) ∧ outs.length ≤ l.length) ∨
    ((∃ r, fitB (s * sumK (l.map pr) r) = false) ∧ e = .returned (.tuple #[.slice none 0 0, .int .i64 30])))
theorem TidyPost.res {w w' : World} {l : List El} {s : Int} {e : Ending} (h : TidyPost w l s e w') : ResPost w l s e w' := by
  obtain ⟨f, ⟨h1, outs, a, c, h2, h3, h4, h5, -⟩ | h⟩ := h
  · exact ⟨f, Or.inl ⟨h1, outs, a, c, h2, h3, h4, h5⟩⟩
  · exact ⟨f, Or.inr h⟩

/-! ### plain -/
def kept (S : List Dt → Int) (R : List El) : List (List Dt × Int) := (R.map fun e => (e.rd, S e.rd)).filter fun p => decide (p.2 ≠ 0)
theorem kept_snoc (S : List Dt → Int) (R : List El) (e : El) : kept S (R ++ [e]) = kept S R ++ if S e.rd = 0 then [] else [(e.rd, S e.rd)] := by
  unfold kept
  rw [List.map_append, List.filter_append]
  congr 1
  by_cases h : S e.rd = 0 <;> simp [h]
theorem kept_canon {w : World} {l R : List El} {s : Int} (h : RowsOf w l R) : Canon cmpR (kept (fun r => s * sumK (l.map pr) r) R) (fun r => s * sumK (l.map pr) r) := by
  have hup : (R.map fun e => (e.rd, s * sumK (l.map pr) e.rd)).Pairwise fun a b => cmpR a.1 b.1 < 0 := List.pairwise_map.2 h.up
  refine ⟨hup.filter _, fun p hp => of_decide_eq_true (List.mem_filter.1 hp).2, fun r => ?_⟩
  have h0 : ∀ (Q : List El), (Q.Pairwise fun a b => cmpR a.rd b.rd < 0) → sumK (kept (fun r => s * sumK (l.map pr) r) Q) r = if r ∈ Q.map (·.rd) then s * sumK (l.map pr) r else 0 := by
    intro Q
    induction Q with
    | nil => intro _; rfl
    | cons e Q ih =>
      intro hq
      obtain ⟨h1, h2⟩ := List.pairwise_cons.1 hq
      have hi := ih h2
      have hk : kept (fun r => s * sumK (l.map pr) r) (e :: Q) = (if s * sumK (l.map pr) e.rd = 0 then [] else [(e.rd, s * sumK (l.map pr) e.rd)]) ++ kept (fun r => s * sumK (l.map pr) r) Q := by
        unfold kept
        rw [List.map_cons, List.filter_cons]
        by_cases hz : s * sumK (l.map pr) e.rd = 0 <;> simp [hz]
      rw [hk, sumK_append, hi]
      by_cases hr : e.rd = r
      · have hnq : r ∉ Q.map (·.rd) := fun hm => by
          obtain ⟨q, hq, e1⟩ := List.mem_map.1 hm
          have := h1 q hq
          rw [hr, show q.rd = r from e1, cmpR_self] at this
          omega
        have hmm : r ∈ (e :: Q).map (·.rd) := by simp [hr]
        rw [if_neg hnq, if_pos hmm, ← hr]
        by_cases hz : s * sumK (l.map pr) e.rd = 0
        · rw [if_pos hz, hz]; rfl
        · rw [if_neg hz, sumK_cons, if_pos rfl, sumK_nil]; omega
      · have : sumK (if s * sumK (l.map pr) e.rd = 0 then [] else [(e.rd, s * sumK (l.map pr) e.rd)]) r = 0 := by
          split
          · rfl
          · rw [sumK_cons, if_neg hr, sumK_nil]; rfl
        rw [this, Int.zero_add]
        have hm : r ∈ (e :: Q).map (·.rd) ↔ r ∈ Q.map (·.rd) := by
          rw [List.map_cons, List.mem_cons]
          constructor
          · rintro (h | h)
            · exact absurd h.symm hr
            · exact h
          · exact Or.inr
        by_cases hq2 : r ∈ Q.map (·.rd)
        · rw [if_pos hq2, if_pos (hm.2 hq2)]
        · rw [if_neg hq2, if_neg (fun h => hq2 (hm.1 h))]
  rw [h0 R h.up]
  by_cases hr : r ∈ R.map (·.rd)
  · rw [if_pos hr]
  · rw [if_neg hr, sumK_none (fun p hp e => hr ((h.mem r).2 (by
      obtain ⟨q, hq, rfl⟩ := List.mem_map.1 hp
      exact List.mem_map.2 ⟨q, hq, e⟩)))]
    simp
theorem fit_all {w : World} {l R : List El} {s : Int} (h : RowsOf w l R) (hf : ∀ e ∈ R, fitB (s * sumK (l.map pr) e.rd) = true) (r : List Dt) : fitB (s * sumK (l.map pr) r) = true := by
  by_cases hr : r ∈ R.map (·.rd)
  · obtain ⟨e, he, rfl⟩ := List.mem_map.1 hr
    exact hf e he
  · rw [sumK_none (fun p hp e => hr ((h.mem r).2 (by
      obtain ⟨q, hq, rfl⟩ := List.mem_map.1 hp
      exact List.mem_map.2 ⟨q, hq, e⟩)))]
    rw [Int.mul_zero]; rfl

def TidR (w : World) (l R : List El) (ra : Option Addr) (rc : Nat) (s : Int) (v x : Value) (wr : World) : Prop :=
  ∃ (k : Nat) (outs : List El), x = .int .i64 (k : Int) ∧ k ≤ R.length ∧ outs.length ≤ k ∧ Fr [] w wr ∧ wr.ownsRow w.heap.size 68 2 v outs.length (elsC outs) ∧ Hid (outs.map pr = kept (fun r => s * sumK (l.map pr) r) (R.take k)) ∧ Hid (∀ e ∈ outs, RowIn w.heap.size wr e.rv e.rd ∧ ElOk e) ∧ Hid (∀ e ∈ R.take k, fitB (s * sumK (l.map pr) e.rd) = true) ∧ Hid (wr.ownsRow w.heap.size 52 1 (.slice ra R.length rc) R.length (rowsC R))

set_option maxHeartbeats 6400000 in
theorem rtidy_any {w : World} {aa : Option Addr} {ac : Nat} {l : List El} {ms : Bool} (h : Cts w (.slice aa l.length ac) l) (hn : l.length ≤ 10000) :
    Calls Tryz.prog 62 #[.slice aa l.length ac, .bool ms] w (ResPost w l (sgn ms)) := by
  obtain ⟨i0, hi, hz0, hz1, hz2⟩ := info_parts infoC
  have HC := Lib.hid h
  have fe : Fr [] w (w.alloc (.cells #[] 68)) := (Fr.refl [] w).alloc _
  have hrows := rows_any (h.fr fe) hn
  have HRows := Lib.hid hrows
  have HFe := Lib.hid fe
  have hoe := World.ownsRow_made (e := 68) (size := 2) w #[] 0 (Nat.le_refl _) (by decide) rfl
  have HOe := Lib.hid hoe
  clear h hrows fe hoe
  go_enter Tryz.func62, Tryz.ntmps62
  go_wp2_with (go_at_call 86; refine HRows.out.mono ?_; rintro e w1 ⟨R, ra, rc, rfl, f1, o1, hR⟩; have F1 := Lib.hid (HFe.out.trans f1); have HO1 := Lib.hid (ownsRow_fr HOe.out f1 (by simp)); have HO2 := Lib.hid (ownsRow_base o1 (by simp : w.heap.size ≤ _)); have HRO := Lib.hid hR; clear f1 o1 hR)
  have hRl := HRO.out.len
  go_loopw [6, 16] (fun v x wr => TidR w l R ra rc (sgn ms) v x wr) (fun _ x _ => R.length - (intOf x).toNat)
  case atStart => exact ⟨0, [], rfl, Nat.zero_le _, Nat.le_refl _, F1.out, HO1.out, Lib.hid rfl, Lib.hid (by simp), Lib.hid (by simp), HO2.out⟩
  case round =>
    obtain ⟨k, outs, rfl, hk, hol, hf, ho, HKept, HIn, HFits, HRo⟩ := hrel
    obtain ⟨va, vc, rfl⟩ := ownsRow_shape ho
    have HO := Lib.hid ho
    have HF := Lib.hid hf
    have hsz := hf.size
    by_cases hlt : k < R.length
    · have hrws : Rws wr (.slice ra R.length rc) R := own_rws HRo.out fun e he => by
        have h1 := HC.out.row e (HRO.out.sub e he)
        exact ⟨h1.1.fr hf, h1.2.len⟩
      obtain ⟨b, off, e1, z0⟩ := hrws.cell hlt
      subst e1
      have hrw := hrws.row _ (nth_mem hlt)
      have hel := (HC.out.row _ (HRO.out.sub _ (nth_mem hlt)))
      have hS := take_bound hn (fun e he => (HC.out.row e he).2) l.length (nth R k).rd
      rw [List.take_length] at hS
      have hts : R.take (k + 1) = R.take k ++ [nth R k] := by rw [List.take_add_one, nth_at hlt]; rfl
      have HTs := Lib.hid hts
      have hrl : (nth R k).rl = (nth R k).rd.length := by
        obtain ⟨a', c', hv, -⟩ := hrw.1.shape
        simp only [El.rv, Value.slice.injEq] at hv
        exact hv.2.1
      have HEl := Lib.hid (⟨hrw.1, hel.2⟩ : RowAt wr (nth R k).rv (nth R k).rd ∧ ElOk (nth R k))
      clear ho hf hrws hrw hel hts
      generalize hr : nth R k = r at *
      obtain ⟨qa, ql, qc, qn, qd⟩ := r
      obtain rfl : ql = qd.length := hrl
      have z0 : wr.cell? ⟨b, off + k, none⟩ = some (.slice qa qd.length qc) := z0
      have hRow : RowAt wr (.slice qa qd.length qc) qd := HEl.out.1
      have hsm := sum_any (HC.out.fr HF.out) hn hRow
      have HRow := Lib.hid hRow
      have HLen := Lib.hid HEl.out.2.len
      have HSm := Lib.hid hsm
      have hS2 : -100000000000000000000000 ≤ sumK (l.map pr) qd ∧ sumK (l.map pr) qd ≤ 100000000000000000000000 := hS
      have HTs2 : Hid (R.take (k + 1) = R.take k ++ [⟨qa, qd.length, qc, qn, qd⟩]) := Lib.hid (by rw [HTs.out])
      have HKept2 := Lib.hid (fun _ : Unit => kept_snoc (fun r => sgn ms * sumK (l.map pr) r) (R.take k) ⟨qa, qd.length, qc, qn, qd⟩)
      clear hsm hRow hS hr HTs HEl
      go_upto_if 23 with (go_at_call 87; refine HSm.out.mono ?_; rintro e w5 ⟨v, rfl, hb5, f5⟩; obtain ⟨sa, sc, rfl, -⟩ := hb5.shape; have HB5 := Lib.hid hb5; have F5 := Lib.hid f5; clear hb5 f5)
      have fa : Fr [] w5 (w5.alloc (.cells #[.bool (decide (sumK (l.map pr) qd < 0)), .slice sa (dg (sumK (l.map pr) qd).natAbs).length sc] 122)) := (Fr.refl [] w5).alloc _
      have hv6 : VarBig wr (w5.alloc (.cells #[.bool (decide (sumK (l.map pr) qd < 0)), .slice sa (dg (sumK (l.map pr) qd).natAbs).length sc] 122)) w5.heap.size (sumK (l.map pr) qd) := ⟨sa, sc, heap_alloc_new w5 _, HB5.out.fr fa, F5.out.trans fa⟩
      have hg9 : wr.heap.size ≤ w5.heap.size := F5.out.size
      have HV6 := Lib.hid hv6
      clear fa hv6 HB5 F5 HSm z0
      generalize w5.alloc (.cells #[.bool (decide (sumK (l.map pr) qd < 0)), .slice sa (dg (sumK (l.map pr) qd).natAbs).length sc] 122) = w6 at *
      generalize w5.heap.size = g9 at *
      generalize hSe : sumK (l.map pr) qd = S at *
      have HSe := Lib.hid hSe
      clear hSe
      go_cut [] (fun wx => VarBig wr wx g9 (sgn ms * S))
      case first =>
        cases ms with
        | false =>
          go_wp2_with fail
          go_meet
          case rel => rw [show sgn false * S = S by unfold sgn; simp]; exact HV6.out
        | true =>
          obtain ⟨sa, sc, b6, big6, f6⟩ := HV6.out
          have t0 := cell_blk b6 0 (.bool (decide (S < 0))) rfl
          have t1 := cell_blk b6 1 (.slice sa (dg S.natAbs).length sc) rfl
          have Big6 := Lib.hid big6
          have B6 := Lib.hid b6
          have F6 := Lib.hid f6
          clear b6 big6 f6
          have hmin := bminus_any Big6.out
          generalize hZ : -S = Z at hmin
          have HZ := Lib.hid hZ
          have HMin := Lib.hid hmin
          clear hmin hZ
          generalize (dg S.natAbs).length = kS at *
          generalize decide (S < 0) = mS at *
          go_wp2_with (go_at_call 88; refine HMin.out.mono ?_; rintro e w7 ⟨v, rfl, hb7, f7⟩; obtain ⟨ta, tc, rfl, -⟩ := hb7.shape; have HB7 := Lib.hid hb7; have F7 := Lib.hid f7; have b7 := f7.heap B6.out (by simp); have t2 := cell_blk b7 0 (.bool mS) rfl; have t3 := cell_blk b7 1 (.slice sa kS sc) rfl; have t4 : w7.frozen? ⟨g9, 0, none⟩ = false := (by simp [World.frozen?, b7]); have t5 : w7.frozen? ⟨g9, 1, none⟩ = false := (by simp [World.frozen?, b7]); have B7 := Lib.hid b7; clear hb7 f7 b7)
          go_meet
          case rel =>
            rw [show sgn true * S = Z by rw [← HZ.out]; unfold sgn; simp]
            exact VarBig.put (F6.out.trans F7.out) hg9 B7.out HB7.out
      case rest =>
        have hXb : -100000000000000000000000 ≤ sgn ms * S ∧ sgn ms * S ≤ 100000000000000000000000 := by
          cases ms
          · rw [show sgn false * S = S by unfold sgn; simp]; exact hS2
          · rw [show sgn true * S = -S by unfold sgn; simp]; omega
        have HXe := Lib.hid (show sgn ms * sumK (l.map pr) qd = sgn ms * S by rw [HSe.out])
        clear HSe HV6 hS2
        generalize sgn ms * S = X at *
        obtain ⟨sa, sc, b6, big6, f6⟩ := hcut
        have hft := bfits_any big6 (dg_bound hXb)
        have t0 := cell_blk b6 0 (.bool (decide (X < 0))) rfl
        have t1 := cell_blk b6 1 (.slice sa (dg X.natAbs).length sc) rfl
        have F6 := Lib.hid f6
        clear b6 big6 f6
        generalize (dg X.natAbs).length = kX at *
        generalize decide (X < 0) = mX at *
        have hsz6 := (HF.out.trans F6.out).size
        by_cases hfx : fitB X = true
        · rw [hfx, if_pos rfl] at hft
          have hX64 := (fitB_iff X).1 hfx
          have HFx := Lib.hid hfx
          have HFt := Lib.hid hft
          clear hfx hft
          by_cases hX0 : X = 0
          · subst hX0
            go_wp2_with (go_at_call 89; refine HFt.out.mono ?_; rintro e w7 ⟨rfl, f7⟩; have F7 := Lib.hid (F6.out.trans f7); clear f7)
            go_roundw
            case rel => exact ⟨k + 1, outs, by go_num, by omega, by omega, HF.out.trans F7.out, ownsRow_fr HO.out F7.out (by simp), Lib.hid (by rw [HTs2.out, HKept2.out (), if_pos (by trivial), List.append_nil]; exact HKept.out), Lib.hid (fun e he => ⟨(HIn.out e he).1.fr F7.out (by simp), (HIn.out e he).2⟩), Lib.hid (fun e he => by
              rw [HTs2.out] at he
              rcases List.mem_append.1 he with he | he
              · exact HFits.out e he
              · rw [List.mem_singleton.1 he]; show fitB (sgn ms * sumK (l.map pr) qd) = true; rw [HXe.out]; exact HFx.out), Lib.hid (ownsRow_fr HRo.out F7.out (by simp))⟩
            case measure => simp [intOf] <;> omega
          · have hXb2 : (X != 0) = true := by simpa using hX0
            have HX0 := Lib.hid hX0
            clear hX0
            go_upto_region 12 with (go_at_call 89; refine HFt.out.mono ?_; rintro e w7 ⟨rfl, f7⟩; have F7 := Lib.hid (F6.out.trans f7); have hsz7 := (HF.out.trans (F6.out.trans f7)).size; clear f7 t0 t1)
            go_wp2_with (first
              | (go_at_call 90; refine (copy_any (HRow.out.fr F7.out) HLen.out).mono ?_; rintro e w8 ⟨⟨ca, cc, rfl, hin8⟩, f8⟩; have F8 := Lib.hid (F7.out.trans f8); have HIn8 := Lib.hid (hin8.base hsz7); have hsz8 := (HF.out.trans (F7.out.trans f8)).size; clear hin8 f8)
              | (at_builtin; refine wpList_append_src _ rfl (.tmp 35) (.tmp 40) 31 rfl w.heap.size 68 i0 _ 2 32 Tryz.underlying31 hi hz0 hz1 hz2 rfl (by decide) (.slice va outs.length vc) outs.length _ rfl (ownsRow_fr HO.out (F8.out.alloc _) (by simp)) (.slice (some ⟨w8.heap.size, 0, none⟩) 1 1) 1 [.slice ca qd.length cc, .int .i64 X] rfl (Src.block (heap_alloc_new w8 _) rfl (by intro u hu; simp at hu; rcases hu with rfl | rfl <;> rfl)) (by unfold maxLen; omega) (by omega) (by simp; omega) ?_; intro v9 w9 hown9 hgrow9 _; have HOwn9 := Lib.hid hown9; have HG9 := Lib.hid hgrow9; clear hown9 hgrow9))
            go_roundw
            case rel =>
              have ho8 := ownsRow_fr HO.out (F8.out.alloc (.cells #[.slice ca qd.length cc, .int .i64 X] 68)) (by simp)
              exact ⟨k + 1, outs ++ [⟨ca, qd.length, cc, X, qd⟩], by go_num, by omega, by simp; omega, (HF.out.trans (F8.out.alloc _)).fresh HG9.out (fun q e => Or.inl (HO.out.lt q e).1), by
                rw [elsC_snoc, List.length_append]
                exact HOwn9.out, Lib.hid (by rw [HTs2.out, HKept2.out (), if_neg HX0.out, List.map_append, HKept.out]; rfl), Lib.hid (fun e he => by
                rcases List.mem_append.1 he with he | he
                · exact ⟨((HIn.out e he).1.fr (F8.out.alloc _) (by simp)).grown ho8 HG9.out, (HIn.out e he).2⟩
                · rw [List.mem_singleton.1 he]
                  exact ⟨(HIn8.out.fr ((Fr.refl [] w8).alloc _) (by simp)).grown ho8 HG9.out, ⟨HLen.out, hX64⟩⟩), Lib.hid (fun e he => by
                rw [HTs2.out] at he
                rcases List.mem_append.1 he with he | he
                · exact HFits.out e he
                · rw [List.mem_singleton.1 he]; show fitB (sgn ms * sumK (l.map pr) qd) = true; rw [HXe.out]; exact HFx.out), Lib.hid (own_far (by decide) (ownsRow_fr HRo.out (F8.out.alloc _) (by simp)) ho8 HG9.out)⟩
            case measure => simp [intOf] <;> omega
        · have hfx2 : fitB X = false := by simpa using hfx
          rw [hfx2] at hft
          have HBad := Lib.hid (⟨qd, by rw [HXe.out]; exact hfx2⟩ : ∃ r, fitB (sgn ms * sumK (l.map pr) r) = false)
          have HFt := Lib.hid hft
          clear hfx hfx2 hft
          go_wp2_with (go_at_call 89; refine HFt.out.mono ?_; rintro e w7 ⟨rfl, f7⟩; have F7 := Lib.hid (F6.out.trans f7); clear f7)
          go_ret2
          exact ⟨HF.out.trans F7.out, Or.inr ⟨HBad.out, rfl⟩⟩
    · obtain rfl : k = R.length := by omega
      rw [List.take_length] at HKept HFits
      have hfin : ListIn w.heap.size wr (.slice va outs.length vc) outs := ⟨by
        rcases ho.2 with ⟨hv, h2⟩ | ⟨g, cap, cur, hv, hb, hg, hcl, hmx, hszc, htk⟩
        · simp only [Value.slice.injEq] at hv
          exact Or.inl ⟨va, vc, by rw [h2], fun _ => hv.2.2, List.length_eq_zero_iff.1 h2⟩
        · exact Or.inr ⟨g, cap, cur, hb, hv, hcl, hg, htk⟩, HIn.out⟩
      have HFin := Lib.hid hfin
      have HCanon := Lib.hid (kept_canon (s := sgn ms) HRO.out)
      rw [← HKept.out] at HCanon
      clear hfin ho hf hlt hk
      go_wp2_with fail
      go_ret2
      exact ⟨HF.out, Or.inl ⟨fit_all HRO.out HFits.out, outs, va, vc, rfl, HFin.out, HCanon.out, by omega⟩⟩

set_option maxHeartbeats 3200000 in
theorem rTidy_any {w : World} {aa : Option Addr} {ac : Nat} {l : List El} (h : Cts w (.slice aa l.length ac) l) (hn : l.length ≤ 10000) :
    Calls Tryz.prog 35 #[.slice aa l.length ac] w (ResPost w l 1) := by
  have ht := rtidy_any (ms := false) h hn
  have es : sgn false = 1 := rfl
  rw [es] at ht
  clear h es
  go_enter Tryz.func35, Tryz.ntmps35
  go_wp2_with (go_at_call 62; refine ht.mono ?_; rintro e w1 ⟨f1, ⟨h1, outs, a, c, rfl, h2⟩ | ⟨h1, rfl⟩⟩)
  · go_ret2
    exact ⟨f1, Or.inl ⟨h1, outs, a, c, rfl, h2⟩⟩
  · go_ret2
    exact ⟨f1, Or.inr ⟨h1, rfl⟩⟩
end Go.Proofs.YtjchlfblbmiceaaGreat
namespace Go.Proofs.YtjchlfblbmiceaaGreat
open Go.RowKit srt grp big

set_option maxRecDepth 100000
set_option maxHeartbeats 3200000 in
theorem rAt_any {w : World} {aa : Option Addr} {ac : Nat} {l : List upd.El} {t : Int} (h : upd.Cts w (.slice aa l.length ac) l) (hn : l.length ≤ 10000) :
    Calls Tryz.prog 11 #[.slice aa l.length ac, .int .i64 t] w (ResPost w (atL l t) 1) := by
  obtain ⟨i0, hi, hz0, hz1, hz2⟩ := info_parts infoC
  have H := Lib.hid h
  clear h
  go_enter Tryz.func11, Tryz.ntmps11
  go_wp2_with fail
  go_loopw [6, 12] (fun v x wr => ∃ k : Nat, x = .int .i64 k ∧ k ≤ l.length ∧ wr.ownsRow w.heap.size 68 2 v (atL (l.take k) t).length (elsC (atL (l.take k) t)) ∧ Fr [] w wr) (fun _ x _ => l.length - (intOf x).toNat)
  case atStart => exact ⟨0, rfl, Nat.zero_le _, World.ownsRow_made w #[] 0 (Nat.le_refl _) (by decide) rfl, (Fr.refl [] w).alloc _⟩
  case round =>
    obtain ⟨k, rfl, hk, ho, hf⟩ := hrel
    have HO := Lib.hid ho
    have HF := Lib.hid hf
    obtain ⟨va, vc, rfl⟩ := ownsRow_shape ho
    by_cases hlt : k < l.length
    · obtain ⟨b, off, e1, x0, x1, x2⟩ := (H.out.fr hf).cell hlt
      subst e1
      have hts : l.take (k + 1) = l.take k ++ [upd.nth l k] := by rw [List.take_add_one, upd.nth_at hlt]; rfl
      have hsn := atL_snoc (l.take k) (upd.nth l k) t
      rw [← hts] at hsn
      have HSn := Lib.hid hsn
      have hle := atL_len (l.take k) t
      have hlk : (l.take k).length = k := by rw [List.length_take]; omega
      have hal : (atL (l.take k) t).length ≤ 10000 := by omega
      clear hf ho hts hsn hle hlk
      generalize atL (l.take k) t = al at *
      go_upto_region 5 with fail
      have fa : Fr [] wr (wr.alloc (.cells #[.slice (upd.nth l k).ra (upd.nth l k).rl (upd.nth l k).rc, .int .i64 (upd.nth l k).t, .int .i64 (upd.nth l k).n] 65)) := (Fr.refl [] wr).alloc _
      have hb1 := heap_alloc_new wr (.cells #[.slice (upd.nth l k).ra (upd.nth l k).rl (upd.nth l k).rc, .int .i64 (upd.nth l k).t, .int .i64 (upd.nth l k).n] 65)
      have HOA := Lib.hid (ownsRow_fr HO.out fa (by simp))
      have HFA := Lib.hid (HF.out.trans fa)
      have hsz := (HF.out.trans fa).size
      clear fa HO HF x0 x1 x2
      generalize wr.heap.size = bx at *
      generalize wr.alloc (.cells #[.slice (upd.nth l k).ra (upd.nth l k).rl (upd.nth l k).rc, .int .i64 (upd.nth l k).t, .int .i64 (upd.nth l k).n] 65) = wa at *
      have y0 := cell_blk hb1 0 (.slice (upd.nth l k).ra (upd.nth l k).rl (upd.nth l k).rc) rfl
      have y1 := cell_blk hb1 1 (.int .i64 (upd.nth l k).t) rfl
      have y2 := cell_blk hb1 2 (.int .i64 (upd.nth l k).n) rfl
      clear hb1
      by_cases htt : (upd.nth l k).t ≤ t
      · have hsrc : Src (wa.alloc (.cells #[.slice (upd.nth l k).ra (upd.nth l k).rl (upd.nth l k).rc, .int .i64 (upd.nth l k).n] 68)) 2 (.slice (some ⟨wa.heap.size, 0, none⟩) 1 1) 1 [.slice (upd.nth l k).ra (upd.nth l k).rl (upd.nth l k).rc, .int .i64 (upd.nth l k).n] := Src.block (heap_alloc_new wa _) rfl (by intro u hu; simp at hu; rcases hu with rfl | rfl <;> rfl)
        have HSrc := Lib.hid hsrc
        have HT := Lib.hid htt
        clear hsrc
        go_wp2_with (at_builtin; refine wpList_append_src _ rfl (.tmp 20) (.tmp 26) 31 rfl w.heap.size 68 i0 _ 2 32 Tryz.underlying31 hi hz0 hz1 hz2 rfl (by decide) (.slice va al.length vc) al.length _ rfl (HOA.out.alloc _) (.slice (some ⟨wa.heap.size, 0, none⟩) 1 1) 1 [.slice (upd.nth l k).ra (upd.nth l k).rl (upd.nth l k).rc, .int .i64 (upd.nth l k).n] rfl HSrc.out (by unfold maxLen; omega) (by omega) (by simp; omega) ?_; intro v' w1 hown1 hgrow1 _)
        have HOwn1 := Lib.hid hown1
        have HG1 := Lib.hid hgrow1
        clear hown1 hgrow1
        go_roundw
        case rel => exact ⟨k + 1, by go_num, by omega, by
          rw [HSn.out, if_pos HT.out, elsC_append, List.length_append]
          simpa [elsC, El.cells, toC] using HOwn1.out, (HFA.out.alloc _).fresh HG1.out (fun r e => Or.inl (HOA.out.lt r e).1)⟩
        case measure => simp [intOf] <;> omega
      · have HT := Lib.hid htt
        go_wp2_with fail
        go_roundw
        case rel => exact ⟨k + 1, by go_num, by omega, by rw [HSn.out, if_neg HT.out, List.append_nil]; exact HOA.out, HFA.out⟩
        case measure => simp [intOf] <;> omega
    · have hkM := Lib.hid (show k = l.length by omega)
      have h1 : atL (l.take k) t = atL l t := by rw [hkM.out, List.take_length]
      have hcts : Cts wr (.slice va (atL l t).length vc) (atL l t) := by
        rw [← h1]
        refine own_cts ho fun e he => ?_
        rw [h1] at he
        obtain ⟨e0, h0, rfl⟩ := List.mem_map.1 he
        have h2 := H.out.row e0 (List.mem_filter.1 h0).1
        exact ⟨h2.1.fr hf, ⟨h2.2.len, h2.2.n⟩⟩
      have hle := atL_len l t
      have ht := rTidy_any hcts (by omega)
      rw [h1] at *
      have hsz := hf.size
      clear ho hcts hf h1
      generalize atL l t = al at *
      go_wp2_with (go_at_call 35; refine ht.mono ?_; rintro e w1 ⟨f1, ⟨h1, outs, a, c, rfl, h2, h3, h4⟩ | ⟨h1, rfl⟩⟩)
      · go_ret2
        exact ⟨HF.out.trans f1, Or.inl ⟨h1, outs, a, c, rfl, h2.base hsz, h3, h4⟩⟩
      · go_ret2
        exact ⟨HF.out.trans f1, Or.inr ⟨h1, rfl⟩⟩

end Go.Proofs.YtjchlfblbmiceaaGreat
namespace Go.Proofs.YtjchlfblbmiceaaGreat
open Go.RowKit srt grp

/-! ### plain -/
def insIStep (x : Int) (s : List Int × Bool) (r : Int) : List Int × Bool :=
  if s.2 = false ∧ x ≤ r then (s.1 ++ (if x < r then [x] else []) ++ [r], true) else (s.1 ++ [r], s.2)
def insI (x : Int) : List Int → List Int
  | [] => [x]
  | r :: l => if x < r then x :: r :: l else if x = r then r :: l else r :: insI x l
theorem foldI_true (x : Int) : ∀ (l nx : List Int), l.foldl (insIStep x) (nx, true) = (nx ++ l, true)
  | [], nx => by simp
  | r :: l, nx => by
    rw [List.foldl_cons, show insIStep x (nx, true) r = (nx ++ [r], true) from if_neg (by simp), foldI_true x l]
    simp
theorem foldI_ins (x : Int) : ∀ (l nx : List Int), (if (l.foldl (insIStep x) (nx, false)).2 = true then (l.foldl (insIStep x) (nx, false)).1 else (l.foldl (insIStep x) (nx, false)).1 ++ [x]) = nx ++ insI x l
  | [], nx => by simp [insI]
  | r :: l, nx => by
    rw [List.foldl_cons]
    by_cases h1 : x < r
    · rw [show insIStep x (nx, false) r = (nx ++ [x] ++ [r], true) by unfold insIStep; rw [if_pos ⟨rfl, by omega⟩, if_pos h1], foldI_true]
      simp [insI, h1]
    · by_cases h2 : x = r
      · rw [show insIStep x (nx, false) r = (nx ++ [r], true) by unfold insIStep; rw [if_pos ⟨rfl, by omega⟩, if_neg h1, List.append_nil], foldI_true]
        simp [insI, h2]
      · rw [show insIStep x (nx, false) r = (nx ++ [r], false) by unfold insIStep; rw [if_neg (fun h => by have := h.2; omega)], foldI_ins x l]
        simp [insI, h1, h2]
theorem insI_mem (x r : Int) : ∀ (l : List Int), r ∈ insI x l ↔ r = x ∨ r ∈ l
  | [] => by simp [insI]
  | e :: l => by
    unfold insI
    split
    · simp
    · split
      · rename_i h
        subst h
        simp
      · rw [List.mem_cons, insI_mem x r l, List.mem_cons]
        constructor
        · rintro (h | h | h)
          · exact Or.inr (Or.inl h)
          · exact Or.inl h
          · exact Or.inr (Or.inr h)
        · rintro (h | h | h)
          · exact Or.inr (Or.inl h)
          · exact Or.inl h
          · exact Or.inr (Or.inr h)
theorem insI_rise (x : Int) : ∀ (l : List Int), l.Pairwise (· < ·) → (insI x l).Pairwise (· < ·)
  | [], _ => by simp [insI]
  | r :: l, h => by
    obtain ⟨h1, h2⟩ := List.pairwise_cons.1 h
    unfold insI
    split
    · rename_i hlt
      refine List.pairwise_cons.2 ⟨fun b hb => ?_, h⟩
      rcases List.mem_cons.1 hb with rfl | hb
      · exact hlt
      · have := h1 b hb; omega
    · split
      · exact h
      · rename_i n1 n2
        refine List.pairwise_cons.2 ⟨fun b hb => ?_, insI_rise x l h2⟩
        rcases (insI_mem x b l).1 hb with rfl | hb
        · omega
        · exact h1 b hb
theorem insI_len (x : Int) : ∀ (l : List Int), (insI x l).length ≤ l.length + 1
  | [] => by simp [insI]
  | r :: l => by
    unfold insI
    split
    · simp
    · split
      · simp
      · have := insI_len x l; simp; omega

def intsC (l : List Int) : List Value := l.map fun t => .int .i64 t
theorem intsC_one (l : List Int) : ∀ u ∈ intsC l, u.oneCell' = true := by
  intro u hu
  obtain ⟨d, -, rfl⟩ := List.mem_map.1 hu
  rfl
theorem intsC_append (a b : List Int) : intsC (a ++ b) = intsC a ++ intsC b := by simp [intsC]
def nti (l : List Int) (k : Nat) : Int := (l[k]?).getD 0
theorem nti_at {l : List Int} {k : Nat} (h : k < l.length) : l[k]? = some (nti l k) := by unfold nti; rw [List.getElem?_eq_getElem h]; rfl
theorem nti_mem {l : List Int} {k : Nat} (h : k < l.length) : nti l k ∈ l := List.mem_of_getElem? (nti_at h)
theorem intsC_at {l : List Int} {k : Nat} (h : k < l.length) : (intsC l)[k]? = some (.int .i64 (nti l k)) := by
  unfold intsC; rw [List.getElem?_map, nti_at h]; rfl
theorem infoI : (Tryz.prog.info? 2).map (fun i => (i.zero, i.size, i.bytes)) = some (some (.int .i64 0), 1, 8) := by kernel_rfl
theorem ints_cell {w : World} {base n : Nat} {a : Option Addr} {c : Nat} {l : List Int} (h : w.ownsRow base 2 1 (.slice a n c) n (intsC l)) {k : Nat} (hk : k < l.length) : ∃ b off, a = some ⟨b, off, none⟩ ∧ w.cell? ⟨b, off + k, none⟩ = some (.int .i64 (nti l k)) := by
  have hs := Src.row h (intsC_one l)
  have hn : n = l.length := by have := hs.1; simp [intsC] at this; omega
  rcases hs.2.2 with ⟨-, h2⟩ | ⟨ad, c, hv, hc⟩
  · omega
  · simp only [Value.slice.injEq] at hv
    have c0 := hc _ _ (intsC_at hk)
    have hp := addr_plain (a := ad) (hc 0 _ (intsC_at (show 0 < l.length by omega)))
    exact ⟨ad.block, ad.off, by rw [hv.1]; exact congrArg some hp, cell_add c0⟩

/-- The times of a list, rising, each once. -/
structure TimesOf (l : List upd.El) (T : List Int) : Prop where
  up : T.Pairwise (· < ·)
  mem : ∀ t, t ∈ T ↔ t ∈ l.map (·.t)
  len : T.length ≤ l.length
theorem TimesOf.snoc {l : List upd.El} {T : List Int} {e : upd.El} (h : TimesOf l T) : TimesOf (l ++ [e]) (insI e.t T) := by
  refine ⟨insI_rise _ _ h.up, fun t => ?_, by have := insI_len e.t T; have := h.len; simp; omega⟩
  rw [insI_mem, h.mem]
  simp only [List.map_append, List.map_cons, List.map_nil, List.mem_append, List.mem_singleton]
  exact Or.comm

def InsI (wb : World) (t : Int) (T : List Int) (a b i : Value) (wr : World) : Prop :=
  ∃ (j : Nat) (nx : List Int) (dn : Bool), i = .int .i64 (j : Int) ∧ b = .bool dn ∧ j ≤ T.length ∧ Hid ((T.take j).foldl (insIStep t) ([], false) = (nx, dn)) ∧ nx.length ≤ 2 * j ∧ wr.ownsRow wb.heap.size 2 1 a nx.length (intsC nx) ∧ Fr [] wb wr
def TimO (w : World) (l : List upd.El) (v x : Value) (wr : World) : Prop :=
  ∃ (k : Nat) (T : List Int), x = .int .i64 (k : Int) ∧ k ≤ l.length ∧ Fr [] w wr ∧ wr.ownsRow w.heap.size 2 1 v T.length (intsC T) ∧ TimesOf (l.take k) T

set_option maxRecDepth 100000
set_option maxHeartbeats 6400000 in
theorem times_any {w : World} {aa : Option Addr} {ac : Nat} {l : List upd.El} (h : upd.Cts w (.slice aa l.length ac) l) (hn : l.length ≤ 10000) :
    Calls Tryz.prog 39 #[.slice aa l.length ac] w fun e w' => ∃ (T : List Int) (a : Option Addr) (c : Nat), e = .returned (.slice a T.length c) ∧ Fr [] w w' ∧ w'.ownsRow w.heap.size 2 1 (.slice a T.length c) T.length (intsC T) ∧ TimesOf l T := by
  obtain ⟨i0, hi, hz0, hz1, hz2⟩ := info_parts infoI
  have HC := Lib.hid h
  clear h
  go_enter Tryz.func39, Tryz.ntmps39
  go_wp2_with fail
  go_loopw [3, 13] (fun v x wr => TimO w l v x wr) (fun _ x _ => l.length - (intOf x).toNat)
  case atStart => exact ⟨0, [], rfl, Nat.zero_le _, (Fr.refl [] w).alloc _, World.ownsRow_made w #[] 0 (Nat.le_refl _) (by decide) rfl, ⟨by simp, by simp, by simp⟩⟩
  case round =>
    obtain ⟨k, T, rfl, hk, hf, ho, hT⟩ := hrel
    obtain ⟨va, vc, rfl⟩ := ownsRow_shape ho
    have HT := Lib.hid hT
    have htl := hT.len
    rw [List.length_take] at htl
    by_cases hlt : k < l.length
    · obtain ⟨b, off, e1, z0, z1, z2⟩ := (HC.out.fr hf).cell hlt
      subst e1
      have hts : l.take (k + 1) = l.take k ++ [upd.nth l k] := by rw [List.take_add_one, upd.nth_at hlt]; rfl
      have HTs := Lib.hid hts
      have hT2 := hT.snoc (e := upd.nth l k)
      rw [← hts] at hT2
      have HT2 := Lib.hid hT2
      have ht64 := (HC.out.row _ (upd.nth_mem hlt)).2.t
      clear hts hT2 hT
      go_upto_region 5 with fail
      have fa : Fr [] wr (wr.alloc (.cells #[.slice (upd.nth l k).ra (upd.nth l k).rl (upd.nth l k).rc, .int .i64 (upd.nth l k).t, .int .i64 (upd.nth l k).n] 65)) := (Fr.refl [] wr).alloc _
      have hb1 := heap_alloc_new wr (.cells #[.slice (upd.nth l k).ra (upd.nth l k).rl (upd.nth l k).rc, .int .i64 (upd.nth l k).t, .int .i64 (upd.nth l k).n] 65)
      have HOA := Lib.hid (ownsRow_fr ho fa (by simp))
      have HFA := Lib.hid (hf.trans fa)
      have hsz := (hf.trans fa).size
      clear fa ho hf z0 z1 z2
      generalize wr.heap.size = bx at *
      generalize wr.alloc (.cells #[.slice (upd.nth l k).ra (upd.nth l k).rl (upd.nth l k).rc, .int .i64 (upd.nth l k).t, .int .i64 (upd.nth l k).n] 65) = wb at *
      have y1 := cell_blk hb1 1 (.int .i64 (upd.nth l k).t) rfl
      have Y1 := Lib.hid y1
      clear hb1
      generalize (upd.nth l k).t = t at *
      go_wp2_with fail
      go_loopw [6, 7, 20] (fun a b i wq => InsI wb t T a b i wq) (fun _ _ i _ => T.length - (intOf i).toNat)
      case atStart => exact ⟨0, [], false, rfl, rfl, Nat.zero_le _, Lib.hid rfl, by simp, World.ownsRow_made wb #[] 0 (Nat.le_refl _) (by decide) rfl, (Fr.refl [] wb).alloc _⟩
      case round =>
        obtain ⟨j, nx, dn, rfl, rfl, hj, HF, hnl, ho, hf⟩ := hrel
        obtain ⟨ua, uc, rfl⟩ := ownsRow_shape ho
        have HO := Lib.hid ho
        have HFi := Lib.hid hf
        have hszi := hf.size
        have y2 := hf.cell Y1.out (by simp)
        by_cases hlj : j < T.length
        · obtain ⟨b2, off2, e2, z0⟩ := ints_cell (ownsRow_fr HOA.out hf (by simp)) hlj
          subst e2
          have hst : (T.take (j + 1)).foldl (insIStep t) ([], false) = insIStep t (nx, dn) (nti T j) := by
            rw [List.take_add_one, nti_at hlj, List.foldl_append, HF.out]; rfl
          have HSt := Lib.hid hst
          clear hst ho hf y1
          generalize nti T j = r at *
          cases dn with
          | true =>
            have HS3 := Lib.hid (show (T.take (j + 1)).foldl (insIStep t) ([], false) = (nx ++ [r], true) by rw [HSt.out]; exact if_neg (by simp))
            clear HSt
            go_wp2_with (at_builtin; refine wpList_append_src _ rfl (.tmp 41) (.tmp 43) 79 rfl wb.heap.size 2 i0 _ 1 8 Tryz.underlying79 hi hz0 hz1 hz2 rfl (by decide) (.slice ua nx.length uc) (nx.length) _ rfl (ownsRow_fr HO.out ((Fr.refl [] wr).alloc _) (by simp)) (.slice (some ⟨wr.heap.size, 0, none⟩) 1 1) 1 [.int .i64 r] rfl (Src.block (heap_alloc_new wr _) rfl (by intro u hu; simp at hu; rcases hu with rfl; rfl)) (by unfold maxLen; omega) (by omega) (by simp; omega) ?_; intro v6 w6 hown6 hgrow6 _; have HOwn6 := Lib.hid hown6; have HG6 := Lib.hid hgrow6; clear hown6 hgrow6)
            go_roundw
            case rel => exact ⟨j + 1, nx ++ [r], true, by go_num, rfl, by omega, Lib.hid HS3.out, by simp; omega, by
              rw [intsC_append, List.length_append]
              exact HOwn6.out, (HFi.out.alloc _).fresh HG6.out (fun q e => Or.inl (HO.out.lt q e).1)⟩
            case measure => simp [intOf] <;> omega
          | false =>
            by_cases h1 : t < r
            · have h2 : t ≤ r := by omega
              have HS3 := Lib.hid (show (T.take (j + 1)).foldl (insIStep t) ([], false) = (nx ++ [t] ++ [r], true) by rw [HSt.out]; unfold insIStep; rw [if_pos ⟨rfl, h2⟩, if_pos h1])
              clear HSt
              go_wp2_with (first
                | (at_builtin; refine wpList_append_src _ rfl (.tmp 36) (.tmp 39) 79 rfl wb.heap.size 2 i0 _ 1 8 Tryz.underlying79 hi hz0 hz1 hz2 rfl (by decide) (.slice ua nx.length uc) (nx.length) _ rfl (ownsRow_fr HO.out ((Fr.refl [] wr).alloc _) (by simp)) (.slice (some ⟨wr.heap.size, 0, none⟩) 1 1) 1 [.int .i64 t] rfl (Src.block (heap_alloc_new wr _) rfl (by intro u hu; simp at hu; rcases hu with rfl; rfl)) (by unfold maxLen; omega) (by omega) (by simp; omega) ?_; intro v5 w5 hown5 hgrow5 _; obtain ⟨v5a, v5c, rfl⟩ := ownsRow_shape hown5; have f5 := ((HFi.out.alloc _).fresh hgrow5 (fun q e => Or.inl (HO.out.lt q e).1)); have hsz5 := f5.size; have y5 := f5.cell Y1.out (by simp); have F5 := Lib.hid f5; have HO5 := Lib.hid hown5; clear hown5 hgrow5 f5)
                | (at_builtin; refine wpList_append_src _ rfl (.tmp 41) (.tmp 43) 79 rfl wb.heap.size 2 i0 _ 1 8 Tryz.underlying79 hi hz0 hz1 hz2 rfl (by decide) (.slice v5a (nx.length + 1) v5c) (nx.length + 1) _ rfl (ownsRow_fr HO5.out ((Fr.refl [] w5).alloc _) (by simp)) (.slice (some ⟨w5.heap.size, 0, none⟩) 1 1) 1 [.int .i64 r] rfl (Src.block (heap_alloc_new w5 _) rfl (by intro u hu; simp at hu; rcases hu with rfl; rfl)) (by unfold maxLen; omega) (by omega) (by simp; omega) ?_; intro v6 w6 hown6 hgrow6 _; have HOwn6 := Lib.hid hown6; have HG6 := Lib.hid hgrow6; clear hown6 hgrow6))
              go_roundw
              case rel => exact ⟨j + 1, nx ++ [t] ++ [r], true, by go_num, rfl, by omega, Lib.hid HS3.out, by simp; omega, by
                have h9 := HOwn6.out
                rw [intsC_append, intsC_append, List.length_append, List.length_append]
                exact h9, (F5.out.alloc _).fresh HG6.out (fun q e => Or.inl (HO5.out.lt q e).1)⟩
              case measure => simp [intOf] <;> omega
            · by_cases h2 : t ≤ r
              · have HS3 := Lib.hid (show (T.take (j + 1)).foldl (insIStep t) ([], false) = (nx ++ [r], true) by rw [HSt.out]; unfold insIStep; rw [if_pos ⟨rfl, h2⟩, if_neg h1, List.append_nil])
                clear HSt
                go_wp2_with (at_builtin; refine wpList_append_src _ rfl (.tmp 41) (.tmp 43) 79 rfl wb.heap.size 2 i0 _ 1 8 Tryz.underlying79 hi hz0 hz1 hz2 rfl (by decide) (.slice ua nx.length uc) (nx.length) _ rfl (ownsRow_fr HO.out ((Fr.refl [] wr).alloc _) (by simp)) (.slice (some ⟨wr.heap.size, 0, none⟩) 1 1) 1 [.int .i64 r] rfl (Src.block (heap_alloc_new wr _) rfl (by intro u hu; simp at hu; rcases hu with rfl; rfl)) (by unfold maxLen; omega) (by omega) (by simp; omega) ?_; intro v6 w6 hown6 hgrow6 _; have HOwn6 := Lib.hid hown6; have HG6 := Lib.hid hgrow6; clear hown6 hgrow6)
                go_roundw
                case rel => exact ⟨j + 1, nx ++ [r], true, by go_num, rfl, by omega, Lib.hid HS3.out, by simp; omega, by
                  rw [intsC_append, List.length_append]
                  exact HOwn6.out, (HFi.out.alloc _).fresh HG6.out (fun q e => Or.inl (HO.out.lt q e).1)⟩
                case measure => simp [intOf] <;> omega
              · have HS3 := Lib.hid (show (T.take (j + 1)).foldl (insIStep t) ([], false) = (nx ++ [r], false) by rw [HSt.out]; unfold insIStep; rw [if_neg (fun h => h2 h.2)])
                clear HSt
                go_wp2_with (at_builtin; refine wpList_append_src _ rfl (.tmp 41) (.tmp 43) 79 rfl wb.heap.size 2 i0 _ 1 8 Tryz.underlying79 hi hz0 hz1 hz2 rfl (by decide) (.slice ua nx.length uc) (nx.length) _ rfl (ownsRow_fr HO.out ((Fr.refl [] wr).alloc _) (by simp)) (.slice (some ⟨wr.heap.size, 0, none⟩) 1 1) 1 [.int .i64 r] rfl (Src.block (heap_alloc_new wr _) rfl (by intro u hu; simp at hu; rcases hu with rfl; rfl)) (by unfold maxLen; omega) (by omega) (by simp; omega) ?_; intro v6 w6 hown6 hgrow6 _; have HOwn6 := Lib.hid hown6; have HG6 := Lib.hid hgrow6; clear hown6 hgrow6)
                go_roundw
                case rel => exact ⟨j + 1, nx ++ [r], false, by go_num, rfl, by omega, Lib.hid HS3.out, by simp; omega, by
                  rw [intsC_append, List.length_append]
                  exact HOwn6.out, (HFi.out.alloc _).fresh HG6.out (fun q e => Or.inl (HO.out.lt q e).1)⟩
                case measure => simp [intOf] <;> omega
        · obtain rfl : j = T.length := by omega
          have hfo := HF.out
          rw [List.take_length] at hfo
          have hfi := foldI_ins t T []
          rw [hfo, List.nil_append] at hfi
          cases dn with
          | true =>
            have HE := Lib.hid (show insI t T = nx from hfi.symm)
            clear hfi hfo ho hf hj hlj y1
            go_wp2_with fail
            go_roundw
            case rel => exact ⟨k + 1, insI t T, by go_num, by omega, HFA.out.trans HFi.out, by rw [HE.out]; exact ownsRow_base HO.out hsz, HT2.out⟩
            case measure => simp [intOf] <;> omega
          | false =>
            have HE := Lib.hid (show insI t T = nx ++ [t] from hfi.symm)
            clear hfi hfo ho hf hj hlj y1
            go_wp2_with (at_builtin; refine wpList_append_src _ rfl (.tmp 48) (.tmp 51) 79 rfl wb.heap.size 2 i0 _ 1 8 Tryz.underlying79 hi hz0 hz1 hz2 rfl (by decide) (.slice ua nx.length uc) (nx.length) _ rfl (ownsRow_fr HO.out ((Fr.refl [] wr).alloc _) (by simp)) (.slice (some ⟨wr.heap.size, 0, none⟩) 1 1) 1 [.int .i64 t] rfl (Src.block (heap_alloc_new wr _) rfl (by intro u hu; simp at hu; rcases hu with rfl; rfl)) (by unfold maxLen; omega) (by omega) (by simp; omega) ?_; intro v6 w6 hown6 hgrow6 _; have HOwn6 := Lib.hid hown6; have HG6 := Lib.hid hgrow6; clear hown6 hgrow6)
            go_roundw
            case rel => exact ⟨k + 1, insI t T, by go_num, by omega, HFA.out.trans ((HFi.out.alloc _).fresh HG6.out (fun q e => Or.inl (HO.out.lt q e).1)), by
              rw [HE.out, intsC_append, List.length_append]
              exact ownsRow_base HOwn6.out hsz, HT2.out⟩
            case measure => simp [intOf] <;> omega
    · obtain rfl : k = l.length := by omega
      rw [List.take_length] at HT
      have HO := Lib.hid ho
      have HF := Lib.hid hf
      clear ho hf hT hk hlt htl
      go_wp2_with fail
      go_ret
      exact ⟨T, va, vc, rfl, HF.out, HO.out, HT.out⟩
end Go.Proofs.YtjchlfblbmiceaaGreat
namespace Go.Proofs.YtjchlfblbmiceaaGreat
open Go.RowKit srt grp

/-- What happens at one time. -/
def atT (l : List upd.El) (t : Int) : List El := (l.filter fun e => decide (e.t = t)).map toC
theorem atT_snoc (l : List upd.El) (e : upd.El) (t : Int) : atT (l ++ [e]) t = atT l t ++ if e.t = t then [toC e] else [] := by
  unfold atT
  rw [List.filter_append, List.map_append]
  congr 1
  by_cases h : e.t = t <;> simp [h]
theorem atT_len (l : List upd.El) (t : Int) : (atT l t).length ≤ l.length := by
  unfold atT; rw [List.length_map]; exact List.length_filter_le _ _
theorem atT_sum (l : List upd.El) (t : Int) (r : List Dt) : sumK ((atT l t).map pr) r = sumK (l.map upd.pr) (t, r) := by
  induction l with
  | nil => rfl
  | cons e l ih =>
    have h1 : (atT (e :: l) t).map pr = (if e.t = t then [pr (toC e)] else []) ++ (atT l t).map pr := by
      unfold atT
      by_cases h : e.t = t <;> simp [h]
    rw [h1, sumK_append, ih, List.map_cons, sumK_cons]
    by_cases h : e.t = t
    · rw [if_pos h, sumK_cons, sumK_nil]
      by_cases h2 : e.rd = r
      · rw [if_pos (show (pr (toC e)).1 = r from h2), if_pos (show (upd.pr e).1 = (t, r) from Prod.ext h h2)]
        show e.n + 0 + _ = e.n + _
        omega
      · rw [if_neg (show ¬ (pr (toC e)).1 = r from h2), if_neg (show ¬ (upd.pr e).1 = (t, r) from fun x => h2 (congrArg Prod.snd x))]
        omega
    · rw [if_neg h, sumK_nil, if_neg (show ¬ (upd.pr e).1 = (t, r) from fun x => h (congrArg Prod.fst x))]
theorem atT_sub (l : List upd.El) (t : Int) : ∀ e ∈ atT l t, ∃ e0 ∈ l, e = toC e0 := fun e he => by
  obtain ⟨e0, h0, rfl⟩ := List.mem_map.1 he
  exact ⟨e0, (List.mem_filter.1 h0).1, rfl⟩

/-- A counted row, at a time. -/
def toT (t : Int) (e : El) : upd.El := ⟨e.ra, e.rl, e.rc, t, e.n, e.rd⟩
/-- One time more. -/
theorem canon_more {o1 : List upd.El} {o2 : List El} {S1 : Int × List Dt → Int} {S2 : List Dt → Int} {t : Int} (h1 : Canon upd.cmpU (o1.map upd.pr) S1) (hlt : ∀ e ∈ o1, e.t < t) (h2 : Canon cmpR (o2.map pr) S2) :
    Canon upd.cmpU ((o1 ++ o2.map (toT t)).map upd.pr) (fun q => S1 q + if q.1 = t then S2 q.2 else 0) := by
  have hmap : (o2.map (toT t)).map upd.pr = (o2.map pr).map fun p => ((t, p.1), p.2) := by rw [List.map_map, List.map_map]; rfl
  refine ⟨?_, fun p hp => ?_, fun q => ?_⟩
  · rw [List.map_append]
    refine List.pairwise_append.2 ⟨h1.up, ?_, fun a ha b hb => ?_⟩
    · rw [hmap]
      refine List.pairwise_map.2 (h2.up.imp fun {a b} hab => ?_)
      unfold upd.cmpU
      rw [if_neg (by simp [cmpI_self])]
      exact hab
    · obtain ⟨x, hx, rfl⟩ := List.mem_map.1 ha
      obtain ⟨y, hy, rfl⟩ := List.mem_map.1 hb
      obtain ⟨z, -, rfl⟩ := List.mem_map.1 hy
      have := hlt x hx
      have hc : cmpI x.t t = -1 := by unfold cmpI; rw [if_pos this]
      show (if cmpI x.t t ≠ 0 then cmpI x.t t else cmpR x.rd z.rd) < 0
      rw [hc, if_pos (by decide)]
      decide
  · rw [List.map_append] at hp
    rcases List.mem_append.1 hp with hp | hp
    · exact h1.nz p hp
    · rw [hmap] at hp
      obtain ⟨p0, h0, rfl⟩ := List.mem_map.1 hp
      exact h2.nz p0 h0
  · rw [List.map_append, sumK_append, h1.sum, hmap]
    congr 1
    rw [← h2.sum]
    generalize o2.map pr = os
    induction os with
    | nil => simp [sumK_nil]
    | cons p os ih =>
      rw [List.map_cons, sumK_cons, ih, sumK_cons]
      by_cases h : q.1 = t
      · rw [if_pos h, if_pos h]
        by_cases h2 : p.1 = q.2
        · rw [if_pos (show (t, p.1) = q from Prod.ext h.symm h2), if_pos h2]
        · rw [if_neg (show ¬ (t, p.1) = q from fun x => h2 (congrArg Prod.snd x)), if_neg h2]
      · rw [if_neg h, if_neg h, if_neg (show ¬ (t, p.1) = q from fun x => h (congrArg Prod.fst x).symm)]; rfl

/-- The sums at the first times. -/
def sumT (l : List upd.El) (T : List Int) (q : Int × List Dt) : Int := if q.1 ∈ T then 1 * sumK (l.map upd.pr) q else 0
theorem sumT_more (l : List upd.El) (T : List Int) (t : Int) (ht : t ∉ T) (q : Int × List Dt) : sumT l T q + (if q.1 = t then 1 * sumK ((atT l t).map pr) q.2 else 0) = sumT l (T ++ [t]) q := by
  unfold sumT
  obtain ⟨q1, q2⟩ := q
  simp only
  by_cases h : q1 = t
  · have : q1 ∉ T := by rw [h]; exact ht
    rw [if_neg this, if_pos h, if_pos (by simp [h]), atT_sum, ← h]; omega
  · rw [if_neg h, Int.add_zero]
    by_cases h2 : q1 ∈ T
    · rw [if_pos h2, if_pos (by simp [h2])]
    · rw [if_neg h2, if_neg (by simp [h2, h])]
theorem sumT_all {l : List upd.El} {T : List Int} (h : TimesOf l T) (q : Int × List Dt) : sumT l T q = 1 * sumK (l.map upd.pr) q := by
  unfold sumT
  by_cases h2 : q.1 ∈ T
  · rw [if_pos h2]
  · rw [if_neg h2, sumK_none (fun p hp e => h2 ((h.mem _).2 (by
      obtain ⟨x, hx, rfl⟩ := List.mem_map.1 hp
      exact List.mem_map.2 ⟨x, hx, congrArg Prod.fst e⟩)))]
    rfl
theorem rise_take {T : List Int} (h : T.Pairwise (· < ·)) {k : Nat} (hk : k < T.length) : ∀ t ∈ T.take k, t < nti T k := fun t ht => by
  obtain ⟨i, hi, rfl⟩ := List.getElem_of_mem ht
  rw [List.length_take] at hi
  rw [List.getElem_take]
  have h1 := List.pairwise_iff_getElem.1 h i k (by omega) hk (by omega)
  have h2 : T[k] = nti T k := by
    have := nti_at hk; rw [List.getElem?_eq_getElem hk] at this; exact Option.some.inj this
  rw [← h2]; exact h1

/-- A row lies in no block of updates; neither does a list of counted rows. -/
theorem RowIn.farU {w w' : World} {base b2 n : Nat} {v x : Value} {ds : List Dt} {xs : List Value} (h : RowIn base w v ds) (ho : w.ownsRow b2 65 3 x n xs) (hg : w.grownBy w' x.ownBlock) : RowIn base w' v ds := by
  rcases h with h | ⟨g, cap, cur, hb, hv, hc, hh, htk⟩
  · exact Or.inl h
  · have hlt : g < w.heap.size := (Array.getElem?_eq_some_iff.1 hh).1
    refine Or.inr ⟨g, cap, cur, hb, hv, hc, ?_, htk⟩
    rw [hg.block g hlt (fun e => ?_)]
    · exact hh
    · rcases ho.2 with ⟨rfl, -⟩ | ⟨g2, c2, cur2, rfl, -, h2, -⟩
      · simp [Value.ownBlock] at e
      · simp only [Value.ownBlock, Option.some.injEq] at e
        subst e
        rw [h2] at hh
        simp at hh
theorem ListIn.farU {w w' : World} {base b2 n : Nat} {v x : Value} {l : List El} {xs : List Value} (h : ListIn base w v l) (ho : w.ownsRow b2 65 3 x n xs) (hg : w.grownBy w' x.ownBlock) : ListIn base w' v l := by
  refine ⟨?_, fun e he => ⟨(h.2 e he).1.farU ho hg, (h.2 e he).2⟩⟩
  rcases h.1 with h | ⟨g, c, cur, hb, hv, hc, hh, htk⟩
  · exact Or.inl h
  · have hlt : g < w.heap.size := (Array.getElem?_eq_some_iff.1 hh).1
    refine Or.inr ⟨g, c, cur, hb, hv, hc, ?_, htk⟩
    rw [hg.block g hlt (fun e => ?_)]
    · exact hh
    · rcases ho.2 with ⟨rfl, -⟩ | ⟨g2, c2, cur2, rfl, -, h2, -⟩
      · simp [Value.ownBlock] at e
      · simp only [Value.ownBlock, Option.some.injEq] at e
        subst e
        rw [h2] at hh
        simp at hh
end Go.Proofs.YtjchlfblbmiceaaGreat
namespace Go.Proofs.YtjchlfblbmiceaaGreat
open Go.RowKit srt grp

/-- How many updates are at these times. -/
def cntT (l : List upd.El) (T : List Int) : Nat := (l.filter fun e => decide (e.t ∈ T)).length
theorem cntT_le (l : List upd.El) (T : List Int) : cntT l T ≤ l.length := List.length_filter_le _ _
theorem cntT_more (l : List upd.El) (T : List Int) (t : Int) (ht : t ∉ T) : cntT l (T ++ [t]) = cntT l T + (atT l t).length := by
  unfold cntT atT
  rw [List.length_map]
  induction l with
  | nil => rfl
  | cons e l ih =>
    rw [List.filter_cons, List.filter_cons, List.filter_cons]
    by_cases h : e.t = t
    · have h2 : e.t ∉ T := by rw [h]; exact ht
      rw [if_pos (by simp [h]), if_neg (by simpa using h2), if_pos (by simp [h]), List.length_cons, ih, List.length_cons]; omega
    · by_cases h2 : e.t ∈ T
      · rw [if_pos (by simp [h2]), if_pos (by simpa using h2), if_neg (by simpa using h), List.length_cons, ih, List.length_cons]; omega
      · rw [if_neg (by simp [h2, h]), if_neg (by simpa using h2), if_neg (by simpa using h), ih]
def SetD (w : World) (T : List Int) (ta : Option Addr) (tc : Nat) (outs : List upd.El) (d : List El) (da : Option Addr) (dc : Nat) (t : Int) (v x : Value) (wr : World) : Prop :=
  ∃ j : Nat, x = .int .i64 (j : Int) ∧ j ≤ d.length ∧ Fr [] w wr ∧ wr.ownsRow w.heap.size 65 3 v (outs ++ (d.take j).map (toT t)).length (upd.elsC (outs ++ (d.take j).map (toT t))) ∧ wr.ownsRow w.heap.size 2 1 (.slice ta T.length tc) T.length (intsC T) ∧
    Hid (ListIn w.heap.size wr (.slice da d.length dc) d) ∧ Hid (∀ e ∈ outs, RowIn w.heap.size wr e.rv e.rd)

def SetO (w : World) (l : List upd.El) (T : List Int) (ta : Option Addr) (tc : Nat) (v x : Value) (wr : World) : Prop :=
  ∃ (k : Nat) (outs : List upd.El), x = .int .i64 (k : Int) ∧ k ≤ T.length ∧ Fr [] w wr ∧ wr.ownsRow w.heap.size 65 3 v outs.length (upd.elsC outs) ∧ wr.ownsRow w.heap.size 2 1 (.slice ta T.length tc) T.length (intsC T) ∧
    outs.length ≤ cntT l (T.take k) ∧ Hid (Canon upd.cmpU (outs.map upd.pr) (sumT l (T.take k))) ∧ Hid (∀ e ∈ outs, e.t ∈ T.take k ∧ RowIn w.heap.size wr e.rv e.rd ∧ upd.ElOk e) ∧ Hid (∀ t ∈ T.take k, ∀ r, fitB (1 * sumK ((atT l t).map pr) r) = true)
def SetC (wa : World) (l : List upd.El) (t : Int) (v x : Value) (wr : World) : Prop :=
  ∃ j : Nat, x = .int .i64 (j : Int) ∧ j ≤ l.length ∧ Fr [] wa wr ∧ wr.ownsRow wa.heap.size 68 2 v (atT (l.take j) t).length (elsC (atT (l.take j) t))

set_option maxRecDepth 100000
set_option maxHeartbeats 12800000 in
theorem rSettle_any {w : World} {aa : Option Addr} {ac : Nat} {l : List upd.El} (h : upd.Cts w (.slice aa l.length ac) l) (hn : l.length ≤ 10000) :
    Calls Tryz.prog 14 #[.slice aa l.length ac] w (upd.TidyPost w l 1) := by
  obtain ⟨i0, hi, hz0, hz1, hz2⟩ := info_parts infoC
  obtain ⟨i1, hj, hy0, hy1, hy2⟩ := info_parts upd.infoU
  have HC := Lib.hid h
  have fe : Fr [] w (w.alloc (.cells #[] 65)) := (Fr.refl [] w).alloc _
  have htm := times_any (h.fr fe) hn
  have HTm := Lib.hid htm
  have HFe := Lib.hid fe
  have HOe := Lib.hid (World.ownsRow_made (e := 65) (size := 3) w #[] 0 (Nat.le_refl _) (by decide) rfl)
  clear h htm fe
  go_enter Tryz.func14, Tryz.ntmps14
  go_wp2_with (go_at_call 39; refine HTm.out.mono ?_; rintro e w1 ⟨T, ta, tc, rfl, f1, o1, hT⟩; have F1 := Lib.hid (HFe.out.trans f1); have HO1 := Lib.hid (ownsRow_fr HOe.out f1 (by simp)); have HO2 := Lib.hid (ownsRow_base o1 (by simp : w.heap.size ≤ _)); have HT := Lib.hid hT; clear f1 o1 hT)
  have hTl := HT.out.len
  go_loopw [4, 18] (fun v x wr => SetO w l T ta tc v x wr) (fun _ x _ => T.length - (intOf x).toNat)
  case atStart => exact ⟨0, [], rfl, Nat.zero_le _, F1.out, HO1.out, HO2.out, by simp [cntT], Lib.hid ⟨by simp, by simp, fun q => by simp [sumK_nil, sumT]⟩, Lib.hid (by simp), Lib.hid (by simp)⟩
  case round =>
    obtain ⟨k, outs, rfl, hk, hf, ho, hto, hol, HCan, HIn, HFits⟩ := hrel
    obtain ⟨va, vc, rfl⟩ := ownsRow_shape ho
    by_cases hlt : k < T.length
    · obtain ⟨b, off, e1, z0⟩ := ints_cell hto hlt
      subst e1
      have hts : T.take (k + 1) = T.take k ++ [nti T k] := by rw [List.take_add_one, nti_at hlt]; rfl
      have HTs := Lib.hid hts
      have hrise := rise_take HT.out.up hlt
      have HRise := Lib.hid hrise
      have HF := Lib.hid hf
      have HO := Lib.hid ho
      have HTo := Lib.hid hto
      have hsz := hf.size
      clear hts hrise hf ho hto
      generalize nti T k = t at *
      obtain ⟨wz, rfl⟩ : ∃ wz, wz = wr := ⟨wr, rfl⟩
      go_wp2_with fail
      go_loopw [7, 25] (fun v x wq => SetC wz l t v x wq) (fun _ x _ => l.length - (intOf x).toNat)
      case atStart => exact ⟨0, rfl, Nat.zero_le _, (Fr.refl [] wz).alloc _, World.ownsRow_made wz #[] 0 (Nat.le_refl _) (by decide) rfl⟩
      case round =>
        obtain ⟨j, rfl, hjl, hf, ho⟩ := hrel
        obtain ⟨ca, cc, rfl⟩ := ownsRow_shape ho
        have HFi := Lib.hid hf
        have HOi := Lib.hid ho
        by_cases hlj : j < l.length
        · as_aux_lemma =>
          obtain ⟨b2, off2, e2, x0, x1, x2⟩ := (HC.out.fr (HF.out.trans hf)).cell hlj
          subst e2
          have hts : l.take (j + 1) = l.take j ++ [upd.nth l j] := by rw [List.take_add_one, upd.nth_at hlj]; rfl
          have hsn := atT_snoc (l.take j) (upd.nth l j) t
          rw [← hts] at hsn
          have HSn := Lib.hid hsn
          have hle := atT_len (l.take j) t
          have hlk : (l.take j).length = j := by rw [List.length_take]; omega
          have hal : (atT (l.take j) t).length ≤ 10000 := by omega
          clear hf ho hts hsn hle hlk
          generalize atT (l.take j) t = al at *
          go_upto_region 9 with fail
          have fa : Fr [] wr (wr.alloc (.cells #[.slice (upd.nth l j).ra (upd.nth l j).rl (upd.nth l j).rc, .int .i64 (upd.nth l j).t, .int .i64 (upd.nth l j).n] 65)) := (Fr.refl [] wr).alloc _
          have hb1 := heap_alloc_new wr (.cells #[.slice (upd.nth l j).ra (upd.nth l j).rl (upd.nth l j).rc, .int .i64 (upd.nth l j).t, .int .i64 (upd.nth l j).n] 65)
          have HOA := Lib.hid (ownsRow_fr HOi.out fa (by simp))
          have HFA := Lib.hid (HFi.out.trans fa)
          have hszA := (HFi.out.trans fa).size
          clear fa HOi HFi x0 x1 x2
          generalize wr.heap.size = bx at *
          generalize wr.alloc (.cells #[.slice (upd.nth l j).ra (upd.nth l j).rl (upd.nth l j).rc, .int .i64 (upd.nth l j).t, .int .i64 (upd.nth l j).n] 65) = wb at *
          have y0 := cell_blk hb1 0 (.slice (upd.nth l j).ra (upd.nth l j).rl (upd.nth l j).rc) rfl
          have y1 := cell_blk hb1 1 (.int .i64 (upd.nth l j).t) rfl
          have y2 := cell_blk hb1 2 (.int .i64 (upd.nth l j).n) rfl
          clear hb1
          by_cases htt : (upd.nth l j).t = t
          · have hb : ((upd.nth l j).t == t) = true := by simpa using htt
            have HTt := Lib.hid htt
            clear htt
            go_wp2_with (at_builtin; refine wpList_append_src _ rfl (.tmp 33) (.tmp 39) 31 rfl wz.heap.size 68 i0 _ 2 32 Tryz.underlying31 hi hz0 hz1 hz2 rfl (by decide) (.slice ca al.length cc) al.length _ rfl (HOA.out.alloc _) (.slice (some ⟨wb.heap.size, 0, none⟩) 1 1) 1 [.slice (upd.nth l j).ra (upd.nth l j).rl (upd.nth l j).rc, .int .i64 (upd.nth l j).n] rfl (Src.block (heap_alloc_new wb _) rfl (by intro u hu; simp at hu; rcases hu with rfl | rfl <;> rfl)) (by unfold maxLen; omega) (by omega) (by simp; omega) ?_; intro v' w3 hown1 hgrow1 _; have HOwn1 := Lib.hid hown1; have HG1 := Lib.hid hgrow1; clear hown1 hgrow1)
            go_roundw
            case rel => exact ⟨j + 1, by go_num, by omega, (HFA.out.alloc _).fresh HG1.out (fun r e => Or.inl (HOA.out.lt r e).1), by
              rw [HSn.out, if_pos HTt.out, elsC_append, List.length_append]
              simpa [elsC, El.cells, toC] using HOwn1.out⟩
            case measure => simp [intOf] <;> omega
          · have hb : ((upd.nth l j).t == t) = false := by simpa using htt
            have HTt := Lib.hid htt
            clear htt
            go_wp2_with fail
            go_roundw
            case rel => exact ⟨j + 1, by go_num, by omega, HFA.out, by rw [HSn.out, if_neg HTt.out, List.append_nil]; exact HOA.out⟩
            case measure => simp [intOf] <;> omega
        · as_aux_lemma =>
          obtain rfl : j = l.length := by omega
          rw [List.take_length] at ho
          have hcts : Cts wr (.slice ca (atT l t).length cc) (atT l t) := own_cts ho fun e he => by
            obtain ⟨e0, h0, rfl⟩ := atT_sub l t e he
            have h2 := HC.out.row e0 h0
            exact ⟨h2.1.fr (HF.out.trans hf), ⟨h2.2.len, h2.2.n⟩⟩
          have hcl := atT_len l t
          have HTi := Lib.hid (rTidy_any hcts (by omega))
          have HFw := Lib.hid (HF.out.trans hf)
          have HOw := Lib.hid (ownsRow_fr HO.out hf (by simp))
          have HTw := Lib.hid (ownsRow_fr HTo.out hf (by simp))
          have HInw := Lib.hid (fun e he => (HIn.out e he).2.1.fr hf (by simp))
          have hszr := (HF.out.trans hf).size
          clear ho hcts hf HOi HFi HO HTo HF z0 hlj hjl hsz
          rw [List.take_length]
          go_upto_region 13 with (go_at_call 35; refine HTi.out.mono ?_; rintro e w5 ⟨f5, ⟨h1, d, da, dc, rfl, h2, h3, h4⟩ | ⟨h1, rfl⟩⟩)
          · have H1 := Lib.hid h1
            have H3 := Lib.hid h3
            have HD := Lib.hid (h2.base hszr)
            have HDok := Lib.hid (fun e he => (h2.2 e he).2)
            have HF5 := Lib.hid (HFw.out.trans f5)
            have HO5 := Lib.hid (ownsRow_fr HOw.out f5 (by simp))
            have HT5 := Lib.hid (ownsRow_fr HTw.out f5 (by simp))
            have HIn5 := Lib.hid (fun e he => (HInw.out e he).fr f5 (by simp))
            have hoc := cntT_le l (T.take k)
            clear h1 h2 h3 f5 HTi HFw HOw HTw HInw
            obtain ⟨wv, rfl⟩ : ∃ wv, wv = w5 := ⟨w5, rfl⟩
            go_wp2_with fail
            go_loopw [4, 52] (fun v x wq => SetD w T (some ⟨b, off, none⟩) tc outs d da dc t v x wq) (fun _ x _ => d.length - (intOf x).toNat)
            case atStart => exact ⟨0, rfl, Nat.zero_le _, HF5.out, by simpa using HO5.out, HT5.out, HD.out, HIn5.out⟩
            case round =>
              obtain ⟨j, rfl, hjl, hf, ho, hto, HDr, HInr⟩ := hrel
              obtain ⟨ua, uc, rfl⟩ := ownsRow_shape ho
              have HFr := Lib.hid hf
              have HOr := Lib.hid ho
              have HTr := Lib.hid hto
              have hlo : (outs ++ (d.take j).map (toT t)).length = outs.length + j := by simp; omega
              by_cases hlj : j < d.length
              · as_aux_lemma =>
                obtain ⟨b2, off2, e2, x0, x1⟩ := HDr.out.cts.cell hlj
                subst e2
                have hts : d.take (j + 1) = d.take j ++ [nth d j] := by rw [List.take_add_one, nth_at hlj]; rfl
                have HTs2 := Lib.hid hts
                have hob : outs.length + j ≤ 30000 := by omega
                have HLo := Lib.hid hlo
                clear hf ho hto hts
                generalize hml : (outs ++ (d.take j).map (toT t)).length = mm at *
                go_upto_region 18 with fail
                have fa : Fr [] wr (wr.alloc (.cells #[.slice (nth d j).ra (nth d j).rl (nth d j).rc, .int .i64 (nth d j).n] 68)) := (Fr.refl [] wr).alloc _
                have hb1 := heap_alloc_new wr (.cells #[.slice (nth d j).ra (nth d j).rl (nth d j).rc, .int .i64 (nth d j).n] 68)
                have HOA := Lib.hid (ownsRow_fr HOr.out fa (by simp))
                have HTA := Lib.hid (ownsRow_fr HTr.out fa (by simp))
                have HFA := Lib.hid (HFr.out.trans fa)
                have HDA := Lib.hid (HDr.out.fr fa (by simp))
                have HIA := Lib.hid (fun e he => (HInr.out e he).fr fa (by simp))
                have hszA := (HFr.out.trans fa).size
                clear fa HOr HFr HTr HDr HInr x0 x1
                generalize wr.heap.size = bx at *
                generalize wr.alloc (.cells #[.slice (nth d j).ra (nth d j).rl (nth d j).rc, .int .i64 (nth d j).n] 68) = wb at *
                have y0 := cell_blk hb1 0 (.slice (nth d j).ra (nth d j).rl (nth d j).rc) rfl
                have y1 := cell_blk hb1 1 (.int .i64 (nth d j).n) rfl
                clear hb1
                go_wp2_with (at_builtin; refine wpList_append_src _ rfl (.tmp 56) (.tmp 63) 27 rfl w.heap.size 65 i1 _ 3 40 Tryz.underlying27 hj hy0 hy1 hy2 rfl (by decide) (.slice ua mm uc) mm _ rfl (HOA.out.alloc _) (.slice (some ⟨wb.heap.size, 0, none⟩) 1 1) 1 [.slice (nth d j).ra (nth d j).rl (nth d j).rc, .int .i64 t, .int .i64 (nth d j).n] rfl (Src.block (heap_alloc_new wb _) rfl (by intro u hu; simp at hu; rcases hu with rfl | rfl | rfl <;> rfl)) (by unfold maxLen; omega) (by omega) (by simp; omega) ?_; intro v' w3 hown1 hgrow1 _; have HOwn1 := Lib.hid hown1; have HG1 := Lib.hid hgrow1; clear hown1 hgrow1)
                go_roundw
                case rel =>
                  have hoa := HOA.out.alloc (.cells #[.slice (nth d j).ra (nth d j).rl (nth d j).rc, .int .i64 t, .int .i64 (nth d j).n] 65)
                  have fb := (Fr.refl [] wb).alloc (.cells #[.slice (nth d j).ra (nth d j).rl (nth d j).rc, .int .i64 t, .int .i64 (nth d j).n] 65)
                  exact ⟨j + 1, by go_num, by omega, (HFA.out.trans fb).fresh HG1.out (fun r e => Or.inl (HOA.out.lt r e).1), by
                    rw [HTs2.out, List.map_append, ← List.append_assoc, upd.elsC_append, List.length_append, hml]
                    simpa [upd.elsC, upd.El.cells, toT] using HOwn1.out, own_far (by decide) (ownsRow_fr HTA.out fb (by simp)) hoa HG1.out, Lib.hid ((HDA.out.fr fb (by simp)).farU hoa HG1.out), Lib.hid (fun e he => ((HIA.out e he).fr fb (by simp)).farU hoa HG1.out)⟩
                case measure => simp [intOf] <;> omega
              · as_aux_lemma =>
                obtain rfl : j = d.length := by omega
                rw [List.take_length] at ho hlo
                have hnt : t ∉ T.take k := fun hm => by have := HRise.out t hm; omega
                have hcm := cntT_more l (T.take k) t hnt
                have HCan2 := Lib.hid ((canon_more (t := t) HCan.out (fun e he => HRise.out _ (HIn.out e he).1) H3.out).of (sumT_more l (T.take k) t hnt))
                have ht64 : -9223372036854775808 ≤ t ∧ t ≤ 9223372036854775807 := by
                  have h1 : t ∈ T := by
                    have : t ∈ T.take (k + 1) := by rw [HTs.out]; simp
                    exact List.mem_of_mem_take this
                  obtain ⟨e0, h0, rfl⟩ := List.mem_map.1 ((HT.out.mem t).1 h1)
                  exact (HC.out.row e0 h0).2.t
                have HO9 := Lib.hid ho
                have HHt := Lib.hid ht64
                have HNt := Lib.hid (⟨hcm, h4⟩ : cntT l (T.take k ++ [t]) = cntT l (T.take k) + (atT l t).length ∧ d.length ≤ (atT l t).length)
                clear ho hf hto hlj hjl HOr hnt hcm ht64
                rw [List.take_length]
                generalize hoo : outs ++ d.map (toT t) = oo at *
                go_wp2_with fail
                go_roundw
                case rel => exact ⟨k + 1, oo, by go_num, by omega, HFr.out, HO9.out, HTr.out, by
                  rw [HTs.out]
                  have := HNt.out
                  omega, Lib.hid (by rw [HTs.out]; exact HCan2.out), Lib.hid (fun e he => by
                  rw [HTs.out]
                  rw [← hoo] at he
                  rcases List.mem_append.1 he with he | he
                  · exact ⟨by simp [(HIn.out e he).1], HInr.out e he, (HIn.out e he).2.2⟩
                  · obtain ⟨e0, h0, rfl⟩ := List.mem_map.1 he
                    have h1 := HDr.out.2 e0 h0
                    exact ⟨by simp [toT], h1.1, ⟨h1.2.len, HHt.out, h1.2.n⟩⟩), Lib.hid (fun t' ht' r => by
                  rw [HTs.out] at ht'
                  rcases List.mem_append.1 ht' with ht' | ht'
                  · exact HFits.out t' ht' r
                  · rw [List.mem_singleton.1 ht']; exact H1.out r)⟩
                case measure => simp [intOf] <;> omega
          · have H1 := Lib.hid h1
            clear h1
            go_wp2_with fail
            go_ret2
            exact ⟨HFw.out.trans f5, Or.inr ⟨by
              obtain ⟨r, hr⟩ := H1.out
              rw [atT_sum] at hr
              exact ⟨_, hr⟩, rfl⟩⟩
    · obtain rfl : k = T.length := by omega
      rw [List.take_length] at HCan HIn HFits hol
      have hfin : upd.ListIn w.heap.size wr (.slice va outs.length vc) outs := ⟨by
        rcases ho.2 with ⟨hv, h2⟩ | ⟨g, cap, cur, hv, hb, hg, hcl, hmx, hszc, htk⟩
        · simp only [Value.slice.injEq] at hv
          exact Or.inl ⟨va, vc, by rw [h2], fun _ => hv.2.2, List.length_eq_zero_iff.1 h2⟩
        · exact Or.inr ⟨g, cap, cur, hb, hv, hcl, hg, htk⟩, fun e he => (HIn.out e he).2⟩
      have HFin := Lib.hid hfin
      have HCanon := Lib.hid (HCan.out.of (sumT_all HT.out))
      have hle := cntT_le l T
      have HF := Lib.hid hf
      have HAll := Lib.hid (show ∀ q, fitB (1 * sumK (l.map upd.pr) q) = true from fun q => by
        by_cases hq : q.1 ∈ T
        · have := HFits.out q.1 hq q.2
          rwa [atT_sum] at this
        · rw [← sumT_all HT.out]
          unfold sumT
          rw [if_neg hq]; rfl)
      clear hfin ho hf hto hlt hk
      go_wp2_with fail
      go_ret2
      exact ⟨HF.out, Or.inl ⟨HAll.out, outs, va, vc, rfl, HFin.out, HCanon.out, by omega⟩⟩
end Go.Proofs.YtjchlfblbmiceaaGreat
namespace Go.Proofs.YtjchlfblbmiceaaGreat
open Go.RowKit srt grp

set_option maxRecDepth 100000
set_option maxHeartbeats 6400000 in
theorem rLater_any {w : World} {aa : Option Addr} {ac : Nat} {l : List upd.El} {t : Int} (h : upd.Cts w (.slice aa l.length ac) l) (hn : l.length ≤ 10000) (ht : -9223372036854775808 ≤ t ∧ t ≤ 9223372036854775807) :
    Calls Tryz.prog 79 #[.slice aa l.length ac, .int .i64 t] w (upd.TidyPost w (l.map (lt1 t)) 1) := by
  obtain ⟨i0, hi, hz0, hz1, hz2⟩ := info_parts upd.infoU
  have HC := Lib.hid h
  clear h
  go_enter Tryz.func79, Tryz.ntmps79
  go_wp2_with fail
  go_loopw [6, 12] (fun v x wr => ∃ k : Nat, x = .int .i64 (k : Int) ∧ k ≤ l.length ∧ Fr [] w wr ∧ wr.ownsRow w.heap.size 65 3 v k (upd.elsC ((l.take k).map (lt1 t)))) (fun _ x _ => l.length - (intOf x).toNat)
  case atStart => exact ⟨0, rfl, Nat.zero_le _, (Fr.refl [] w).alloc _, World.ownsRow_made w #[] 0 (Nat.le_refl _) (by decide) rfl⟩
  case round =>
    obtain ⟨k, rfl, hk, hf, ho⟩ := hrel
    obtain ⟨va, vc, rfl⟩ := ownsRow_shape ho
    have HO := Lib.hid ho
    have HF := Lib.hid hf
    have hsz := hf.size
    by_cases hlt : k < l.length
    · obtain ⟨b, off, e1, x0, x1, x2⟩ := (HC.out.fr hf).cell hlt
      subst e1
      have hts : l.take (k + 1) = l.take k ++ [upd.nth l k] := by rw [List.take_add_one, upd.nth_at hlt]; rfl
      have HTs := Lib.hid hts
      clear hf ho hts
      by_cases hc : (upd.nth l k).t < t
      · have HMx := Lib.hid (show max (upd.nth l k).t t = t by omega)
        go_upto_region 7 with fail
        have fa : Fr [] wr (wr.alloc (.cells #[.slice (upd.nth l k).ra (upd.nth l k).rl (upd.nth l k).rc, .int .i64 t, .int .i64 (upd.nth l k).n] 65)) := (Fr.refl [] wr).alloc _
        have hb1 := heap_alloc_new wr (.cells #[.slice (upd.nth l k).ra (upd.nth l k).rl (upd.nth l k).rc, .int .i64 t, .int .i64 (upd.nth l k).n] 65)
        have HOA := Lib.hid (ownsRow_fr HO.out fa (by simp))
        have HFA := Lib.hid (HF.out.trans fa)
        have hszA := (HF.out.trans fa).size
        clear fa HO HF x0 x1 x2
        generalize wr.heap.size = bx at *
        generalize wr.alloc (.cells #[.slice (upd.nth l k).ra (upd.nth l k).rl (upd.nth l k).rc, .int .i64 t, .int .i64 (upd.nth l k).n] 65) = wa at *
        have y0 := cell_blk hb1 0 (.slice (upd.nth l k).ra (upd.nth l k).rl (upd.nth l k).rc) rfl
        have y1 := cell_blk hb1 1 (.int .i64 t) rfl
        have y2 := cell_blk hb1 2 (.int .i64 (upd.nth l k).n) rfl
        clear hb1
        go_wp2_with (at_builtin; refine wpList_append_src _ rfl (.tmp 22) (.tmp 24) 27 rfl w.heap.size 65 i0 _ 3 40 Tryz.underlying27 hi hz0 hz1 hz2 rfl (by decide) (.slice va k vc) k _ rfl (HOA.out.alloc _) (.slice (some ⟨wa.heap.size, 0, none⟩) 1 1) 1 [.slice (upd.nth l k).ra (upd.nth l k).rl (upd.nth l k).rc, .int .i64 t, .int .i64 (upd.nth l k).n] rfl (Src.block (heap_alloc_new wa _) rfl (by intro u hu; simp at hu; rcases hu with rfl | rfl | rfl <;> rfl)) (by unfold maxLen; omega) (by omega) (by simp; omega) ?_; intro v' w3 hown1 hgrow1 _; have HOwn1 := Lib.hid hown1; have HG1 := Lib.hid hgrow1; clear hown1 hgrow1)
        go_roundw
        case rel => exact ⟨k + 1, by go_num, by omega, (HFA.out.alloc _).fresh HG1.out (fun r e => Or.inl (HOA.out.lt r e).1), by
          rw [HTs.out, List.map_append, upd.elsC_append]
          have h9 := HOwn1.out
          have h8 : (lt1 t (upd.nth l k)).t = t := HMx.out
          simpa [upd.elsC, upd.El.cells, lt1, show max (upd.nth l k).t t = t from h8] using h9⟩
        case measure => simp [intOf] <;> omega
      · have HMx := Lib.hid (show max (upd.nth l k).t t = (upd.nth l k).t by omega)
        go_upto_region 7 with fail
        have fa : Fr [] wr (wr.alloc (.cells #[.slice (upd.nth l k).ra (upd.nth l k).rl (upd.nth l k).rc, .int .i64 (upd.nth l k).t, .int .i64 (upd.nth l k).n] 65)) := (Fr.refl [] wr).alloc _
        have hb1 := heap_alloc_new wr (.cells #[.slice (upd.nth l k).ra (upd.nth l k).rl (upd.nth l k).rc, .int .i64 (upd.nth l k).t, .int .i64 (upd.nth l k).n] 65)
        have HOA := Lib.hid (ownsRow_fr HO.out fa (by simp))
        have HFA := Lib.hid (HF.out.trans fa)
        have hszA := (HF.out.trans fa).size
        clear fa HO HF x0 x1 x2
        generalize wr.heap.size = bx at *
        generalize wr.alloc (.cells #[.slice (upd.nth l k).ra (upd.nth l k).rl (upd.nth l k).rc, .int .i64 (upd.nth l k).t, .int .i64 (upd.nth l k).n] 65) = wa at *
        have y0 := cell_blk hb1 0 (.slice (upd.nth l k).ra (upd.nth l k).rl (upd.nth l k).rc) rfl
        have y1 := cell_blk hb1 1 (.int .i64 (upd.nth l k).t) rfl
        have y2 := cell_blk hb1 2 (.int .i64 (upd.nth l k).n) rfl
        clear hb1
        go_wp2_with (at_builtin; refine wpList_append_src _ rfl (.tmp 22) (.tmp 24) 27 rfl w.heap.size 65 i0 _ 3 40 Tryz.underlying27 hi hz0 hz1 hz2 rfl (by decide) (.slice va k vc) k _ rfl (HOA.out.alloc _) (.slice (some ⟨wa.heap.size, 0, none⟩) 1 1) 1 [.slice (upd.nth l k).ra (upd.nth l k).rl (upd.nth l k).rc, .int .i64 (upd.nth l k).t, .int .i64 (upd.nth l k).n] rfl (Src.block (heap_alloc_new wa _) rfl (by intro u hu; simp at hu; rcases hu with rfl | rfl | rfl <;> rfl)) (by unfold maxLen; omega) (by omega) (by simp; omega) ?_; intro v' w3 hown1 hgrow1 _; have HOwn1 := Lib.hid hown1; have HG1 := Lib.hid hgrow1; clear hown1 hgrow1)
        go_roundw
        case rel => exact ⟨k + 1, by go_num, by omega, (HFA.out.alloc _).fresh HG1.out (fun r e => Or.inl (HOA.out.lt r e).1), by
          rw [HTs.out, List.map_append, upd.elsC_append]
          have h9 := HOwn1.out
          have h8 : (lt1 t (upd.nth l k)).t = (upd.nth l k).t := HMx.out
          simpa [upd.elsC, upd.El.cells, lt1, show max (upd.nth l k).t t = (upd.nth l k).t from h8] using h9⟩
        case measure => simp [intOf] <;> omega
    · obtain rfl : k = l.length := by omega
      rw [List.take_length] at ho
      have hll : (l.map (lt1 t)).length = l.length := by simp
      have hcts : upd.Cts wr (.slice va l.length vc) (l.map (lt1 t)) := by
        have h9 := upd.own_cts (l := l.map (lt1 t)) (v := .slice va l.length vc) (w := wr) (base := w.heap.size) (by rw [hll]; exact ho) (fun e he => by
          obtain ⟨e0, h0, rfl⟩ := List.mem_map.1 he
          have h1 := HC.out.row e0 h0
          exact ⟨h1.1.fr hf, ⟨h1.2.len, by have := h1.2.t; simp only [lt1]; omega, h1.2.n⟩⟩)
        exact h9
      have hse := rSettle_any (aa := va) (ac := vc) (l := l.map (lt1 t)) (w := wr) (by rw [hll]; exact hcts) (by rw [hll]; exact hn)
      rw [hll] at hse
      have HSe := Lib.hid hse
      clear ho hf hcts hse hlt hk
      go_wp2_with (go_at_call 14; refine HSe.out.mono ?_; rintro e w2 ⟨f2, ⟨h1, outs, a, c, rfl, h2, h3, h4⟩ | ⟨h1, rfl⟩⟩)
      · go_ret2
        exact ⟨HF.out.trans f2, Or.inl ⟨h1, outs, a, c, rfl, h2.base hsz, h3, h4⟩⟩
      · go_ret2
        exact ⟨HF.out.trans f2, Or.inr ⟨h1, rfl⟩⟩
end Go.Proofs.YtjchlfblbmiceaaGreat
