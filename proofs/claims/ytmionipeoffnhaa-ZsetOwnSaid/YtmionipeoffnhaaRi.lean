/- freshetref03.Insert, rows: the rows, rising, each once; freshetref02.Copy. No condition but the sizes. -/
import Derived.Test.YtmionipeoffnhaaZb
import Derived.Deep.CutRange
import Derived.Deep.DeepCutAuto
namespace Go.Proofs.Ytmionipeoffnhaa
open Go.RowKit srt grp

/-! ### plain -/
def insStep (x : El) (s : List El × Bool) (r : El) : List El × Bool :=
  if s.2 = false ∧ cmpR x.rd r.rd ≤ 0 then (s.1 ++ (if cmpR x.rd r.rd < 0 then [x] else []) ++ [r], true) else (s.1 ++ [r], s.2)
def ins (x : El) : List El → List El
  | [] => [x]
  | r :: l => if cmpR x.rd r.rd < 0 then x :: r :: l else if cmpR x.rd r.rd = 0 then r :: l else r :: ins x l
theorem fold_true (x : El) : ∀ (l nx : List El), l.foldl (insStep x) (nx, true) = (nx ++ l, true)
  | [], nx => by simp
  | r :: l, nx => by
    rw [List.foldl_cons, show insStep x (nx, true) r = (nx ++ [r], true) from if_neg (by simp), fold_true x l]
    simp
theorem fold_ins (x : El) : ∀ (l nx : List El), (if (l.foldl (insStep x) (nx, false)).2 = true then (l.foldl (insStep x) (nx, false)).1 else (l.foldl (insStep x) (nx, false)).1 ++ [x]) = nx ++ ins x l
  | [], nx => by simp [ins]
  | r :: l, nx => by
    rw [List.foldl_cons]
    by_cases h1 : cmpR x.rd r.rd < 0
    · rw [show insStep x (nx, false) r = (nx ++ [x] ++ [r], true) by unfold insStep; rw [if_pos ⟨rfl, by omega⟩, if_pos h1], fold_true]
      simp [ins, h1]
    · by_cases h2 : cmpR x.rd r.rd = 0
      · rw [show insStep x (nx, false) r = (nx ++ [r], true) by unfold insStep; rw [if_pos ⟨rfl, by omega⟩, if_neg h1, List.append_nil], fold_true]
        simp [ins, h2]
      · rw [show insStep x (nx, false) r = (nx ++ [r], false) by unfold insStep; rw [if_neg (fun h => by have := h.2; omega)], fold_ins x l]
        simp [ins, h1, h2]
theorem ins_sub (x : El) : ∀ (l : List El), ∀ e ∈ ins x l, e = x ∨ e ∈ l
  | [], e, h => by simpa [ins] using h
  | r :: l, e, h => by
    unfold ins at h
    split at h
    · simpa using h
    · split at h
      · exact Or.inr h
      · rcases List.mem_cons.1 h with rfl | h
        · exact Or.inr (by simp)
        · rcases ins_sub x l e h with h | h
          · exact Or.inl h
          · exact Or.inr (by simp [h])
theorem ins_mem (x : El) (r : List Dt) : ∀ (l : List El), r ∈ (ins x l).map (·.rd) ↔ r = x.rd ∨ r ∈ l.map (·.rd)
  | [] => by simp [ins]
  | e :: l => by
    unfold ins
    split
    · simp
    · split
      · rename_i h
        have := cmpR_eq h
        simp only [List.map_cons, List.mem_cons]
        rw [this]
        constructor
        · intro h; exact Or.inr h
        · rintro (h | h | h)
          · exact Or.inl h
          · exact Or.inl h
          · exact Or.inr h
      · rw [List.map_cons, List.mem_cons, ins_mem x r l, List.map_cons, List.mem_cons]
        constructor
        · rintro (h | h | h)
          · exact Or.inr (Or.inl h)
          · exact Or.inl h
          · exact Or.inr (Or.inr h)
        · rintro (h | h | h)
          · exact Or.inr (Or.inl h)
          · exact Or.inl h
          · exact Or.inr (Or.inr h)
theorem ins_rise (x : El) : ∀ (l : List El), l.Pairwise (fun a b => cmpR a.rd b.rd < 0) → (ins x l).Pairwise (fun a b => cmpR a.rd b.rd < 0)
  | [], _ => by simp [ins]
  | r :: l, h => by
    obtain ⟨h1, h2⟩ := List.pairwise_cons.1 h
    unfold ins
    split
    · rename_i hlt
      refine List.pairwise_cons.2 ⟨fun b hb => ?_, h⟩
      rcases List.mem_cons.1 hb with rfl | hb
      · exact hlt
      · exact cmpRS.lt_trans hlt (h1 b hb)
    · split
      · exact h
      · rename_i n1 n2
        refine List.pairwise_cons.2 ⟨fun b hb => ?_, ins_rise x l h2⟩
        rcases ins_sub x l b hb with rfl | hb
        · have := cmpRS.swap b.rd r.rd
          omega
        · exact h1 b hb
theorem ins_len (x : El) : ∀ (l : List El), (ins x l).length ≤ l.length + 1
  | [] => by simp [ins]
  | r :: l => by
    unfold ins
    split
    · simp
    · split
      · simp
      · have := ins_len x l; simp; omega
theorem insStep_len (x : El) (s : List El × Bool) (r : El) : (insStep x s r).1.length ≤ s.1.length + 2 := by
  unfold insStep
  split
  · split <;> simp
  · simp

/-! ### rows in a list -/
def rowsC (l : List El) : List Value := l.map fun e => .slice e.ra e.rl e.rc
theorem rowsC_len (l : List El) : (rowsC l).length = l.length := by simp [rowsC]
theorem rowsC_one (l : List El) : ∀ u ∈ rowsC l, u.oneCell' = true := by
  intro u hu
  obtain ⟨d, -, rfl⟩ := List.mem_map.1 hu
  rfl
theorem rowsC_append (a b : List El) : rowsC (a ++ b) = rowsC a ++ rowsC b := by simp [rowsC]
theorem rowsC_at {l : List El} {k : Nat} (h : k < l.length) : (rowsC l)[k]? = some (.slice (nth l k).ra (nth l k).rl (nth l k).rc) := by
  unfold rowsC; rw [List.getElem?_map, nth_at h]; rfl
theorem infoR : (Try.prog.info? 29).map (fun i => (i.zero, i.size, i.bytes)) = some (some (.slice none 0 0), 1, 24) := by kernel_rfl

/-- A row of one type is in no block of another's. -/
theorem own_far {w w' : World} {b1 b2 n m e1 e2 s1 s2 : Nat} {v x : Value} {xs ys : List Value} (hne : e1 ≠ e2) (h : w.ownsRow b1 e1 s1 v n xs) (ho : w.ownsRow b2 e2 s2 x m ys) (hg : w.grownBy w' x.ownBlock) : w'.ownsRow b1 e1 s1 v n xs := by
  obtain ⟨h1, h2⟩ := h
  refine ⟨h1, ?_⟩
  rcases h2 with h2 | ⟨g, cap, cur, hv, hb, hh, r⟩
  · exact Or.inl h2
  · have hlt : g < w.heap.size := (Array.getElem?_eq_some_iff.1 hh).1
    refine Or.inr ⟨g, cap, cur, hv, hb, ?_, r⟩
    rw [hg.block g hlt (fun e => ?_)]
    · exact hh
    · rcases ho.2 with ⟨rfl, -⟩ | ⟨g2, c2, cur2, rfl, -, h2, -⟩
      · simp [Value.ownBlock] at e
      · simp only [Value.ownBlock, Option.some.injEq] at e
        subst e
        rw [h2] at hh
        simp only [Option.some.injEq, Obj.cells.injEq] at hh
        exact hne hh.2.1.symm
/-- A list of rows that can be read. -/
structure Rws (w : World) (v : Value) (l : List El) : Prop where
  src : Src w 1 v l.length (rowsC l)
  row : ∀ e ∈ l, RowAt w e.rv e.rd ∧ e.rd.length ≤ 4398046511103
theorem Rws.fr {w w' : World} {v : Value} {l : List El} (h : Rws w v l) (f : Fr [] w w') : Rws w' v l := ⟨h.src.fr f, fun e he => ⟨(h.row e he).1.fr f, (h.row e he).2⟩⟩
theorem Rws.cell {w : World} {a : Option Addr} {n c : Nat} {l : List El} (h : Rws w (.slice a n c) l) {k : Nat} (hk : k < l.length) :
    ∃ b off, a = some ⟨b, off, none⟩ ∧ w.cell? ⟨b, off + k, none⟩ = some (.slice (nth l k).ra (nth l k).rl (nth l k).rc) := by
  rcases h.src.2.2 with ⟨-, h2⟩ | ⟨ad, c, hv, hc⟩
  · omega
  · simp only [Value.slice.injEq] at hv
    have c0 := hc _ _ (rowsC_at hk)
    have hp := addr_plain (a := ad) (hc 0 _ (rowsC_at (show 0 < l.length by omega)))
    exact ⟨ad.block, ad.off, by rw [hv.1]; exact congrArg some hp, cell_add c0⟩
theorem own_rws {w : World} {base : Nat} {v : Value} {l : List El} (h : w.ownsRow base 29 1 v l.length (rowsC l)) (hr : ∀ e ∈ l, RowAt w e.rv e.rd ∧ e.rd.length ≤ 4398046511103) : Rws w v l := ⟨Src.row h (rowsC_one l), hr⟩

def RInsR (w : World) (x : El) (l : List El) (a b i : Value) (wr : World) : Prop :=
  ∃ (k : Nat) (nx : List El) (dn : Bool), i = .int .i64 (k : Int) ∧ b = .bool dn ∧ k ≤ l.length ∧ Hid ((l.take k).foldl (insStep x) ([], false) = (nx, dn)) ∧ nx.length ≤ 2 * k ∧ wr.ownsRow w.heap.size 29 1 a nx.length (rowsC nx) ∧ Fr [] w wr

set_option maxRecDepth 100000
set_option maxHeartbeats 3200000 in
theorem insert_any {w : World} {aa : Option Addr} {ac : Nat} {l : List El} {x : El} (h : Rws w (.slice aa l.length ac) l) (hn : l.length ≤ 100000) (hx : RowAt w x.rv x.rd) (hxl : x.rd.length ≤ 4398046511103) :
    Calls Try.prog 115 #[.slice aa l.length ac, .slice x.ra x.rl x.rc] w fun e w' => ∃ a c, e = .returned (.slice a (ins x l).length c) ∧ Fr [] w w' ∧ w'.ownsRow w.heap.size 29 1 (.slice a (ins x l).length c) (ins x l).length (rowsC (ins x l)) := by
  obtain ⟨i0, hi, hz0, hz1, hz2⟩ := info_parts infoR
  have HC := Lib.hid h
  have HX := Lib.hid hx
  clear h hx
  go_enter Try.func115, Try.ntmps115
  go_wp2_with fail
  go_loopw [5, 6, 13] (fun a b i wr => RInsR w x l a b i wr) (fun _ _ i _ => l.length - (intOf i).toNat)
  case atStart => exact ⟨0, [], false, rfl, rfl, Nat.zero_le _, Lib.hid rfl, by simp, World.ownsRow_made w #[] 0 (Nat.le_refl _) (by decide) rfl, (Fr.refl [] w).alloc _⟩
  case round =>
    obtain ⟨k, nx, dn, rfl, rfl, hk, HF, hnl, ho, hf⟩ := hrel
    have HO := Lib.hid ho
    have HFr := Lib.hid hf
    obtain ⟨va, vc, rfl⟩ := ownsRow_shape ho
    have hsz := hf.size
    by_cases hlt : k < l.length
    · obtain ⟨b, off, e1, z0⟩ := (HC.out.fr hf).cell hlt
      subst e1
      have r1 := (HC.out.fr hf).row _ (nth_mem hlt)
      have hcm := rrow_cmp (HX.out.fr hf) r1.1 (by omega)
      have hst : (l.take (k + 1)).foldl (insStep x) ([], false) = insStep x (nx, dn) (nth l k) := by
        rw [List.take_add_one, nth_at hlt, List.foldl_append, HF.out]; rfl
      have HSt := Lib.hid hst
      have HCm := Lib.hid hcm
      clear hst hcm ho hf r1
      generalize hr : nth l k = r at *
      have hst2 : ∀ nx1, insStep x (nx, dn) r = (nx1 ++ [r], if dn = false ∧ cmpR x.rd r.rd ≤ 0 then true else dn) ↔ nx1 = nx ++ (if dn = false ∧ cmpR x.rd r.rd < 0 then [x] else []) := fun nx1 => by
        unfold insStep
        by_cases h1 : dn = false ∧ cmpR x.rd r.rd ≤ 0
        · rw [if_pos h1, if_pos h1]
          by_cases h2 : cmpR x.rd r.rd < 0
          · rw [if_pos h2, if_pos ⟨h1.1, h2⟩]
            simp only [Prod.mk.injEq, and_true]
            constructor
            · intro h; exact (List.append_cancel_right h).symm
            · rintro rfl; rfl
          · rw [if_neg h2, if_neg (fun h => h2 h.2)]
            simp only [Prod.mk.injEq, and_true]
            constructor
            · intro h; exact (List.append_cancel_right h).symm
            · rintro rfl; rfl
        · rw [if_neg h1, if_neg h1, if_neg (fun h => h1 ⟨h.1, by omega⟩)]
          simp only [Prod.mk.injEq, and_true, List.append_nil]
          constructor
          · intro h; exact (List.append_cancel_right h).symm
          · rintro rfl; rfl
      have HS2 := Lib.hid hst2
      clear hst2
      generalize cmpR x.rd r.rd = cv at *
      cases dn with
      | true =>
        have HS3 := Lib.hid (show (l.take (k + 1)).foldl (insStep x) ([], false) = (nx ++ [r], true) by rw [HSt.out, (HS2.out nx).2 (by simp)]; simp)
        clear HS2 HSt
        go_wp2_with (first
          | (go_at_call 21; refine HCm.out.mono ?_; rintro e w4 ⟨rfl, f4⟩; have HO4 := Lib.hid (ownsRow_fr HO.out f4 (by simp)); have F4 := Lib.hid (HFr.out.trans f4); have hsz4 := (HFr.out.trans f4).size; clear f4)
          | (at_builtin; refine wpList_append_src _ rfl (.tmp 32) (.tmp 34) 113 rfl w.heap.size 29 i0 _ 1 24 Try.underlying113 hi hz0 hz1 hz2 rfl (by decide) (.slice va nx.length vc) (nx.length) _ rfl (ownsRow_fr HO4.out ((Fr.refl [] w4).alloc _) (by simp)) (.slice (some ⟨w4.heap.size, 0, none⟩) 1 1) 1 [.slice r.ra r.rl r.rc] rfl (Src.block (heap_alloc_new w4 _) rfl (by intro u hu; simp at hu; rcases hu with rfl; rfl)) (by unfold maxLen; omega) (by omega) (by simp; omega) ?_; intro v6 w6 hown6 hgrow6 _; have HOwn6 := Lib.hid hown6; have HG6 := Lib.hid hgrow6; clear hown6 hgrow6))
        go_roundw
        case rel => exact ⟨k + 1, nx ++ [r], true, by go_num, rfl, by omega, Lib.hid HS3.out, by simp; omega, by
          rw [rowsC_append, List.length_append]
          exact HOwn6.out, (F4.out.alloc _).fresh HG6.out (fun q e => Or.inl (HO4.out.lt q e).1)⟩
        case measure => simp [intOf] <;> omega
      | false =>
        by_cases h1 : cv < 0
        · have h2 : cv ≤ 0 := by omega
          have HS3 := Lib.hid (show (l.take (k + 1)).foldl (insStep x) ([], false) = (nx ++ [x] ++ [r], true) by rw [HSt.out, (HS2.out (nx ++ [x])).2 (by simp [h1])]; simp [h2])
          clear HS2 HSt
          go_wp2_with (first
            | (go_at_call 21; refine HCm.out.mono ?_; rintro e w4 ⟨rfl, f4⟩; have HO4 := Lib.hid (ownsRow_fr HO.out f4 (by simp)); have F4 := Lib.hid (HFr.out.trans f4); have hsz4 := (HFr.out.trans f4).size; clear f4)
            | (at_builtin; refine wpList_append_src _ rfl (.tmp 28) (.tmp 30) 113 rfl w.heap.size 29 i0 _ 1 24 Try.underlying113 hi hz0 hz1 hz2 rfl (by decide) (.slice va nx.length vc) (nx.length) _ rfl (ownsRow_fr HO4.out ((Fr.refl [] w4).alloc _) (by simp)) (.slice (some ⟨w4.heap.size, 0, none⟩) 1 1) 1 [.slice x.ra x.rl x.rc] rfl (Src.block (heap_alloc_new w4 _) rfl (by intro u hu; simp at hu; rcases hu with rfl; rfl)) (by unfold maxLen; omega) (by omega) (by simp; omega) ?_; intro v5 w5 hown5 hgrow5 _; obtain ⟨v5a, v5c, rfl⟩ := ownsRow_shape hown5; have hsz5 := ((F4.out.alloc _).fresh hgrow5 (fun q e => Or.inl (HO4.out.lt q e).1)).size; have F5 := Lib.hid ((F4.out.alloc _).fresh hgrow5 (fun q e => Or.inl (HO4.out.lt q e).1)); have HO5 := Lib.hid hown5; clear hown5 hgrow5)
            | (at_builtin; refine wpList_append_src _ rfl (.tmp 32) (.tmp 34) 113 rfl w.heap.size 29 i0 _ 1 24 Try.underlying113 hi hz0 hz1 hz2 rfl (by decide) (.slice v5a (nx.length + 1) v5c) (nx.length + 1) _ rfl (ownsRow_fr HO5.out ((Fr.refl [] w5).alloc _) (by simp)) (.slice (some ⟨w5.heap.size, 0, none⟩) 1 1) 1 [.slice r.ra r.rl r.rc] rfl (Src.block (heap_alloc_new w5 _) rfl (by intro u hu; simp at hu; rcases hu with rfl; rfl)) (by unfold maxLen; omega) (by omega) (by simp; omega) ?_; intro v6 w6 hown6 hgrow6 _; have HOwn6 := Lib.hid hown6; have HG6 := Lib.hid hgrow6; clear hown6 hgrow6))
          go_roundw
          case rel => exact ⟨k + 1, nx ++ [x] ++ [r], true, by go_num, rfl, by omega, Lib.hid HS3.out, by simp; omega, by
            have h9 := HOwn6.out
            rw [rowsC_append, rowsC_append, List.length_append, List.length_append]
            exact h9, (F5.out.alloc _).fresh HG6.out (fun q e => Or.inl (HO5.out.lt q e).1)⟩
          case measure => simp [intOf] <;> omega
        · by_cases h2 : cv ≤ 0
          · have HS3 := Lib.hid (show (l.take (k + 1)).foldl (insStep x) ([], false) = (nx ++ [r], true) by rw [HSt.out, (HS2.out nx).2 (by simp [h1])]; simp [h2])
            clear HS2 HSt
            go_wp2_with (first
              | (go_at_call 21; refine HCm.out.mono ?_; rintro e w4 ⟨rfl, f4⟩; have HO4 := Lib.hid (ownsRow_fr HO.out f4 (by simp)); have F4 := Lib.hid (HFr.out.trans f4); have hsz4 := (HFr.out.trans f4).size; clear f4)
              | (at_builtin; refine wpList_append_src _ rfl (.tmp 32) (.tmp 34) 113 rfl w.heap.size 29 i0 _ 1 24 Try.underlying113 hi hz0 hz1 hz2 rfl (by decide) (.slice va nx.length vc) (nx.length) _ rfl (ownsRow_fr HO4.out ((Fr.refl [] w4).alloc _) (by simp)) (.slice (some ⟨w4.heap.size, 0, none⟩) 1 1) 1 [.slice r.ra r.rl r.rc] rfl (Src.block (heap_alloc_new w4 _) rfl (by intro u hu; simp at hu; rcases hu with rfl; rfl)) (by unfold maxLen; omega) (by omega) (by simp; omega) ?_; intro v6 w6 hown6 hgrow6 _; have HOwn6 := Lib.hid hown6; have HG6 := Lib.hid hgrow6; clear hown6 hgrow6))
            go_roundw
            case rel => exact ⟨k + 1, nx ++ [r], true, by go_num, rfl, by omega, Lib.hid HS3.out, by simp; omega, by
              rw [rowsC_append, List.length_append]
              exact HOwn6.out, (F4.out.alloc _).fresh HG6.out (fun q e => Or.inl (HO4.out.lt q e).1)⟩
            case measure => simp [intOf] <;> omega
          · have HS3 := Lib.hid (show (l.take (k + 1)).foldl (insStep x) ([], false) = (nx ++ [r], false) by rw [HSt.out, (HS2.out nx).2 (by simp [h1])]; simp [h2])
            clear HS2 HSt
            go_wp2_with (first
              | (go_at_call 21; refine HCm.out.mono ?_; rintro e w4 ⟨rfl, f4⟩; have HO4 := Lib.hid (ownsRow_fr HO.out f4 (by simp)); have F4 := Lib.hid (HFr.out.trans f4); have hsz4 := (HFr.out.trans f4).size; clear f4)
              | (at_builtin; refine wpList_append_src _ rfl (.tmp 32) (.tmp 34) 113 rfl w.heap.size 29 i0 _ 1 24 Try.underlying113 hi hz0 hz1 hz2 rfl (by decide) (.slice va nx.length vc) (nx.length) _ rfl (ownsRow_fr HO4.out ((Fr.refl [] w4).alloc _) (by simp)) (.slice (some ⟨w4.heap.size, 0, none⟩) 1 1) 1 [.slice r.ra r.rl r.rc] rfl (Src.block (heap_alloc_new w4 _) rfl (by intro u hu; simp at hu; rcases hu with rfl; rfl)) (by unfold maxLen; omega) (by omega) (by simp; omega) ?_; intro v6 w6 hown6 hgrow6 _; have HOwn6 := Lib.hid hown6; have HG6 := Lib.hid hgrow6; clear hown6 hgrow6))
            go_roundw
            case rel => exact ⟨k + 1, nx ++ [r], false, by go_num, rfl, by omega, Lib.hid HS3.out, by simp; omega, by
              rw [rowsC_append, List.length_append]
              exact HOwn6.out, (F4.out.alloc _).fresh HG6.out (fun q e => Or.inl (HO4.out.lt q e).1)⟩
            case measure => simp [intOf] <;> omega
    · obtain rfl : k = l.length := by omega
      have hfo := HF.out
      rw [List.take_length] at hfo
      have hfi := fold_ins x l []
      rw [hfo, List.nil_append] at hfi
      cases dn with
      | true =>
        have HE := Lib.hid (show ins x l = nx from hfi.symm)
        clear hfi hfo ho hf hk hlt
        go_wp2_with fail
        go_ret
        rw [HE.out]
        exact ⟨va, vc, rfl, HFr.out, HO.out⟩
      | false =>
        have HE := Lib.hid (show ins x l = nx ++ [x] from hfi.symm)
        clear hfi hfo ho hf hk hlt
        go_wp2_with (at_builtin; refine wpList_append_src _ rfl (.tmp 39) (.tmp 41) 113 rfl w.heap.size 29 i0 _ 1 24 Try.underlying113 hi hz0 hz1 hz2 rfl (by decide) (.slice va nx.length vc) nx.length _ rfl (ownsRow_fr HO.out ((Fr.refl [] wr).alloc _) (by simp)) (.slice (some ⟨wr.heap.size, 0, none⟩) 1 1) 1 [.slice x.ra x.rl x.rc] rfl (Src.block (heap_alloc_new wr _) rfl (by intro u hu; simp at hu; rcases hu with rfl; rfl)) (by unfold maxLen; omega) (by omega) (by simp; omega) ?_; intro v6 w6 hown6 hgrow6 _; obtain ⟨v6a, v6c, rfl⟩ := ownsRow_shape hown6; have HOwn6 := Lib.hid hown6; have HG6 := Lib.hid hgrow6; clear hown6 hgrow6)
        go_ret
        rw [HE.out, List.length_append]
        exact ⟨v6a, v6c, rfl, (HFr.out.alloc _).fresh HG6.out (fun q e => Or.inl (HO.out.lt q e).1), by rw [rowsC_append]; exact HOwn6.out⟩

/-- The rows of a list, rising, each once. -/
structure RowsOf (w : World) (l : List El) (R : List El) : Prop where
  up : R.Pairwise fun a b => cmpR a.rd b.rd < 0
  mem : ∀ r, r ∈ R.map (·.rd) ↔ r ∈ l.map (·.rd)
  len : R.length ≤ l.length
  row : ∀ e ∈ R, RowAt w e.rv e.rd ∧ e.rd.length ≤ 4398046511103
  sub : ∀ e ∈ R, e ∈ l
theorem RowsOf.snoc {w : World} {l R : List El} {e : El} (h : RowsOf w l R) (he : RowAt w e.rv e.rd ∧ e.rd.length ≤ 4398046511103) : RowsOf w (l ++ [e]) (ins e R) := by
  refine ⟨ins_rise e R h.up, fun r => ?_, by have := ins_len e R; have := h.len; simp; omega, fun x hx => ?_, fun x hx => ?_⟩
  · rw [ins_mem, h.mem]
    simp only [List.map_append, List.map_cons, List.map_nil, List.mem_append, List.mem_singleton]
    exact Or.comm
  · rcases ins_sub e R x hx with rfl | hx
    · exact he
    · exact h.row x hx
  · rcases ins_sub e R x hx with rfl | hx
    · simp
    · simp [h.sub x hx]

set_option maxHeartbeats 3200000 in
theorem rows_any {w : World} {aa : Option Addr} {ac : Nat} {l : List El} (h : Cts w (.slice aa l.length ac) l) (hn : l.length ≤ 10000) :
    Calls Try.prog 91 #[.slice aa l.length ac] w fun e w' => ∃ (R : List El) (a : Option Addr) (c : Nat), e = .returned (.slice a R.length c) ∧ Fr [] w w' ∧ w'.ownsRow w.heap.size 29 1 (.slice a R.length c) R.length (rowsC R) ∧ RowsOf w l R := by
  have HC := Lib.hid h
  clear h
  go_enter Try.func91, Try.ntmps91
  go_wp2_with fail
  go_loopw [3, 9] (fun v x wr => ∃ (k : Nat) (R : List El), x = .int .i64 (k : Int) ∧ k ≤ l.length ∧ Fr [] w wr ∧ wr.ownsRow w.heap.size 29 1 v R.length (rowsC R) ∧ RowsOf w (l.take k) R) (fun _ x _ => l.length - (intOf x).toNat)
  case atStart => exact ⟨0, [], rfl, Nat.zero_le _, (Fr.refl [] w).alloc _, World.ownsRow_made w #[] 0 (Nat.le_refl _) (by decide) rfl, ⟨by simp, by simp, by simp, by simp, by simp⟩⟩
  case round =>
    obtain ⟨k, R, rfl, hk, hf, ho, hR⟩ := hrel
    obtain ⟨va, vc, rfl⟩ := ownsRow_shape ho
    have HR := Lib.hid hR
    have hrl := hR.len
    rw [List.length_take] at hrl
    by_cases hlt : k < l.length
    · obtain ⟨b, off, e1, z0, z1⟩ := (HC.out.fr hf).cell hlt
      subst e1
      have r1 := (HC.out.fr hf).row _ (nth_mem hlt)
      have fa : Fr [] wr (wr.alloc (.cells #[.slice (nth l k).ra (nth l k).rl (nth l k).rc, .int .i64 (nth l k).n] 31)) := (Fr.refl [] wr).alloc _
      have hins := insert_any (own_rws (ownsRow_fr ho fa (by simp)) fun e he => ⟨((hR.row e he).1.fr hf).fr fa, (hR.row e he).2⟩) (by omega) (r1.1.fr fa) r1.2.len
      have HIns := Lib.hid hins
      have F1 := Lib.hid (hf.trans fa)
      have hsz := (hf.trans fa).size
      have hts : l.take (k + 1) = l.take k ++ [nth l k] := by rw [List.take_add_one, nth_at hlt]; rfl
      have HTs := Lib.hid hts
      have HRow := Lib.hid (HC.out.row _ (nth_mem hlt))
      clear ho hf r1 hins fa hts hR
      go_upto_region 5 with fail
      have y0 : (wr.alloc (.cells #[.slice (nth l k).ra (nth l k).rl (nth l k).rc, .int .i64 (nth l k).n] 31)).cell? ⟨wr.heap.size, 0, none⟩ = some (.slice (nth l k).ra (nth l k).rl (nth l k).rc) := cell_blk (heap_alloc_new wr _) 0 _ rfl
      generalize wr.heap.size = bx at *
      generalize wr.alloc (.cells #[.slice (nth l k).ra (nth l k).rl (nth l k).rc, .int .i64 (nth l k).n] 31) = wa at *
      go_wp2_with (go_at_call 115; refine HIns.out.mono ?_; rintro e w4 ⟨ia, ic, rfl, f4, o4⟩; have F4 := Lib.hid (F1.out.trans f4); have O4 := Lib.hid (ownsRow_base o4 hsz); clear f4 o4)
      go_roundw
      case rel => exact ⟨k + 1, ins (nth l k) R, by go_num, by omega, F4.out, O4.out, by rw [HTs.out]; exact HR.out.snoc ⟨HRow.out.1, HRow.out.2.len⟩⟩
      case measure => simp [intOf] <;> omega
    · obtain rfl : k = l.length := by omega
      rw [List.take_length] at HR
      have HO := Lib.hid ho
      have HF := Lib.hid hf
      clear ho hf hR hk hlt hrl
      go_wp2_with fail
      go_ret
      exact ⟨R, va, vc, rfl, HF.out, HO.out, HR.out⟩
end Go.Proofs.Ytmionipeoffnhaa
