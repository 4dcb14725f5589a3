/- ZsetSettles: the reference's times, Settle, At, Later; the walk. No condition but the sizes. -/
import Derived.Test.YtmionipeoffnhaaRt
import Derived.Test.YtmionipeoffnhaaUl
import Derived.Test.YtmionipeoffnhaaCu
namespace Go.Proofs.Ytmionipeoffnhaa
open Go.RowKit srt grp big

set_option maxRecDepth 100000
set_option maxHeartbeats 3200000 in
theorem rAt_any {w : World} {aa : Option Addr} {ac : Nat} {l : List upd.El} {t : Int} (h : upd.Cts w (.slice aa l.length ac) l) (hn : l.length ≤ 1000) :
    Calls Try.prog 28 #[.slice aa l.length ac, .int .i64 t] w (ResPost w (atL l t) 1) := by
  obtain ⟨i0, hi, hz0, hz1, hz2⟩ := info_parts infoC
  have H := Lib.hid h
  clear h
  go_enter Try.func28, Try.ntmps28
  go_wp2_with fail
  go_loopw [6, 12] (fun v x wr => ∃ k : Nat, x = .int .i64 k ∧ k ≤ l.length ∧ wr.ownsRow w.heap.size 31 2 v (atL (l.take k) t).length (elsC (atL (l.take k) t)) ∧ Fr [] w wr) (fun _ x _ => l.length - (intOf x).toNat)
  case atStart => exact ⟨0, rfl, Nat.zero_le _, World.ownsRow_made w #[] 0 (Nat.le_refl _) (by decide) rfl, (Fr.refl [] w).alloc _⟩
  case round =>
    obtain ⟨k, rfl, hk, ho, hf⟩ := hrel
    have HO := Lib.hid ho
    have HF := Lib.hid hf
    obtain ⟨va, vc, rfl⟩ := ownsRow_shape ho
    by_cases hlt : k < l.length
    · obtain ⟨b, off, e1, x0, x1, x2⟩ := (H.out.fr hf).cell hlt
      subst e1
      have hts : l.take (k + 1) = l.take k ++ [upd.nth l k] := by rw [List.take_add_one, upd.nth_at hlt]; rfl
      have hsn := atL_snoc (l.take k) (upd.nth l k) t
      rw [← hts] at hsn
      have HSn := Lib.hid hsn
      have hle := atL_len (l.take k) t
      have hlk : (l.take k).length = k := by rw [List.length_take]; omega
      have hal : (atL (l.take k) t).length ≤ 1000 := by omega
      clear hf ho hts hsn hle hlk
      generalize atL (l.take k) t = al at *
      go_upto_region 5 with fail
      have fa : Fr [] wr (wr.alloc (.cells #[.slice (upd.nth l k).ra (upd.nth l k).rl (upd.nth l k).rc, .int .i64 (upd.nth l k).t, .int .i64 (upd.nth l k).n] 41)) := (Fr.refl [] wr).alloc _
      have hb1 := heap_alloc_new wr (.cells #[.slice (upd.nth l k).ra (upd.nth l k).rl (upd.nth l k).rc, .int .i64 (upd.nth l k).t, .int .i64 (upd.nth l k).n] 41)
      have HOA := Lib.hid (ownsRow_fr HO.out fa (by simp))
      have HFA := Lib.hid (HF.out.trans fa)
      have hsz := (HF.out.trans fa).size
      clear fa HO HF x0 x1 x2
      generalize wr.heap.size = bx at *
      generalize wr.alloc (.cells #[.slice (upd.nth l k).ra (upd.nth l k).rl (upd.nth l k).rc, .int .i64 (upd.nth l k).t, .int .i64 (upd.nth l k).n] 41) = wa at *
      have y0 := cell_blk hb1 0 (.slice (upd.nth l k).ra (upd.nth l k).rl (upd.nth l k).rc) rfl
      have y1 := cell_blk hb1 1 (.int .i64 (upd.nth l k).t) rfl
      have y2 := cell_blk hb1 2 (.int .i64 (upd.nth l k).n) rfl
      clear hb1
      by_cases htt : (upd.nth l k).t ≤ t
      · have hsrc : Src (wa.alloc (.cells #[.slice (upd.nth l k).ra (upd.nth l k).rl (upd.nth l k).rc, .int .i64 (upd.nth l k).n] 31)) 2 (.slice (some ⟨wa.heap.size, 0, none⟩) 1 1) 1 [.slice (upd.nth l k).ra (upd.nth l k).rl (upd.nth l k).rc, .int .i64 (upd.nth l k).n] := Src.block (heap_alloc_new wa _) rfl (by intro u hu; simp at hu; rcases hu with rfl | rfl <;> rfl)
        have HSrc := Lib.hid hsrc
        have HT := Lib.hid htt
        clear hsrc
        go_wp2_with (at_builtin; refine wpList_append_src _ rfl (.tmp 20) (.tmp 26) 22 rfl w.heap.size 31 i0 _ 2 32 Try.underlying22 hi hz0 hz1 hz2 rfl (by decide) (.slice va al.length vc) al.length _ rfl (HOA.out.alloc _) (.slice (some ⟨wa.heap.size, 0, none⟩) 1 1) 1 [.slice (upd.nth l k).ra (upd.nth l k).rl (upd.nth l k).rc, .int .i64 (upd.nth l k).n] rfl HSrc.out (by unfold maxLen; omega) (by omega) (by simp; omega) ?_; intro v' w1 hown1 hgrow1 _)
        have HOwn1 := Lib.hid hown1
        have HG1 := Lib.hid hgrow1
        clear hown1 hgrow1
        go_roundw
        case rel => exact ⟨k + 1, by go_num, by omega, by
          rw [HSn.out, if_pos HT.out, elsC_append, List.length_append]
          simpa [elsC, El.cells, toC] using HOwn1.out, (HFA.out.alloc _).fresh HG1.out (fun r e => Or.inl (HOA.out.lt r e).1)⟩
        case measure => simp [intOf] <;> omega
      · have HT := Lib.hid htt
        go_wp2_with fail
        go_roundw
        case rel => exact ⟨k + 1, by go_num, by omega, by rw [HSn.out, if_neg HT.out, List.append_nil]; exact HOA.out, HFA.out⟩
        case measure => simp [intOf] <;> omega
    · have hkM := Lib.hid (show k = l.length by omega)
      have h1 : atL (l.take k) t = atL l t := by rw [hkM.out, List.take_length]
      have hcts : Cts wr (.slice va (atL l t).length vc) (atL l t) := by
        rw [← h1]
        refine own_cts ho fun e he => ?_
        rw [h1] at he
        obtain ⟨e0, h0, rfl⟩ := List.mem_map.1 he
        have h2 := H.out.row e0 (List.mem_filter.1 h0).1
        exact ⟨h2.1.fr hf, ⟨h2.2.len, h2.2.n⟩⟩
      have hle := atL_len l t
      have ht := rTidy_any hcts (by omega)
      rw [h1] at *
      have hsz := hf.size
      clear ho hcts hf h1
      generalize atL l t = al at *
      go_wp2_with (go_at_call 15; refine ht.mono ?_; rintro e w1 ⟨f1, ⟨h1, outs, a, c, rfl, h2, h3, h4⟩ | ⟨h1, rfl⟩⟩)
      · go_ret2
        exact ⟨HF.out.trans f1, Or.inl ⟨h1, outs, a, c, rfl, h2.base hsz, h3, h4⟩⟩
      · go_ret2
        exact ⟨HF.out.trans f1, Or.inr ⟨h1, rfl⟩⟩

end Go.Proofs.Ytmionipeoffnhaa
namespace Go.Proofs.Ytmionipeoffnhaa
open Go.RowKit srt grp

/-! ### plain -/
def insIStep (x : Int) (s : List Int × Bool) (r : Int) : List Int × Bool :=
  if s.2 = false ∧ x ≤ r then (s.1 ++ (if x < r then [x] else []) ++ [r], true) else (s.1 ++ [r], s.2)
def insI (x : Int) : List Int → List Int
  | [] => [x]
  | r :: l => if x < r then x :: r :: l else if x = r then r :: l else r :: insI x l
theorem foldI_true (x : Int) : ∀ (l nx : List Int), l.foldl (insIStep x) (nx, true) = (nx ++ l, true)
  | [], nx => by simp
  | r :: l, nx => by
    rw [List.foldl_cons, show insIStep x (nx, true) r = (nx ++ [r], true) from if_neg (by simp), foldI_true x l]
    simp
theorem foldI_ins (x : Int) : ∀ (l nx : List Int), (if (l.foldl (insIStep x) (nx, false)).2 = true then (l.foldl (insIStep x) (nx, false)).1 else (l.foldl (insIStep x) (nx, false)).1 ++ [x]) = nx ++ insI x l
  | [], nx => by simp [insI]
  | r :: l, nx => by
    rw [List.foldl_cons]
    by_cases h1 : x < r
    · rw [show insIStep x (nx, false) r = (nx ++ [x] ++ [r], true) by unfold insIStep; rw [if_pos ⟨rfl, by omega⟩, if_pos h1], foldI_true]
      simp [insI, h1]
    · by_cases h2 : x = r
      · rw [show insIStep x (nx, false) r = (nx ++ [r], true) by unfold insIStep; rw [if_pos ⟨rfl, by omega⟩, if_neg h1, List.append_nil], foldI_true]
        simp [insI, h2]
      · rw [show insIStep x (nx, false) r = (nx ++ [r], false) by unfold insIStep; rw [if_neg (fun h => by have := h.2; omega)], foldI_ins x l]
        simp [insI, h1, h2]
theorem insI_mem (x r : Int) : ∀ (l : List Int), r ∈ insI x l ↔ r = x ∨ r ∈ l
  | [] => by simp [insI]
  | e :: l => by
    unfold insI
    split
    · simp
    · split
      · rename_i h
        subst h
        simp
      · rw [List.mem_cons, insI_mem x r l, List.mem_cons]
        constructor
        · rintro (h | h | h)
          · exact Or.inr (Or.inl h)
          · exact Or.inl h
          · exact Or.inr (Or.inr h)
        · rintro (h | h | h)
          · exact Or.inr (Or.inl h)
          · exact Or.inl h
          · exact Or.inr (Or.inr h)
theorem insI_rise (x : Int) : ∀ (l : List Int), l.Pairwise (· < ·) → (insI x l).Pairwise (· < ·)
  | [], _ => by simp [insI]
  | r :: l, h => by
    obtain ⟨h1, h2⟩ := List.pairwise_cons.1 h
    unfold insI
    split
    · rename_i hlt
      refine List.pairwise_cons.2 ⟨fun b hb => ?_, h⟩
      rcases List.mem_cons.1 hb with rfl | hb
      · exact hlt
      · have := h1 b hb; omega
    · split
      · exact h
      · rename_i n1 n2
        refine List.pairwise_cons.2 ⟨fun b hb => ?_, insI_rise x l h2⟩
        rcases (insI_mem x b l).1 hb with rfl | hb
        · omega
        · exact h1 b hb
theorem insI_len (x : Int) : ∀ (l : List Int), (insI x l).length ≤ l.length + 1
  | [] => by simp [insI]
  | r :: l => by
    unfold insI
    split
    · simp
    · split
      · simp
      · have := insI_len x l; simp; omega

def intsC (l : List Int) : List Value := l.map fun t => .int .i64 t
theorem intsC_one (l : List Int) : ∀ u ∈ intsC l, u.oneCell' = true := by
  intro u hu
  obtain ⟨d, -, rfl⟩ := List.mem_map.1 hu
  rfl
theorem intsC_append (a b : List Int) : intsC (a ++ b) = intsC a ++ intsC b := by simp [intsC]
def nti (l : List Int) (k : Nat) : Int := (l[k]?).getD 0
theorem nti_at {l : List Int} {k : Nat} (h : k < l.length) : l[k]? = some (nti l k) := by unfold nti; rw [List.getElem?_eq_getElem h]; rfl
theorem nti_mem {l : List Int} {k : Nat} (h : k < l.length) : nti l k ∈ l := List.mem_of_getElem? (nti_at h)
theorem intsC_at {l : List Int} {k : Nat} (h : k < l.length) : (intsC l)[k]? = some (.int .i64 (nti l k)) := by
  unfold intsC; rw [List.getElem?_map, nti_at h]; rfl
theorem infoI : (Try.prog.info? 2).map (fun i => (i.zero, i.size, i.bytes)) = some (some (.int .i64 0), 1, 8) := by kernel_rfl
theorem ints_cell {w : World} {base n : Nat} {a : Option Addr} {c : Nat} {l : List Int} (h : w.ownsRow base 2 1 (.slice a n c) n (intsC l)) {k : Nat} (hk : k < l.length) : ∃ b off, a = some ⟨b, off, none⟩ ∧ w.cell? ⟨b, off + k, none⟩ = some (.int .i64 (nti l k)) := by
  have hs := Src.row h (intsC_one l)
  have hn : n = l.length := by have := hs.1; simp [intsC] at this; omega
  rcases hs.2.2 with ⟨-, h2⟩ | ⟨ad, c, hv, hc⟩
  · omega
  · simp only [Value.slice.injEq] at hv
    have c0 := hc _ _ (intsC_at hk)
    have hp := addr_plain (a := ad) (hc 0 _ (intsC_at (show 0 < l.length by omega)))
    exact ⟨ad.block, ad.off, by rw [hv.1]; exact congrArg some hp, cell_add c0⟩

/-- The times of a list, rising, each once. -/
structure TimesOf (l : List upd.El) (T : List Int) : Prop where
  up : T.Pairwise (· < ·)
  mem : ∀ t, t ∈ T ↔ t ∈ l.map (·.t)
  len : T.length ≤ l.length
theorem TimesOf.snoc {l : List upd.El} {T : List Int} {e : upd.El} (h : TimesOf l T) : TimesOf (l ++ [e]) (insI e.t T) := by
  refine ⟨insI_rise _ _ h.up, fun t => ?_, by have := insI_len e.t T; have := h.len; simp; omega⟩
  rw [insI_mem, h.mem]
  simp only [List.map_append, List.map_cons, List.map_nil, List.mem_append, List.mem_singleton]
  exact Or.comm

def InsI (wb : World) (t : Int) (T : List Int) (a b i : Value) (wr : World) : Prop :=
  ∃ (j : Nat) (nx : List Int) (dn : Bool), i = .int .i64 (j : Int) ∧ b = .bool dn ∧ j ≤ T.length ∧ Hid ((T.take j).foldl (insIStep t) ([], false) = (nx, dn)) ∧ nx.length ≤ 2 * j ∧ wr.ownsRow wb.heap.size 2 1 a nx.length (intsC nx) ∧ Fr [] wb wr
def TimO (w : World) (l : List upd.El) (v x : Value) (wr : World) : Prop :=
  ∃ (k : Nat) (T : List Int), x = .int .i64 (k : Int) ∧ k ≤ l.length ∧ Fr [] w wr ∧ wr.ownsRow w.heap.size 2 1 v T.length (intsC T) ∧ TimesOf (l.take k) T

set_option maxRecDepth 100000
set_option maxHeartbeats 6400000 in
theorem times_any {w : World} {aa : Option Addr} {ac : Nat} {l : List upd.El} (h : upd.Cts w (.slice aa l.length ac) l) (hn : l.length ≤ 10000) :
    Calls Try.prog 71 #[.slice aa l.length ac] w fun e w' => ∃ (T : List Int) (a : Option Addr) (c : Nat), e = .returned (.slice a T.length c) ∧ Fr [] w w' ∧ w'.ownsRow w.heap.size 2 1 (.slice a T.length c) T.length (intsC T) ∧ TimesOf l T := by
  obtain ⟨i0, hi, hz0, hz1, hz2⟩ := info_parts infoI
  have HC := Lib.hid h
  clear h
  go_enter Try.func71, Try.ntmps71
  go_wp2_with fail
  go_loopw [3, 13] (fun v x wr => TimO w l v x wr) (fun _ x _ => l.length - (intOf x).toNat)
  case atStart => exact ⟨0, [], rfl, Nat.zero_le _, (Fr.refl [] w).alloc _, World.ownsRow_made w #[] 0 (Nat.le_refl _) (by decide) rfl, ⟨by simp, by simp, by simp⟩⟩
  case round =>
    obtain ⟨k, T, rfl, hk, hf, ho, hT⟩ := hrel
    obtain ⟨va, vc, rfl⟩ := ownsRow_shape ho
    have HT := Lib.hid hT
    have htl := hT.len
    rw [List.length_take] at htl
    by_cases hlt : k < l.length
    · obtain ⟨b, off, e1, z0, z1, z2⟩ := (HC.out.fr hf).cell hlt
      subst e1
      have hts : l.take (k + 1) = l.take k ++ [upd.nth l k] := by rw [List.take_add_one, upd.nth_at hlt]; rfl
      have HTs := Lib.hid hts
      have hT2 := hT.snoc (e := upd.nth l k)
      rw [← hts] at hT2
      have HT2 := Lib.hid hT2
      have ht64 := (HC.out.row _ (upd.nth_mem hlt)).2.t
      clear hts hT2 hT
      go_upto_region 5 with fail
      have fa : Fr [] wr (wr.alloc (.cells #[.slice (upd.nth l k).ra (upd.nth l k).rl (upd.nth l k).rc, .int .i64 (upd.nth l k).t, .int .i64 (upd.nth l k).n] 41)) := (Fr.refl [] wr).alloc _
      have hb1 := heap_alloc_new wr (.cells #[.slice (upd.nth l k).ra (upd.nth l k).rl (upd.nth l k).rc, .int .i64 (upd.nth l k).t, .int .i64 (upd.nth l k).n] 41)
      have HOA := Lib.hid (ownsRow_fr ho fa (by simp))
      have HFA := Lib.hid (hf.trans fa)
      have hsz := (hf.trans fa).size
      clear fa ho hf z0 z1 z2
      generalize wr.heap.size = bx at *
      generalize wr.alloc (.cells #[.slice (upd.nth l k).ra (upd.nth l k).rl (upd.nth l k).rc, .int .i64 (upd.nth l k).t, .int .i64 (upd.nth l k).n] 41) = wb at *
      have y1 := cell_blk hb1 1 (.int .i64 (upd.nth l k).t) rfl
      have Y1 := Lib.hid y1
      clear hb1
      generalize (upd.nth l k).t = t at *
      go_wp2_with fail
      go_loopw [6, 7, 20] (fun a b i wq => InsI wb t T a b i wq) (fun _ _ i _ => T.length - (intOf i).toNat)
      case atStart => exact ⟨0, [], false, rfl, rfl, Nat.zero_le _, Lib.hid rfl, by simp, World.ownsRow_made wb #[] 0 (Nat.le_refl _) (by decide) rfl, (Fr.refl [] wb).alloc _⟩
      case round =>
        obtain ⟨j, nx, dn, rfl, rfl, hj, HF, hnl, ho, hf⟩ := hrel
        obtain ⟨ua, uc, rfl⟩ := ownsRow_shape ho
        have HO := Lib.hid ho
        have HFi := Lib.hid hf
        have hszi := hf.size
        have y2 := hf.cell Y1.out (by simp)
        by_cases hlj : j < T.length
        · obtain ⟨b2, off2, e2, z0⟩ := ints_cell (ownsRow_fr HOA.out hf (by simp)) hlj
          subst e2
          have hst : (T.take (j + 1)).foldl (insIStep t) ([], false) = insIStep t (nx, dn) (nti T j) := by
            rw [List.take_add_one, nti_at hlj, List.foldl_append, HF.out]; rfl
          have HSt := Lib.hid hst
          clear hst ho hf y1
          generalize nti T j = r at *
          cases dn with
          | true =>
            have HS3 := Lib.hid (show (T.take (j + 1)).foldl (insIStep t) ([], false) = (nx ++ [r], true) by rw [HSt.out]; exact if_neg (by simp))
            clear HSt
            go_wp2_with (at_builtin; refine wpList_append_src _ rfl (.tmp 41) (.tmp 43) 91 rfl wb.heap.size 2 i0 _ 1 8 Try.underlying91 hi hz0 hz1 hz2 rfl (by decide) (.slice ua nx.length uc) (nx.length) _ rfl (ownsRow_fr HO.out ((Fr.refl [] wr).alloc _) (by simp)) (.slice (some ⟨wr.heap.size, 0, none⟩) 1 1) 1 [.int .i64 r] rfl (Src.block (heap_alloc_new wr _) rfl (by intro u hu; simp at hu; rcases hu with rfl; rfl)) (by unfold maxLen; omega) (by omega) (by simp; omega) ?_; intro v6 w6 hown6 hgrow6 _; have HOwn6 := Lib.hid hown6; have HG6 := Lib.hid hgrow6; clear hown6 hgrow6)
            go_roundw
            case rel => exact ⟨j + 1, nx ++ [r], true, by go_num, rfl, by omega, Lib.hid HS3.out, by simp; omega, by
              rw [intsC_append, List.length_append]
              exact HOwn6.out, (HFi.out.alloc _).fresh HG6.out (fun q e => Or.inl (HO.out.lt q e).1)⟩
            case measure => simp [intOf] <;> omega
          | false =>
            by_cases h1 : t < r
            · have h2 : t ≤ r := by omega
              have HS3 := Lib.hid (show (T.take (j + 1)).foldl (insIStep t) ([], false) = (nx ++ [t] ++ [r], true) by rw [HSt.out]; unfold insIStep; rw [if_pos ⟨rfl, h2⟩, if_pos h1])
              clear HSt
              go_wp2_with (first
                | (at_builtin; refine wpList_append_src _ rfl (.tmp 36) (.tmp 39) 91 rfl wb.heap.size 2 i0 _ 1 8 Try.underlying91 hi hz0 hz1 hz2 rfl (by decide) (.slice ua nx.length uc) (nx.length) _ rfl (ownsRow_fr HO.out ((Fr.refl [] wr).alloc _) (by simp)) (.slice (some ⟨wr.heap.size, 0, none⟩) 1 1) 1 [.int .i64 t] rfl (Src.block (heap_alloc_new wr _) rfl (by intro u hu; simp at hu; rcases hu with rfl; rfl)) (by unfold maxLen; omega) (by omega) (by simp; omega) ?_; intro v5 w5 hown5 hgrow5 _; obtain ⟨v5a, v5c, rfl⟩ := ownsRow_shape hown5; have f5 := ((HFi.out.alloc _).fresh hgrow5 (fun q e => Or.inl (HO.out.lt q e).1)); have hsz5 := f5.size; have y5 := f5.cell Y1.out (by simp); have F5 := Lib.hid f5; have HO5 := Lib.hid hown5; clear hown5 hgrow5 f5)
                | (at_builtin; refine wpList_append_src _ rfl (.tmp 41) (.tmp 43) 91 rfl wb.heap.size 2 i0 _ 1 8 Try.underlying91 hi hz0 hz1 hz2 rfl (by decide) (.slice v5a (nx.length + 1) v5c) (nx.length + 1) _ rfl (ownsRow_fr HO5.out ((Fr.refl [] w5).alloc _) (by simp)) (.slice (some ⟨w5.heap.size, 0, none⟩) 1 1) 1 [.int .i64 r] rfl (Src.block (heap_alloc_new w5 _) rfl (by intro u hu; simp at hu; rcases hu with rfl; rfl)) (by unfold maxLen; omega) (by omega) (by simp; omega) ?_; intro v6 w6 hown6 hgrow6 _; have HOwn6 := Lib.hid hown6; have HG6 := Lib.hid hgrow6; clear hown6 hgrow6))
              go_roundw
              case rel => exact ⟨j + 1, nx ++ [t] ++ [r], true, by go_num, rfl, by omega, Lib.hid HS3.out, by simp; omega, by
                have h9 := HOwn6.out
                rw [intsC_append, intsC_append, List.length_append, List.length_append]
                exact h9, (F5.out.alloc _).fresh HG6.out (fun q e => Or.inl (HO5.out.lt q e).1)⟩
              case measure => simp [intOf] <;> omega
            · by_cases h2 : t ≤ r
              · have HS3 := Lib.hid (show (T.take (j + 1)).foldl (insIStep t) ([], false) = (nx ++ [r], true) by rw [HSt.out]; unfold insIStep; rw [if_pos ⟨rfl, h2⟩, if_neg h1, List.append_nil])
                clear HSt
                go_wp2_with (at_builtin; refine wpList_append_src _ rfl (.tmp 41) (.tmp 43) 91 rfl wb.heap.size 2 i0 _ 1 8 Try.underlying91 hi hz0 hz1 hz2 rfl (by decide) (.slice ua nx.length uc) (nx.length) _ rfl (ownsRow_fr HO.out ((Fr.refl [] wr).alloc _) (by simp)) (.slice (some ⟨wr.heap.size, 0, none⟩) 1 1) 1 [.int .i64 r] rfl (Src.block (heap_alloc_new wr _) rfl (by intro u hu; simp at hu; rcases hu with rfl; rfl)) (by unfold maxLen; omega) (by omega) (by simp; omega) ?_; intro v6 w6 hown6 hgrow6 _; have HOwn6 := Lib.hid hown6; have HG6 := Lib.hid hgrow6; clear hown6 hgrow6)
                go_roundw
                case rel => exact ⟨j + 1, nx ++ [r], true, by go_num, rfl, by omega, Lib.hid HS3.out, by simp; omega, by
                  rw [intsC_append, List.length_append]
                  exact HOwn6.out, (HFi.out.alloc _).fresh HG6.out (fun q e => Or.inl (HO.out.lt q e).1)⟩
                case measure => simp [intOf] <;> omega
              · have HS3 := Lib.hid (show (T.take (j + 1)).foldl (insIStep t) ([], false) = (nx ++ [r], false) by rw [HSt.out]; unfold insIStep; rw [if_neg (fun h => h2 h.2)])
                clear HSt
                go_wp2_with (at_builtin; refine wpList_append_src _ rfl (.tmp 41) (.tmp 43) 91 rfl wb.heap.size 2 i0 _ 1 8 Try.underlying91 hi hz0 hz1 hz2 rfl (by decide) (.slice ua nx.length uc) (nx.length) _ rfl (ownsRow_fr HO.out ((Fr.refl [] wr).alloc _) (by simp)) (.slice (some ⟨wr.heap.size, 0, none⟩) 1 1) 1 [.int .i64 r] rfl (Src.block (heap_alloc_new wr _) rfl (by intro u hu; simp at hu; rcases hu with rfl; rfl)) (by unfold maxLen; omega) (by omega) (by simp; omega) ?_; intro v6 w6 hown6 hgrow6 _; have HOwn6 := Lib.hid hown6; have HG6 := Lib.hid hgrow6; clear hown6 hgrow6)
                go_roundw
                case rel => exact ⟨j + 1, nx ++ [r], false, by go_num, rfl, by omega, Lib.hid HS3.out, by simp; omega, by
                  rw [intsC_append, List.length_append]
                  exact HOwn6.out, (HFi.out.alloc _).fresh HG6.out (fun q e => Or.inl (HO.out.lt q e).1)⟩
                case measure => simp [intOf] <;> omega
        · obtain rfl : j = T.length := by omega
          have hfo := HF.out
          rw [List.take_length] at hfo
          have hfi := foldI_ins t T []
          rw [hfo, List.nil_append] at hfi
          cases dn with
          | true =>
            have HE := Lib.hid (show insI t T = nx from hfi.symm)
            clear hfi hfo ho hf hj hlj y1
            go_wp2_with fail
            go_roundw
            case rel => exact ⟨k + 1, insI t T, by go_num, by omega, HFA.out.trans HFi.out, by rw [HE.out]; exact ownsRow_base HO.out hsz, HT2.out⟩
            case measure => simp [intOf] <;> omega
          | false =>
            have HE := Lib.hid (show insI t T = nx ++ [t] from hfi.symm)
            clear hfi hfo ho hf hj hlj y1
            go_wp2_with (at_builtin; refine wpList_append_src _ rfl (.tmp 48) (.tmp 51) 91 rfl wb.heap.size 2 i0 _ 1 8 Try.underlying91 hi hz0 hz1 hz2 rfl (by decide) (.slice ua nx.length uc) (nx.length) _ rfl (ownsRow_fr HO.out ((Fr.refl [] wr).alloc _) (by simp)) (.slice (some ⟨wr.heap.size, 0, none⟩) 1 1) 1 [.int .i64 t] rfl (Src.block (heap_alloc_new wr _) rfl (by intro u hu; simp at hu; rcases hu with rfl; rfl)) (by unfold maxLen; omega) (by omega) (by simp; omega) ?_; intro v6 w6 hown6 hgrow6 _; have HOwn6 := Lib.hid hown6; have HG6 := Lib.hid hgrow6; clear hown6 hgrow6)
            go_roundw
            case rel => exact ⟨k + 1, insI t T, by go_num, by omega, HFA.out.trans ((HFi.out.alloc _).fresh HG6.out (fun q e => Or.inl (HO.out.lt q e).1)), by
              rw [HE.out, intsC_append, List.length_append]
              exact ownsRow_base HOwn6.out hsz, HT2.out⟩
            case measure => simp [intOf] <;> omega
    · obtain rfl : k = l.length := by omega
      rw [List.take_length] at HT
      have HO := Lib.hid ho
      have HF := Lib.hid hf
      clear ho hf hT hk hlt htl
      go_wp2_with fail
      go_ret
      exact ⟨T, va, vc, rfl, HF.out, HO.out, HT.out⟩
end Go.Proofs.Ytmionipeoffnhaa
namespace Go.Proofs.Ytmionipeoffnhaa
open Go.RowKit srt grp

/-- What happens at one time. -/
def atT (l : List upd.El) (t : Int) : List El := (l.filter fun e => decide (e.t = t)).map toC
theorem atT_snoc (l : List upd.El) (e : upd.El) (t : Int) : atT (l ++ [e]) t = atT l t ++ if e.t = t then [toC e] else [] := by
  unfold atT
  rw [List.filter_append, List.map_append]
  congr 1
  by_cases h : e.t = t <;> simp [h]
theorem atT_len (l : List upd.El) (t : Int) : (atT l t).length ≤ l.length := by
  unfold atT; rw [List.length_map]; exact List.length_filter_le _ _
theorem atT_sum (l : List upd.El) (t : Int) (r : List Dt) : sumK ((atT l t).map pr) r = sumK (l.map upd.pr) (t, r) := by
  induction l with
  | nil => rfl
  | cons e l ih =>
    have h1 : (atT (e :: l) t).map pr = (if e.t = t then [pr (toC e)] else []) ++ (atT l t).map pr := by
      unfold atT
      by_cases h : e.t = t <;> simp [h]
    rw [h1, sumK_append, ih, List.map_cons, sumK_cons]
    by_cases h : e.t = t
    · rw [if_pos h, sumK_cons, sumK_nil]
      by_cases h2 : e.rd = r
      · rw [if_pos (show (pr (toC e)).1 = r from h2), if_pos (show (upd.pr e).1 = (t, r) from Prod.ext h h2)]
        show e.n + 0 + _ = e.n + _
        omega
      · rw [if_neg (show ¬ (pr (toC e)).1 = r from h2), if_neg (show ¬ (upd.pr e).1 = (t, r) from fun x => h2 (congrArg Prod.snd x))]
        omega
    · rw [if_neg h, sumK_nil, if_neg (show ¬ (upd.pr e).1 = (t, r) from fun x => h (congrArg Prod.fst x))]
theorem atT_sub (l : List upd.El) (t : Int) : ∀ e ∈ atT l t, ∃ e0 ∈ l, e = toC e0 := fun e he => by
  obtain ⟨e0, h0, rfl⟩ := List.mem_map.1 he
  exact ⟨e0, (List.mem_filter.1 h0).1, rfl⟩

/-- A counted row, at a time. -/
def toT (t : Int) (e : El) : upd.El := ⟨e.ra, e.rl, e.rc, t, e.n, e.rd⟩
/-- One time more. -/
theorem canon_more {o1 : List upd.El} {o2 : List El} {S1 : Int × List Dt → Int} {S2 : List Dt → Int} {t : Int} (h1 : Canon upd.cmpU (o1.map upd.pr) S1) (hlt : ∀ e ∈ o1, e.t < t) (h2 : Canon cmpR (o2.map pr) S2) :
    Canon upd.cmpU ((o1 ++ o2.map (toT t)).map upd.pr) (fun q => S1 q + if q.1 = t then S2 q.2 else 0) := by
  have hmap : (o2.map (toT t)).map upd.pr = (o2.map pr).map fun p => ((t, p.1), p.2) := by rw [List.map_map, List.map_map]; rfl
  refine ⟨?_, fun p hp => ?_, fun q => ?_⟩
  · rw [List.map_append]
    refine List.pairwise_append.2 ⟨h1.up, ?_, fun a ha b hb => ?_⟩
    · rw [hmap]
      refine List.pairwise_map.2 (h2.up.imp fun {a b} hab => ?_)
      unfold upd.cmpU
      rw [if_neg (by simp [cmpI_self])]
      exact hab
    · obtain ⟨x, hx, rfl⟩ := List.mem_map.1 ha
      obtain ⟨y, hy, rfl⟩ := List.mem_map.1 hb
      obtain ⟨z, -, rfl⟩ := List.mem_map.1 hy
      have := hlt x hx
      have hc : cmpI x.t t = -1 := by unfold cmpI; rw [if_pos this]
      show (if cmpI x.t t ≠ 0 then cmpI x.t t else cmpR x.rd z.rd) < 0
      rw [hc, if_pos (by decide)]
      decide
  · rw [List.map_append] at hp
    rcases List.mem_append.1 hp with hp | hp
    · exact h1.nz p hp
    · rw [hmap] at hp
      obtain ⟨p0, h0, rfl⟩ := List.mem_map.1 hp
      exact h2.nz p0 h0
  · rw [List.map_append, sumK_append, h1.sum, hmap]
    congr 1
    rw [← h2.sum]
    generalize o2.map pr = os
    induction os with
    | nil => simp [sumK_nil]
    | cons p os ih =>
      rw [List.map_cons, sumK_cons, ih, sumK_cons]
      by_cases h : q.1 = t
      · rw [if_pos h, if_pos h]
        by_cases h2 : p.1 = q.2
        · rw [if_pos (show (t, p.1) = q from Prod.ext h.symm h2), if_pos h2]
        · rw [if_neg (show ¬ (t, p.1) = q from fun x => h2 (congrArg Prod.snd x)), if_neg h2]
      · rw [if_neg h, if_neg h, if_neg (show ¬ (t, p.1) = q from fun x => h (congrArg Prod.fst x).symm)]; rfl

/-- The sums at the first times. -/
def sumT (l : List upd.El) (T : List Int) (q : Int × List Dt) : Int := if q.1 ∈ T then 1 * sumK (l.map upd.pr) q else 0
theorem sumT_more (l : List upd.El) (T : List Int) (t : Int) (ht : t ∉ T) (q : Int × List Dt) : sumT l T q + (if q.1 = t then 1 * sumK ((atT l t).map pr) q.2 else 0) = sumT l (T ++ [t]) q := by
  unfold sumT
  obtain ⟨q1, q2⟩ := q
  simp only
  by_cases h : q1 = t
  · have : q1 ∉ T := by rw [h]; exact ht
    rw [if_neg this, if_pos h, if_pos (by simp [h]), atT_sum, ← h]; omega
  · rw [if_neg h, Int.add_zero]
    by_cases h2 : q1 ∈ T
    · rw [if_pos h2, if_pos (by simp [h2])]
    · rw [if_neg h2, if_neg (by simp [h2, h])]
theorem sumT_all {l : List upd.El} {T : List Int} (h : TimesOf l T) (q : Int × List Dt) : sumT l T q = 1 * sumK (l.map upd.pr) q := by
  unfold sumT
  by_cases h2 : q.1 ∈ T
  · rw [if_pos h2]
  · rw [if_neg h2, sumK_none (fun p hp e => h2 ((h.mem _).2 (by
      obtain ⟨x, hx, rfl⟩ := List.mem_map.1 hp
      exact List.mem_map.2 ⟨x, hx, congrArg Prod.fst e⟩)))]
    rfl
theorem rise_take {T : List Int} (h : T.Pairwise (· < ·)) {k : Nat} (hk : k < T.length) : ∀ t ∈ T.take k, t < nti T k := fun t ht => by
  obtain ⟨i, hi, rfl⟩ := List.getElem_of_mem ht
  rw [List.length_take] at hi
  rw [List.getElem_take]
  have h1 := List.pairwise_iff_getElem.1 h i k (by omega) hk (by omega)
  have h2 : T[k] = nti T k := by
    have := nti_at hk; rw [List.getElem?_eq_getElem hk] at this; exact Option.some.inj this
  rw [← h2]; exact h1

/-- A row lies in no block of updates; neither does a list of counted rows. -/
theorem RowIn.farU {w w' : World} {base b2 n : Nat} {v x : Value} {ds : List Dt} {xs : List Value} (h : RowIn base w v ds) (ho : w.ownsRow b2 41 3 x n xs) (hg : w.grownBy w' x.ownBlock) : RowIn base w' v ds := by
  rcases h with h | ⟨g, cap, cur, hb, hv, hc, hh, htk⟩
  · exact Or.inl h
  · have hlt : g < w.heap.size := (Array.getElem?_eq_some_iff.1 hh).1
    refine Or.inr ⟨g, cap, cur, hb, hv, hc, ?_, htk⟩
    rw [hg.block g hlt (fun e => ?_)]
    · exact hh
    · rcases ho.2 with ⟨rfl, -⟩ | ⟨g2, c2, cur2, rfl, -, h2, -⟩
      · simp [Value.ownBlock] at e
      · simp only [Value.ownBlock, Option.some.injEq] at e
        subst e
        rw [h2] at hh
        simp at hh
theorem ListIn.farU {w w' : World} {base b2 n : Nat} {v x : Value} {l : List El} {xs : List Value} (h : ListIn base w v l) (ho : w.ownsRow b2 41 3 x n xs) (hg : w.grownBy w' x.ownBlock) : ListIn base w' v l := by
  refine ⟨?_, fun e he => ⟨(h.2 e he).1.farU ho hg, (h.2 e he).2⟩⟩
  rcases h.1 with h | ⟨g, c, cur, hb, hv, hc, hh, htk⟩
  · exact Or.inl h
  · have hlt : g < w.heap.size := (Array.getElem?_eq_some_iff.1 hh).1
    refine Or.inr ⟨g, c, cur, hb, hv, hc, ?_, htk⟩
    rw [hg.block g hlt (fun e => ?_)]
    · exact hh
    · rcases ho.2 with ⟨rfl, -⟩ | ⟨g2, c2, cur2, rfl, -, h2, -⟩
      · simp [Value.ownBlock] at e
      · simp only [Value.ownBlock, Option.some.injEq] at e
        subst e
        rw [h2] at hh
        simp at hh
end Go.Proofs.Ytmionipeoffnhaa
namespace Go.Proofs.Ytmionipeoffnhaa
open Go.RowKit srt grp

/-- How many updates are at these times. -/
def cntT (l : List upd.El) (T : List Int) : Nat := (l.filter fun e => decide (e.t ∈ T)).length
theorem cntT_le (l : List upd.El) (T : List Int) : cntT l T ≤ l.length := List.length_filter_le _ _
theorem cntT_more (l : List upd.El) (T : List Int) (t : Int) (ht : t ∉ T) : cntT l (T ++ [t]) = cntT l T + (atT l t).length := by
  unfold cntT atT
  rw [List.length_map]
  induction l with
  | nil => rfl
  | cons e l ih =>
    rw [List.filter_cons, List.filter_cons, List.filter_cons]
    by_cases h : e.t = t
    · have h2 : e.t ∉ T := by rw [h]; exact ht
      rw [if_pos (by simp [h]), if_neg (by simpa using h2), if_pos (by simp [h]), List.length_cons, ih, List.length_cons]; omega
    · by_cases h2 : e.t ∈ T
      · rw [if_pos (by simp [h2]), if_pos (by simpa using h2), if_neg (by simpa using h), List.length_cons, ih, List.length_cons]; omega
      · rw [if_neg (by simp [h2, h]), if_neg (by simpa using h2), if_neg (by simpa using h), ih]
def SetD (w : World) (T : List Int) (ta : Option Addr) (tc : Nat) (outs : List upd.El) (d : List El) (da : Option Addr) (dc : Nat) (t : Int) (v x : Value) (wr : World) : Prop :=
  ∃ j : Nat, x = .int .i64 (j : Int) ∧ j ≤ d.length ∧ Fr [] w wr ∧ wr.ownsRow w.heap.size 41 3 v (outs ++ (d.take j).map (toT t)).length (upd.elsC (outs ++ (d.take j).map (toT t))) ∧ wr.ownsRow w.heap.size 2 1 (.slice ta T.length tc) T.length (intsC T) ∧
    Hid (ListIn w.heap.size wr (.slice da d.length dc) d) ∧ Hid (∀ e ∈ outs, RowIn w.heap.size wr e.rv e.rd)

def SetO (w : World) (l : List upd.El) (T : List Int) (ta : Option Addr) (tc : Nat) (v x : Value) (wr : World) : Prop :=
  ∃ (k : Nat) (outs : List upd.El), x = .int .i64 (k : Int) ∧ k ≤ T.length ∧ Fr [] w wr ∧ wr.ownsRow w.heap.size 41 3 v outs.length (upd.elsC outs) ∧ wr.ownsRow w.heap.size 2 1 (.slice ta T.length tc) T.length (intsC T) ∧
    outs.length ≤ cntT l (T.take k) ∧ Hid (Canon upd.cmpU (outs.map upd.pr) (sumT l (T.take k))) ∧ Hid (∀ e ∈ outs, e.t ∈ T.take k ∧ RowIn w.heap.size wr e.rv e.rd ∧ upd.ElOk e) ∧ Hid (∀ t ∈ T.take k, ∀ r, fitB (1 * sumK ((atT l t).map pr) r) = true)
def SetC (wa : World) (l : List upd.El) (t : Int) (v x : Value) (wr : World) : Prop :=
  ∃ j : Nat, x = .int .i64 (j : Int) ∧ j ≤ l.length ∧ Fr [] wa wr ∧ wr.ownsRow wa.heap.size 31 2 v (atT (l.take j) t).length (elsC (atT (l.take j) t))

set_option maxRecDepth 100000
set_option maxHeartbeats 12800000 in
theorem rSettle_any {w : World} {aa : Option Addr} {ac : Nat} {l : List upd.El} (h : upd.Cts w (.slice aa l.length ac) l) (hn : l.length ≤ 10000) :
    Calls Try.prog 27 #[.slice aa l.length ac] w (upd.TidyPost w l 1) := by
  obtain ⟨i0, hi, hz0, hz1, hz2⟩ := info_parts infoC
  obtain ⟨i1, hj, hy0, hy1, hy2⟩ := info_parts upd.infoU
  have HC := Lib.hid h
  have fe : Fr [] w (w.alloc (.cells #[] 41)) := (Fr.refl [] w).alloc _
  have htm := times_any (h.fr fe) hn
  have HTm := Lib.hid htm
  have HFe := Lib.hid fe
  have HOe := Lib.hid (World.ownsRow_made (e := 41) (size := 3) w #[] 0 (Nat.le_refl _) (by decide) rfl)
  clear h htm fe
  go_enter Try.func27, Try.ntmps27
  go_wp2_with (go_at_call 71; refine HTm.out.mono ?_; rintro e w1 ⟨T, ta, tc, rfl, f1, o1, hT⟩; have F1 := Lib.hid (HFe.out.trans f1); have HO1 := Lib.hid (ownsRow_fr HOe.out f1 (by simp)); have HO2 := Lib.hid (ownsRow_base o1 (by simp : w.heap.size ≤ _)); have HT := Lib.hid hT; clear f1 o1 hT)
  have hTl := HT.out.len
  go_loopw [4, 18] (fun v x wr => SetO w l T ta tc v x wr) (fun _ x _ => T.length - (intOf x).toNat)
  case atStart => exact ⟨0, [], rfl, Nat.zero_le _, F1.out, HO1.out, HO2.out, by simp [cntT], Lib.hid ⟨by simp, by simp, fun q => by simp [sumK_nil, sumT]⟩, Lib.hid (by simp), Lib.hid (by simp)⟩
  case round =>
    obtain ⟨k, outs, rfl, hk, hf, ho, hto, hol, HCan, HIn, HFits⟩ := hrel
    obtain ⟨va, vc, rfl⟩ := ownsRow_shape ho
    by_cases hlt : k < T.length
    · obtain ⟨b, off, e1, z0⟩ := ints_cell hto hlt
      subst e1
      have hts : T.take (k + 1) = T.take k ++ [nti T k] := by rw [List.take_add_one, nti_at hlt]; rfl
      have HTs := Lib.hid hts
      have hrise := rise_take HT.out.up hlt
      have HRise := Lib.hid hrise
      have HF := Lib.hid hf
      have HO := Lib.hid ho
      have HTo := Lib.hid hto
      have hsz := hf.size
      clear hts hrise hf ho hto
      generalize nti T k = t at *
      obtain ⟨wz, rfl⟩ : ∃ wz, wz = wr := ⟨wr, rfl⟩
      go_wp2_with fail
      go_loopw [7, 25] (fun v x wq => SetC wz l t v x wq) (fun _ x _ => l.length - (intOf x).toNat)
      case atStart => exact ⟨0, rfl, Nat.zero_le _, (Fr.refl [] wz).alloc _, World.ownsRow_made wz #[] 0 (Nat.le_refl _) (by decide) rfl⟩
      case round =>
        obtain ⟨j, rfl, hjl, hf, ho⟩ := hrel
        obtain ⟨ca, cc, rfl⟩ := ownsRow_shape ho
        have HFi := Lib.hid hf
        have HOi := Lib.hid ho
        by_cases hlj : j < l.length
        · as_aux_lemma =>
          obtain ⟨b2, off2, e2, x0, x1, x2⟩ := (HC.out.fr (HF.out.trans hf)).cell hlj
          subst e2
          have hts : l.take (j + 1) = l.take j ++ [upd.nth l j] := by rw [List.take_add_one, upd.nth_at hlj]; rfl
          have hsn := atT_snoc (l.take j) (upd.nth l j) t
          rw [← hts] at hsn
          have HSn := Lib.hid hsn
          have hle := atT_len (l.take j) t
          have hlk : (l.take j).length = j := by rw [List.length_take]; omega
          have hal : (atT (l.take j) t).length ≤ 10000 := by omega
          clear hf ho hts hsn hle hlk
          generalize atT (l.take j) t = al at *
          go_upto_region 9 with fail
          have fa : Fr [] wr (wr.alloc (.cells #[.slice (upd.nth l j).ra (upd.nth l j).rl (upd.nth l j).rc, .int .i64 (upd.nth l j).t, .int .i64 (upd.nth l j).n] 41)) := (Fr.refl [] wr).alloc _
          have hb1 := heap_alloc_new wr (.cells #[.slice (upd.nth l j).ra (upd.nth l j).rl (upd.nth l j).rc, .int .i64 (upd.nth l j).t, .int .i64 (upd.nth l j).n] 41)
          have HOA := Lib.hid (ownsRow_fr HOi.out fa (by simp))
          have HFA := Lib.hid (HFi.out.trans fa)
          have hszA := (HFi.out.trans fa).size
          clear fa HOi HFi x0 x1 x2
          generalize wr.heap.size = bx at *
          generalize wr.alloc (.cells #[.slice (upd.nth l j).ra (upd.nth l j).rl (upd.nth l j).rc, .int .i64 (upd.nth l j).t, .int .i64 (upd.nth l j).n] 41) = wb at *
          have y0 := cell_blk hb1 0 (.slice (upd.nth l j).ra (upd.nth l j).rl (upd.nth l j).rc) rfl
          have y1 := cell_blk hb1 1 (.int .i64 (upd.nth l j).t) rfl
          have y2 := cell_blk hb1 2 (.int .i64 (upd.nth l j).n) rfl
          clear hb1
          by_cases htt : (upd.nth l j).t = t
          · have hb : ((upd.nth l j).t == t) = true := by simpa using htt
            have HTt := Lib.hid htt
            clear htt
            go_wp2_with (at_builtin; refine wpList_append_src _ rfl (.tmp 33) (.tmp 39) 22 rfl wz.heap.size 31 i0 _ 2 32 Try.underlying22 hi hz0 hz1 hz2 rfl (by decide) (.slice ca al.length cc) al.length _ rfl (HOA.out.alloc _) (.slice (some ⟨wb.heap.size, 0, none⟩) 1 1) 1 [.slice (upd.nth l j).ra (upd.nth l j).rl (upd.nth l j).rc, .int .i64 (upd.nth l j).n] rfl (Src.block (heap_alloc_new wb _) rfl (by intro u hu; simp at hu; rcases hu with rfl | rfl <;> rfl)) (by unfold maxLen; omega) (by omega) (by simp; omega) ?_; intro v' w3 hown1 hgrow1 _; have HOwn1 := Lib.hid hown1; have HG1 := Lib.hid hgrow1; clear hown1 hgrow1)
            go_roundw
            case rel => exact ⟨j + 1, by go_num, by omega, (HFA.out.alloc _).fresh HG1.out (fun r e => Or.inl (HOA.out.lt r e).1), by
              rw [HSn.out, if_pos HTt.out, elsC_append, List.length_append]
              simpa [elsC, El.cells, toC] using HOwn1.out⟩
            case measure => simp [intOf] <;> omega
          · have hb : ((upd.nth l j).t == t) = false := by simpa using htt
            have HTt := Lib.hid htt
            clear htt
            go_wp2_with fail
            go_roundw
            case rel => exact ⟨j + 1, by go_num, by omega, HFA.out, by rw [HSn.out, if_neg HTt.out, List.append_nil]; exact HOA.out⟩
            case measure => simp [intOf] <;> omega
        · as_aux_lemma =>
          obtain rfl : j = l.length := by omega
          rw [List.take_length] at ho
          have hcts : Cts wr (.slice ca (atT l t).length cc) (atT l t) := own_cts ho fun e he => by
            obtain ⟨e0, h0, rfl⟩ := atT_sub l t e he
            have h2 := HC.out.row e0 h0
            exact ⟨h2.1.fr (HF.out.trans hf), ⟨h2.2.len, h2.2.n⟩⟩
          have hcl := atT_len l t
          have HTi := Lib.hid (rTidy_any hcts (by omega))
          have HFw := Lib.hid (HF.out.trans hf)
          have HOw := Lib.hid (ownsRow_fr HO.out hf (by simp))
          have HTw := Lib.hid (ownsRow_fr HTo.out hf (by simp))
          have HInw := Lib.hid (fun e he => (HIn.out e he).2.1.fr hf (by simp))
          have hszr := (HF.out.trans hf).size
          clear ho hcts hf HOi HFi HO HTo HF z0 hlj hjl hsz
          rw [List.take_length]
          go_upto_region 13 with (go_at_call 15; refine HTi.out.mono ?_; rintro e w5 ⟨f5, ⟨h1, d, da, dc, rfl, h2, h3, h4⟩ | ⟨h1, rfl⟩⟩)
          · have H1 := Lib.hid h1
            have H3 := Lib.hid h3
            have HD := Lib.hid (h2.base hszr)
            have HDok := Lib.hid (fun e he => (h2.2 e he).2)
            have HF5 := Lib.hid (HFw.out.trans f5)
            have HO5 := Lib.hid (ownsRow_fr HOw.out f5 (by simp))
            have HT5 := Lib.hid (ownsRow_fr HTw.out f5 (by simp))
            have HIn5 := Lib.hid (fun e he => (HInw.out e he).fr f5 (by simp))
            have hoc := cntT_le l (T.take k)
            clear h1 h2 h3 f5 HTi HFw HOw HTw HInw
            obtain ⟨wv, rfl⟩ : ∃ wv, wv = w5 := ⟨w5, rfl⟩
            go_wp2_with fail
            go_loopw [4, 52] (fun v x wq => SetD w T (some ⟨b, off, none⟩) tc outs d da dc t v x wq) (fun _ x _ => d.length - (intOf x).toNat)
            case atStart => exact ⟨0, rfl, Nat.zero_le _, HF5.out, by simpa using HO5.out, HT5.out, HD.out, HIn5.out⟩
            case round =>
              obtain ⟨j, rfl, hjl, hf, ho, hto, HDr, HInr⟩ := hrel
              obtain ⟨ua, uc, rfl⟩ := ownsRow_shape ho
              have HFr := Lib.hid hf
              have HOr := Lib.hid ho
              have HTr := Lib.hid hto
              have hlo : (outs ++ (d.take j).map (toT t)).length = outs.length + j := by simp; omega
              by_cases hlj : j < d.length
              · as_aux_lemma =>
                obtain ⟨b2, off2, e2, x0, x1⟩ := HDr.out.cts.cell hlj
                subst e2
                have hts : d.take (j + 1) = d.take j ++ [nth d j] := by rw [List.take_add_one, nth_at hlj]; rfl
                have HTs2 := Lib.hid hts
                have hob : outs.length + j ≤ 30000 := by omega
                have HLo := Lib.hid hlo
                clear hf ho hto hts
                generalize hml : (outs ++ (d.take j).map (toT t)).length = mm at *
                go_upto_region 18 with fail
                have fa : Fr [] wr (wr.alloc (.cells #[.slice (nth d j).ra (nth d j).rl (nth d j).rc, .int .i64 (nth d j).n] 31)) := (Fr.refl [] wr).alloc _
                have hb1 := heap_alloc_new wr (.cells #[.slice (nth d j).ra (nth d j).rl (nth d j).rc, .int .i64 (nth d j).n] 31)
                have HOA := Lib.hid (ownsRow_fr HOr.out fa (by simp))
                have HTA := Lib.hid (ownsRow_fr HTr.out fa (by simp))
                have HFA := Lib.hid (HFr.out.trans fa)
                have HDA := Lib.hid (HDr.out.fr fa (by simp))
                have HIA := Lib.hid (fun e he => (HInr.out e he).fr fa (by simp))
                have hszA := (HFr.out.trans fa).size
                clear fa HOr HFr HTr HDr HInr x0 x1
                generalize wr.heap.size = bx at *
                generalize wr.alloc (.cells #[.slice (nth d j).ra (nth d j).rl (nth d j).rc, .int .i64 (nth d j).n] 31) = wb at *
                have y0 := cell_blk hb1 0 (.slice (nth d j).ra (nth d j).rl (nth d j).rc) rfl
                have y1 := cell_blk hb1 1 (.int .i64 (nth d j).n) rfl
                clear hb1
                go_wp2_with (at_builtin; refine wpList_append_src _ rfl (.tmp 56) (.tmp 63) 39 rfl w.heap.size 41 i1 _ 3 40 Try.underlying39 hj hy0 hy1 hy2 rfl (by decide) (.slice ua mm uc) mm _ rfl (HOA.out.alloc _) (.slice (some ⟨wb.heap.size, 0, none⟩) 1 1) 1 [.slice (nth d j).ra (nth d j).rl (nth d j).rc, .int .i64 t, .int .i64 (nth d j).n] rfl (Src.block (heap_alloc_new wb _) rfl (by intro u hu; simp at hu; rcases hu with rfl | rfl | rfl <;> rfl)) (by unfold maxLen; omega) (by omega) (by simp; omega) ?_; intro v' w3 hown1 hgrow1 _; have HOwn1 := Lib.hid hown1; have HG1 := Lib.hid hgrow1; clear hown1 hgrow1)
                go_roundw
                case rel =>
                  have hoa := HOA.out.alloc (.cells #[.slice (nth d j).ra (nth d j).rl (nth d j).rc, .int .i64 t, .int .i64 (nth d j).n] 41)
                  have fb := (Fr.refl [] wb).alloc (.cells #[.slice (nth d j).ra (nth d j).rl (nth d j).rc, .int .i64 t, .int .i64 (nth d j).n] 41)
                  exact ⟨j + 1, by go_num, by omega, (HFA.out.trans fb).fresh HG1.out (fun r e => Or.inl (HOA.out.lt r e).1), by
                    rw [HTs2.out, List.map_append, ← List.append_assoc, upd.elsC_append, List.length_append, hml]
                    simpa [upd.elsC, upd.El.cells, toT] using HOwn1.out, own_far (by decide) (ownsRow_fr HTA.out fb (by simp)) hoa HG1.out, Lib.hid ((HDA.out.fr fb (by simp)).farU hoa HG1.out), Lib.hid (fun e he => ((HIA.out e he).fr fb (by simp)).farU hoa HG1.out)⟩
                case measure => simp [intOf] <;> omega
              · as_aux_lemma =>
                obtain rfl : j = d.length := by omega
                rw [List.take_length] at ho hlo
                have hnt : t ∉ T.take k := fun hm => by have := HRise.out t hm; omega
                have hcm := cntT_more l (T.take k) t hnt
                have HCan2 := Lib.hid ((canon_more (t := t) HCan.out (fun e he => HRise.out _ (HIn.out e he).1) H3.out).of (sumT_more l (T.take k) t hnt))
                have ht64 : -9223372036854775808 ≤ t ∧ t ≤ 9223372036854775807 := by
                  have h1 : t ∈ T := by
                    have : t ∈ T.take (k + 1) := by rw [HTs.out]; simp
                    exact List.mem_of_mem_take this
                  obtain ⟨e0, h0, rfl⟩ := List.mem_map.1 ((HT.out.mem t).1 h1)
                  exact (HC.out.row e0 h0).2.t
                have HO9 := Lib.hid ho
                have HHt := Lib.hid ht64
                have HNt := Lib.hid (⟨hcm, h4⟩ : cntT l (T.take k ++ [t]) = cntT l (T.take k) + (atT l t).length ∧ d.length ≤ (atT l t).length)
                clear ho hf hto hlj hjl HOr hnt hcm ht64
                rw [List.take_length]
                generalize hoo : outs ++ d.map (toT t) = oo at *
                go_wp2_with fail
                go_roundw
                case rel => exact ⟨k + 1, oo, by go_num, by omega, HFr.out, HO9.out, HTr.out, by
                  rw [HTs.out]
                  have := HNt.out
                  omega, Lib.hid (by rw [HTs.out]; exact HCan2.out), Lib.hid (fun e he => by
                  rw [HTs.out]
                  rw [← hoo] at he
                  rcases List.mem_append.1 he with he | he
                  · exact ⟨by simp [(HIn.out e he).1], HInr.out e he, (HIn.out e he).2.2⟩
                  · obtain ⟨e0, h0, rfl⟩ := List.mem_map.1 he
                    have h1 := HDr.out.2 e0 h0
                    exact ⟨by simp [toT], h1.1, ⟨h1.2.len, HHt.out, h1.2.n⟩⟩), Lib.hid (fun t' ht' r => by
                  rw [HTs.out] at ht'
                  rcases List.mem_append.1 ht' with ht' | ht'
                  · exact HFits.out t' ht' r
                  · rw [List.mem_singleton.1 ht']; exact H1.out r)⟩
                case measure => simp [intOf] <;> omega
          · have H1 := Lib.hid h1
            clear h1
            go_wp2_with fail
            go_ret2
            exact ⟨HFw.out.trans f5, Or.inr ⟨by
              obtain ⟨r, hr⟩ := H1.out
              rw [atT_sum] at hr
              exact ⟨_, hr⟩, rfl⟩⟩
    · obtain rfl : k = T.length := by omega
      rw [List.take_length] at HCan HIn HFits hol
      have hfin : upd.ListIn w.heap.size wr (.slice va outs.length vc) outs := ⟨by
        rcases ho.2 with ⟨hv, h2⟩ | ⟨g, cap, cur, hv, hb, hg, hcl, hmx, hszc, htk⟩
        · simp only [Value.slice.injEq] at hv
          exact Or.inl ⟨va, vc, by rw [h2], fun _ => hv.2.2, List.length_eq_zero_iff.1 h2⟩
        · exact Or.inr ⟨g, cap, cur, hb, hv, hcl, hg, htk⟩, fun e he => (HIn.out e he).2⟩
      have HFin := Lib.hid hfin
      have HCanon := Lib.hid (HCan.out.of (sumT_all HT.out))
      have hle := cntT_le l T
      have HF := Lib.hid hf
      have HAll := Lib.hid (show ∀ q, fitB (1 * sumK (l.map upd.pr) q) = true from fun q => by
        by_cases hq : q.1 ∈ T
        · have := HFits.out q.1 hq q.2
          rwa [atT_sum] at this
        · rw [← sumT_all HT.out]
          unfold sumT
          rw [if_neg hq]; rfl)
      clear hfin ho hf hto hlt hk
      go_wp2_with fail
      go_ret2
      exact ⟨HF.out, Or.inl ⟨HAll.out, outs, va, vc, rfl, HFin.out, HCanon.out, by omega⟩⟩
end Go.Proofs.Ytmionipeoffnhaa
namespace Go.Proofs.Ytmionipeoffnhaa
open Go.RowKit srt grp

set_option maxRecDepth 100000
set_option maxHeartbeats 6400000 in
theorem rLater_any {w : World} {aa : Option Addr} {ac : Nat} {l : List upd.El} {t : Int} (h : upd.Cts w (.slice aa l.length ac) l) (hn : l.length ≤ 10000) (ht : -9223372036854775808 ≤ t ∧ t ≤ 9223372036854775807) :
    Calls Try.prog 30 #[.slice aa l.length ac, .int .i64 t] w (upd.TidyPost w (l.map (lt1 t)) 1) := by
  obtain ⟨i0, hi, hz0, hz1, hz2⟩ := info_parts upd.infoU
  have HC := Lib.hid h
  clear h
  go_enter Try.func30, Try.ntmps30
  go_wp2_with fail
  go_loopw [6, 12] (fun v x wr => ∃ k : Nat, x = .int .i64 (k : Int) ∧ k ≤ l.length ∧ Fr [] w wr ∧ wr.ownsRow w.heap.size 41 3 v k (upd.elsC ((l.take k).map (lt1 t)))) (fun _ x _ => l.length - (intOf x).toNat)
  case atStart => exact ⟨0, rfl, Nat.zero_le _, (Fr.refl [] w).alloc _, World.ownsRow_made w #[] 0 (Nat.le_refl _) (by decide) rfl⟩
  case round =>
    obtain ⟨k, rfl, hk, hf, ho⟩ := hrel
    obtain ⟨va, vc, rfl⟩ := ownsRow_shape ho
    have HO := Lib.hid ho
    have HF := Lib.hid hf
    have hsz := hf.size
    by_cases hlt : k < l.length
    · obtain ⟨b, off, e1, x0, x1, x2⟩ := (HC.out.fr hf).cell hlt
      subst e1
      have hts : l.take (k + 1) = l.take k ++ [upd.nth l k] := by rw [List.take_add_one, upd.nth_at hlt]; rfl
      have HTs := Lib.hid hts
      clear hf ho hts
      by_cases hc : (upd.nth l k).t < t
      · have HMx := Lib.hid (show max (upd.nth l k).t t = t by omega)
        go_upto_region 7 with fail
        have fa : Fr [] wr (wr.alloc (.cells #[.slice (upd.nth l k).ra (upd.nth l k).rl (upd.nth l k).rc, .int .i64 t, .int .i64 (upd.nth l k).n] 41)) := (Fr.refl [] wr).alloc _
        have hb1 := heap_alloc_new wr (.cells #[.slice (upd.nth l k).ra (upd.nth l k).rl (upd.nth l k).rc, .int .i64 t, .int .i64 (upd.nth l k).n] 41)
        have HOA := Lib.hid (ownsRow_fr HO.out fa (by simp))
        have HFA := Lib.hid (HF.out.trans fa)
        have hszA := (HF.out.trans fa).size
        clear fa HO HF x0 x1 x2
        generalize wr.heap.size = bx at *
        generalize wr.alloc (.cells #[.slice (upd.nth l k).ra (upd.nth l k).rl (upd.nth l k).rc, .int .i64 t, .int .i64 (upd.nth l k).n] 41) = wa at *
        have y0 := cell_blk hb1 0 (.slice (upd.nth l k).ra (upd.nth l k).rl (upd.nth l k).rc) rfl
        have y1 := cell_blk hb1 1 (.int .i64 t) rfl
        have y2 := cell_blk hb1 2 (.int .i64 (upd.nth l k).n) rfl
        clear hb1
        go_wp2_with (at_builtin; refine wpList_append_src _ rfl (.tmp 22) (.tmp 24) 39 rfl w.heap.size 41 i0 _ 3 40 Try.underlying39 hi hz0 hz1 hz2 rfl (by decide) (.slice va k vc) k _ rfl (HOA.out.alloc _) (.slice (some ⟨wa.heap.size, 0, none⟩) 1 1) 1 [.slice (upd.nth l k).ra (upd.nth l k).rl (upd.nth l k).rc, .int .i64 t, .int .i64 (upd.nth l k).n] rfl (Src.block (heap_alloc_new wa _) rfl (by intro u hu; simp at hu; rcases hu with rfl | rfl | rfl <;> rfl)) (by unfold maxLen; omega) (by omega) (by simp; omega) ?_; intro v' w3 hown1 hgrow1 _; have HOwn1 := Lib.hid hown1; have HG1 := Lib.hid hgrow1; clear hown1 hgrow1)
        go_roundw
        case rel => exact ⟨k + 1, by go_num, by omega, (HFA.out.alloc _).fresh HG1.out (fun r e => Or.inl (HOA.out.lt r e).1), by
          rw [HTs.out, List.map_append, upd.elsC_append]
          have h9 := HOwn1.out
          have h8 : (lt1 t (upd.nth l k)).t = t := HMx.out
          simpa [upd.elsC, upd.El.cells, lt1, show max (upd.nth l k).t t = t from h8] using h9⟩
        case measure => simp [intOf] <;> omega
      · have HMx := Lib.hid (show max (upd.nth l k).t t = (upd.nth l k).t by omega)
        go_upto_region 7 with fail
        have fa : Fr [] wr (wr.alloc (.cells #[.slice (upd.nth l k).ra (upd.nth l k).rl (upd.nth l k).rc, .int .i64 (upd.nth l k).t, .int .i64 (upd.nth l k).n] 41)) := (Fr.refl [] wr).alloc _
        have hb1 := heap_alloc_new wr (.cells #[.slice (upd.nth l k).ra (upd.nth l k).rl (upd.nth l k).rc, .int .i64 (upd.nth l k).t, .int .i64 (upd.nth l k).n] 41)
        have HOA := Lib.hid (ownsRow_fr HO.out fa (by simp))
        have HFA := Lib.hid (HF.out.trans fa)
        have hszA := (HF.out.trans fa).size
        clear fa HO HF x0 x1 x2
        generalize wr.heap.size = bx at *
        generalize wr.alloc (.cells #[.slice (upd.nth l k).ra (upd.nth l k).rl (upd.nth l k).rc, .int .i64 (upd.nth l k).t, .int .i64 (upd.nth l k).n] 41) = wa at *
        have y0 := cell_blk hb1 0 (.slice (upd.nth l k).ra (upd.nth l k).rl (upd.nth l k).rc) rfl
        have y1 := cell_blk hb1 1 (.int .i64 (upd.nth l k).t) rfl
        have y2 := cell_blk hb1 2 (.int .i64 (upd.nth l k).n) rfl
        clear hb1
        go_wp2_with (at_builtin; refine wpList_append_src _ rfl (.tmp 22) (.tmp 24) 39 rfl w.heap.size 41 i0 _ 3 40 Try.underlying39 hi hz0 hz1 hz2 rfl (by decide) (.slice va k vc) k _ rfl (HOA.out.alloc _) (.slice (some ⟨wa.heap.size, 0, none⟩) 1 1) 1 [.slice (upd.nth l k).ra (upd.nth l k).rl (upd.nth l k).rc, .int .i64 (upd.nth l k).t, .int .i64 (upd.nth l k).n] rfl (Src.block (heap_alloc_new wa _) rfl (by intro u hu; simp at hu; rcases hu with rfl | rfl | rfl <;> rfl)) (by unfold maxLen; omega) (by omega) (by simp; omega) ?_; intro v' w3 hown1 hgrow1 _; have HOwn1 := Lib.hid hown1; have HG1 := Lib.hid hgrow1; clear hown1 hgrow1)
        go_roundw
        case rel => exact ⟨k + 1, by go_num, by omega, (HFA.out.alloc _).fresh HG1.out (fun r e => Or.inl (HOA.out.lt r e).1), by
          rw [HTs.out, List.map_append, upd.elsC_append]
          have h9 := HOwn1.out
          have h8 : (lt1 t (upd.nth l k)).t = (upd.nth l k).t := HMx.out
          simpa [upd.elsC, upd.El.cells, lt1, show max (upd.nth l k).t t = (upd.nth l k).t from h8] using h9⟩
        case measure => simp [intOf] <;> omega
    · obtain rfl : k = l.length := by omega
      rw [List.take_length] at ho
      have hll : (l.map (lt1 t)).length = l.length := by simp
      have hcts : upd.Cts wr (.slice va l.length vc) (l.map (lt1 t)) := by
        have h9 := upd.own_cts (l := l.map (lt1 t)) (v := .slice va l.length vc) (w := wr) (base := w.heap.size) (by rw [hll]; exact ho) (fun e he => by
          obtain ⟨e0, h0, rfl⟩ := List.mem_map.1 he
          have h1 := HC.out.row e0 h0
          exact ⟨h1.1.fr hf, ⟨h1.2.len, by have := h1.2.t; simp only [lt1]; omega, h1.2.n⟩⟩)
        exact h9
      have hse := rSettle_any (aa := va) (ac := vc) (l := l.map (lt1 t)) (w := wr) (by rw [hll]; exact hcts) (by rw [hll]; exact hn)
      rw [hll] at hse
      have HSe := Lib.hid hse
      clear ho hf hcts hse hlt hk
      go_wp2_with (go_at_call 27; refine HSe.out.mono ?_; rintro e w2 ⟨f2, ⟨h1, outs, a, c, rfl, h2, h3, h4⟩ | ⟨h1, rfl⟩⟩)
      · go_ret2
        exact ⟨HF.out.trans f2, Or.inl ⟨h1, outs, a, c, rfl, h2.base hsz, h3, h4⟩⟩
      · go_ret2
        exact ⟨HF.out.trans f2, Or.inr ⟨h1, rfl⟩⟩
end Go.Proofs.Ytmionipeoffnhaa
namespace Go.Proofs.Ytmionipeoffnhaa
open Go.RowKit srt grp big

/-- An answer: it lies in new memory; what it tells is G of the sums, or an error just if one has no room. -/
def Ans (w : World) (l : List El) (s : Int) (G : List (List Dt × Int) → List (List Dt × Int)) (e : Ending) (w' : World) : Prop :=
  ∃ (outs : List El) (a : Option Addr) (c : Nat) (er : Int), e = .returned (.tuple #[.slice a outs.length c, .int .i64 er]) ∧ Fr [] w w' ∧ ListIn w.heap.size w' (.slice a outs.length c) outs ∧ outs.length ≤ l.length ∧
    Hid (((∀ r, fitB (s * sumK (l.map pr) r) = true) ∧ er = 0 ∧ ∃ os, Canon cmpR os (fun r => s * sumK (l.map pr) r) ∧ outs.map pr = G os) ∨ ((∃ r, fitB (s * sumK (l.map pr) r) = false) ∧ er = 30 ∧ outs = []))
def ansR (l : List El) (s : Int) (G : List (List Dt × Int) → List (List Dt × Int)) (er : Int) (outs : List El) : Prop :=
  ((∀ r, fitB (s * sumK (l.map pr) r) = true) ∧ er = 0 ∧ ∃ os, Canon cmpR os (fun r => s * sumK (l.map pr) r) ∧ outs.map pr = G os) ∨ ((∃ r, fitB (s * sumK (l.map pr) r) = false) ∧ er = 30 ∧ outs = [])
theorem ansR.pair {l : List El} {s : Int} {G : List (List Dt × Int) → List (List Dt × Int)} {e1 e2 : Int} {o1 o2 : List El} (h : ansR l s G e1 o1) (k : ansR l s G e2 o2) : e2 = e1 ∧ o1.map pr = o2.map pr := by
  rcases h with ⟨h1, rfl, q1, c1, p1⟩ | ⟨⟨r, hr⟩, rfl, rfl⟩
  · rcases k with ⟨-, rfl, q2, c2, p2⟩ | ⟨⟨r, hr⟩, -⟩
    · exact ⟨rfl, by rw [p1, p2, c1.uniq cmpRS c2]⟩
    · rw [h1 r] at hr; cases hr
  · rcases k with ⟨k1, -⟩ | ⟨-, rfl, rfl⟩
    · rw [k1 r] at hr; cases hr
    · exact ⟨rfl, rfl⟩
theorem nil_in (base : Nat) (w : World) : ListIn base w (.slice none 0 0) [] := ⟨Or.inl ⟨none, 0, rfl, fun _ => rfl, rfl⟩, by simp⟩
theorem ResPost.ans {w w' : World} {l : List El} {s : Int} {e : Ending} (h : ResPost w l s e w') : Ans w l s id e w' := by
  obtain ⟨f, ⟨h1, outs, a, c, rfl, h3, h4, h5⟩ | ⟨h1, rfl⟩⟩ := h
  · exact ⟨outs, a, c, 0, rfl, f, h3, h5, Lib.hid (Or.inl ⟨h1, rfl, _, h4, rfl⟩)⟩
  · exact ⟨[], none, 0, 30, rfl, f, nil_in _ _, Nat.zero_le _, Lib.hid (Or.inr ⟨h1, rfl, rfl⟩)⟩
theorem pairOf {l : List El} {s : Int} {G : List (List Dt × Int) → List (List Dt × Int)} {e1 e2 : Int} {o1 o2 : List El} (h : Hid (((∀ r, fitB (s * sumK (l.map pr) r) = true) ∧ e1 = 0 ∧ ∃ os, Canon cmpR os (fun r => s * sumK (l.map pr) r) ∧ o1.map pr = G os) ∨ ((∃ r, fitB (s * sumK (l.map pr) r) = false) ∧ e1 = 30 ∧ o1 = [])))
    (k : Hid (((∀ r, fitB (s * sumK (l.map pr) r) = true) ∧ e2 = 0 ∧ ∃ os, Canon cmpR os (fun r => s * sumK (l.map pr) r) ∧ o2.map pr = G os) ∨ ((∃ r, fitB (s * sumK (l.map pr) r) = false) ∧ e2 = 30 ∧ o2 = []))) : e2 = e1 ∧ o1.map pr = o2.map pr :=
  ansR.pair (l := l) (s := s) (G := G) h.out k.out

def ansU (l : List upd.El) (er : Int) (outs : List upd.El) : Prop :=
  ((∀ q, fitB (1 * sumK (l.map upd.pr) q) = true) ∧ er = 0 ∧ Canon upd.cmpU (outs.map upd.pr) (fun q => 1 * sumK (l.map upd.pr) q)) ∨ ((∃ q, fitB (1 * sumK (l.map upd.pr) q) = false) ∧ er = 30 ∧ outs = [])
def AnsU (w : World) (l : List upd.El) (e : Ending) (w' : World) : Prop :=
  ∃ (outs : List upd.El) (a : Option Addr) (c : Nat) (er : Int), e = .returned (.tuple #[.slice a outs.length c, .int .i64 er]) ∧ Fr [] w w' ∧ upd.ListIn w.heap.size w' (.slice a outs.length c) outs ∧ outs.length ≤ l.length ∧ Hid (ansU l er outs)
theorem upd.TidyPost.ans {w w' : World} {l : List upd.El} {e : Ending} (h : upd.TidyPost w l 1 e w') : AnsU w l e w' := by
  obtain ⟨f, ⟨h1, outs, a, c, rfl, h3, h4, h5⟩ | ⟨h1, rfl⟩⟩ := h
  · exact ⟨outs, a, c, 0, rfl, f, h3, h5, Lib.hid (Or.inl ⟨h1, rfl, h4⟩)⟩
  · exact ⟨[], none, 0, 30, rfl, f, ⟨Or.inl ⟨none, 0, rfl, fun _ => rfl, rfl⟩, by simp⟩, Nat.zero_le _, Lib.hid (Or.inr ⟨h1, rfl, rfl⟩)⟩
theorem pairU {l : List upd.El} {e1 e2 : Int} {o1 o2 : List upd.El} (h : Hid (ansU l e1 o1)) (k : Hid (ansU l e2 o2)) : e2 = e1 ∧ o1.map upd.pr = o2.map upd.pr := by
  rcases h.out with ⟨h1, rfl, c1⟩ | ⟨⟨r, hr⟩, rfl, rfl⟩
  · rcases k.out with ⟨-, rfl, c2⟩ | ⟨⟨r, hr⟩, -⟩
    · exact ⟨rfl, c1.uniq upd.cmpUS c2⟩
    · rw [h1 r] at hr; cases hr
  · rcases k.out with ⟨k1, -⟩ | ⟨-, rfl, rfl⟩
    · rw [k1 r] at hr; cases hr
    · exact ⟨rfl, rfl⟩

theorem upd.elsC_take (l : List upd.El) (n j : Nat) (u : Value) (h : (upd.elsC (l.take n))[j]? = some u) : (upd.elsC l)[j]? = some u := by
  have h1 : upd.elsC l = upd.elsC (l.take n) ++ upd.elsC (l.drop n) := by rw [← upd.elsC_append, List.take_append_drop]
  rw [h1, List.getElem?_append_left (List.getElem?_eq_some_iff.1 h).1]
  exact h
theorem upd.Cts.take {w : World} {a : Option Addr} {n c k : Nat} {l : List upd.El} (h : upd.Cts w (.slice a n c) l) (hk : k ≤ l.length) : upd.Cts w (.slice a k c) (l.take k) := by
  have hl : (l.take k).length = k := by rw [List.length_take]; omega
  refine ⟨⟨upd.elsC_len _, upd.elsC_one _, ?_⟩, fun e he => h.row e (List.mem_of_mem_take he)⟩
  rcases h.src.2.2 with ⟨hv, h2⟩ | ⟨ad, c2, hv, hc⟩
  · simp only [Value.slice.injEq] at hv
    refine Or.inl ⟨?_, by omega⟩
    rw [hv.1, hv.2.2, show k = 0 by omega]
  · simp only [Value.slice.injEq] at hv
    exact Or.inr ⟨ad, c, by rw [hl, hv.1], fun j u hj => hc j u (upd.elsC_take l k j u hj)⟩
theorem cutU_any {w : World} {a : Option Addr} {c : Nat} (n : Nat) (hc : n ≤ c) (ha : a = none → c = 0) (hm : c ≤ 9223372036854775807) :
    Calls Try.prog 26 #[.slice a n c] w fun e w' => e = .returned (.slice a (min n 60) c) ∧ w = w' := by
  by_cases h : n ≤ 60
  · rw [Nat.min_eq_left h]
    have h1 : ¬ (60 : Int) < (n : Int) := by omega
    go_enter Try.func26, Try.ntmps26
    go_wp2_with fail
    go_ret
    exact ⟨rfl, rfl⟩
  · rw [Nat.min_eq_right (by omega)]
    cases a with
    | none => have := ha rfl; omega
    | some ad =>
      have h1 : (60 : Int) < (n : Int) := by omega
      have h2 : (60 : Int) ≤ (c : Int) := by omega
      go_enter Try.func26, Try.ntmps26
      go_wp2_with fail
      go_ret
      exact ⟨rfl, rfl⟩

set_option maxRecDepth 100000
set_option maxHeartbeats 6400000 in
theorem settles_walk {w : World} {a0 : Option Addr} {c0 : Nat} {lx : List upd.El} {t : Int} (hx : upd.Cts w (.slice a0 lx.length c0) lx) (hcx : lx.length ≤ c0) (hax : a0 = none → c0 = 0) (hmx : c0 ≤ 9223372036854775807) (ht : -9223372036854775808 ≤ t ∧ t ≤ 9223372036854775807) :
    Calls Try.prog 6 #[.slice a0 lx.length c0, .int .i64 t] w fun e w' => e = .returned (.bool true) ∧ Fr [] w w' := by
  have hcut := cutU_any (w := w) lx.length hcx hax hmx
  obtain ⟨sx, hsl, hst⟩ : ∃ sx : List upd.El, sx.length = min lx.length 60 ∧ upd.Cts w (.slice a0 sx.length c0) sx := by
    have ht := hx.take (k := min lx.length 60) (by omega)
    have hl : (lx.take (min lx.length 60)).length = min lx.length 60 := by rw [List.length_take]; omega
    exact ⟨_, hl, by rw [hl]; exact ht⟩
  rw [← hsl] at hcut
  have q1 : sx.length ≤ 60 := by omega
  have qa := atL_len sx t
  have HCut := Lib.hid hcut
  have K0 := Lib.hid hst
  have T := Lib.hid (Fr.refl [] w)
  clear hx hcx hax hmx hsl hcut hst
  go_enter Try.func6, Try.ntmps6
  go_upto_region 2 with (go_at_call 26; refine HCut.out.mono ?_; rintro e w' ⟨rfl, rfl⟩)
  obtain ⟨w0, rfl⟩ : ∃ w0, w0 = w := ⟨w, rfl⟩
  replace K0 : Hid (upd.Cts w0 (.slice a0 sx.length c0) sx) := K0
  clear HCut
  have C1 := Lib.hid ((upd.settle_any K0.out (by omega)).mono fun _ _ h => h.ans)
  go_upto_region 3 with (go_at_call 23; refine C1.out.mono ?_; rintro e w1 ⟨l1, x1, y1, e1, rfl, f1, k1, m1, A1⟩)
  replace T := Lib.hid (T.out.trans f1)
  replace K0 := Lib.hid (K0.out.fr f1)
  have K1 := Lib.hid k1.cts
  clear f1 k1 C1
  have C2 := Lib.hid ((rSettle_any K0.out (by omega)).mono fun _ _ h => h.ans)
  go_upto_region 4 with (go_at_call 27; refine C2.out.mono ?_; rintro e w2 ⟨l2, x2, y2, e2, rfl, f2, k2, m2, A2⟩)
  replace T := Lib.hid (T.out.trans f2)
  replace K0 := Lib.hid (K0.out.fr f2)
  replace K1 := Lib.hid (K1.out.fr f2)
  have K2 := Lib.hid k2.cts
  clear f2 k2 C2
  obtain ⟨he2, hm2⟩ := pairU A1 A2
  subst he2
  have HM2 := Lib.hid hm2
  clear A1 A2 hm2
  have C3 := Lib.hid ((at_any (t := t) K0.out (by omega)).mono fun _ _ h => h.res.ans)
  go_upto_region 5 with (go_at_call 24; refine C3.out.mono ?_; rintro e w3 ⟨l3, x3, y3, e3, rfl, f3, k3, m3, A3⟩)
  replace T := Lib.hid (T.out.trans f3)
  replace K0 := Lib.hid (K0.out.fr f3)
  replace K1 := Lib.hid (K1.out.fr f3)
  replace K2 := Lib.hid (K2.out.fr f3)
  have K3 := Lib.hid k3.cts
  clear f3 k3 C3
  have C4 := Lib.hid ((rAt_any (t := t) K0.out (by omega)).mono fun _ _ h => ResPost.ans h)
  go_upto_region 6 with (go_at_call 28; refine C4.out.mono ?_; rintro e w4 ⟨l4, x4, y4, e4, rfl, f4, k4, m4, A4⟩)
  replace T := Lib.hid (T.out.trans f4)
  replace K0 := Lib.hid (K0.out.fr f4)
  replace K1 := Lib.hid (K1.out.fr f4)
  replace K2 := Lib.hid (K2.out.fr f4)
  replace K3 := Lib.hid (K3.out.fr f4)
  have K4 := Lib.hid k4.cts
  clear f4 k4 C4
  obtain ⟨he4, hm4⟩ := pairOf A3 A4
  subst he4
  have HM4 := Lib.hid hm4
  clear A3 A4 hm4
  have C5 := Lib.hid ((later_any K0.out (by omega) ht).mono fun _ _ h => h.ans)
  go_upto_region 7 with (go_at_call 29; refine C5.out.mono ?_; rintro e w5 ⟨l5, x5, y5, e5, rfl, f5, k5, m5, A5⟩)
  replace T := Lib.hid (T.out.trans f5)
  replace K0 := Lib.hid (K0.out.fr f5)
  replace K1 := Lib.hid (K1.out.fr f5)
  replace K2 := Lib.hid (K2.out.fr f5)
  replace K3 := Lib.hid (K3.out.fr f5)
  replace K4 := Lib.hid (K4.out.fr f5)
  have K5 := Lib.hid k5.cts
  clear f5 k5 C5
  rw [List.length_map] at m5
  have C6 := Lib.hid ((rLater_any K0.out (by omega) ht).mono fun _ _ h => h.ans)
  go_upto_region 8 with (go_at_call 30; refine C6.out.mono ?_; rintro e w6 ⟨l6, x6, y6, e6, rfl, f6, k6, m6, A6⟩)
  replace T := Lib.hid (T.out.trans f6)
  replace K0 := Lib.hid (K0.out.fr f6)
  replace K1 := Lib.hid (K1.out.fr f6)
  replace K2 := Lib.hid (K2.out.fr f6)
  replace K3 := Lib.hid (K3.out.fr f6)
  replace K4 := Lib.hid (K4.out.fr f6)
  replace K5 := Lib.hid (K5.out.fr f6)
  have K6 := Lib.hid k6.cts
  clear f6 k6 C6
  rw [List.length_map] at m6
  obtain ⟨he6, hm6⟩ := pairU A5 A6
  subst he6
  have HM6 := Lib.hid hm6
  clear A5 A6 hm6
  have L2 := Lib.hid (fun wi (fi : Fr [] w6 wi) => likeU_true (K1.out.fr fi) (K2.out.fr fi) HM2.out (by omega))
  have L4 := Lib.hid (fun wi (fi : Fr [] w6 wi) => like_true (K3.out.fr fi) (K4.out.fr fi) HM4.out (by omega))
  have L6 := Lib.hid (fun wi (fi : Fr [] w6 wi) => likeU_true (K5.out.fr fi) (K6.out.fr fi) HM6.out (by omega))
  have z2 : (e2 == e2) = true := by simp
  have z4 : (e4 == e4) = true := by simp
  have z6 : (e6 == e6) = true := by simp
  clear HM2 HM4 HM6 K0 K1 K2 K3 K4 K5 K6
  have tok1 : True := trivial
  go_wp2_with (first
    | (go_at_call 25; have _t := tok1; clear _t tok1; refine (L2.out _ (Fr.refl _ _)).mono ?_; rintro e wa ⟨rfl, fa⟩)
    | (go_at_call 17; refine (L4.out _ fa).mono ?_; rintro e wb ⟨rfl, fb⟩)
    | (go_at_call 25; refine (L6.out _ (fa.trans fb)).mono ?_; rintro e wc ⟨rfl, fc⟩))
  go_ret
  exact ⟨rfl, T.out.trans ((fa.trans fb).trans fc)⟩
end Go.Proofs.Ytmionipeoffnhaa
