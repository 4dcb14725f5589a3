/- The walk of RowParts. Condition: the two rows together have at most 1048576 values. -/
import Derived.Test.YtpcmibimglkocaaDoorEncode
import Derived.Test.YtpcmibimglkocaaDoorOrdl
namespace Go.Proofs.YtpcmibimglkocaaDoor
open Go.RowKit

theorem dtsC_of : ∀ (ds : List Dt) (j : Nat) (u : Value), (dtsC ds)[j]? = some u → ∃ i d, ds[i]? = some d ∧ ((j = i * 3 ∧ u = .int .i64 d.kind) ∨ (j = i * 3 + 1 ∧ u = .int .i64 d.i) ∨ (j = i * 3 + 2 ∧ u = .string ⟨d.s.toArray⟩))
  | [], j, u, h => by simp [dtsC] at h
  | e :: ds, j, u, h => by
    have hc : dtsC (e :: ds) = [Value.int .i64 e.kind, .int .i64 e.i, .string ⟨e.s.toArray⟩] ++ dtsC ds := rfl
    rw [hc] at h
    match j, h with
    | 0, h => exact ⟨0, e, rfl, Or.inl ⟨rfl, by simpa using h.symm⟩⟩
    | 1, h => exact ⟨0, e, rfl, Or.inr (Or.inl ⟨rfl, by simpa using h.symm⟩)⟩
    | 2, h => exact ⟨0, e, rfl, Or.inr (Or.inr ⟨rfl, by simpa using h.symm⟩)⟩
    | j + 3, h =>
      rw [List.getElem?_append_right (by simp)] at h
      obtain ⟨i, d, hi, hd⟩ := dtsC_of ds j u (by simpa using h)
      refine ⟨i + 1, d, by simpa using hi, ?_⟩
      rcases hd with ⟨h1, h2⟩ | ⟨h1, h2⟩ | ⟨h1, h2⟩
      · exact Or.inl ⟨by omega, h2⟩
      · exact Or.inr (Or.inl ⟨by omega, h2⟩)
      · exact Or.inr (Or.inr ⟨by omega, h2⟩)

theorem src_row {w : World} {v : Value} {ds : List Dt} (h : RowAt w v ds) : Src w 3 v ds.length (dtsC ds) := by
  refine ⟨dtsC_len ds, dtsC_one ds, ?_⟩
  rcases h with ⟨a, c, rfl, hn, rfl⟩ | ⟨b, off, c, rfl, hc, hd⟩
  · cases a with
    | none => rw [hn rfl]; exact Or.inl ⟨rfl, rfl⟩
    | some ad => exact Or.inr ⟨ad, c, rfl, by simp [dtsC]⟩
  · refine Or.inr ⟨⟨b, off, none⟩, c, rfl, fun j u hj => ?_⟩
    have hadd : (⟨b, off, none⟩ : Addr).add j = ⟨b, off + j, none⟩ := by unfold Addr.add; split <;> simp_all
    rw [hadd]
    obtain ⟨i, d, hi, hu⟩ := dtsC_of ds j u hj
    obtain ⟨h0, h1, h2⟩ := hd i d hi
    rcases hu with ⟨rfl, rfl⟩ | ⟨rfl, rfl⟩ | ⟨rfl, rfl⟩
    · exact h0
    · rw [← Nat.add_assoc]; exact h1
    · rw [← Nat.add_assoc]; exact h2

set_option maxRecDepth 100000
theorem copy_any {w : World} {v : Value} {ds : List Dt} (h : RowAt w v ds) (hn : ds.length ≤ 4398046511103) :
    Calls Tryd.prog 15 #[v] w fun e w' => (∃ a c, e = .returned (.slice a ds.length c) ∧ w'.ownsRow w.heap.size 32 3 (.slice a ds.length c) ds.length (dtsC ds)) ∧ Fr [] w w' := by
  obtain ⟨i0, hi, hz0, hz1, hz2⟩ := info_parts info32
  have HS := Lib.hid (src_row h)
  obtain ⟨aa, ac, rfl, hac⟩ := h.shape
  clear h
  go_enter Tryd.func15, Tryd.ntmps15
  go_wp2_with (at_builtin; refine wpList_append_src _ rfl (.tmp 3) (.tmp 4) 23 rfl w.heap.size 32 i0 _ 3 32 Tryd.underlying23 hi hz0 hz1 hz2 rfl (by decide) _ _ _ rfl (World.ownsRow_made w #[] 0 (Nat.le_refl _) (by decide) rfl) _ ds.length _ rfl (HS.out.alloc _) (by unfold maxLen; omega) (by omega) (by simp) ?_; intro v' w1 hown hgrow _)
  go_wp2
  go_ret
  have ho : w1.ownsRow w.heap.size 32 3 v' ds.length (dtsC ds) := by simpa using hown
  obtain ⟨a, c, rfl⟩ := ownsRow_shape ho
  exact ⟨⟨a, c, rfl, ho⟩, ((Fr.refl [] w).alloc _).fresh hgrow (fun r e => Or.inl (by simp [Act.eval, Value.ownBlock] at e; omega))⟩

theorem encR_append (a b : List Dt) : encR (a ++ b) = encR a ++ encR b := by simp [encR]
theorem encR_nil_iff (a : List Dt) : encR a = [] ↔ a = [] := by
  cases a with
  | nil => simp [encR]
  | cons d a => simp [encR, encV]

theorem encE_two' {ds : List Dt} (h : (encE ds).2 = 0) : (ds.length ≤ 1000 ∧ ∀ d ∈ ds, rightB d = true) ∧ (encE ds).1 = encR ds := by
  unfold encE at *
  split at h
  · cases h
  · rename_i h1
    split at h
    · rename_i h2
      refine ⟨⟨by omega, List.all_eq_true.1 h2⟩, ?_⟩
      rw [if_neg h1, if_pos h2]
    · cases h

set_option maxHeartbeats 3200000 in
theorem parts_walk {w : World} {v v' : Value} {a b : List Dt} (h : RowAt w v a) (h' : RowAt w v' b) (ho : ∀ d ∈ a, DtOk d) (ho' : ∀ d ∈ b, DtOk d) (hm : a.length ≤ 1048576) (hm' : b.length ≤ 1048576) (hT : Lib.Utf8Tabs 0 1 w) (hM : SomeMax w) :
    Calls Tryd.prog 6 #[v, v'] w fun e w' => e = .returned (.bool true) ∧ Below w.heap.size w w' := by
  obtain ⟨i0, hi, hz0, hz1, hz2⟩ := info_parts info32
  have hTf : ∀ wi, Fr [] w wi → Lib.Utf8Tabs 0 1 wi := fun wi f => tabs_fr hT f (by simp) (by simp)
  have hc := copy_any h (by omega)
  have hS := fun wi (f : Fr [] w wi) => src_row (h'.fr f)
  have h1 := fun wi (f : Fr [] w wi) => encode_any (h.fr f) ho (by omega) (hTf wi f) (hM.fr f)
  have h2 := fun wi (f : Fr [] w wi) => encode_any (h'.fr f) ho' (by omega) (hTf wi f) (hM.fr f)
  have hok2 : ∀ d ∈ a ++ b, DtOk d := fun d hd => (List.mem_append.1 hd).elim (ho d) (ho' d)
  have h3 := fun wi (f : Fr [] w wi) q (hq : RowAt wi q (a ++ b)) => encode_any hq hok2 (by simp; omega) (hTf wi f) (hM.fr f)
  have h4 := fun wi (_ : Fr [] w wi) q (hq : RowAt wi q (a ++ b)) => rencode_any hq hok2 (by simp; omega)
  obtain ⟨aa, ac, rfl, -⟩ := h.shape
  obtain ⟨ba, bc, rfl, -⟩ := h'.shape
  have HS := Lib.hid hS
  have key : (encE a).2 = 0 → (encE b).2 = 0 → (encE (a ++ b)).2 = 0 → (encE (a ++ b)).1 = (encE a).1 ++ (encE b).1 ∧ (((encE a).1 = []) ↔ a = []) ∧ (encE a).1.length ≤ 2003000 ∧ (encE b).1.length ≤ 2003000 := by
    intro x y z
    obtain ⟨x1, x2⟩ := encE_two' x
    obtain ⟨y1, y2⟩ := encE_two' y
    obtain ⟨z1, z2⟩ := encE_two' z
    have l1 := encR_len a x1.2
    have l2 := encR_len b y1.2
    have := x1.1
    have := y1.1
    rw [x2, y2, z2, encR_append]
    exact ⟨rfl, encR_nil_iff a, by omega, by omega⟩
  have HKey := Lib.hid key
  clear h h' hT hM hTf ho ho' hok2 hS key
  go_enter Tryd.func6, Tryd.ntmps6
  go_upto_region 2 with (first | (go_at_call 15; refine hc.mono ?_; rintro e w1 ⟨⟨ca, cc, rfl, oc⟩, f1⟩; have OC := Lib.hid oc; have q1 := f1.size; clear oc) | (at_builtin; refine wpList_append_src _ rfl (.tmp 15) (.tmp 16) 23 rfl w.heap.size 32 i0 _ 3 32 Tryd.underlying23 hi hz0 hz1 hz2 rfl (by decide) _ _ _ rfl OC.out _ b.length _ rfl (HS.out _ f1) (by unfold maxLen; omega) (by omega) (by omega) ?_; intro v2 w2 hown2 hgrow2 _))
  have f2 := f1.fresh hgrow2 (fun r e => Or.inl (OC.out.lt r e).1)
  have hown3 : w2.ownsRow w.heap.size 32 3 v2 (a ++ b).length (dtsC (a ++ b)) := by
    have : dtsC (a ++ b) = dtsC a ++ dtsC b := by simp [dtsC]
    rw [this, List.length_append]; exact hown2
  have hB := rowAt_own hown3
  obtain ⟨va, vc, hshape⟩ := ownsRow_shape hown3
  clear hown2 hgrow2 hown3
  subst hshape
  generalize (a ++ b).length = n at *
  have HB := Lib.hid hB
  clear hB
  generalize encE a = pa at *
  generalize encE b = pb at *
  generalize encE (a ++ b) = pc at *
  obtain ⟨la, ca⟩ := pa
  obtain ⟨lb, cb⟩ := pb
  obtain ⟨lc, cc'⟩ := pc
  simp only at h1 h2 h3 h4
  by_cases za : ca = 0
  · subst za
    by_cases zb : cb = 0
    · subst zb
      by_cases zc : cc' = 0
      · subst zc
        obtain ⟨k1, k2, k3, k4⟩ := HKey.out rfl rfl rfl
        simp only at k1 k2 k3 k4
        have hcat : (⟨la.toArray⟩ : ByteArray) ++ (⟨lb.toArray⟩ : ByteArray) = ⟨lc.toArray⟩ := by
          rw [k1]
          apply ByteArray.ext
          simp
        have hs1 : (⟨la.toArray⟩ : ByteArray).size ≤ 2003000 := by rw [size_mk]; exact k3
        have hs2 : (⟨lb.toArray⟩ : ByteArray).size ≤ 2003000 := by rw [size_mk]; exact k4
        have hs3 : ((⟨la.toArray⟩ : ByteArray).size = 0 ∧ a.length = 0) ∨ (0 < (⟨la.toArray⟩ : ByteArray).size ∧ 0 < a.length) := by
          rw [size_mk]
          by_cases ha : a = []
          · subst ha; rw [k2.2 rfl]; simp
          · have h1 : la ≠ [] := fun e => ha (k2.1 e)
            exact Or.inr ⟨List.length_pos_iff.2 h1, List.length_pos_iff.2 ha⟩
        generalize hS : (⟨la.toArray⟩ : ByteArray) = S at *
        generalize hR : (⟨lb.toArray⟩ : ByteArray) = R at *
        generalize hU : (⟨lc.toArray⟩ : ByteArray) = U at *
        clear hS hR hU k1 k2 k3 k4 HKey
        rcases hs3 with ⟨e1, e2⟩ | ⟨e1, e2⟩
        · have e1' : S.size ≤ 0 := by omega
          have e2' : a.length ≤ 0 := by omega
          clear e1 e2
          go_upto_region 3 with (go_at_call 14; refine (h1 _ f2).mono ?_; rintro e w3 ⟨rfl, f3⟩)
          go_upto_region 4 with (go_at_call 14; refine (h2 _ (f2.trans f3)).mono ?_; rintro e w4 ⟨rfl, f4⟩)
          go_upto_region 5 with (go_at_call 14; refine (h3 _ ((f2.trans f3).trans f4) _ (HB.out.fr (f3.trans f4))).mono ?_; rintro e w5 ⟨rfl, f5⟩)
          go_upto_region 6 with (go_at_call 13; refine (h4 _ (((f2.trans f3).trans f4).trans f5) _ (HB.out.fr ((f3.trans f4).trans f5))).mono ?_; rintro e w6 ⟨rfl, f6⟩)
          go_wp2_with fail
          go_ret
          exact ⟨ret_bool (by rw [decide_eq_false (by omega), decide_eq_false (by omega)]; rfl), ((((f2.trans f3).trans f4).trans f5).trans f6).below (Nat.le_refl _) (by simp)⟩
        · skip
          go_upto_region 3 with (go_at_call 14; refine (h1 _ f2).mono ?_; rintro e w3 ⟨rfl, f3⟩)
          go_upto_region 4 with (go_at_call 14; refine (h2 _ (f2.trans f3)).mono ?_; rintro e w4 ⟨rfl, f4⟩)
          go_upto_region 5 with (go_at_call 14; refine (h3 _ ((f2.trans f3).trans f4) _ (HB.out.fr (f3.trans f4))).mono ?_; rintro e w5 ⟨rfl, f5⟩)
          go_upto_region 6 with (go_at_call 13; refine (h4 _ (((f2.trans f3).trans f4).trans f5) _ (HB.out.fr ((f3.trans f4).trans f5))).mono ?_; rintro e w6 ⟨rfl, f6⟩)
          go_wp2_with fail
          go_ret
          exact ⟨rfl, ((((f2.trans f3).trans f4).trans f5).trans f6).below (Nat.le_refl _) (by simp)⟩
      · have zz : (cc' == 0) = false := by simpa using zc
        clear HKey zc
        go_upto_region 3 with (go_at_call 14; refine (h1 _ f2).mono ?_; rintro e w3 ⟨rfl, f3⟩)
        go_upto_region 4 with (go_at_call 14; refine (h2 _ (f2.trans f3)).mono ?_; rintro e w4 ⟨rfl, f4⟩)
        go_upto_region 5 with (go_at_call 14; refine (h3 _ ((f2.trans f3).trans f4) _ (HB.out.fr (f3.trans f4))).mono ?_; rintro e w5 ⟨rfl, f5⟩)
        go_upto_region 6 with (go_at_call 13; refine (h4 _ (((f2.trans f3).trans f4).trans f5) _ (HB.out.fr ((f3.trans f4).trans f5))).mono ?_; rintro e w6 ⟨rfl, f6⟩)
        go_wp2_with fail
        all_goals go_ret
        all_goals exact ⟨rfl, ((((f2.trans f3).trans f4).trans f5).trans f6).below (Nat.le_refl _) (by simp)⟩
    · have zz : (cb == 0) = false := by simpa using zb
      clear HKey zb
      go_upto_region 3 with (go_at_call 14; refine (h1 _ f2).mono ?_; rintro e w3 ⟨rfl, f3⟩)
      go_upto_region 4 with (go_at_call 14; refine (h2 _ (f2.trans f3)).mono ?_; rintro e w4 ⟨rfl, f4⟩)
      go_upto_region 5 with (go_at_call 14; refine (h3 _ ((f2.trans f3).trans f4) _ (HB.out.fr (f3.trans f4))).mono ?_; rintro e w5 ⟨rfl, f5⟩)
      go_upto_region 6 with (go_at_call 13; refine (h4 _ (((f2.trans f3).trans f4).trans f5) _ (HB.out.fr ((f3.trans f4).trans f5))).mono ?_; rintro e w6 ⟨rfl, f6⟩)
      go_wp2_with fail
      all_goals go_ret
      all_goals exact ⟨rfl, ((((f2.trans f3).trans f4).trans f5).trans f6).below (Nat.le_refl _) (by simp)⟩
  · have zz : (ca == 0) = false := by simpa using za
    clear HKey za
    go_upto_region 3 with (go_at_call 14; refine (h1 _ f2).mono ?_; rintro e w3 ⟨rfl, f3⟩)
    go_upto_region 4 with (go_at_call 14; refine (h2 _ (f2.trans f3)).mono ?_; rintro e w4 ⟨rfl, f4⟩)
    go_upto_region 5 with (go_at_call 14; refine (h3 _ ((f2.trans f3).trans f4) _ (HB.out.fr (f3.trans f4))).mono ?_; rintro e w5 ⟨rfl, f5⟩)
    go_upto_region 6 with (go_at_call 13; refine (h4 _ (((f2.trans f3).trans f4).trans f5) _ (HB.out.fr ((f3.trans f4).trans f5))).mono ?_; rintro e w6 ⟨rfl, f6⟩)
    go_wp2_with fail
    all_goals go_ret
    all_goals exact ⟨rfl, ((((f2.trans f3).trans f4).trans f5).trans f6).below (Nat.le_refl _) (by simp)⟩
end Go.Proofs.YtpcmibimglkocaaDoor
