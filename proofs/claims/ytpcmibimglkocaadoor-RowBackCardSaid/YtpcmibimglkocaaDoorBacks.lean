/- The walk of RowBack. No condition but the size that can be read, and that the tables of package utf8 and the variable MaxLen lie as their text lays them. -/
import Derived.Test.YtpcmibimglkocaaDoorEncode
import Derived.Test.YtpcmibimglkocaaDoorBack
import Derived.Test.YtpcmibimglkocaaDoorRcmp
namespace Go.Proofs.YtpcmibimglkocaaDoor
open Go.RowKit

theorem encE_three {ds : List Dt} (h : (encE ds).2 = 0) : ds.length ≤ 1000 ∧ (∀ d ∈ ds, rightB d = true) ∧ (encE ds).1 = encR ds := by
  unfold encE at *
  split at h
  · cases h
  · rename_i h1
    split at h
    · rename_i h2
      refine ⟨by omega, List.all_eq_true.1 h2, ?_⟩
      rw [if_neg h1, if_pos h2]
    · cases h

theorem encE_of {ds : List Dt} (h1 : ds.length ≤ 1000) (h2 : ∀ d ∈ ds, rightB d = true) : encE ds = (encR ds, 0) := by
  rw [encE, if_neg (by omega), if_pos (List.all_eq_true.2 h2)]

theorem dec_none {s : ByteArray} {w : World} (hs : s.size ≤ 140737488351232) (hT : Lib.Utf8Tabs 0 1 w) (hR : rowD 1000 s.data.toList = none) :
    Calls Tryd.prog 10 #[.string s] w fun e w' => e = .returned (.tuple #[.slice none 0 0, .int .i64 20]) ∧ Fr [] w w' :=
  (decode_any s w hs hT).mono fun e w' ⟨he, f⟩ => ⟨by unfold DecIs at he; rw [hR] at he; exact he, f⟩
theorem dec_some {s : ByteArray} {w : World} {ds : List Dt} (hs : s.size ≤ 140737488351232) (hT : Lib.Utf8Tabs 0 1 w) (hR : rowD 1000 s.data.toList = some ds) :
    Calls Tryd.prog 10 #[.string s] w fun e w' => (∃ a c, e = .returned (.tuple #[.slice a ds.length c, .int .i64 0]) ∧ RowAt w' (.slice a ds.length c) ds) ∧ Fr [] w w' :=
  (decode_any s w hs hT).mono fun e w' ⟨he, f⟩ => ⟨by
    unfold DecIs at he; rw [hR] at he; obtain ⟨v, he, ho⟩ := he
    obtain ⟨a, c, rfl⟩ := ownsRow_shape ho
    exact ⟨a, c, he, rowAt_own ho⟩, f⟩

set_option maxRecDepth 100000
set_option maxHeartbeats 3200000 in
theorem back_walk {w : World} {v : Value} {ds : List Dt} {s : ByteArray} (h : RowAt w v ds) (ho : ∀ d ∈ ds, DtOk d) (hm : ds.length ≤ 140737488351232) (hs : s.size ≤ 140737488351232) (hT : Lib.Utf8Tabs 0 1 w) (hM : SomeMax w) :
    Calls Tryd.prog 8 #[v, .string s] w fun e w' => e = .returned (.bool true) ∧ Below w.heap.size w w' := by
  have hTf : ∀ wi, Fr [] w wi → Lib.Utf8Tabs 0 1 wi := fun wi f => tabs_fr hT f (by simp) (by simp)
  have h1 := rencode_any h ho hm
  have h2 := fun wi (f : Fr [] w wi) => encode_any (h.fr f) ho hm (hTf wi f) (hM.fr f)
  have h5n := fun (hR : rowD 1000 s.data.toList = none) wi (f : Fr [] w wi) => dec_none hs (hTf wi f) hR
  have h5s := fun q (hR : rowD 1000 s.data.toList = some q) wi (f : Fr [] w wi) => dec_some hs (hTf wi f) hR
  have h6 : ∀ q (hR : rowD 1000 s.data.toList = some q) wi (f : Fr [] w wi) a c, RowAt wi (.slice a q.length c) q → Calls Tryd.prog 14 #[.slice a q.length c] wi fun e w' => e = .returned (.tuple #[.string s, .int .i64 0]) ∧ Fr [] wi w' := by
    intro q hR wi f a c hq
    obtain ⟨b1, b2, b3⟩ := rowD_back hR
    refine (encode_any hq (fun d hd => ⟨(b3 d hd).2.1, Nat.le_trans (b3 d hd).2.2 (by omega)⟩) (by omega) (hTf wi f) (hM.fr f)).mono fun e w' ⟨he, f'⟩ => ⟨?_, f'⟩
    rw [he, encE_of b2 (fun d hd => (b3 d hd).1), b1]
  have hvs := h.shape
  by_cases hz : (encE ds).2 = 0
  · obtain ⟨z1, z2, z3⟩ := encE_three hz
    have hrt := rowD_enc ds 1000 z1 (fun d hd => ⟨z2 d hd, (ho d hd).1⟩)
    have hsz := encR_len ds z2
    have h3 := fun wi (f : Fr [] w wi) => dec_some (s := ⟨(encR ds).toArray⟩) (w := wi) (by rw [size_mk]; omega) (hTf wi f) (show rowD 1000 (⟨(encR ds).toArray⟩ : ByteArray).data.toList = some ds from hrt)
    have h4 : ∀ wi (f : Fr [] w wi) a c, RowAt wi (.slice a ds.length c) ds → Calls Tryd.prog 16 #[.slice a ds.length c, v] wi fun e w' => e = .returned (.int .i64 0) ∧ Fr [] wi w' := fun wi f a c hq => (rowcmp_any hq (h.fr f) hm).mono fun e w' ⟨he, f'⟩ => ⟨by rw [he, cmpR_self], f'⟩
    rw [z3, hz] at h1
    simp only [z3, hz] at h2
    obtain ⟨va, vc, rfl, -⟩ := hvs
    clear h hT hM hTf hz z2 z3 hrt hsz ho
    cases hR : rowD 1000 s.data.toList with
    | none =>
      have h5 := h5n hR
      clear h5n h5s h6 hR
      go_enter Tryd.func8, Tryd.ntmps8
      go_upto_region 2 with (go_at_call 13; refine h1.mono ?_; rintro e w1 ⟨rfl, f1⟩)
      go_upto_region 3 with (go_at_call 14; refine (h2 _ f1).mono ?_; rintro e w2 ⟨rfl, f2⟩)
      go_upto_region 7 with (go_at_call 10; refine (h3 _ (f1.trans f2)).mono ?_; rintro e w3 ⟨⟨ba, bc, rfl, hbk⟩, f3⟩; have HBk := Lib.hid hbk; clear hbk)
      go_upto_region 9 with (go_at_call 16; refine (h4 _ ((f1.trans f2).trans f3) _ _ HBk.out).mono ?_; rintro e w4 ⟨rfl, f4⟩)
      go_wp2_with (go_at_call 10; refine (h5 _ (((f1.trans f2).trans f3).trans f4)).mono ?_; rintro e w5 ⟨rfl, f5⟩)
      go_ret
      exact ⟨rfl, ((((f1.trans f2).trans f3).trans f4).trans f5).below (Nat.le_refl _) (by simp)⟩
    | some q =>
      have h5 := h5s q hR
      have h7 := h6 q hR
      clear h5n h5s h6 hR
      go_enter Tryd.func8, Tryd.ntmps8
      go_upto_region 2 with (go_at_call 13; refine h1.mono ?_; rintro e w1 ⟨rfl, f1⟩)
      go_upto_region 3 with (go_at_call 14; refine (h2 _ f1).mono ?_; rintro e w2 ⟨rfl, f2⟩)
      go_upto_region 7 with (go_at_call 10; refine (h3 _ (f1.trans f2)).mono ?_; rintro e w3 ⟨⟨ba, bc, rfl, hbk⟩, f3⟩; have HBk := Lib.hid hbk; clear hbk)
      go_upto_region 9 with (go_at_call 16; refine (h4 _ ((f1.trans f2).trans f3) _ _ HBk.out).mono ?_; rintro e w4 ⟨rfl, f4⟩)
      go_upto_region 10 with (go_at_call 10; refine (h5 _ (((f1.trans f2).trans f3).trans f4)).mono ?_; rintro e w5 ⟨⟨qa, qc, rfl, hq⟩, f5⟩; have HQ := Lib.hid hq; clear hq)
      go_wp2_with (go_at_call 14; refine (h7 _ ((((f1.trans f2).trans f3).trans f4).trans f5) _ _ HQ.out).mono ?_; rintro e w6 ⟨rfl, f6⟩)
      go_ret
      exact ⟨rfl, (((((f1.trans f2).trans f3).trans f4).trans f5).trans f6).below (Nat.le_refl _) (by simp)⟩
  · have hb : ((encE ds).2 == 0) = false := by simpa using hz
    obtain ⟨va, vc, rfl, -⟩ := hvs
    clear h hT hM hTf hz ho
    generalize encE ds = p at *
    obtain ⟨l, c⟩ := p
    simp only at h1 h2 hb
    cases hR : rowD 1000 s.data.toList with
    | none =>
      have h5 := h5n hR
      clear h5n h5s h6 hR
      go_enter Tryd.func8, Tryd.ntmps8
      go_upto_region 2 with (go_at_call 13; refine h1.mono ?_; rintro e w1 ⟨rfl, f1⟩)
      go_upto_region 3 with (go_at_call 14; refine (h2 _ f1).mono ?_; rintro e w2 ⟨rfl, f2⟩)
      go_wp2_with (go_at_call 10; refine (h5 _ (f1.trans f2)).mono ?_; rintro e w5 ⟨rfl, f5⟩)
      go_ret
      exact ⟨rfl, ((f1.trans f2).trans f5).below (Nat.le_refl _) (by simp)⟩
    | some q =>
      have h5 := h5s q hR
      have h7 := h6 q hR
      clear h5n h5s h6 hR
      go_enter Tryd.func8, Tryd.ntmps8
      go_upto_region 2 with (go_at_call 13; refine h1.mono ?_; rintro e w1 ⟨rfl, f1⟩)
      go_upto_region 3 with (go_at_call 14; refine (h2 _ f1).mono ?_; rintro e w2 ⟨rfl, f2⟩)
      go_upto_region 10 with (go_at_call 10; refine (h5 _ (f1.trans f2)).mono ?_; rintro e w5 ⟨⟨qa, qc, rfl, hq⟩, f5⟩; have HQ := Lib.hid hq; clear hq)
      go_wp2_with (go_at_call 14; refine (h7 _ ((f1.trans f2).trans f5) _ _ HQ.out).mono ?_; rintro e w6 ⟨rfl, f6⟩)
      go_ret
      exact ⟨rfl, (((f1.trans f2).trans f5).trans f6).below (Nat.le_refl _) (by simp)⟩
end Go.Proofs.YtpcmibimglkocaaDoor
