/- The walk of RowOrder. No condition but the size that can be read, and that the tables of package utf8 and the variable MaxLen lie as their text lays them. -/
import Derived.Test.YtpcmibimglkocaaDoorEncode
import Derived.Test.YtpcmibimglkocaaDoorOrdl
import Derived.Test.YtpcmibimglkocaaDoorRcmp
import Derived.WalkLawsBesides
namespace Go.Proofs.YtpcmibimglkocaaDoor
open Go.RowKit
open Go.Lib (compareBytes)

theorem encE_two {ds : List Dt} : (encE ds).2 = 0 → (∀ d ∈ ds, DtOk d) → (∀ d ∈ ds, rightB d = true ∧ fits64 d.i) ∧ (encE ds).1 = encR ds := by
  intro h hok
  unfold encE at *
  split at h
  · cases h
  · rename_i h1
    split at h
    · rename_i h2
      refine ⟨fun d hd => ⟨List.all_eq_true.1 h2 d hd, (hok d hd).1⟩, ?_⟩
      rw [if_neg h1, if_pos h2]
    · cases h

set_option maxRecDepth 100000
set_option maxHeartbeats 3200000 in
theorem order_walk {w : World} {v v' : Value} {a b : List Dt} (h : RowAt w v a) (h' : RowAt w v' b) (ho : ∀ d ∈ a, DtOk d) (ho' : ∀ d ∈ b, DtOk d) (hm : a.length ≤ 140737488351232) (hm' : b.length ≤ 140737488351232) (hT : Lib.Utf8Tabs 0 1 w) (hM : SomeMax w) :
    Calls Tryd.prog 7 #[v, v'] w fun e w' => e = .returned (.bool true) ∧ Below w.heap.size w w' := by
  have h1 := encode_any h ho hm hT hM
  have h2 := fun wi (f : Fr [] w wi) => encode_any (h'.fr f) ho' hm' (tabs_fr hT f (by simp) (by simp)) (hM.fr f)
  have h3 := fun wi (f : Fr [] w wi) => rencode_any (h.fr f) ho hm
  have h4 := fun wi (f : Fr [] w wi) => rencode_any (h'.fr f) ho' hm'
  have h5 := fun wi (f : Fr [] w wi) => rowcmp_any (h.fr f) (h'.fr f) hm
  have key : (encE a).2 = 0 → (encE b).2 = 0 → cmpR a b = compareBytes (encE a).1 (encE b).1 := by
    intro ha hb
    obtain ⟨x1, x2⟩ := encE_two ha ho
    obtain ⟨y1, y2⟩ := encE_two hb ho'
    rw [x2, y2, cmpR_enc a b x1 y1]
  have hl : ∀ l m : List UInt8, Op.bytesLess (⟨l.toArray⟩ : ByteArray).toList (⟨m.toArray⟩ : ByteArray).toList = decide (compareBytes l m < 0) := fun l m => by
    rw [ByteArray.toList_eq, ByteArray.toList_eq]; exact less_cmpS _ _
  have he : ∀ l m : List UInt8, ((⟨l.toArray⟩ : ByteArray).toList == (⟨m.toArray⟩ : ByteArray).toList) = decide (compareBytes l m = 0) := fun l m => by
    rw [ByteArray.toList_eq, ByteArray.toList_eq]
    show (l == m) = _
    by_cases hlm : l = m
    · subst hlm; simp [cmpS_self]
    · have : ¬ compareBytes l m = 0 := fun e => hlm (cmpS_eq e)
      simp [hlm, this]
  clear h h' hT hM
  generalize encE a = pa at *
  generalize encE b = pb at *
  obtain ⟨la, ca⟩ := pa
  obtain ⟨lb, cb⟩ := pb
  simp only at h1 h2 h3 h4 key
  have hl' := hl la lb
  have he' := he la lb
  clear hl he
  by_cases ha : ca = 0
  · subst ha
    by_cases hb : cb = 0
    · subst hb
      have hc := key rfl rfl
      rw [hc] at h5
      have hrg := cmpS_range la lb
      generalize compareBytes la lb = n at *
      generalize hS : (⟨la.toArray⟩ : ByteArray) = S at *
      generalize hR : (⟨lb.toArray⟩ : ByteArray) = R at *
      clear hS hR key hc
      rcases hrg with rfl | rfl | rfl
      all_goals
        have hl2 : Op.bytesLess S.toList R.toList = decide _ := hl'
        have he2 : (S.toList == R.toList) = decide _ := he'
        clear hl' he'
        first | rw [show decide ((-1 : Int) < 0) = true from rfl] at hl2 | rw [show decide ((0 : Int) < 0) = false from rfl] at hl2 | rw [show decide ((1 : Int) < 0) = false from rfl] at hl2
        first | rw [show decide ((-1 : Int) = 0) = false from rfl] at he2 | rw [show decide ((0 : Int) = 0) = true from rfl] at he2 | rw [show decide ((1 : Int) = 0) = false from rfl] at he2
        go_enter Tryd.func7, Tryd.ntmps7
        go_upto_region 2 with (go_at_call 14; refine h1.mono ?_; rintro e w1 ⟨rfl, f1⟩)
        go_upto_region 3 with (go_at_call 14; refine (h2 _ f1).mono ?_; rintro e w2 ⟨rfl, f2⟩)
        go_upto_region 4 with (go_at_call 13; refine (h3 _ (f1.trans f2)).mono ?_; rintro e w3 ⟨rfl, f3⟩)
        go_upto_region 5 with (go_at_call 13; refine (h4 _ ((f1.trans f2).trans f3)).mono ?_; rintro e w4 ⟨rfl, f4⟩)
        go_wp2_with (go_at_call 16; refine (h5 _ (((f1.trans f2).trans f3).trans f4)).mono ?_; rintro e w5 ⟨rfl, f5⟩)
        go_ret
        exact ⟨rfl, ((((f1.trans f2).trans f3).trans f4).trans f5).below (Nat.le_refl _) (by simp)⟩
    · have hbb : (cb == 0) = false := by simpa using hb
      clear key h5
      go_enter Tryd.func7, Tryd.ntmps7
      go_upto_region 2 with (go_at_call 14; refine h1.mono ?_; rintro e w1 ⟨rfl, f1⟩)
      go_upto_region 3 with (go_at_call 14; refine (h2 _ f1).mono ?_; rintro e w2 ⟨rfl, f2⟩)
      go_upto_region 4 with (go_at_call 13; refine (h3 _ (f1.trans f2)).mono ?_; rintro e w3 ⟨rfl, f3⟩)
      go_upto_region 5 with (go_at_call 13; refine (h4 _ ((f1.trans f2).trans f3)).mono ?_; rintro e w4 ⟨rfl, f4⟩)
      go_wp2_with fail
      go_ret
      exact ⟨rfl, (((f1.trans f2).trans f3).trans f4).below (Nat.le_refl _) (by simp)⟩
  · have haa : (ca == 0) = false := by simpa using ha
    clear key h5
    go_enter Tryd.func7, Tryd.ntmps7
    go_upto_region 2 with (go_at_call 14; refine h1.mono ?_; rintro e w1 ⟨rfl, f1⟩)
    go_upto_region 3 with (go_at_call 14; refine (h2 _ f1).mono ?_; rintro e w2 ⟨rfl, f2⟩)
    go_upto_region 4 with (go_at_call 13; refine (h3 _ (f1.trans f2)).mono ?_; rintro e w3 ⟨rfl, f3⟩)
    go_upto_region 5 with (go_at_call 13; refine (h4 _ ((f1.trans f2).trans f3)).mono ?_; rintro e w4 ⟨rfl, f4⟩)
    go_wp2_with fail
    go_ret
    exact ⟨rfl, (((f1.trans f2).trans f3).trans f4).below (Nat.le_refl _) (by simp)⟩
end Go.Proofs.YtpcmibimglkocaaDoor
