/- The walk of RowOwn. No condition but the size that can be read, and that the tables of package utf8 lie as its text lays them. -/
import Derived.Test.YtpcmibimglkocaaDoorRencode
namespace Go.Proofs.YtpcmibimglkocaaDoor
open Go.RowKit

theorem encE_ok {ds : List Dt} (h : (encE ds).2 = 0) : ds.length ≤ 1000 ∧ (∀ d ∈ ds, rightB d = true) ∧ (encE ds).1 = encR ds := by
  unfold encE at *
  split at h
  · cases h
  · rename_i h1
    split at h
    · rename_i h2
      refine ⟨by omega, List.all_eq_true.1 h2, ?_⟩
      rw [if_neg h1, if_pos h2]
    · cases h

def OwnR (w1 w3 : World) (aa : Option Addr) (n ac : Nat) (a29 : Value) (wr : World) : Prop :=
  ∃ k : Nat, k ≤ n ∧ a29 = .int .i64 k ∧ (∃ xs, wr.ownsRow w1.heap.size 32 3 (.slice aa n ac) n xs) ∧ Fr (Value.slice aa n ac).ownBlock.toList w3 wr

theorem own_some {w : World} {base n c : Nat} {a : Option Addr} {xs : List Value} {t s : Nat} (h : w.ownsRow base t s (.slice a n c) n xs) (hn : 0 < n) : ∃ g, a = some ⟨g, 0, none⟩ := by
  rcases h.2 with ⟨h, h0⟩ | ⟨g, cap, cur, h, -⟩
  · omega
  · simp only [Value.slice.injEq] at h
    exact ⟨g, h.1⟩

theorem own_cell {w : World} {base n c g j : Nat} {xs : List Value} {t s : Nat} (h : w.ownsRow base t s (.slice (some ⟨g, 0, none⟩) n c) n xs) (hj : j < n * s) : ∃ v, w.cell? ⟨g, j, none⟩ = some v := by
  have := h.cellAt j hj
  rw [this]
  have hl : j < xs.length := by rw [h.1]; exact hj
  exact ⟨xs[j], List.getElem?_eq_getElem hl⟩

set_option maxRecDepth 100000
set_option maxHeartbeats 3200000 in
theorem own_walk {w : World} {v : Value} {ds : List Dt} (h : RowAt w v ds) (hok : ∀ d ∈ ds, DtOk d) (hm : ds.length ≤ 140737488351232) (hT : Lib.Utf8Tabs 0 1 w) :
    Calls Tryd.prog 4 #[v] w fun e w' => e = .returned (.bool true) ∧ Below w.heap.size w w' := by
  have h1 := rencode_any h hok hm
  by_cases hz : (encE ds).2 = 0
  · obtain ⟨hl, hall, he1⟩ := encE_ok hz
    have hrt := rowD_enc ds 1000 hl (fun d hd => ⟨hall d hd, (hok d hd).1⟩)
    have hsz := encR_len ds hall
    rw [he1, hz] at h1
    have hd : ∀ wi, Lib.Utf8Tabs 0 1 wi → Calls Tryd.prog 10 #[.string ⟨(encR ds).toArray⟩] wi fun e w' => (∃ a c, e = .returned (.tuple #[.slice a ds.length c, .int .i64 0]) ∧ w'.ownsRow wi.heap.size 32 3 (.slice a ds.length c) ds.length (dtsC ds)) ∧ Fr [] wi w' := fun wi hti => (decode_any ⟨(encR ds).toArray⟩ wi (by rw [size_mk]; omega) hti).mono fun e w' ⟨he, f⟩ => ⟨by
      have e2 : (⟨(encR ds).toArray⟩ : ByteArray).data.toList = encR ds := rfl
      unfold DecIs at he; rw [e2, hrt] at he; obtain ⟨v, he, ho⟩ := he
      obtain ⟨a, c, rfl⟩ := ownsRow_shape ho
      exact ⟨a, c, he, ho⟩, f⟩
    obtain ⟨i0, hi, hz0, hz1, hz2⟩ := info_parts info32
    obtain ⟨ra, rc, rfl, hrc⟩ := h.shape
    have H := Lib.hid h
    have HT := Lib.hid hT
    have hl1 : ds.length ≤ 1000 := hl
    clear h hT hz hrt hsz hall he1 hl
    go_enter Tryd.func4, Tryd.ntmps4
    go_upto_region 5 with (first | (go_at_call 13; refine h1.mono ?_; rintro e w1 ⟨rfl, f1⟩) | (go_at_call 10; refine (hd _ (tabs_fr HT.out f1 (by simp) (by simp))).mono ?_; rintro e w2 ⟨⟨aa, ac, rfl, oa⟩, f2⟩; have OA := Lib.hid oa; clear oa))
    go_wp2_with (go_at_call 10; refine (hd _ (tabs_fr HT.out (f1.trans f2) (by simp) (by simp))).mono ?_; rintro e w3 ⟨⟨ba, bc, rfl, ob⟩, f3⟩; have OB := Lib.hid ob; clear ob)
    have HA3 := Lib.hid (ownsRow_fr OA.out f3 (by simp))
    have hS : ∀ x ∈ (Value.slice aa ds.length ac).ownBlock.toList, w1.heap.size ≤ x ∧ x < w2.heap.size := fun x hx => OA.out.lt x (by simpa using hx)
    have HS := Lib.hid hS
    have q1 := f1.size
    have q2 := f2.size
    have q3 := f3.size
    clear hS
    go_loopw [29] (fun a29 wr => OwnR w1 w3 aa ds.length ac a29 wr) (fun a29 _ => ds.length - (intOf a29).toNat)
    case atStart => exact ⟨0, Nat.zero_le _, rfl, ⟨_, HA3.out⟩, Fr.refl _ _⟩
    case round =>
      obtain ⟨k, hk, rfl, ⟨xs, hown⟩, hf⟩ := hrel
      have HO := Lib.hid hown
      have HF := Lib.hid hf
      clear hown hf
      by_cases hlt : k < ds.length
      · obtain ⟨g, hg⟩ := own_some HO.out (by omega)
        subst hg
        have p0 := own_cell HO.out (j := k * 3) (by omega)
        have p1 := own_cell HO.out (j := k * 3 + 1) (by omega)
        have p2 := own_cell HO.out (j := k * 3 + 2) (by omega)
        obtain ⟨v0, p0⟩ := p0
        obtain ⟨v1, p1⟩ := p1
        obtain ⟨v2, p2⟩ := p2
        have z0 := HO.out.frozenAt (k * 3)
        have z1 := HO.out.frozenAt (k * 3 + 1)
        have z2 := HO.out.frozenAt (k * 3 + 2)
        go_wp2_with fail
        go_roundw
        case rel =>
          obtain ⟨s1, e1⟩ := HO.out.stored (k * 3) (.int .i64 9)
          obtain ⟨s2, e2⟩ := s1.stored (k * 3 + 1) (.int .i64 0)
          obtain ⟨s3, e3⟩ := s2.stored (k * 3 + 2) (.string ⟨#[]⟩)
          exact ⟨k + 1, by omega, by go_num, ⟨_, s3⟩, ((HF.out.trans (Fr.grown e1)).trans (Fr.grown e2)).trans (Fr.grown e3)⟩
        case measure => simp [intOf]; omega
      · have HFw := Lib.hid (((f1.trans f2).trans f3).past HF.out (fun x hx => Or.inl (by have := HS.out x hx; omega)))
        have q4 := HF.out.size
        go_wp2_with (at_builtin; refine wpList_append_own _ rfl (.tmp 37) (.tmp 39) 23 rfl w1.heap.size 32 i0 _ 3 32 Tryd.underlying23 hi hz0 hz1 hz2 rfl (by decide) _ _ _ rfl (HO.out.alloc _) ⟨wr.heap.size, 0, none⟩ 1 1 [.int .i64 8, .int .i64 0, .string ⟨#[]⟩] rfl rfl (cell_three_new _ _ _ _ _) (dtsC_one' ⟨8, 0, []⟩) (by unfold maxLen; omega) (by omega) (by simp; omega) ?_; intro v4 w4 hown4 hgrow4 _)
        obtain ⟨na, nc, hshape⟩ := ownsRow_shape hown4
        subst hshape
        have HFF := Lib.hid ((HF.out.alloc (.cells #[.int .i64 8, .int .i64 0, .string ⟨#[]⟩] 32)).trans (Fr.grown hgrow4))
        have HFw4 := ((f1.trans f2).trans f3).past HFF.out (fun x hx => Or.inl (by have := HS.out x hx; omega))
        have hrb := rowAt_own (ownsRow_fr OB.out HFF.out (fun x hx => (HS.out x hx).2))
        have hra := H.out.fr HFw4
        have hsm : Calls Tryd.prog 12 #[.slice ba ds.length bc, .slice ra ds.length rc] w4 fun e w' => e = .returned (.bool true) ∧ Fr [] w4 w' := (rsame_any hrb hra (by omega)).mono fun e w' ⟨he, f⟩ => ⟨by rw [he, cmpR_self]; rfl, f⟩
        clear hrb hra
        go_wp2_with (go_at_call 12; refine hsm.mono ?_; rintro e w5 ⟨rfl, f5⟩)
        go_ret
        exact ⟨rfl, (HFw4.trans f5).below (Nat.le_refl _) (by simp)⟩
  · have hb : ((encE ds).2 == 0) = false := by simpa using hz
    clear hz
    go_enter Tryd.func4, Tryd.ntmps4
    go_wp2_with (go_at_call 13; refine h1.mono ?_; rintro e w1 ⟨rfl, f1⟩)
    go_ret
    exact ⟨rfl, f1.below (Nat.le_refl _) (by simp)⟩
end Go.Proofs.YtpcmibimglkocaaDoor
