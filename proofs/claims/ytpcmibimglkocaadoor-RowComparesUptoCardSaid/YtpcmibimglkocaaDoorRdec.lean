/- freshetref02.Decode. No condition but the size that can be read. -/
import Derived.Test.YtpcmibimglkocaaDoorDec
import Derived.Test.YtpcmibimglkocaaDoorRead
namespace Go.Proofs.YtpcmibimglkocaaDoor
open Go.RowKit

def RdecR (s : ByteArray) (w : World) (a4 a5 : Value) (wr : World) : Prop :=
  ∃ (p : Nat) (acc : List Dt), a5 = .int .i64 p ∧ p ≤ s.size ∧ acc.length ≤ 1000 ∧ rowD 1000 s.data.toList = (rowD (1000 - acc.length) (s.data.toList.drop p)).map (acc ++ ·) ∧
    wr.ownsRow w.heap.size 32 3 a4 acc.length (dtsC acc) ∧ Fr [] w wr

set_option maxRecDepth 100000
set_option maxHeartbeats 1600000 in
theorem rdecode_any (s : ByteArray) (w : World) (hs : s.size ≤ 140737488351232) :
    Calls Tryd.prog 11 #[.string s] w fun e w' => DecIs w s.data.toList e w' ∧ Fr [] w w' := by
  have hsl : s.data.toList.length = s.size := by rw [Array.length_toList]; rfl
  have HSL := Lib.hid hsl
  clear hsl
  obtain ⟨i0, hi, hz0, hz1, hz2⟩ := info_parts info32
  go_enter Tryd.func11, Tryd.ntmps11
  go_wp2_with fail
  go_loopw [4, 5] (fun a4 a5 wr => RdecR s w a4 a5 wr) (fun _ a5 _ => s.size - (intOf a5).toNat)
  case atStart => exact ⟨0, [], rfl, Nat.zero_le _, by simp, by simp, World.ownsRow_made w #[] 0 (Nat.le_refl _) (by decide) rfl, (Fr.refl _ _).alloc _⟩
  case round =>
    obtain ⟨p, acc, rfl, hp, hacc, hR, hown, hf⟩ := hrel
    obtain ⟨aa, ac, hshape⟩ := ownsRow_shape hown
    subst hshape
    have HR := Lib.hid hR
    have HF := Lib.hid hf
    have HO := Lib.hid hown
    clear hR hf hown
    by_cases hlt : p < s.size
    · have hne : s.data.toList.drop p ≠ [] := fun e => by have := HSL.out; have h2 := congrArg List.length e; rw [List.length_drop] at h2; simp at h2; omega
      have HNE := Lib.hid hne
      clear hne
      go_upto_region 5 with (go_at_call 22; refine (read_any s p _ hs hlt).mono ?_; rintro e w1 ⟨he, f1⟩; obtain ⟨hV, d, rfl⟩ | ⟨tt, d, hV, h1, h2, rfl⟩ := he)
      · have HN := Lib.hid (show rowD 1000 s.data.toList = none by rw [HR.out, rowD_none HNE.out hV]; rfl)
        clear hV
        go_wp2_with fail
        go_ret2
        exact ⟨DecIs.none HN.out, (HF.out.trans f1).alloc _⟩
      · by_cases hfull : acc.length = 1000
        · have HN := Lib.hid (show rowD 1000 s.data.toList = none by rw [HR.out, hfull, rowD_full HNE.out]; rfl)
          clear hV
          go_wp2_with fail
          go_ret2
          exact ⟨DecIs.none HN.out, (HF.out.trans f1).alloc _⟩
        · have hl : acc.length < 1000 := by omega
          have HN := Lib.hid (rowD_some HNE.out hV (show 0 < 1000 - acc.length by omega))
          clear hV hfull
          obtain ⟨x0, x1, x2, z0, z1, z2⟩ := blk3 (heap_alloc_new w1 (.cells #[.int .i64 d.kind, .int .i64 d.i, .string ⟨d.s.toArray⟩] 32))
          have HA := Lib.hid ((ownsRow_fr HO.out f1 (by simp)).alloc (.cells #[.int .i64 d.kind, .int .i64 d.i, .string ⟨d.s.toArray⟩] 32))
          have hf2 := (HF.out.trans f1).alloc (.cells #[.int .i64 d.kind, .int .i64 d.i, .string ⟨d.s.toArray⟩] 32)
          generalize w1.alloc (.cells #[.int .i64 d.kind, .int .i64 d.i, .string ⟨d.s.toArray⟩] 32) = w2 at *
          have k3 := hf2.size
          go_wp2_with (at_builtin; refine wpList_append_own _ rfl (.tmp 26) (.tmp 28) 23 rfl w.heap.size 32 i0 _ 3 32 Tryd.underlying23 hi hz0 hz1 hz2 rfl (by decide) _ _ _ rfl (HA.out.alloc _) ⟨w2.heap.size, 0, none⟩ 1 1 d.cells rfl rfl (cell_three_new _ _ _ _ _) (dtsC_one' d) (by unfold maxLen; omega) (by omega) (by simp; omega) ?_; intro v'' w3 hown3 hgrow3 _)
          go_wp2_with fail
          go_roundw
          case rel => exact ⟨tt, acc ++ [d], rfl, by omega, by simp; omega, by rw [HR.out, HN.out]; simp [Nat.sub_sub, Option.map_map]; rfl, by rw [dtsC_snoc]; simpa using hown3, (hf2.alloc _).fresh hgrow3 (fun r e => Or.inl (HO.out.lt r e).1)⟩
          case measure => simp [intOf]; omega
    · have HN := Lib.hid (show rowD 1000 s.data.toList = some acc by
        rw [HR.out, List.drop_eq_nil_of_le (by have := HSL.out; omega), rowD_nil]; simp)
      go_wp2_with fail
      go_ret2
      exact ⟨DecIs.some HN.out HO.out, HF.out⟩
end Go.Proofs.YtpcmibimglkocaaDoor
