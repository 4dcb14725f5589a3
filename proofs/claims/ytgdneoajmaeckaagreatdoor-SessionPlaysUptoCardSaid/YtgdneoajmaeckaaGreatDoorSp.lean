/- Put and Line of a session. No condition but its sizes, and that the variable MaxLen lies. -/
import Derived.Test.YtgdneoajmaeckaaGreatDoorSq
import Derived.Deep.CutRange
import Derived.Deep.DeepCutAuto
namespace Go.Proofs.YtgdneoajmaeckaaGreatDoor
open Go.RowKit

theorem cat (a b : List UInt8) : (⟨a.toArray⟩ : ByteArray) ++ ⟨b.toArray⟩ = ⟨(a ++ b).toArray⟩ := by
  apply ByteArray.ext
  simp

def badB (S : Ss) (b : List UInt8) : Bool := decide (16000 < S.inp.length + b.length) || longB (S.inp ++ b)
def putE (S : Ss) (b : List UInt8) : Int := if S.st = 3 then 201 else if badB S b then 2 else 0
def putS (S : Ss) (b : List UInt8) : Ss := if S.st = 3 then S else if badB S b then { S with st := 3, inp := [] } else { S with inp := S.inp ++ b }

set_option maxRecDepth 100000
set_option maxHeartbeats 800000 in
theorem put_any {w : World} {b : Nat} {S : Ss} (h : SsAt TS w b S) (ho : S.Ok) (l : List UInt8) (hl : l.length ≤ 140737488351232) (hM : SomeMax w) :
    Calls Tryz.prog 7 #[.pointer (some ⟨b, 0, none⟩), .string ⟨l.toArray⟩] w fun e w' => e = .returned (.int .i64 (putE S l)) ∧ SsAt TS w' b (putS S l) ∧ Fr [b] w w' := by
  obtain ⟨c0, c1, c2, c3, c4, y0, y1, y2, y3, y4⟩ := blk5 h
  have H := Lib.hid h
  have HM := Lib.hid hM
  have hi := ho.ip
  clear h hM ho
  by_cases h3 : S.st = 3
  · have HE := Lib.hid (show putE S l = 201 from if_pos h3)
    have HP := Lib.hid (show putS S l = S from if_pos h3)
    rw [h3] at c1
    clear h3
    go_enter Tryz.func7, Tryz.ntmps7
    go_wp2_with fail
    go_ret
    exact ⟨by rw [HE.out]; rfl, by rw [HP.out]; exact H.out, Fr.refl _ _⟩
  · have h3b : (S.st == 3) = false := by simpa using h3
    have hc := cat S.inp l
    have hsi := size_mk S.inp
    have hsl := size_mk l
    by_cases hbig : 16000 < S.inp.length + l.length
    · have hB : badB S l = true := by unfold badB; rw [decide_eq_true hbig]; rfl
      have HE := Lib.hid (show putE S l = 2 by rw [putE, if_neg h3, if_pos hB])
      have HP := Lib.hid (show putS S l = { S with st := 3, inp := [] } by rw [putS, if_neg h3, if_pos hB])
      have hc2 := close_any H.out
      have hbig2 : (16000 : Int) < (S.inp.length : Int) + (l.length : Int) := by omega
      clear h3 hB
      go_enter Tryz.func7, Tryz.ntmps7
      go_wp2_with (go_at_call 19; refine hc2.mono ?_; rintro e w1 ⟨rfl, s1, f1⟩)
      go_ret
      exact ⟨by rw [HE.out]; rfl, by rw [HP.out]; exact s1, f1⟩
    · have hsm : (⟨(S.inp ++ l).toArray⟩ : ByteArray).size < 4294967281 := by rw [size_mk, List.length_append]; omega
      have hL := long_any ⟨(S.inp ++ l).toArray⟩ w hsm HM.out
      simp only at hL
      have hsm2 : (⟨(S.inp ++ l).toArray⟩ : ByteArray).size ≤ 16000 := by rw [size_mk, List.length_append]; omega
      have hbig2 : (S.inp.length : Int) + (l.length : Int) ≤ 16000 := by omega
      have hBe : badB S l = longB (S.inp ++ l) := by unfold badB; rw [decide_eq_false hbig]; rfl
      have HN := Lib.hid (fun (w1 : World) (hs : SsAt TS w1 b S) => hs.set3 (S.inp ++ l))
      cases hlo : longB (S.inp ++ l)
      · have HE := Lib.hid (show putE S l = 0 by rw [putE, if_neg h3, hBe, hlo]; rfl)
        have HP := Lib.hid (show putS S l = { S with inp := S.inp ++ l } by rw [putS, if_neg h3, hBe, hlo]; rfl)
        rw [hlo] at hL
        clear h3 hBe hlo hbig
        generalize (⟨(S.inp ++ l).toArray⟩ : ByteArray) = T at *
        go_enter Tryz.func7, Tryz.ntmps7
        go_wp2_with (go_at_call 25; refine hL.mono ?_; rintro e w1 ⟨rfl, f1⟩; have H1 := Lib.hid (H.out.fr f1 (by simp)); obtain ⟨d0, d1, d2, d3, d4, z0, z1, z2, z3, z4⟩ := blk5 H1.out)
        go_ret
        exact ⟨by rw [HE.out]; rfl, by rw [HP.out]; exact HN.out _ H1.out, (f1.mono (by simp)).setCell (p := ⟨b, 3, none⟩) (by simp) _⟩
      · have HE := Lib.hid (show putE S l = 2 by rw [putE, if_neg h3, hBe, hlo]; rfl)
        have HP := Lib.hid (show putS S l = { S with st := 3, inp := [] } by rw [putS, if_neg h3, hBe, hlo]; rfl)
        rw [hlo] at hL
        clear h3 hBe hlo hbig
        generalize (⟨(S.inp ++ l).toArray⟩ : ByteArray) = T at *
        go_enter Tryz.func7, Tryz.ntmps7
        go_wp2_with (first | (go_at_call 25; refine hL.mono ?_; rintro e w1 ⟨rfl, f1⟩; have H1 := Lib.hid (H.out.fr f1 (by simp)); have hc2 := close_any H1.out) | (go_at_call 19; refine hc2.mono ?_; rintro e w2 ⟨rfl, s2, f2⟩))
        go_ret
        exact ⟨by rw [HE.out]; rfl, by rw [HP.out]; exact s2, (f1.mono (by simp)).trans f2⟩

theorem put_ok {S : Ss} (h : S.Ok) (l : List UInt8) : (putS S l).Ok := by
  unfold putS
  split
  · exact h
  · split
    · exact ⟨h.r0, h.r1, h.ou, by simp⟩
    · rename_i hb
      refine ⟨h.r0, h.r1, h.ou, ?_⟩
      simp [badB] at hb
      simp only [List.length_append]
      omega

theorem cutc_any (l : List UInt8) (w : World) (hs : l.length ≤ 16000) (hM : SomeMax w) :
    (cutN l = none → Calls Tryz.prog 26 #[.string ⟨l.toArray⟩, .string ⟨#[10]⟩] w fun e w' => e = .returned (.tuple #[.string ⟨l.toArray⟩, .string ⟨#[]⟩, .bool false]) ∧ ∃ n, w' = w.drewN n) ∧
    (∀ a r, cutN l = some (a, r) → Calls Tryz.prog 26 #[.string ⟨l.toArray⟩, .string ⟨#[10]⟩] w fun e w' => e = .returned (.tuple #[.string ⟨a.toArray⟩, .string ⟨r.toArray⟩, .bool true]) ∧ ∃ n, w' = w.drewN n) := by
  obtain ⟨m, hm⟩ := hM
  have hc := Tryz.strings_Cut ⟨l.toArray⟩ ⟨#[10]⟩ m w (by rw [size_mk]; omega) hm
  refine ⟨fun h => ?_, fun a r h => ?_⟩
  · have e := cut_none h
    simp only [e] at hc
    exact hc
  · have e := cut_some h
    simp only [e] at hc
    exact hc

theorem trim_any (l : List UInt8) (w : World) (hs : l.length ≤ 16000) :
    Calls Tryz.prog 27 #[.string ⟨l.toArray⟩, .string ⟨#[32, 9, 13]⟩] w fun e w' => (∃ t : List UInt8, e = .returned (.string ⟨t.toArray⟩) ∧ t.isEmpty = blankB l) ∧ Fr [] w w' := by
  refine (Any.strings_Trim_laid Tryz.lays160 (by kernel_rfl) ⟨l.toArray⟩ ⟨#[32, 9, 13]⟩ w (by rw [size_mk]; omega) (by decide) (ascii_of_all (by decide))).mono ?_
  rintro e w' ⟨rfl, hb⟩
  exact ⟨⟨_, rfl, trim_blank l⟩, Fr.ofBelow hb⟩
end Go.Proofs.YtgdneoajmaeckaaGreatDoor
