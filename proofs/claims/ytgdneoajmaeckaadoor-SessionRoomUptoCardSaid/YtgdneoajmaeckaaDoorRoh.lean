/- SessionRoom: the walk. Conditions: the sizes; the listed tables lie as their text lays them. -/
import Derived.Test.YtgdneoajmaeckaaDoorNu
import Derived.Test.YtgdneoajmaeckaaDoorNo
import Derived.Test.YtgdneoajmaeckaaDoorRt2
namespace Go.Proofs.YtgdneoajmaeckaaDoor
open Go.RowKit

/-- The reply that has a session be fed. -/
def feedR (t : Int) : Rp := ⟨t, 4, 0, 0, 1, 0, [116], .slice none 0 0, .slice none 0 0, []⟩
def feedL : List UInt8 := [102, 101, 101, 100, 32, 49, 32, 116, 10]
theorem feedR_say (t : Int) : sayB (feedR t) = feedL := by
  show lineT [sFeed, Lib.itoa 1, [116]] = feedL
  have h1 : Lib.itoa 1 = [49] := by unfold Lib.itoa; simp [Lib.decDigits_one]
  rw [h1]
  rfl
theorem feedR_ok (t : Int) (h : t = 0 ∨ t = 5) (w : World) : (feedR t).Ok w := by
  refine ⟨?_, ?_, ?_, ?_, ?_, ?_, ?_, ⟨_, _, _, rfl⟩, ⟨none, 0, rfl, fun _ => rfl, Nat.le_refl _, by simp [feedR]⟩⟩ <;> simp only [feedR, fits64] <;> first | omega | simp

theorem fed_ans (R : Int) (h : 20 ≤ R) : ansE ⟨R, 1, 5, [], []⟩ (feedR 5) = 0 ∧ ansS ⟨R, 1, 5, [], []⟩ (feedR 5) = ⟨R, 2, 5, [], feedL⟩ := by
  have h1 : whyB ⟨R, 1, 5, [], []⟩ 1 = 0 := if_pos rfl
  have h2 : (feedR 5).tk = (⟨R, 1, 5, [], []⟩ : Ss).tk := rfl
  have h3 : outE ⟨R, 1, 5, [], []⟩ feedL = 0 := by
    rw [outE, if_neg (by decide), if_neg (by simp [feedL]; omega)]
  refine ⟨by rw [ansE, if_pos h1, if_pos h2, feedR_say, h3], ?_⟩
  rw [ansS, if_pos ⟨h1, h2⟩, feedR_say, outS, if_pos h3]
  rfl

theorem note_fit {R : Int} {out : List UInt8} {x : Nt} (hk : x.kind ≠ 4) (ht : tellB x ≠ []) (hf : ((tellB x).length : Int) ≤ R - (out.length : Int)) :
    noteE ⟨R, 2, 5, [], out⟩ x = 0 ∧ noteS ⟨R, 2, 5, [], out⟩ x = ⟨R, 2, 5, [], out ++ tellB x⟩ := by
  have h1 : whyB ⟨R, 2, 5, [], out⟩ 2 = 0 := if_pos rfl
  have h3 : outE ⟨R, 2, 5, [], out⟩ (tellB x) = 0 := by
    rw [outE, if_neg ht, if_neg (by simp only; omega)]
  refine ⟨by rw [noteE, if_pos h1, h3], ?_⟩
  rw [noteS, if_pos h1, outS, if_pos h3, if_neg hk]
theorem note_full {R : Int} {out : List UInt8} {x : Nt} (ht : tellB x ≠ []) (hf : R - (out.length : Int) < ((tellB x).length : Int)) :
    noteE ⟨R, 2, 5, [], out⟩ x = 2 ∧ noteS ⟨R, 2, 5, [], out⟩ x = ⟨R, 2, 5, [], out⟩ := by
  have h1 : whyB ⟨R, 2, 5, [], out⟩ 2 = 0 := if_pos rfl
  have h3 : outE ⟨R, 2, 5, [], out⟩ (tellB x) = 2 := by
    rw [outE, if_neg ht, if_pos (by simp only; omega)]
  refine ⟨by rw [noteE, if_pos h1, h3], ?_⟩
  rw [noteS, if_pos h1, outS, if_neg (by rw [h3]; decide)]
theorem take_all {R n : Int} {out : List UInt8} (h : (out.length : Int) ≤ n) : takeN ⟨R, 2, 5, [], out⟩ n = out.length := by
  unfold takeN
  simp only
  omega
theorem ss_ok {R : Int} {out : List UInt8} (h0 : 20 ≤ R) (h1 : R ≤ 400) (h2 : (out.length : Int) ≤ R) (s : Int) : (⟨R, s, 5, [], out⟩ : Ss).Ok := ⟨by simp only; omega, by simp only; omega, h2, by simp⟩

/-- What the rounds keep. -/
def RoR (w : World) (b : Nat) (R : Int) (k : Nat) (got out : List UInt8) (wr : World) : Prop :=
  (out.length : Int) ≤ R ∧ (got ++ out).length ≤ 9 + 400 * k ∧ SsAt TS wr b ⟨R, 2, 5, [], out⟩ ∧ Fr [] w wr
theorem RoR.fr {w w' wr : World} {b k : Nat} {R : Int} {got out : List UInt8} (h : RoR w b R k got out wr) (f : Fr [] wr w') : RoR w b R k got out w' := ⟨h.1, h.2.1, h.2.2.1.fr f (by simp), h.2.2.2.trans f⟩
theorem RoR.next {w wr : World} {b k : Nat} {R : Int} {got out : List UInt8} (h : RoR w b R k got out wr) : RoR w b R (k + 1) got out wr := ⟨h.1, by have := h.2.1; omega, h.2.2⟩
end Go.Proofs.YtgdneoajmaeckaaDoor
