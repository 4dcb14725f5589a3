/- feeds: how many bytes 10 a text has; and the lines of a note and of a reply. Conditions: the sizes. -/
import Derived.Test.YtgdneoajmaeckaaDoorIj
import Derived.Test.YtgdneoajmaeckaaDoorFb
import Derived.Test.YtgdneoajmaeckaaDoorRt2
namespace Go.Proofs.YtgdneoajmaeckaaDoor
open Go.RowKit

def nl (l : List UInt8) : Nat := l.countP (· == 10)
theorem nl_app (a b : List UInt8) : nl (a ++ b) = nl a + nl b := List.countP_append
theorem nl_none {l : List UInt8} (h : ∀ c ∈ l, c ≠ 10) : nl l = 0 := by
  unfold nl
  rw [List.countP_eq_zero]
  intro c hc
  simpa using h c hc
theorem nl_snoc (l : List UInt8) (c : UInt8) : nl (l ++ [c]) = nl l + if c = 10 then 1 else 0 := by
  rw [nl_app]
  congr 1
  by_cases h : c = 10
  · subst h; rfl
  · simp [nl, h]
theorem itoa_nonl (i : Int) : ∀ c ∈ Lib.itoa i, c ≠ 10 := by
  intro c hc e
  subst e
  rcases itoa_chars i _ hc with h | h <;> simp at h
theorem joinTail_nonl (l : List (List UInt8)) (h : ∀ x ∈ l, ∀ c ∈ x, c ≠ 10) : ∀ c ∈ Lib.joinTail [32] l, c ≠ 10 := by
  induction l with
  | nil => simp [Lib.joinTail]
  | cons x l ih =>
    intro c hc
    simp only [Lib.joinTail, List.map_cons, List.flatten_cons, List.mem_append, List.mem_cons, List.not_mem_nil, or_false] at hc
    rcases hc with (rfl | hc) | hc
    · decide
    · exact h x (by simp) c hc
    · exact ih (fun y hy => h y (by simp [hy])) c hc
theorem join_nonl (l : List (List UInt8)) (h : ∀ x ∈ l, ∀ c ∈ x, c ≠ 10) : ∀ c ∈ Lib.join l [32], c ≠ 10 := by
  cases l with
  | nil => simp [Lib.join_nil]
  | cons x l =>
    intro c hc
    rw [Lib.join_cons, List.mem_append] at hc
    rcases hc with hc | hc
    · exact h x (by simp) c hc
    · exact joinTail_nonl l (fun y hy => h y (by simp [hy])) c hc
theorem lineT_nl (l : List (List UInt8)) (h : ∀ x ∈ l, ∀ c ∈ x, c ≠ 10) : nl (lineT l) = 1 := by
  unfold lineT
  rw [nl_snoc, nl_none (join_nonl l h)]
  rfl
theorem lineT_last (l : List (List UInt8)) : ∃ r, lineT l = r ++ [10] := ⟨_, rfl⟩
theorem words_nonl (s : List UInt8) (t n : Int) (ds : List Dt) (hs : ∀ c ∈ s, c ≠ 10) : ∀ x ∈ [s, Lib.itoa t, Lib.itoa n, nlB (printR ds)], ∀ c ∈ x, c ≠ 10 := by
  intro x hx
  simp only [List.mem_cons, List.not_mem_nil, or_false] at hx
  rcases hx with rfl | rfl | rfl | rfl
  · exact hs
  · exact itoa_nonl _
  · exact itoa_nonl _
  · exact nlB_no _

theorem ctB_nl (x : Ct) : nl (ctB x) = 1 := by
  unfold ctB
  refine lineT_nl _ ?_
  intro y hy
  simp only [List.mem_cons, List.not_mem_nil, or_false] at hy
  rcases hy with rfl | rfl
  · exact itoa_nonl _
  · exact nlB_no _

def FdR (B : ByteArray) (a n : Value) : Prop := ∃ k : Nat, k ≤ B.size ∧ a = .int .i64 k ∧ n = .int .i64 (nl (B.data.toList.take k) : Int)
theorem nl_le (l : List UInt8) : nl l ≤ l.length := List.countP_le_length
theorem nl_take (B : ByteArray) (k : Nat) (h : k < B.size) : nl (B.data.toList.take (k + 1)) = nl (B.data.toList.take k) + if B[k] = 10 then 1 else 0 := by
  have hl : k < B.data.toList.length := by rw [Array.length_toList]; exact h
  rw [List.take_succ_eq_append_getElem hl, nl_snoc]
  rfl

set_option maxRecDepth 100000
set_option maxHeartbeats 1600000 in
theorem feeds_any (l : List UInt8) (hl : l.length ≤ 140737488351232) (w : World) :
    Calls Tryd.prog 16 #[.string ⟨l.toArray⟩] w fun e w' => e = .returned (.int .i64 (nl l : Int)) ∧ Fr [] w w' := by
  have hd : (⟨l.toArray⟩ : ByteArray).data.toList = l := rfl
  have hz := size_mk l
  have HL := Lib.hid hd
  generalize (⟨l.toArray⟩ : ByteArray) = B at *
  clear hd
  rw [← hz] at hl
  clear hz
  go_enter Tryd.func16, Tryd.ntmps16
  go_wp2_with fail
  go_loopw [3, 4] (fun a3 a4 wr => FdR B a4 a3 ∧ Fr [] w wr) (fun _ a4 _ => B.size - (intOf a4).toNat)
  case atStart => exact ⟨⟨0, Nat.zero_le _, rfl, rfl⟩, Fr.refl _ _⟩
  case round =>
    obtain ⟨⟨k, hk, rfl, rfl⟩, hf⟩ := hrel
    have HF := Lib.hid hf
    clear hf
    by_cases hlt : k < B.size
    · have HT := Lib.hid (nl_take B k hlt)
      have hle := nl_le (B.data.toList.take k)
      have hl2 : (B.data.toList.take k).length ≤ k := by rw [List.length_take]; omega
      by_cases hc : B[k] = 10
      · have hcb : (B[k] == 10) = true := by simpa using hc
        have hci : ((B[k].toNat : Int) == 10) = true := by rw [hc]; rfl
        have hn : (B[k].toNat : Int) = 10 := by rw [hc]; rfl
        have HC := Lib.hid hc
        clear hc
        generalize nl (B.data.toList.take k) = m at *
        go_wp2_with fail
        go_roundw
        case rel => exact ⟨⟨k + 1, by omega, by go_num, by rw [HT.out, if_pos HC.out]; go_num⟩, HF.out⟩
        case measure => simp [intOf]; omega
      · have hcb : (B[k] == 10) = false := by simpa using hc
        have hn : ¬ (B[k].toNat : Int) = 10 := fun e => hc (UInt8.toNat_inj.1 (by simp; omega))
        have hci : ((B[k].toNat : Int) == 10) = false := by simpa using hn
        have HC := Lib.hid hc
        clear hc
        generalize nl (B.data.toList.take k) = m at *
        go_wp2_with fail
        go_roundw
        case rel => exact ⟨⟨k + 1, by omega, by go_num, by rw [HT.out, if_neg HC.out]; rfl⟩, HF.out⟩
        case measure => simp [intOf]; omega
    · have hke : k = B.size := by omega
      have HE := Lib.hid (show nl (B.data.toList.take k) = nl l by
        rw [← HL.out, hke, List.take_of_length_le (by rw [Array.length_toList]; exact Nat.le_refl _)])
      generalize nl (B.data.toList.take k) = m at *
      go_wp2_with fail
      go_ret
      exact ⟨by rw [HE.out]; rfl, HF.out⟩
end Go.Proofs.YtgdneoajmaeckaaDoor
