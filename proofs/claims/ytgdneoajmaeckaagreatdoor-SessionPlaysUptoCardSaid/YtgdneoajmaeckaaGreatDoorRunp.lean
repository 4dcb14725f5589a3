/- The plain law of freshetref01.Runes: a rune U+FFFD is a true one if and only if its three bytes stand there. No condition. -/
import Derived.Lib.TrimUEq
import Derived.Lib.ValidLaws
namespace Go.Proofs.YtgdneoajmaeckaaGreatDoor
open Go.Lib

theorem runes_N (n b0 b1 b2 b3 : Nat) (h : (decodeN n b0 b1 b2 b3).1 = 65533) :
    ((decodeN n b0 b1 b2 b3).2 = 1 ∧ ¬ (2 < n ∧ b0 = 239 ∧ b1 = 191 ∧ b2 = 189)) ∨ ((decodeN n b0 b1 b2 b3).2 = 3 ∧ 2 < n ∧ b0 = 239 ∧ b1 = 191 ∧ b2 = 189) := by
  unfold decodeN at h ⊢
  repeat' split
  all_goals (simp_all)
  all_goals omega

theorem get_N (s : ByteArray) (i : Nat) (h : i < s.size) : s.data.toList.getD i 0 = s[i] := by
  obtain ⟨⟨l⟩⟩ := s
  have h' : i < l.length := by simpa [ByteArray.size] using h
  simp [List.getD, h']
  rfl

theorem extract3 (s : ByteArray) (p : Nat) (h : p + 3 ≤ s.size) : (s.extract p (p + 3)).toList = [s.data.toList.getD p 0, s.data.toList.getD (p + 1) 0, s.data.toList.getD (p + 2) 0] := by
  rw [ByteArray.toList_eq, Lib.extract_data]
  have hl : s.data.toList.length = s.size := by rw [Array.length_toList]; rfl
  generalize s.data.toList = l at *
  have e : p + 3 - p = 3 := by omega
  rw [e]
  apply List.ext_getElem?
  intro i
  rw [List.getElem?_take]
  match i with
  | 0 => simp [List.getD, show p < l.length by omega]
  | 1 => simp [List.getD, show p + 1 < l.length by omega]
  | 2 => simp [List.getD, show p + 2 < l.length by omega]
  | n + 3 => simp; omega

/-- At a place of a text: is the rune there an error? -/
theorem runes_at (s : ByteArray) (p : Nat) (h : p < s.size) (hd : (Utf8.decode s p).1 = 65533) :
    ((Utf8.decode s p).2 = 1 ∧ (s.size < p + 3 ∨ ((s.extract p (p + 3)).toList == [239, 191, 189]) = false)) ∨
    ((Utf8.decode s p).2 = 3 ∧ p + 3 ≤ s.size ∧ ((s.extract p (p + 3)).toList == [239, 191, 189]) = true) := by
  rw [decode_N] at hd ⊢
  have hl : s.data.toList.length = s.size := by rw [Array.length_toList]; rfl
  have key := runes_N _ _ _ _ _ hd
  rw [hl] at key ⊢
  have t0 : ∀ (a b : UInt8), a.toNat = b.toNat → a = b := fun a b h => UInt8.toNat_inj.1 h
  rcases key with ⟨h1, h2⟩ | ⟨h1, h2, h3, h4, h5⟩
  · refine Or.inl ⟨h1, ?_⟩
    by_cases h3 : s.size < p + 3
    · exact Or.inl h3
    · refine Or.inr ?_
      rw [extract3 s p (by omega)]
      refine Bool.eq_false_iff.2 fun e => h2 ⟨by omega, ?_⟩
      simp at e
      obtain ⟨e1, e2, e3⟩ := e
      simp [e1, e2, e3]
  · refine Or.inr ⟨h1, by omega, ?_⟩
    rw [extract3 s p (by omega), t0 _ 239 h3, t0 _ 191 h4, t0 _ 189 h5]
    rfl

theorem validD_at (s : ByteArray) (p : Nat) (h : p < s.size) : validD (s.data.toList.drop p) = if (Utf8.decode s p).1 = 65533 ∧ (Utf8.decode s p).2 = 1 then false else validD (s.data.toList.drop (p + (Utf8.decode s p).2)) := by
  have hl : s.data.toList.length = s.size := by rw [Array.length_toList]; rfl
  rw [validD_step _ (by intro e; have := congrArg List.length e; simp at this; omega), decodeL_drop, List.drop_drop]

end Go.Proofs.YtgdneoajmaeckaaGreatDoor
