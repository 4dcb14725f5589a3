/- The plain law of a text's bytes: strings.ReplaceAll of 0 by 0 1. No condition. -/
import Derived.Test.YtpcmibimglkocaaDoorEnc
import Derived.Lib.Replace
import Derived.Lib.CountLaws
namespace Go.Proofs.YtpcmibimglkocaaDoor
open Go.Lib

theorem index_cons (c : UInt8) (l : List UInt8) : index (c :: l) [0] = if c = 0 then 0 else if index l [0] == -1 then -1 else index l [0] + 1 := by
  have e : index (c :: l) [0] = if ([0] : List UInt8).isPrefixOf (c :: l) then 0 else if index l [0] == -1 then -1 else index l [0] + 1 := rfl
  rw [e]
  by_cases h : c = 0
  · subst h; simp [List.isPrefixOf]
  · have : ([0] : List UInt8).isPrefixOf (c :: l) = false := by
      simp [List.isPrefixOf]
      exact fun e => h e.symm
    rw [this, if_neg h]
    simp

theorem repl_cons (c : UInt8) (l : List UInt8) : replaceK [0] [0, 1] (count (c :: l) [0]) (c :: l) = (if c = 0 then [0, 1] else [c]) ++ replaceK [0] [0, 1] (count l [0]) l := by
  have hs : ([0] : List UInt8) ≠ [] := by simp
  have hi := index_cons c l
  by_cases h : c = 0
  · rw [if_pos h] at hi ⊢
    have hi0 : index (c :: l) [0] = ((0 : Nat) : Int) := hi
    have hc := count_hit hs hi0
    rw [hc, Nat.add_comm 1, replaceK_hit _ _ _ _ 0 hi0]
    simp
  · rw [if_neg h] at hi ⊢
    by_cases hm : index l [0] = -1
    · have hm' : index (c :: l) [0] = -1 := by rw [hi, hm]; rfl
      rw [count_miss hm', count_miss hm]
      rfl
    · have hge := index_ge l [0]
      obtain ⟨i, hi2⟩ : ∃ i : Nat, index l [0] = (i : Int) := ⟨(index l [0]).toNat, by omega⟩
      have hne : ¬ (index l [0] == -1) = true := by simpa using hm
      rw [if_neg hne, hi2] at hi
      have hi3 : index (c :: l) [0] = ((i + 1 : Nat) : Int) := by rw [hi]; simp
      have hc := count_hit hs hi3
      have hc2 := count_hit hs hi2
      rw [hc, hc2, Nat.add_comm 1, Nat.add_comm 1, replaceK_hit _ _ _ _ _ hi3, replaceK_hit _ _ _ _ _ hi2]
      simp

theorem replaceAll_esc (l : List UInt8) : replaceAll l [0] [0, 1] = escB l := by
  have h1 : replaceAll l [0] [0, 1] = replaceK [0] [0, 1] (count l [0]) l := by
    unfold replaceAll replace replaceNum
    simp
  rw [h1]
  induction l with
  | nil => rfl
  | cons c l ih =>
    have h2 : replaceAll l [0] [0, 1] = replaceK [0] [0, 1] (count l [0]) l := by
      unfold replaceAll replace replaceNum
      simp
    rw [repl_cons, ih h2]
    rfl

end Go.Proofs.YtpcmibimglkocaaDoor
