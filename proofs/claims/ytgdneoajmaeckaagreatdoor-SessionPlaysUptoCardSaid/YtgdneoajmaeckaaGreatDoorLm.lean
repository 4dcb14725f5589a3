/- Plain: strings.Cut at a line's end, strings.Trim at blanks, in the words of lines. No condition. -/
import Derived.Test.YtgdneoajmaeckaaGreatDoorLn
import Derived.Lib.IndexMore
import Derived.Lib.SlTrimSet
namespace Go.Proofs.YtgdneoajmaeckaaGreatDoor
open Go.Lib

theorem index_cons10 (c : UInt8) (l : List UInt8) : index (c :: l) [10] = if c = 10 then 0 else if index l [10] == -1 then -1 else index l [10] + 1 := by
  have e : index (c :: l) [10] = if ([10] : List UInt8).isPrefixOf (c :: l) then 0 else if index l [10] == -1 then -1 else index l [10] + 1 := rfl
  rw [e]
  by_cases h : c = 10
  · subst h; simp [List.isPrefixOf]
  · have : ([10] : List UInt8).isPrefixOf (c :: l) = false := by
      simp [List.isPrefixOf]
      exact fun e => h e.symm
    rw [this, if_neg h]
    simp

theorem index_cut : ∀ (l : List UInt8), (cutN l = none ∧ index l [10] = -1) ∨ ∃ a r, cutN l = some (a, r) ∧ index l [10] = (a.length : Int)
  | [] => Or.inl ⟨rfl, rfl⟩
  | c :: l => by
    rw [index_cons10, cutN]
    by_cases hc : c = 10
    · exact Or.inr ⟨[], l, by rw [if_pos hc], by rw [if_pos hc]; rfl⟩
    · rw [if_neg hc, if_neg hc]
      rcases index_cut l with ⟨h1, h2⟩ | ⟨a, r, h1, h2⟩
      · rw [h1, h2]; exact Or.inl ⟨rfl, rfl⟩
      · rw [h1, h2]
        refine Or.inr ⟨c :: a, r, rfl, ?_⟩
        have : ((a.length : Int) == -1) = false := by simp
        rw [this]; simp

theorem cut_none {l : List UInt8} (h : cutN l = none) : Lib.cut l [10] = (l, [], false) := by
  rcases index_cut l with ⟨h1, h2⟩ | ⟨a, r, h1, h2⟩
  · rw [Lib.cut, h2]; rfl
  · rw [h] at h1; cases h1
theorem cut_some {l a r : List UInt8} (h : cutN l = some (a, r)) : Lib.cut l [10] = (a, r, true) := by
  rcases index_cut l with ⟨h1, h2⟩ | ⟨a', r', h1, h2⟩
  · rw [h] at h1; cases h1
  · rw [h] at h1
    simp only [Option.some.injEq, Prod.mk.injEq] at h1
    obtain ⟨rfl, rfl⟩ := h1
    obtain ⟨h3, -⟩ := cutN_eq h
    rw [Lib.cut, h2, if_pos (by omega)]
    have e1 : ((a.length : Nat) : Int).toNat = a.length := by omega
    rw [e1]
    subst h3
    simp

theorem dropW_nil {p : UInt8 → Bool} : ∀ {l : List UInt8}, l.dropWhile p = [] ↔ l.all p = true
  | [] => by simp
  | c :: l => by
    rw [List.dropWhile_cons, List.all_cons]
    cases hp : p c
    · simp
    · simp [dropW_nil]

theorem dropW_last {p : UInt8 → Bool} : ∀ {l : List UInt8} {c : UInt8}, p c = false → ∃ t, (l ++ [c]).dropWhile p = t ++ [c]
  | [], c, h => ⟨[], by simp [h]⟩
  | d :: l, c, h => by
    rw [List.cons_append, List.dropWhile_cons]
    split
    · exact dropW_last h
    · exact ⟨d :: l, rfl⟩

theorem trimS_blank (l : List UInt8) : (trimS l [32, 9, 13] = []) ↔ blankB l = true := by
  have hp : (fun c : UInt8 => ([32, 9, 13] : List UInt8).contains c) = fun c => c == 32 || c == 9 || c == 13 := by
    funext c
    simp only [List.contains, List.elem]
    cases h1 : (c == 32) <;> cases h2 : (c == 9) <;> cases h3 : (c == 13) <;> simp
  unfold trimS trimLeftS trimRightS blankB
  rw [hp, dropW_nil, List.all_reverse]
  generalize (fun c : UInt8 => c == 32 || c == 9 || c == 13) = p
  constructor
  · intro h
    have key : ∀ l : List UInt8, (l.dropWhile p).all p = true → l.all p = true := by
      intro l
      induction l with
      | nil => simp
      | cons c l ih =>
        rw [List.dropWhile_cons]
        cases hc : p c
        · simp [hc]
        · simp [hc]; exact fun h => by simpa using ih (by simpa using h)
    have := key l.reverse h
    rwa [List.all_reverse] at this
  · intro h
    have : l.reverse.dropWhile p = [] := dropW_nil.2 (by rw [List.all_reverse]; exact h)
    rw [this]; rfl

theorem trim_blank (l : List UInt8) : (trimS l [32, 9, 13]).isEmpty = blankB l := by
  have h := trimS_blank l
  rw [Bool.eq_iff_iff, List.isEmpty_iff]
  exact h
end Go.Proofs.YtgdneoajmaeckaaGreatDoor
