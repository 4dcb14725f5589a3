/- Numbers in digits of a million: a sum and a difference, digit by digit. No program in sight. No condition. -/
import Derived.Test.YtmionipeoffnhaaBp
namespace Go.Proofs.Ytmionipeoffnhaa.big

theorem pw_succ (n i : Nat) : n / 1000000 ^ (i + 1) = n / 1000000 ^ i / 1000000 := by rw [Nat.pow_succ, Nat.div_div_eq_div_mul]

/-- What is carried ahead of digit i. -/
def Car (x y n i c : Nat) : Prop := n / 1000000 ^ i = x / 1000000 ^ i + y / 1000000 ^ i + c ∧ c ≤ 1
theorem Car.zero (x y : Nat) : Car x y (x + y) 0 0 := ⟨by simp, by omega⟩
theorem Car.add {x y n i c : Nat} (h : Car x y n i c) : (c + x / 1000000 ^ i % 1000000 + y / 1000000 ^ i % 1000000) % 1000000 = n / 1000000 ^ i % 1000000 ∧ Car x y n (i + 1) ((c + x / 1000000 ^ i % 1000000 + y / 1000000 ^ i % 1000000) / 1000000) := by
  obtain ⟨h1, h2⟩ := h
  unfold Car
  rw [pw_succ, pw_succ, pw_succ]
  generalize n / 1000000 ^ i = n' at *
  generalize x / 1000000 ^ i = x' at *
  generalize y / 1000000 ^ i = y' at *
  omega
/-- x is y and n together: the digits of n, out of those of x and y. -/
theorem Car.less {x y n i b : Nat} (h : Car y n x i b) : (x / 1000000 ^ i % 1000000 < b + y / 1000000 ^ i % 1000000 → x / 1000000 ^ i % 1000000 + 1000000 - (b + y / 1000000 ^ i % 1000000) = n / 1000000 ^ i % 1000000 ∧ Car y n x (i + 1) 1) ∧
    (¬ x / 1000000 ^ i % 1000000 < b + y / 1000000 ^ i % 1000000 → x / 1000000 ^ i % 1000000 - (b + y / 1000000 ^ i % 1000000) = n / 1000000 ^ i % 1000000 ∧ Car y n x (i + 1) 0) := by
  obtain ⟨h1, h2⟩ := h
  unfold Car
  rw [pw_succ, pw_succ, pw_succ]
  generalize n / 1000000 ^ i = n' at *
  generalize x / 1000000 ^ i = x' at *
  generalize y / 1000000 ^ i = y' at *
  constructor
  · intro h3; refine ⟨?_, ?_, ?_⟩ <;> omega
  · intro h3; refine ⟨?_, ?_, ?_⟩ <;> omega
theorem Car.more {x y n i c : Nat} (h : Car x y n i c) : (i < (dg x).length ∨ i < (dg y).length ∨ 0 < c) ↔ i < (dg n).length := by
  rw [dg_lt_len, dg_lt_len, dg_lt_len, h.1]
  generalize x / 1000000 ^ i = x'
  generalize y / 1000000 ^ i = y'
  by_cases h1 : x' = 0 <;> by_cases h2 : y' = 0 <;> by_cases h3 : c = 0 <;> simp [h1, h2, h3] <;> omega
/-- The digit, or 0 behind the last. -/
theorem dig (n i : Nat) : (if i < (dg n).length then n / 1000000 ^ i % 1000000 else 0) = n / 1000000 ^ i % 1000000 := by
  split
  · rfl
  · rename_i h
    rw [dg_lt_len, Classical.not_not] at h
    rw [h]

theorem top_zero (n : Nat) : n / 1000000 ^ (dg n).length = 0 := by
  have : ¬ (dg n).length < (dg n).length := by omega
  rw [dg_lt_len, Classical.not_not] at this
  exact this
/-- Amounts: a row of equal digits from the top, and a smaller one. -/
theorem am_lt {x y i : Nat} (h : x / 1000000 ^ (i + 1) = y / 1000000 ^ (i + 1)) (h2 : x / 1000000 ^ i % 1000000 < y / 1000000 ^ i % 1000000) : x < y := by
  rw [pw_succ, pw_succ] at h
  have h3 : x / 1000000 ^ i < y / 1000000 ^ i := by omega
  by_cases hxy : x < y
  · exact hxy
  · have := Nat.div_le_div_right (c := 1000000 ^ i) (show y ≤ x by omega)
    omega
theorem am_eq {x y i : Nat} (h : x / 1000000 ^ (i + 1) = y / 1000000 ^ (i + 1)) (h2 : ¬ x / 1000000 ^ i % 1000000 < y / 1000000 ^ i % 1000000) (h3 : ¬ y / 1000000 ^ i % 1000000 < x / 1000000 ^ i % 1000000) : x / 1000000 ^ i = y / 1000000 ^ i := by
  rw [pw_succ, pw_succ] at h
  omega
theorem am_len {x y : Nat} (h : (dg x).length < (dg y).length) : x < y := by
  by_cases hxy : x < y
  · exact hxy
  · have := dg_len_mono (show y ≤ x by omega)
    omega
def am (x y : Nat) : Int := if x < y then -1 else if y < x then 1 else 0
theorem am_lt' {x y : Nat} (h : x < y) : am x y = -1 := by unfold am; rw [if_pos h]
theorem am_gt' {x y : Nat} (h : y < x) : am x y = 1 := by unfold am; rw [if_neg (by omega), if_pos h]
theorem am_eq' {x y : Nat} (h : x = y) : am x y = 0 := by unfold am; rw [if_neg (by omega), if_neg (by omega)]

/-- The digits as they come, whatever stands behind them. -/
def dz (n k : Nat) : List Nat := (List.range k).map fun i => n / 1000000 ^ i % 1000000
theorem dz_len (n k : Nat) : (dz n k).length = k := by simp [dz]
theorem dz_succ (n k : Nat) : dz n (k + 1) = dz n k ++ [n / 1000000 ^ k % 1000000] := by simp [dz, List.range_succ]
theorem dz_dg (n : Nat) : dz n (dg n).length = dg n := by
  apply List.ext_getElem?
  intro i
  unfold dz
  by_cases h : i < (dg n).length
  · rw [dg_at n i h, List.getElem?_map, List.getElem?_range h]; rfl
  · rw [List.getElem?_eq_none (by simpa using h), List.getElem?_eq_none (by simpa using h)]
theorem dz_at (n k i : Nat) (h : i < k) : (dz n k)[i]? = some (n / 1000000 ^ i % 1000000) := by
  unfold dz; rw [List.getElem?_map, List.getElem?_range h]; rfl
theorem dz_take (n k m : Nat) (h : m ≤ k) : (dz n k).take m = dz n m := by
  unfold dz
  rw [← List.map_take, List.take_range, Nat.min_eq_left h]
theorem dz_nil (n : Nat) : dz n 0 = [] := rfl
end Go.Proofs.Ytmionipeoffnhaa.big
