/- Sums by a key, told over to other keys. No program in sight. No condition. -/
import Derived.Test.YtmionipeoffnhaaGp
namespace Go.Proofs.Ytmionipeoffnhaa.grp

section
variable {κ : Type} [DecidableEq κ]
theorem sumK_filter_ne (l : List (κ × Int)) (k : κ) (q : κ) : sumK (l.filter fun p => decide (p.1 ≠ k)) q = if q = k then 0 else sumK l q := by
  induction l with
  | nil => simp [sumK_nil]
  | cons p l ih =>
    rw [List.filter_cons]
    by_cases h : p.1 = k
    · rw [if_neg (by simpa using h), ih, sumK_cons]
      by_cases hq : q = k
      · rw [if_pos hq, if_pos hq]
      · rw [if_neg hq, if_neg hq, if_neg (fun e => hq (by rw [← e, h])), Int.zero_add]
    · rw [if_pos (by simpa using h), sumK_cons, ih, sumK_cons]
      by_cases hq : q = k
      · rw [if_pos hq, if_pos hq, if_neg (fun e => h (by rw [e, hq]))]; rfl
      · rw [if_neg hq, if_neg hq]

end

section
variable {κ μ : Type}
/-- What a list is, told by other keys; some are left. -/
def push (p : κ → Bool) (g : κ → μ) (l : List (κ × Int)) : List (μ × Int) := (l.filter fun x => p x.1).map fun x => (g x.1, x.2)
theorem push_cons [DecidableEq μ] (p : κ → Bool) (g : κ → μ) (x : κ × Int) (l : List (κ × Int)) (r : μ) : sumK (push p g (x :: l)) r = (if p x.1 = true ∧ g x.1 = r then x.2 else 0) + sumK (push p g l) r := by
  unfold push
  rw [List.filter_cons]
  by_cases h : p x.1 = true
  · rw [if_pos h, List.map_cons, sumK_cons]
    by_cases h2 : g x.1 = r
    · rw [if_pos h2, if_pos ⟨h, h2⟩]
    · rw [if_neg h2, if_neg (fun e => h2 e.2)]
  · rw [if_neg h, if_neg (fun e => h e.1), Int.zero_add]
theorem push_append (p : κ → Bool) (g : κ → μ) (a b : List (κ × Int)) : push p g (a ++ b) = push p g a ++ push p g b := by simp [push]
theorem push_filter (p : κ → Bool) (g : κ → μ) (l : List (κ × Int)) : push p g (l.filter fun x => p x.1) = push p g l := by
  unfold push; rw [List.filter_filter]; simp
variable [DecidableEq κ] [DecidableEq μ]
/-- One key out. -/
theorem push_one (p : κ → Bool) (g : κ → μ) (l : List (κ × Int)) (k : κ) (r : μ) : sumK (push p g l) r = (if p k = true ∧ g k = r then sumK l k else 0) + sumK (push p g (l.filter fun x => decide (x.1 ≠ k))) r := by
  induction l with
  | nil => simp [push, sumK_nil]
  | cons x l ih =>
    rw [push_cons, ih, sumK_cons, List.filter_cons]
    by_cases h : x.1 = k
    · rw [if_neg (show ¬ decide (x.1 ≠ k) = true by simpa using h), if_pos h, h]
      split <;> omega
    · rw [if_pos (show decide (x.1 ≠ k) = true by simpa using h), push_cons, if_neg h]
      generalize (if p x.1 = true ∧ g x.1 = r then x.2 else 0) = u
      split <;> omega
theorem push_zero (p : κ → Bool) (g : κ → μ) : ∀ (n : Nat) (l : List (κ × Int)), l.length ≤ n → (∀ q, sumK l q = 0) → ∀ r, sumK (push p g l) r = 0 := by
  intro n
  induction n with
  | zero =>
    intro l hl _ r
    rw [List.length_eq_zero_iff.1 (Nat.le_zero.1 hl)]; rfl
  | succ n ih =>
    intro l hl h r
    cases l with
    | nil => rfl
    | cons x l =>
      rw [push_one p g (x :: l) x.1 r, h, ih]
      · split <;> rfl
      · rw [List.filter_cons, if_neg (by simp)]
        exact Nat.le_trans (List.length_filter_le _ _) (by simpa using hl)
      · intro q
        rw [sumK_filter_ne, h]
        split <;> rfl
omit [DecidableEq μ] in
theorem sumK_neg (l : List (κ × Int)) (q : κ) : sumK (l.map fun x => (x.1, -x.2)) q = - sumK l q := by
  induction l with
  | nil => rfl
  | cons x l ih =>
    rw [List.map_cons, sumK_cons, ih, sumK_cons]
    split <;> omega
/-- Two lists with the same sums have the same sums, told over. -/
theorem push_same (p : κ → Bool) (g : κ → μ) {a b : List (κ × Int)} (h : ∀ q, sumK a q = sumK b q) (r : μ) : sumK (push p g a) r = sumK (push p g b) r := by
  have h1 := push_zero p g _ (a ++ b.map fun x => (x.1, -x.2)) (Nat.le_refl _) (fun q => by rw [sumK_append, sumK_neg, h]; omega) r
  rw [push_append, sumK_append] at h1
  have h2 : push p g (b.map fun x => (x.1, -x.2)) = (push p g b).map fun x => (x.1, -x.2) := by
    unfold push
    rw [List.filter_map, List.map_map, List.map_map]
    rfl
  rw [h2, sumK_neg] at h1
  omega
end
end Go.Proofs.Ytmionipeoffnhaa.grp
