/- Numbers in digits of a million, the lowest first. No program in sight. No condition. -/
import Derived.WalkKit
namespace Go.Proofs.Ytmionipeoffnhaa.big

def dgs : Nat → Nat → List Nat
  | 0, _ => []
  | k + 1, n => if n = 0 then [] else n % 1000000 :: dgs k (n / 1000000)
/-- The digits. -/
def dg (n : Nat) : List Nat := dgs n n

theorem dgs_enough : ∀ (k m n : Nat), n ≤ k → n ≤ m → dgs k n = dgs m n := by
  intro k
  induction k with
  | zero =>
    intro m n h1 h2
    obtain rfl : n = 0 := by omega
    cases m <;> simp [dgs]
  | succ k ih =>
    intro m n h1 h2
    cases m with
    | zero =>
      obtain rfl : n = 0 := by omega
      simp [dgs]
    | succ m =>
      unfold dgs
      by_cases h : n = 0
      · rw [if_pos h, if_pos h]
      · rw [if_neg h, if_neg h, ih m (n / 1000000) (by omega) (by omega)]

theorem dg_zero : dg 0 = [] := rfl
theorem dg_pos {n : Nat} (h : n ≠ 0) : dg n = n % 1000000 :: dg (n / 1000000) := by
  obtain ⟨k, rfl⟩ : ∃ k, n = k + 1 := ⟨n - 1, by omega⟩
  unfold dg
  rw [show dgs (k + 1) (k + 1) = (k + 1) % 1000000 :: dgs k ((k + 1) / 1000000) by rw [dgs, if_neg h]]
  rw [dgs_enough k ((k + 1) / 1000000) _ (by omega) (Nat.le_refl _)]
theorem dg_nil {n : Nat} : dg n = [] ↔ n = 0 := by
  constructor
  · intro h
    by_cases h0 : n = 0
    · exact h0
    · rw [dg_pos h0] at h; cases h
  · rintro rfl; rfl

theorem dg_drop (n : Nat) : ∀ i, (dg n).drop i = dg (n / 1000000 ^ i) := by
  intro i
  induction i with
  | zero => simp
  | succ i ih =>
    rw [← List.drop_drop, ih] at *
    have e : n / 1000000 ^ (i + 1) = n / 1000000 ^ i / 1000000 := by rw [Nat.pow_succ, Nat.div_div_eq_div_mul]
    rw [e]
    by_cases h : n / 1000000 ^ i = 0
    · rw [h]; rfl
    · rw [dg_pos h]; rfl
theorem dg_at (n i : Nat) (h : i < (dg n).length) : (dg n)[i]? = some (n / 1000000 ^ i % 1000000) := by
  have h1 := dg_drop n i
  have h2 : n / 1000000 ^ i ≠ 0 := fun e => by
    rw [e, dg_zero] at h1
    have := congrArg List.length h1
    rw [List.length_drop] at this
    simp at this
    omega
  rw [dg_pos h2] at h1
  have h3 := congrArg (fun l => l[0]?) h1
  simpa [List.getElem?_drop] using h3
theorem dg_lt_len (n i : Nat) : i < (dg n).length ↔ n / 1000000 ^ i ≠ 0 := by
  have h1 := congrArg List.length (dg_drop n i)
  rw [List.length_drop] at h1
  constructor
  · intro h e
    rw [e, dg_zero] at h1
    simp at h1
    omega
  · intro h
    by_cases h2 : i < (dg n).length
    · exact h2
    · rw [show (dg n).length - i = 0 by omega] at h1
      exact absurd (dg_nil.1 (List.length_eq_zero_iff.1 h1.symm)) h
theorem dg_len_le {n k : Nat} (h : n < 1000000 ^ k) : (dg n).length ≤ k := by
  by_cases h1 : k < (dg n).length
  · exact absurd (Nat.div_eq_of_lt h) ((dg_lt_len n k).1 h1)
  · omega
theorem dg_len_mono {a b : Nat} (h : a ≤ b) : (dg a).length ≤ (dg b).length := by
  by_cases h1 : (dg b).length < (dg a).length
  · have h2 := (dg_lt_len a _).1 h1
    have h3 : ¬ (dg b).length < (dg b).length := by omega
    rw [dg_lt_len] at h3
    have h5 := Nat.div_le_div_right (c := 1000000 ^ (dg b).length) h
    rw [Classical.not_not.1 h3] at h5
    exact absurd (Nat.le_zero.1 h5) h2
  · omega
theorem dg_small (n : Nat) : ∀ d ∈ dg n, d < 1000000 := by
  intro d hd
  obtain ⟨i, hi, rfl⟩ := List.getElem_of_mem hd
  have := dg_at n i hi
  rw [List.getElem?_eq_getElem hi] at this
  rw [Option.some.inj this]
  omega

/-- What digits are worth. -/
def vl : List Nat → Nat
  | [] => 0
  | d :: l => d + 1000000 * vl l
theorem vl_dg (n : Nat) : vl (dg n) = n := by
  induction n using Nat.strongRecOn with
  | _ n ih =>
    by_cases h : n = 0
    · subst h; rfl
    · rw [dg_pos h, vl, ih (n / 1000000) (by omega)]; omega
theorem vl_append (a b : List Nat) : vl (a ++ b) = vl a + 1000000 ^ a.length * vl b := by
  induction a with
  | nil => simp [vl]
  | cons d a ih =>
    rw [List.cons_append, vl, ih, vl, List.length_cons, Nat.pow_succ, Nat.mul_add]
    have : 1000000 * (1000000 ^ a.length * vl b) = 1000000 ^ a.length * 1000000 * vl b := by rw [← Nat.mul_assoc, Nat.mul_comm 1000000 (1000000 ^ a.length)]
    omega
/-- Digits whose last is not 0 are the digits of what they are worth. -/
theorem dg_vl : ∀ l : List Nat, (∀ d ∈ l, d < 1000000) → (∀ d, l.getLast? = some d → d ≠ 0) → dg (vl l) = l
  | [], _, _ => rfl
  | d :: l, h1, h2 => by
    have hd := h1 d (by simp)
    by_cases hl : l = []
    · subst hl
      have h0 : d ≠ 0 := h2 d (by simp)
      simp only [vl, Nat.mul_zero, Nat.add_zero]
      rw [dg_pos h0, Nat.mod_eq_of_lt hd, Nat.div_eq_of_lt hd]
      rfl
    · have ih := dg_vl l (fun x hx => h1 x (by simp [hx])) (fun x hx => h2 x (by rw [List.getLast?_cons_of_ne_nil hl]; exact hx))
      have hv : vl l ≠ 0 := fun e => by rw [e, dg_zero] at ih; exact hl ih.symm
      rw [vl, dg_pos (by omega)]
      rw [show (d + 1000000 * vl l) % 1000000 = d by omega, show (d + 1000000 * vl l) / 1000000 = vl l by omega, ih]
end Go.Proofs.Ytmionipeoffnhaa.big
