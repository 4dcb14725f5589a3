/- The plain laws of sorting by swaps. No program in sight. No condition. -/
import Derived.WalkKit
namespace Go.Proofs.YtjchlfblbmiceaaGreat.srt
open Go.RowKit

section
variable {α : Type}

def swp (f : Nat → α) (i j : Nat) : Nat → α := fun k => if k = i then f j else if k = j then f i else f k

/-- Reached by swaps within [a, b). -/
inductive Pm (a b : Nat) (f : Nat → α) : (Nat → α) → Prop
  | refl : Pm a b f f
  | step {g : Nat → α} {i j : Nat} : Pm a b f g → a ≤ i → i < b → a ≤ j → j < b → Pm a b f (swp g i j)

theorem Pm.trans {a b : Nat} {f g e : Nat → α} (h : Pm a b f g) (k : Pm a b g e) : Pm a b f e := by
  induction k with
  | refl => exact h
  | step _ h1 h2 h3 h4 ih => exact ih.step h1 h2 h3 h4
theorem Pm.mono {a b a' b' : Nat} {f g : Nat → α} (h : Pm a b f g) (ha : a' ≤ a) (hb : b ≤ b') : Pm a' b' f g := by
  induction h with
  | refl => exact .refl
  | step _ h1 h2 h3 h4 ih => exact ih.step (by omega) (by omega) (by omega) (by omega)
theorem Pm.out {a b : Nat} {f g : Nat → α} (h : Pm a b f g) (k : Nat) (hk : k < a ∨ b ≤ k) : g k = f k := by
  induction h with
  | refl => rfl
  | step _ h1 h2 h3 h4 ih =>
    unfold swp
    rw [if_neg (by omega), if_neg (by omega)]
    exact ih
theorem Pm.all {a b : Nat} {f g : Nat → α} {P : α → Prop} (h : Pm a b f g) (hP : ∀ k, a ≤ k → k < b → P (f k)) : ∀ k, a ≤ k → k < b → P (g k) := by
  induction h with
  | refl => exact hP
  | step _ h1 h2 h3 h4 ih =>
    intro k hk hk'
    unfold swp
    split
    · exact ih _ h3 h4
    · split
      · exact ih _ h1 h2
      · exact ih _ hk hk'

theorem swp_perm (f : Nat → α) (n i j : Nat) (hi : i < n) (hj : j < n) : ((List.range n).map (swp f i j)).Perm ((List.range n).map f) := by
  have hs : ((List.range n).map f).toArray.size = n := by simp
  have h := Array.swap_perm (xs := ((List.range n).map f).toArray) (i := i) (j := j) (by rw [hs]; exact hi) (by rw [hs]; exact hj)
  have h2 := h.toList
  have e : (((List.range n).map f).toArray.swap i j (by rw [hs]; exact hi) (by rw [hs]; exact hj)).toList = (List.range n).map (swp f i j) := by
    apply List.ext_getElem
    · simp
    · intro k h1 h3
      have hk : k < n := by simpa using h3
      rw [Array.getElem_toList, Array.getElem_swap]
      simp only [swp, List.getElem_map, List.getElem_range, List.getElem_toArray]
  rw [e] at h2
  simpa using h2

theorem Pm.perm {n : Nat} {f g : Nat → α} (h : Pm 0 n f g) : ((List.range n).map g).Perm ((List.range n).map f) := by
  induction h with
  | refl => exact List.Perm.refl _
  | step _ h1 h2 h3 h4 ih => exact (swp_perm _ n _ _ h2 h4).trans ih

variable (cmp : α → α → Int)
structure Good : Prop where
  swap : ∀ a b, cmp b a = - cmp a b
  trans : ∀ a b c, cmp a b ≤ 0 → cmp b c ≤ 0 → cmp a c ≤ 0

def Srtd (f : Nat → α) (a b : Nat) : Prop := ∀ i j, a ≤ i → i ≤ j → j < b → cmp (f i) (f j) ≤ 0

variable {cmp}
theorem Good.self (G : Good cmp) (a : α) : cmp a a ≤ 0 := by have := G.swap a a; omega

/-- The inner loop of the insertion sort. -/
structure Ins (cmp : α → α → Int) (g : Nat → α) (a i j : Nat) : Prop where
  lo : a ≤ j
  hi : j ≤ i
  rest : ∀ p q, a ≤ p → p ≤ q → q ≤ i → p ≠ j → q ≠ j → cmp (g p) (g q) ≤ 0
  behind : ∀ q, j ≤ q → q ≤ i → cmp (g j) (g q) ≤ 0

theorem Ins.start (G : Good cmp) {g : Nat → α} {a i : Nat} (h : Srtd cmp g a i) (hai : a ≤ i) : Ins cmp g a i i :=
  ⟨hai, Nat.le_refl _, fun p q h1 h2 h3 h4 h5 => h p q h1 h2 (by omega), fun q h1 h2 => by
    have : q = i := by omega
    rw [this]; exact G.self _⟩

theorem Ins.step (G : Good cmp) {g : Nat → α} {a i j : Nat} (h : Ins cmp g a i j) (hj : a < j) (hlt : cmp (g j) (g (j - 1)) < 0) : Ins cmp (swp g j (j - 1)) a i (j - 1) := by
  have hl := h.lo
  have hh := h.hi
  have e1 : swp g j (j - 1) (j - 1) = g j := by unfold swp; rw [if_neg (by omega), if_pos rfl]
  have e2 : swp g j (j - 1) j = g (j - 1) := by unfold swp; rw [if_pos rfl]
  have e3 : ∀ k, k ≠ j → k ≠ j - 1 → swp g j (j - 1) k = g k := fun k h1 h2 => by unfold swp; rw [if_neg h1, if_neg h2]
  refine ⟨by omega, by omega, fun p q h1 h2 h3 h4 h5 => ?_, fun q h1 h2 => ?_⟩
  · by_cases hp : p = j
    · subst hp
      rw [e2]
      by_cases hq : q = p
      · subst hq; rw [e2]; exact G.self _
      · rw [e3 q hq h5]
        exact h.rest _ _ (by omega) (by omega) h3 (by omega) hq
    · rw [e3 p hp h4]
      by_cases hq : q = j
      · subst hq; rw [e2]
        exact h.rest _ _ h1 (by omega) (by omega) hp (by omega)
      · rw [e3 q hq h5]
        exact h.rest _ _ h1 h2 h3 hp hq
  · rw [e1]
    by_cases hq : q = j - 1
    · rw [hq, e1]; exact G.self _
    · by_cases hq2 : q = j
      · rw [hq2, e2]; omega
      · rw [e3 q hq2 hq]
        exact h.behind q (by omega) h2

theorem Ins.done (G : Good cmp) {g : Nat → α} {a i j : Nat} (h : Ins cmp g a i j) (hd : j = a ∨ ¬ cmp (g j) (g (j - 1)) < 0) : Srtd cmp g a (i + 1) := by
  have hl := h.lo
  have hh := h.hi
  intro p q h1 h2 h3
  by_cases hp : p = j
  · subst hp; exact h.behind q h2 (by omega)
  by_cases hq : q = j
  · subst hq
    rcases hd with hd | hd
    · omega
    · have hs := G.swap (g (q - 1)) (g q)
      have h4 := h.rest p (q - 1) h1 (by omega) (by omega) hp (by omega)
      exact G.trans _ _ _ h4 (by omega)
  · exact h.rest p q h1 h2 (by omega) hp hq
end
end Go.Proofs.YtjchlfblbmiceaaGreat.srt
