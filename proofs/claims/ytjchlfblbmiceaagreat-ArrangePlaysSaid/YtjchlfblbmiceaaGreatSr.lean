/- The plain laws of the searches in a merge in place, and of runs that grow. No program in sight. No condition. -/
import Derived.Test.YtjchlfblbmiceaaGreatSq
namespace Go.Proofs.YtjchlfblbmiceaaGreat.srt
open Go.RowKit

section
variable {α : Type} {cmp : α → α → Int}

theorem Good.le_lt (G : Good cmp) {a b c : α} (h : cmp a b ≤ 0) (k : cmp b c < 0) : cmp a c < 0 := by
  by_cases h1 : cmp a c < 0
  · exact h1
  · have s := G.swap a c
    have t := G.trans c a b (by omega) h
    have s2 := G.swap b c
    omega
theorem Good.lt_le (G : Good cmp) {a b c : α} (h : cmp a b < 0) (k : cmp b c ≤ 0) : cmp a c < 0 := by
  by_cases h1 : cmp a c < 0
  · exact h1
  · have s := G.swap a c
    have t := G.trans b c a k (by omega)
    have s2 := G.swap a b
    omega

/-- One element ahead of a run, let in. -/
theorem ins_lo (G : Good cmp) {f : Nat → α} {a b i : Nat} (h : Srtd cmp f (a + 1) b) (h1 : a + 1 ≤ i) (h2 : i ≤ b) (hlo : i = a + 1 ∨ cmp (f (i - 1)) (f a) < 0) (hhi : i = b ∨ ¬ cmp (f i) (f a) < 0) : Srtd cmp (rot f a (a + 1) i) a b := by
  have r2 : ∀ k, a ≤ k → k < i - 1 → rot f a (a + 1) i k = f (k + 1) := fun k h h' => by
    unfold rot
    rw [if_neg (by omega), if_pos (by omega)]
    congr 1; omega
  have r3 : rot f a (a + 1) i (i - 1) = f a := by
    unfold rot
    rw [if_neg (by omega), if_neg (by omega), if_pos (by omega)]
    congr 1; omega
  have r4 : ∀ k, i ≤ k → rot f a (a + 1) i k = f k := fun k h => by
    unfold rot
    rw [if_neg (by omega), if_neg (by omega), if_neg (by omega)]
  have lo : ∀ k, a + 1 ≤ k → k < i → cmp (f k) (f a) ≤ 0 := fun k x y => by
    rcases hlo with h3 | h3
    · omega
    · have := G.le_lt (h k (i - 1) x (by omega) (by omega)) h3
      omega
  have hi : ∀ k, i ≤ k → k < b → cmp (f a) (f k) ≤ 0 := fun k x y => by
    rcases hhi with h3 | h3
    · omega
    · have s := G.swap (f i) (f a)
      exact G.trans _ (f i) _ (by omega) (h i k (by omega) x y)
  intro p q x y z
  by_cases hp : p < i - 1
  · rw [r2 p x hp]
    by_cases hq : q < i - 1
    · rw [r2 q (by omega) hq]; exact h _ _ (by omega) (by omega) (by omega)
    · by_cases hq2 : q = i - 1
      · rw [hq2, r3]; exact lo _ (by omega) (by omega)
      · rw [r4 q (by omega)]; exact h _ _ (by omega) (by omega) z
  · by_cases hp2 : p = i - 1
    · rw [hp2, r3]
      by_cases hq2 : q = i - 1
      · rw [hq2, r3]; exact G.self _
      · rw [r4 q (by omega)]; exact hi _ (by omega) z
    · rw [r4 p (by omega), r4 q (by omega)]; exact h _ _ (by omega) y z

/-- One element behind a run, let in. -/
theorem ins_hi (G : Good cmp) {f : Nat → α} {a m i : Nat} (h : Srtd cmp f a m) (h1 : a ≤ i) (h2 : i ≤ m) (hlo : i = a ∨ ¬ cmp (f m) (f (i - 1)) < 0) (hhi : i = m ∨ cmp (f m) (f i) < 0) : Srtd cmp (rot f i m (m + 1)) a (m + 1) := by
  have r1 : ∀ k, k < i → rot f i m (m + 1) k = f k := fun k h => by unfold rot; rw [if_pos h]
  have r2 : rot f i m (m + 1) i = f m := by
    unfold rot
    rw [if_neg (by omega), if_pos (by omega)]
    congr 1; omega
  have r3 : ∀ k, i < k → k ≤ m → rot f i m (m + 1) k = f (k - 1) := fun k h h' => by
    unfold rot
    rw [if_neg (by omega), if_neg (by omega), if_pos (by omega)]
    congr 1; omega
  have lo : ∀ k, a ≤ k → k < i → cmp (f k) (f m) ≤ 0 := fun k x y => by
    rcases hlo with h3 | h3
    · omega
    · have s := G.swap (f m) (f (i - 1))
      exact G.trans _ (f (i - 1)) _ (h k (i - 1) x (by omega) (by omega)) (by omega)
  have hi : ∀ k, i ≤ k → k < m → cmp (f m) (f k) ≤ 0 := fun k x y => by
    rcases hhi with h3 | h3
    · omega
    · have := G.lt_le h3 (h i k h1 x y)
      omega
  intro p q x y z
  by_cases hp : p < i
  · rw [r1 p hp]
    by_cases hq : q < i
    · rw [r1 q hq]; exact h _ _ x y (by omega)
    · by_cases hq2 : q = i
      · rw [hq2, r2]; exact lo _ x hp
      · rw [r3 q (by omega) (by omega)]; exact h _ _ x (by omega) (by omega)
  · by_cases hp2 : p = i
    · rw [hp2, r2]
      by_cases hq2 : q = i
      · rw [hq2, r2]; exact G.self _
      · rw [r3 q (by omega) (by omega)]; exact hi _ (by omega) (by omega)
    · rw [r3 p (by omega) (by omega), r3 q (by omega) (by omega)]; exact h _ _ (by omega) (by omega) (by omega)

/-- Runs of c each, from the q-th on. -/
def Runs (cmp : α → α → Int) (f : Nat → α) (n c q : Nat) : Prop := ∀ i, q ≤ i → Srtd cmp f (i * c) (min (i * c + c) n)
/-- Runs of c each, the first q. -/
def Done (cmp : α → α → Int) (f : Nat → α) (c q : Nat) : Prop := ∀ i, i < q → Srtd cmp f (i * c) (i * c + c)

theorem Srtd.min {f : Nat → α} {a b n : Nat} (h : Srtd cmp f a b) : Srtd cmp f a (min b n) := fun i j x y z => h i j x y (by omega)

theorem Runs.start {f : Nat → α} {n c q : Nat} (h : Done cmp f c q) (hl : Srtd cmp f (q * c) n) (hq : n ≤ q * c + c) : Runs cmp f n c 0 := by
  intro i _
  by_cases hi : i < q
  · exact (h i hi).min
  · by_cases hi2 : i = q
    · subst hi2; rw [Nat.min_eq_right hq]; exact hl
    · intro p r x y z
      have : (q + 1) * c ≤ i * c := Nat.mul_le_mul_right c (by omega)
      rw [Nat.add_mul, Nat.one_mul] at this
      omega
theorem Done.step {f g : Nat → α} {c q a b : Nat} (h : Done cmp f c q) (k : Pm a b f g) (ha : a = q * c) (hs : Srtd cmp g (q * c) (q * c + c)) : Done cmp g c (q + 1) := by
  intro i hi
  by_cases hi2 : i = q
  · subst hi2; exact hs
  · have : (i + 1) * c ≤ q * c := Nat.mul_le_mul_right c (by omega)
    rw [Nat.add_mul, Nat.one_mul] at this
    exact (h i (by omega)).out k (Or.inl (by omega))
theorem Done.keep {f g : Nat → α} {c q a b : Nat} (h : Done cmp f c q) (k : Pm a b f g) (ha : a = q * c) : Done cmp g c q := by
  intro i hi
  have : (i + 1) * c ≤ q * c := Nat.mul_le_mul_right c (by omega)
  rw [Nat.add_mul, Nat.one_mul] at this
  exact (h i hi).out k (Or.inl (by omega))
theorem Runs.step {f g : Nat → α} {n c q a b : Nat} (h : Runs cmp f n c (q * 2)) (k : Pm a b f g) (hb : b = q * (2 * c) + 2 * c) : Runs cmp g n c ((q + 1) * 2) := by
  intro i hi
  have h1 := h i (by omega)
  have : (q + 1) * 2 * c ≤ i * c := Nat.mul_le_mul_right c hi
  have e : (q + 1) * 2 * c = q * (2 * c) + 2 * c := by rw [Nat.mul_assoc, Nat.add_mul, Nat.one_mul]
  exact h1.out k (Or.inr (by omega))
theorem Runs.two {f : Nat → α} {n c q : Nat} (h : Runs cmp f n c (q * 2)) : Srtd cmp f (q * (2 * c)) (min (q * (2 * c) + c) n) ∧ Srtd cmp f (q * (2 * c) + c) (min (q * (2 * c) + 2 * c) n) := by
  have h1 := h (q * 2) (Nat.le_refl _)
  have h2 := h (q * 2 + 1) (by omega)
  have e : q * 2 * c = q * (2 * c) := Nat.mul_assoc _ _ _
  rw [e] at h1
  rw [Nat.add_mul, Nat.one_mul, e] at h2
  refine ⟨h1, ?_⟩
  have e2 : q * (2 * c) + c + c = q * (2 * c) + 2 * c := by omega
  rw [e2] at h2
  exact h2
theorem Done.zero {f : Nat → α} {c : Nat} : Done cmp f c 0 := fun i h => by omega
theorem Runs.all {f : Nat → α} {n c : Nat} (h : Runs cmp f n c 0) (hc : n ≤ c) : Srtd cmp f 0 n := by
  have := h 0 (Nat.le_refl _)
  rw [Nat.zero_mul, Nat.zero_add, Nat.min_eq_right hc] at this
  exact this
end
end Go.Proofs.YtjchlfblbmiceaaGreat.srt
