/- The plain laws of merging in place: blocks swapped, a rotation, the two halves. No program in sight. No condition. -/
import Derived.Test.YtjchlfblbmiceaaGreatSp
namespace Go.Proofs.YtjchlfblbmiceaaGreat.srt
open Go.RowKit

section
variable {α : Type}

def swpR (f : Nat → α) (a b n : Nat) : Nat → α := fun k => if a ≤ k ∧ k < a + n then f (k - a + b) else if b ≤ k ∧ k < b + n then f (k - b + a) else f k
def rot (f : Nat → α) (a m b : Nat) : Nat → α := fun k => if k < a then f k else if k < a + (b - m) then f (k + (m - a)) else if k < b then f (k - (b - m)) else f k

theorem swpR_zero (f : Nat → α) (a b : Nat) : swpR f a b 0 = f := by
  funext k
  unfold swpR
  rw [if_neg (by omega), if_neg (by omega)]
theorem swpR_succ (f : Nat → α) (a b i : Nat) (h : a + (i + 1) ≤ b) : swp (swpR f a b i) (a + i) (b + i) = swpR f a b (i + 1) := by
  funext k
  simp only [swp, swpR]
  repeat' split
  all_goals first | rfl | (exfalso; omega) | (congr 1; omega)
theorem swpR_pm (f : Nat → α) (a b n lo hi : Nat) (h : a + n ≤ b) (h1 : lo ≤ a) (h2 : b + n ≤ hi) : Pm lo hi f (swpR f a b n) := by
  induction n with
  | zero => rw [swpR_zero]; exact .refl
  | succ n ih =>
    rw [← swpR_succ f a b n (by omega)]
    exact (ih (by omega) (by omega)).step (by omega) (by omega) (by omega) (by omega)

theorem rot_gt (g : Nat → α) (m i j : Nat) (hi : i ≤ m) (hij : j < i) : rot (swpR g (m - i) m j) (m - (i - j)) m (m + j) = rot g (m - i) m (m + j) := by
  funext k
  simp only [rot, swpR]
  repeat' split
  all_goals first | rfl | (exfalso; omega) | (congr 1; omega)
theorem rot_lt (g : Nat → α) (m i j : Nat) (hi : i ≤ m) (hij : i < j) : rot (swpR g (m - i) (m + j - i) i) (m - i) m (m + (j - i)) = rot g (m - i) m (m + j) := by
  funext k
  simp only [rot, swpR]
  repeat' split
  all_goals first | rfl | (exfalso; omega) | (congr 1; omega)
theorem rot_eq (g : Nat → α) (m i : Nat) (hi : i ≤ m) : swpR g (m - i) m i = rot g (m - i) m (m + i) := by
  funext k
  simp only [rot, swpR]
  repeat' split
  all_goals first | rfl | (exfalso; omega) | (congr 1; omega)
theorem rot_none (f : Nat → α) (m b : Nat) : rot f m m b = f := by
  funext k
  simp only [rot]
  repeat' split
  all_goals first | rfl | (exfalso; omega) | (congr 1; omega)
theorem rot_none' (f : Nat → α) (a m : Nat) : rot f a m m = f := by
  funext k
  simp only [rot]
  repeat' split
  all_goals first | rfl | (exfalso; omega) | (congr 1; omega)
theorem rot_up (f : Nat → α) (a k : Nat) (h : a ≤ k) : swp (rot f a (a + 1) (k + 1)) k (k + 1) = rot f a (a + 1) (k + 2) := by
  funext q
  simp only [rot, swp]
  repeat' split
  all_goals first | rfl | (exfalso; omega) | (congr 1; omega)
theorem rot_down (f : Nat → α) (m k : Nat) (h : k ≤ m) (hk : 0 < k) : swp (rot f k m (m + 1)) k (k - 1) = rot f (k - 1) m (m + 1) := by
  funext q
  simp only [rot, swp]
  repeat' split
  all_goals first | rfl | (exfalso; omega) | (congr 1; omega)

variable {cmp : α → α → Int}

/-- The middle of a merge in place: behind the rotation the first half stands not behind the second, and each is two runs. -/
theorem sym_mid (G : Good cmp) {f : Nat → α} {a m b s e mid : Nat} (h1 : Srtd cmp f a m) (h2 : Srtd cmp f m b) (ha : a ≤ s) (hs : s ≤ m) (hm : m ≤ e) (he : e ≤ b) (hmid : s + (e - m) = mid)
    (hlo : s = a ∨ e = b ∨ cmp (f (s - 1)) (f e) ≤ 0) (hhi : s = m ∨ e = m ∨ cmp (f (e - 1)) (f s) ≤ 0) :
    Srtd cmp (rot f s m e) a s ∧ Srtd cmp (rot f s m e) s mid ∧ Srtd cmp (rot f s m e) mid e ∧ Srtd cmp (rot f s m e) e b ∧ ∀ p q, a ≤ p → p < mid → mid ≤ q → q < b → cmp (rot f s m e p) (rot f s m e q) ≤ 0 := by
  have r1 : ∀ k, k < s → rot f s m e k = f k := fun k h => by unfold rot; rw [if_pos h]
  have r2 : ∀ k, s ≤ k → k < mid → rot f s m e k = f (k + (m - s)) := fun k h h' => by unfold rot; rw [if_neg (by omega), if_pos (by omega)]
  have r3 : ∀ k, mid ≤ k → k < e → rot f s m e k = f (k - (e - m)) := fun k h h' => by unfold rot; rw [if_neg (by omega), if_neg (by omega), if_pos h']
  have r4 : ∀ k, e ≤ k → rot f s m e k = f k := fun k h => by
    unfold rot
    by_cases hk : k < s + (e - m)
    · rw [if_neg (by omega), if_pos hk]
      congr 1; omega
    · rw [if_neg (by omega), if_neg hk, if_neg (by omega)]
  refine ⟨fun i j x y z => ?_, fun i j x y z => ?_, fun i j x y z => ?_, fun i j x y z => ?_, fun p q x y z t => ?_⟩
  · rw [r1 i (by omega), r1 j z]; exact h1 i j x y (by omega)
  · rw [r2 i x (by omega), r2 j (by omega) z]; exact h2 _ _ (by omega) (by omega) (by omega)
  · rw [r3 i x (by omega), r3 j (by omega) z]; exact h1 _ _ (by omega) (by omega) (by omega)
  · rw [r4 i x, r4 j (by omega)]; exact h2 _ _ (by omega) (by omega) (by omega)
  · by_cases hp : p < s
    · rw [r1 p hp]
      by_cases hq : q < e
      · rw [r3 q z hq]; exact h1 _ _ x (by omega) (by omega)
      · rw [r4 q (by omega)]
        rcases hlo with h | h | h
        · omega
        · omega
        · exact G.trans _ _ _ (h1 p (s - 1) x (by omega) (by omega)) (G.trans _ _ _ h (h2 e q hm (by omega) t))
    · rw [r2 p (by omega) y]
      by_cases hq : q < e
      · rw [r3 q z hq]
        rcases hhi with h | h | h
        · omega
        · omega
        · exact G.trans _ _ _ (h2 _ (e - 1) (by omega) (by omega) (by omega)) (G.trans _ _ _ h (h1 s _ ha (by omega) (by omega)))
      · rw [r4 q (by omega)]; exact h2 _ _ (by omega) (by omega) t

/-- The two halves, sorted each. -/
theorem sym_join {f g e : Nat → α} {a mid b : Nat} (hc : ∀ p q, a ≤ p → p < mid → mid ≤ q → q < b → cmp (f p) (f q) ≤ 0) (h1 : Pm a mid f g) (s1 : Srtd cmp g a mid) (h2 : Pm mid b g e) (s2 : Srtd cmp e mid b) : Srtd cmp e a b := by
  have c1 : ∀ p, a ≤ p → p < mid → ∀ q, mid ≤ q → q < b → cmp (g p) (f q) ≤ 0 := h1.all (P := fun x => ∀ q, mid ≤ q → q < b → cmp x (f q) ≤ 0) fun k x y q z t => hc k q x y z t
  have c2 : ∀ q, mid ≤ q → q < b → ∀ p, a ≤ p → p < mid → cmp (g p) (e q) ≤ 0 := h2.all (P := fun x => ∀ p, a ≤ p → p < mid → cmp (g p) x ≤ 0) fun k x y p z t => by
    rw [h1.out k (Or.inr x)]
    exact c1 p z t k x y
  intro i j x y z
  by_cases hj : j < mid
  · rw [h2.out i (Or.inl (by omega)), h2.out j (Or.inl hj)]; exact s1 i j x y hj
  · by_cases hi : i < mid
    · rw [h2.out i (Or.inl hi)]; exact c2 j (by omega) z i x hi
    · exact s2 i j (by omega) y z

theorem Srtd.one (G : Good cmp) {f : Nat → α} {a b : Nat} (h : b ≤ a + 1) : Srtd cmp f a b := fun i j x y z => by
  have : i = j := by omega
  subst this; exact G.self _
theorem Srtd.out {f g : Nat → α} {a b lo hi : Nat} (h : Srtd cmp f a b) (k : Pm lo hi f g) (hd : b ≤ lo ∨ hi ≤ a) : Srtd cmp g a b := fun i j x y z => by
  rw [k.out i (by omega), k.out j (by omega)]; exact h i j x y z

theorem rot_pm_of {m : Nat} : ∀ (c : Nat) (g : Nat → α) (i j : Nat), i + j ≤ c → i ≤ m → 0 < i → 0 < j → Pm (m - i) (m + j) g (rot g (m - i) m (m + j)) := by
  intro c
  induction c with
  | zero => intro g i j h1 h2 h3 h4; omega
  | succ c ih =>
    intro g i j h1 h2 h3 h4
    rcases Nat.lt_trichotomy i j with h | h | h
    · have h5 := ih (swpR g (m - i) (m + j - i) i) i (j - i) (by omega) h2 h3 (by omega)
      rw [rot_lt g m i j h2 h] at h5
      exact (swpR_pm g (m - i) (m + j - i) i _ _ (by omega) (Nat.le_refl _) (by omega)).trans (h5.mono (Nat.le_refl _) (by omega))
    · subst h
      rw [← rot_eq g m i h2]
      exact swpR_pm g (m - i) m i _ _ (by omega) (Nat.le_refl _) (Nat.le_refl _)
    · have h5 := ih (swpR g (m - i) m j) (i - j) j (by omega) (by omega) (by omega) h4
      rw [rot_gt g m i j h2 h] at h5
      exact (swpR_pm g (m - i) m j _ _ (by omega) (Nat.le_refl _) (by omega)).trans (h5.mono (by omega) (by omega))

theorem rot_pm (f : Nat → α) {a m b : Nat} (h1 : a ≤ m) (h2 : m ≤ b) : Pm a b f (rot f a m b) := by
  by_cases ha : a = m
  · subst ha; rw [rot_none]; exact .refl
  by_cases hb : b = m
  · subst hb; rw [rot_none']; exact .refl
  have h := rot_pm_of (m := m) ((m - a) + (b - m)) f (m - a) (b - m) (Nat.le_refl _) (by omega) (by omega) (by omega)
  rw [show m - (m - a) = a by omega, show m + (b - m) = b by omega] at h
  exact h
end
end Go.Proofs.YtjchlfblbmiceaaGreat.srt
