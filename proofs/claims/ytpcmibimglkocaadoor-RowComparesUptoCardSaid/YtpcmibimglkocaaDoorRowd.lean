/- The plain law of a row's reading: rowD. No condition. -/
import Derived.Test.YtpcmibimglkocaaDoorPlain
namespace Go.Proofs.YtpcmibimglkocaaDoor

theorem textB_len : ∀ (n : Nat) (l : List UInt8), l.length ≤ n → ∀ t r, textB l = some (t, r) → r.length + t.length + 2 ≤ l.length := by
  intro n
  induction n with
  | zero =>
    intro l h t r ht
    have : l = [] := List.length_eq_zero_iff.1 (by omega)
    subst this
    rw [textB_nil] at ht; cases ht
  | succ n ih =>
    intro l h t r ht
    cases l with
    | nil => rw [textB_nil] at ht; cases ht
    | cons c l =>
      by_cases hc : c = 0
      · subst hc
        cases l with
        | nil => rw [textB_one] at ht; cases ht
        | cons d l =>
          by_cases h0 : d = 0
          · subst h0
            rw [textB_end] at ht
            simp only [Option.some.injEq, Prod.mk.injEq] at ht
            obtain ⟨rfl, rfl⟩ := ht
            simp
          · by_cases h1 : d = 1
            · subst h1
              rw [textB_zero] at ht
              cases hb : textB l with
              | none => rw [hb] at ht; cases ht
              | some p =>
                rw [hb] at ht
                simp only [Option.map_some, Option.some.injEq, Prod.mk.injEq] at ht
                obtain ⟨rfl, rfl⟩ := ht
                have := ih l (by simp at h; omega) p.1 p.2 hb
                simp; omega
            · rw [textB_bad h0 h1] at ht; cases ht
      · rw [textB_char hc] at ht
        cases hb : textB l with
        | none => rw [hb] at ht; cases ht
        | some p =>
          rw [hb] at ht
          simp only [Option.map_some, Option.some.injEq, Prod.mk.injEq] at ht
          obtain ⟨rfl, rfl⟩ := ht
          have := ih l (by simp at h; omega) p.1 p.2 hb
          simp; omega

theorem valB_lt {l r : List UInt8} {d : Dt} (h : valB l = some (d, r)) : r.length < l.length := by
  cases l with
  | nil => simp [valB] at h
  | cons c l =>
    simp only [valB] at h
    split at h
    · simp only [Option.some.injEq, Prod.mk.injEq] at h; obtain ⟨-, rfl⟩ := h; simp
    split at h
    · cases l with
      | nil => simp at h
      | cons b l =>
        simp only at h
        split at h
        · simp only [Option.some.injEq, Prod.mk.injEq] at h; obtain ⟨-, rfl⟩ := h; simp; omega
        · cases h
    split at h
    · split at h
      · cases h
      · simp only [Option.some.injEq, Prod.mk.injEq] at h; obtain ⟨-, rfl⟩ := h; simp; omega
    split at h
    · cases hb : textB l with
      | none => rw [hb] at h; cases h
      | some p =>
        rw [hb] at h
        simp only at h
        split at h
        · simp only [Option.some.injEq, Prod.mk.injEq] at h; obtain ⟨-, rfl⟩ := h
          have := textB_len l.length l (Nat.le_refl _) p.1 p.2 hb
          simp; omega
        · cases h
    · cases h

theorem valB_right {l r : List UInt8} {d : Dt} (h : valB l = some (d, r)) : rightB d = true := by
  cases l with
  | nil => simp [valB] at h
  | cons c l =>
    simp only [valB] at h
    split at h
    · simp only [Option.some.injEq, Prod.mk.injEq] at h; obtain ⟨rfl, -⟩ := h; rfl
    split at h
    · cases l with
      | nil => simp at h
      | cons b l =>
        simp only at h
        split at h
        · simp only [Option.some.injEq, Prod.mk.injEq] at h; obtain ⟨rfl, -⟩ := h
          rename_i hb
          have h2 : b.toNat = 0 ∨ b.toNat = 1 := by omega
          rcases h2 with h2 | h2 <;> simp [rightB, h2]
        · cases h
    split at h
    · rename_i hc
      split at h
      · cases h
      · simp only [Option.some.injEq, Prod.mk.injEq] at h; obtain ⟨rfl, -⟩ := h
        rcases hc with rfl | rfl <;> simp [rightB]
    split at h
    · cases hb : textB l with
      | none => rw [hb] at h; cases h
      | some p =>
        rw [hb] at h
        simp only at h
        split at h
        · rename_i hr
          simp only [Option.some.injEq, Prod.mk.injEq] at h; obtain ⟨rfl, -⟩ := h
          exact hr
        · cases h
    · cases h

theorem rowB_fuel : ∀ (n n' m : Nat) (l : List UInt8), l.length < n → l.length < n' → rowB n m l = rowB n' m l := by
  intro n
  induction n with
  | zero => intro n' m l h; omega
  | succ n ih =>
    intro n' m l h h'
    cases n' with
    | zero => omega
    | succ n' =>
      unfold rowB
      by_cases hl : l = []
      · simp [hl]
      · rw [if_neg hl, if_neg hl]
        cases hv : valB l with
        | none => rfl
        | some p =>
          obtain ⟨d, r⟩ := p
          have := valB_lt hv
          simp only
          rw [ih n' (m - 1) r (by omega) (by omega)]

/-- A row off its bytes; m: how many values may come. -/
def rowD (m : Nat) (l : List UInt8) : Option (List Dt) := rowB (l.length + 1) m l

theorem rowD_nil (m : Nat) : rowD m [] = some [] := by simp [rowD, rowB]
theorem rowD_none {m : Nat} {l : List UInt8} (hl : l ≠ []) (h : valB l = none) : rowD m l = none := by
  simp only [rowD, rowB, if_neg hl, h]
theorem rowD_full {l : List UInt8} (hl : l ≠ []) : rowD 0 l = none := by
  simp only [rowD, rowB, if_neg hl]
  cases valB l <;> simp
theorem rowD_some {m : Nat} {l r : List UInt8} {d : Dt} (hl : l ≠ []) (h : valB l = some (d, r)) (hm : 0 < m) : rowD m l = (rowD (m - 1) r).map (d :: ·) := by
  have hlt := valB_lt h
  simp only [rowD]
  rw [rowB, if_neg hl, h]
  simp only
  rw [if_neg (by omega), rowB_fuel l.length (r.length + 1) (m - 1) r (by omega) (by omega)]
theorem rowD_le : ∀ (n m : Nat) (l : List UInt8) (ds : List Dt), rowB n m l = some ds → ds.length ≤ m := by
  intro n
  induction n with
  | zero => intro m l ds h; cases h
  | succ n ih =>
    intro m l ds h
    rw [rowB] at h
    split at h
    · cases h; simp
    · cases hv : valB l with
      | none => rw [hv] at h; cases h
      | some p =>
        rw [hv] at h
        simp only at h
        split at h
        · cases h
        · cases hb : rowB n (m - 1) p.2 with
          | none => rw [hb] at h; cases h
          | some es =>
            rw [hb] at h
            cases h
            have := ih (m - 1) p.2 es hb
            simp; omega
end Go.Proofs.YtpcmibimglkocaaDoor
