/- The plain order of values and of rows. No condition. -/
import Derived.Test.YtgdneoajmaeckaaGreatDoorPlain
import Derived.Lib.Bytealg
import GoSem.Op.String
namespace Go.Proofs.YtgdneoajmaeckaaGreatDoor
open Go.Lib

theorem cmpS_self : ∀ l : List UInt8, compareBytes l l = 0
  | [] => rfl
  | a :: l => by simp [compareBytes, cmpS_self l]

theorem cmpS_range : ∀ a b : List UInt8, compareBytes a b = -1 ∨ compareBytes a b = 0 ∨ compareBytes a b = 1
  | [], [] => by simp [compareBytes]
  | [], _ :: _ => by simp [compareBytes]
  | _ :: _, [] => by simp [compareBytes]
  | a :: as, b :: bs => by
    unfold compareBytes
    split
    · simp
    · split
      · simp
      · exact cmpS_range as bs

theorem cmpS_eq : ∀ {a b : List UInt8}, compareBytes a b = 0 → a = b
  | [], [], _ => rfl
  | [], _ :: _, h => by simp [compareBytes] at h
  | _ :: _, [], h => by simp [compareBytes] at h
  | a :: as, b :: bs, h => by
    unfold compareBytes at h
    split at h
    · simp at h
    · split at h
      · simp at h
      · rename_i h1 h2
        have : a = b := UInt8.le_antisymm (UInt8.not_lt.1 h2) (UInt8.not_lt.1 h1)
        rw [this, cmpS_eq h]

theorem cmpS_swap : ∀ a b : List UInt8, compareBytes b a = - compareBytes a b
  | [], [] => rfl
  | [], _ :: _ => rfl
  | _ :: _, [] => rfl
  | a :: as, b :: bs => by
    unfold compareBytes
    by_cases h1 : a < b
    · have h2 : ¬ b < a := fun h => absurd (UInt8.lt_trans h1 h) (UInt8.lt_irrefl a)
      simp [h1, h2]
    · by_cases h2 : b < a
      · simp [h1, h2]
      · simp [h1, h2, cmpS_swap as bs]

theorem cmpS_trans : ∀ {a b c : List UInt8}, compareBytes a b ≤ 0 → compareBytes b c ≤ 0 → compareBytes a c ≤ 0
  | [], _, [], _, _ => by simp [compareBytes]
  | [], _, _ :: _, _, _ => by simp [compareBytes]
  | _ :: _, [], _, h, _ => by simp [compareBytes] at h
  | _ :: _, _ :: _, [], _, h => by simp [compareBytes] at h
  | a :: as, b :: bs, c :: cs, h1, h2 => by
    unfold compareBytes at h1 h2 ⊢
    by_cases ab : a < b
    · by_cases bc : b < c
      · simp [UInt8.lt_trans ab bc]
      · rw [if_neg bc] at h2
        by_cases cb : c < b
        · simp [cb] at h2
        · have : b = c := UInt8.le_antisymm (UInt8.not_lt.1 cb) (UInt8.not_lt.1 bc)
          subst this
          simp [ab]
    · rw [if_neg ab] at h1
      by_cases ba : b < a
      · simp [ba] at h1
      · have : a = b := UInt8.le_antisymm (UInt8.not_lt.1 ba) (UInt8.not_lt.1 ab)
        subst this
        rw [if_neg ba] at h1
        by_cases bc : a < c
        · simp [bc]
        · rw [if_neg bc] at h2 ⊢
          by_cases cb : c < a
          · simp [cb] at h2
          · rw [if_neg cb] at h2 ⊢
            exact cmpS_trans h1 h2

theorem less_cmpS : ∀ a b : List UInt8, Op.bytesLess a b = decide (compareBytes a b < 0)
  | [], [] => by simp [Op.bytesLess, compareBytes]
  | [], _ :: _ => by simp [Op.bytesLess, compareBytes]
  | _ :: _, [] => by simp [Op.bytesLess, compareBytes]
  | a :: as, b :: bs => by
    unfold Op.bytesLess compareBytes
    rw [less_cmpS as bs]
    by_cases h1 : a < b
    · simp [h1]
    · by_cases h2 : b < a
      · have : a ≠ b := fun e => by rw [e] at h2; exact absurd h2 (UInt8.lt_irrefl b)
        simp [h1, h2, this]
      · have : a = b := UInt8.le_antisymm (UInt8.not_lt.1 h2) (UInt8.not_lt.1 h1)
        simp [this]

def cmpI (a b : Int) : Int := if a < b then -1 else if b < a then 1 else 0
/-- How two values stand. -/
def cmpD (a b : Dt) : Int := if cmpI a.kind b.kind ≠ 0 then cmpI a.kind b.kind else if cmpI a.i b.i ≠ 0 then cmpI a.i b.i else compareBytes a.s b.s
/-- How two rows stand. -/
def cmpR : List Dt → List Dt → Int
  | [], [] => 0
  | [], _ :: _ => -1
  | _ :: _, [] => 1
  | a :: as, b :: bs => if cmpD a b ≠ 0 then cmpD a b else cmpR as bs

theorem cmpI_self (a : Int) : cmpI a a = 0 := by simp [cmpI]
theorem cmpI_eq {a b : Int} (h : cmpI a b = 0) : a = b := by unfold cmpI at h; split at h; omega; split at h <;> omega
theorem cmpI_swap (a b : Int) : cmpI b a = - cmpI a b := by unfold cmpI; split <;> split <;> omega
theorem cmpD_self (a : Dt) : cmpD a a = 0 := by simp [cmpD, cmpI_self, cmpS_self]
theorem cmpD_eq {a b : Dt} (h : cmpD a b = 0) : a = b := by
  unfold cmpD at h
  split at h
  · rename_i h1; exact absurd h h1
  · split at h
    · rename_i h1; exact absurd h h1
    · rename_i h1 h2
      obtain ⟨k, i, s⟩ := a
      obtain ⟨k', i', s'⟩ := b
      simp only [Decidable.not_not] at h1 h2
      have e1 := cmpI_eq h1
      have e2 := cmpI_eq h2
      have e3 := cmpS_eq h
      simp only at e1 e2 e3
      rw [e1, e2, e3]
theorem cmpD_swap (a b : Dt) : cmpD b a = - cmpD a b := by
  unfold cmpD
  rw [cmpI_swap a.kind b.kind, cmpI_swap a.i b.i, cmpS_swap a.s b.s]
  split <;> split <;> (try (split <;> split)) <;> (try split) <;> omega
theorem cmpI_trans {a b c : Int} (h1 : cmpI a b ≤ 0) (h2 : cmpI b c ≤ 0) : cmpI a c ≤ 0 ∧ (cmpI a c = 0 → cmpI a b = 0 ∧ cmpI b c = 0) := by
  unfold cmpI at *
  repeat' split at h1
  all_goals repeat' split at h2
  all_goals repeat' split
  all_goals (try omega)
theorem cmpD_trans {a b c : Dt} (h1 : cmpD a b ≤ 0) (h2 : cmpD b c ≤ 0) : cmpD a c ≤ 0 := by
  have hk : cmpI a.kind b.kind ≤ 0 := by unfold cmpD at h1; split at h1 <;> omega
  have hk' : cmpI b.kind c.kind ≤ 0 := by unfold cmpD at h2; split at h2 <;> omega
  have tk := cmpI_trans hk hk'
  unfold cmpD
  split
  · exact tk.1
  · rename_i hz
    have hz' : cmpI a.kind c.kind = 0 := by omega
    obtain ⟨z1, z2⟩ := tk.2 hz'
    unfold cmpD at h1 h2
    simp only [z1, z2, ne_eq, not_true_eq_false, if_false] at h1 h2
    have hi : cmpI a.i b.i ≤ 0 := by split at h1 <;> omega
    have hi' : cmpI b.i c.i ≤ 0 := by split at h2 <;> omega
    have ti := cmpI_trans hi hi'
    split
    · exact ti.1
    · rename_i hy
      have hy' : cmpI a.i c.i = 0 := by omega
      obtain ⟨y1, y2⟩ := ti.2 hy'
      simp only [y1, y2, not_true_eq_false, if_false] at h1 h2
      exact cmpS_trans h1 h2
theorem cmpR_self : ∀ l : List Dt, cmpR l l = 0
  | [] => rfl
  | a :: l => by simp [cmpR, cmpD_self, cmpR_self l]
theorem cmpR_eq : ∀ {a b : List Dt}, cmpR a b = 0 → a = b
  | [], [], _ => rfl
  | [], _ :: _, h => by simp [cmpR] at h
  | _ :: _, [], h => by simp [cmpR] at h
  | a :: as, b :: bs, h => by
    unfold cmpR at h
    split at h
    · rename_i h1; exact absurd h h1
    · rename_i h1
      rw [cmpD_eq (by omega : cmpD a b = 0), cmpR_eq h]
theorem cmpR_swap : ∀ a b : List Dt, cmpR b a = - cmpR a b
  | [], [] => rfl
  | [], _ :: _ => rfl
  | _ :: _, [] => rfl
  | a :: as, b :: bs => by
    unfold cmpR
    rw [cmpD_swap a b, cmpR_swap as bs]
    split <;> split <;> omega
theorem cmpR_trans : ∀ {a b c : List Dt}, cmpR a b ≤ 0 → cmpR b c ≤ 0 → cmpR a c ≤ 0
  | [], _, [], _, _ => by simp [cmpR]
  | [], _, _ :: _, _, _ => by simp [cmpR]
  | _ :: _, [], _, h, _ => by simp [cmpR] at h
  | _ :: _, _ :: _, [], _, h => by simp [cmpR] at h
  | a :: as, b :: bs, c :: cs, h1, h2 => by
    have d1 : cmpD a b ≤ 0 := by unfold cmpR at h1; split at h1 <;> omega
    have d2 : cmpD b c ≤ 0 := by unfold cmpR at h2; split at h2 <;> omega
    have d3 := cmpD_trans d1 d2
    unfold cmpR
    split
    · exact d3
    · rename_i hz
      have hac : a = c := cmpD_eq (by omega)
      subst hac
      have hsw := cmpD_swap a b
      have hab : cmpD a b = 0 := by omega
      have hba : cmpD b a = 0 := by omega
      unfold cmpR at h1 h2
      simp only [hab, hba, ne_eq, not_true_eq_false, if_false] at h1 h2
      exact cmpR_trans h1 h2

/-- A number that a 64 bit number can be. -/
def fits64 (i : Int) : Prop := -9223372036854775808 ≤ i ∧ i ≤ 9223372036854775807
/-- A value that memory can hold. -/
def DtOk (d : Dt) : Prop := fits64 d.i ∧ d.s.length ≤ 140737488351232

end Go.Proofs.YtgdneoajmaeckaaGreatDoor
