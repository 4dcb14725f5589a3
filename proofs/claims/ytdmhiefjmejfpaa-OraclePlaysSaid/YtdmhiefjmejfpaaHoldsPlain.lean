/- The plain part of OracleHolds: the states of its two loops. -/
import Derived.Test.YtdmhiefjmejfpaaMeth
namespace Go.Proofs.Ytdmhiefjmejfpaa
open Go.RowKit Go.Maps

def pairF (F : Int) (j : Nat) : Int × Int := ((j : Int) + 1, F + (j : Int))
def LF (F : Int) (n : Nat) : List (Int × Int) := (List.range n).map (pairF F)
def LK (F : Int) (i k n : Nat) : List (Int × Int) := ((List.range n).filter fun j => decide (i ≤ j) || decide (j = k)).map (pairF F)

theorem LF_len (F : Int) (n : Nat) : (LF F n).length = n := by simp [LF]
theorem LF_succ (F : Int) (n : Nat) : LF F (n + 1) = LF F n ++ [((n : Int) + 1, F + (n : Int))] := by simp [LF, List.range_succ, pairF]
theorem LF_mem {F : Int} {n : Nat} {p : Int × Int} (h : p ∈ LF F n) : ∃ j : Nat, j < n ∧ p = ((j : Int) + 1, F + (j : Int)) := by
  unfold LF at h
  obtain ⟨j, hj, rfl⟩ := List.mem_map.1 h
  exact ⟨j, by simpa using hj, rfl⟩
theorem LF_rise (F : Int) (n : Nat) : (LF F n).Pairwise (fun a b => a.1 < b.1) := by
  unfold LF
  rw [List.pairwise_map]
  exact List.pairwise_lt_range.imp (fun h => by simp [pairF]; omega)

def hsF (F : Int) (i : Nat) : Orc := { last := F + i, read := F + i, L := LF F (min i 64), made := ((min i 64 : Nat) : Int) }

theorem hsF_good {F : Int} {i : Nat} (h0 : 0 ≤ F) (h1 : F ≤ 1099511627576) (hi : i ≤ 70) : Good (hsF F i) := by
  refine ⟨by simp only [hsF]; omega, by simp only [hsF]; omega, by simp only [hsF]; omega, by simp only [hsF]; omega, by simp only [hsF]; omega, LF_rise _ _, ?_, by simp only [hsF, LF_len]; omega⟩
  intro p hp
  obtain ⟨j, hj, rfl⟩ := LF_mem hp
  simp only [hsF]
  omega

theorem least_hsF {F : Int} {i : Nat} : leastOf (F + i) (LF F (min i 64)) = F := by
  symm
  apply leastOf_uniq
  · omega
  · intro p hp
    obtain ⟨j, hj, rfl⟩ := LF_mem hp
    simp only; omega
  · by_cases h : i = 0
    · left; omega
    · right
      exact ⟨pairF F 0, List.mem_map.2 ⟨0, by simp; omega, rfl⟩, by simp [pairF]⟩

/-- .. behind the hold of a round, and the rise of what is read. -/
theorem least_next {F : Int} {i : Nat} (r : Int) (hr : F ≤ r) : leastOf r (LF F (i + 1)) = F := by
  symm
  apply leastOf_uniq
  · omega
  · intro p hp
    obtain ⟨j, hj, rfl⟩ := LF_mem hp
    simp only; omega
  · right
    exact ⟨pairF F 0, List.mem_map.2 ⟨0, by simp, rfl⟩, by simp [pairF]⟩

theorem LK_zero (F : Int) (k n : Nat) : LK F 0 k n = LF F n := by
  unfold LK LF
  rw [List.filter_eq_self.2 (by simp)]

theorem LK_step {F : Int} {i k n : Nat} (h : i ≠ k) : without (LK F i k n) ((i : Int) + 1) = LK F (i + 1) k n := by
  unfold LK without
  rw [List.filter_map, List.filter_filter]
  congr 1
  apply List.filter_congr
  intro j _
  simp only [Function.comp_apply, pairF]
  rw [Bool.eq_iff_iff]
  simp
  omega

theorem LK_stay {F : Int} {k n : Nat} : LK F (k + 1) k n = LK F k k n := by
  unfold LK
  congr 1
  apply List.filter_congr
  intro j _
  rw [Bool.eq_iff_iff]
  simp
  omega

theorem LK_end {F : Int} {k n : Nat} (h : k < n) : LK F n k n = [((k : Int) + 1, F + (k : Int))] := by
  unfold LK
  have : (List.range n).filter (fun j => decide (n ≤ j) || decide (j = k)) = [k] := by
    have e : (List.range n).filter (fun j => decide (n ≤ j) || decide (j = k)) = (List.range n).filter (fun j => j == k) := by
      apply List.filter_congr
      intro j hj
      have := List.mem_range.1 hj
      rw [Bool.eq_iff_iff]
      simp; omega
    rw [e, List.filter_beq]
    have : List.count k (List.range n) = 1 := by
      rw [List.Nodup.count List.nodup_range]; simp [h]
    rw [this]; rfl
  rw [this]; rfl

theorem LK_mem {F : Int} {i k n j : Nat} (hj : j < n) (h : i ≤ j ∨ j = k) : ((j : Int) + 1, F + (j : Int)) ∈ LK F i k n :=
  List.mem_map.2 ⟨j, List.mem_filter.2 ⟨by simpa using hj, by simpa using h⟩, rfl⟩

theorem timeOf_mem {L : List (Int × Int)} {k t : Int} (hs : L.Pairwise (fun a b => a.1 < b.1)) (h : (k, t) ∈ L) : timeOf L k = some t := by
  induction L with
  | nil => cases h
  | cons q L ih =>
    rw [List.pairwise_cons] at hs
    rcases List.mem_cons.1 h with rfl | h
    · simp [timeOf]
    · have := hs.1 _ h
      have hne : ¬ q.1 = k := by simp at this; omega
      have e : timeOf (q :: L) k = timeOf L k := by simp [timeOf, hne]
      rw [e]; exact ih hs.2 h

theorem LK_rise (F : Int) (i k n : Nat) : (LK F i k n).Pairwise (fun a b => a.1 < b.1) := by
  unfold LK
  rw [List.pairwise_map]
  exact (List.Pairwise.filter _ List.pairwise_lt_range).imp (fun h => by simp [pairF]; omega)

theorem LK_time {F : Int} {i k n j : Nat} (hj : j < n) (h : i ≤ j ∨ j = k) : timeOf (LK F i k n) ((j : Int) + 1) = some (F + (j : Int)) :=
  timeOf_mem (LK_rise _ _ _ _) (LK_mem hj h)

end Go.Proofs.Ytdmhiefjmejfpaa
