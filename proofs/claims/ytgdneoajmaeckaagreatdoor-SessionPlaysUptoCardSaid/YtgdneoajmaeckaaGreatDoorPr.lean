/- The plain laws of what is printed. No condition. -/
import Derived.Test.YtgdneoajmaeckaaGreatDoorOrd
import Derived.Test.YtgdneoajmaeckaaGreatDoorFmtu
import Derived.Lib.Replace
import Derived.Lib.CountLaws
import Derived.Lib.Join
import Derived.Lib.ItoaLen
namespace Go.Proofs.YtgdneoajmaeckaaGreatDoor
open Go.Lib

theorem right_cases {d : Dt} (h : rightB d = true) :
    (d.kind = 0 ∧ d.i = 0 ∧ d.s = []) ∨ (d.kind = 1 ∧ (d.i = 0 ∨ d.i = 1) ∧ d.s = []) ∨ ((d.kind = 2 ∨ d.kind = 3) ∧ d.s = []) ∨ ((d.kind = 4 ∨ d.kind = 5) ∧ d.i = 0 ∧ d.s.length ≤ 1000) := by
  simp only [rightB, Bool.or_eq_true, Bool.and_eq_true, decide_eq_true_eq, List.isEmpty_iff] at h
  rcases h with (((h | h) | h) | h) | h
  · exact Or.inl ⟨h.1.1, h.1.2, h.2⟩
  · exact Or.inr (Or.inl ⟨h.1.1, h.1.2, h.2⟩)
  · exact Or.inr (Or.inr (Or.inl h))
  · exact Or.inr (Or.inr (Or.inr ⟨Or.inl h.1.1.1, h.1.1.2, h.1.2⟩))
  · exact Or.inr (Or.inr (Or.inr ⟨Or.inr h.1.1, h.1.2, h.2⟩))


def aposB (l : List UInt8) : List UInt8 := l.flatMap fun c => if c = 39 then [39, 39] else [c]
def hexB (l : List UInt8) : List UInt8 := l.flatMap fun c => [hexC (c.toNat / 16), hexC (c.toNat % 16)]
def fracB (m : Nat) : List UInt8 := (Lib.decDigits (10000 + m)).drop 1
def decB (i : Int) : List UInt8 := (if i < 0 then [45] else []) ++ (Lib.decDigits (i.natAbs / 10000) ++ [46] ++ fracB (i.natAbs % 10000))
/-- How a value is shown. -/
def printV (d : Dt) : List UInt8 :=
  if d.kind = 0 then [78, 85, 76, 76] else if d.kind = 1 then (if d.i = 1 then [84, 82, 85, 69] else [70, 65, 76, 83, 69])
  else if d.kind = 2 then Lib.itoa d.i else if d.kind = 3 then decB d.i else if d.kind = 4 then 39 :: (aposB d.s ++ [39]) else 120 :: 39 :: (hexB d.s ++ [39])
def printD (d : Dt) : List UInt8 := if rightB d then printV d else []
def printR (ds : List Dt) : List UInt8 := 40 :: (Lib.join (ds.map printD) [44, 32] ++ [41])

theorem dd (n : Nat) (h : ¬ n < 10) : Lib.decDigits n = Lib.decDigits (n / 10) ++ [UInt8.ofNat (48 + n % 10)] := by rw [Lib.decDigits, dif_neg h]

theorem frac_eq (m : Nat) (h : m < 10000) : Lib.decDigits (10000 + m) = [49, UInt8.ofNat (48 + m / 1000), UInt8.ofNat (48 + m / 100 % 10), UInt8.ofNat (48 + m / 10 % 10), UInt8.ofNat (48 + m % 10)] := by
  rw [dd _ (by omega), dd ((10000 + m) / 10) (by omega), dd ((10000 + m) / 10 / 10) (by omega), dd ((10000 + m) / 10 / 10 / 10) (by omega), Lib.decDigits_one (by omega)]
  rw [show (10000 + m) / 10 / 10 / 10 / 10 = 1 by omega, show (10000 + m) / 10 / 10 / 10 % 10 = m / 1000 by omega, show (10000 + m) / 10 / 10 % 10 = m / 100 % 10 by omega, show (10000 + m) / 10 % 10 = m / 10 % 10 by omega, show (10000 + m) % 10 = m % 10 by omega]
  rfl

theorem frac_pad (m : Nat) (h : m < 10000) : ∃ z, fracB m = List.replicate z 48 ++ Lib.decDigits m ∧ z + (Lib.decDigits m).length = 4 := by
  unfold fracB
  rw [frac_eq m h]
  by_cases h1 : m < 10
  · refine ⟨3, ?_⟩
    rw [Lib.decDigits_one h1, show m / 1000 = 0 by omega, show m / 100 % 10 = 0 by omega, show m / 10 % 10 = 0 by omega, show m % 10 = m by omega]
    exact ⟨rfl, rfl⟩
  by_cases h2 : m < 100
  · refine ⟨2, ?_⟩
    rw [dd m h1, Lib.decDigits_one (by omega), show m / 1000 = 0 by omega, show m / 100 % 10 = 0 by omega, show m / 10 % 10 = m / 10 by omega]
    exact ⟨rfl, rfl⟩
  by_cases h3 : m < 1000
  · refine ⟨1, ?_⟩
    rw [dd m h1, dd (m / 10) (by omega), Lib.decDigits_one (by omega), show m / 1000 = 0 by omega, show m / 10 / 10 = m / 100 % 10 by omega]
    exact ⟨rfl, rfl⟩
  · refine ⟨0, ?_⟩
    rw [dd m h1, dd (m / 10) (by omega), dd (m / 10 / 10) (by omega), Lib.decDigits_one (by omega), show m / 10 / 10 / 10 = m / 1000 by omega, show m / 10 / 10 % 10 = m / 100 % 10 by omega]
    exact ⟨rfl, rfl⟩

theorem frac_done {m z : Nat} (h : m < 10000) (hz : z + (Lib.decDigits m).length = 4) : List.replicate z 48 ++ Lib.decDigits m = fracB m := by
  obtain ⟨y, h1, h2⟩ := frac_pad m h
  rw [h1, show z = y by omega]
theorem frac_short {m : Nat} (h : m < 10000) : (Lib.decDigits m).length ≤ 4 ∧ 1 ≤ (Lib.decDigits m).length := by
  obtain ⟨y, -, h2⟩ := frac_pad m h
  have := Lib.nDigits_pos m
  rw [Lib.decDigits_length] at *
  omega
theorem frac_len {m : Nat} (h : m < 10000) : (fracB m).length = 4 := by
  obtain ⟨y, h1, h2⟩ := frac_pad m h
  rw [h1]; simp; omega
theorem frac_long {m : Nat} (h : m < 10000) : (Lib.decDigits (10000 + m)).length = 5 := by rw [frac_eq m h]; rfl

theorem index_cons39 (c : UInt8) (l : List UInt8) : index (c :: l) [39] = if c = 39 then 0 else if index l [39] == -1 then -1 else index l [39] + 1 := by
  have e : index (c :: l) [39] = if ([39] : List UInt8).isPrefixOf (c :: l) then 0 else if index l [39] == -1 then -1 else index l [39] + 1 := rfl
  rw [e]
  by_cases h : c = 39
  · subst h; simp [List.isPrefixOf]
  · have : ([39] : List UInt8).isPrefixOf (c :: l) = false := by
      simp [List.isPrefixOf]
      exact fun e => h e.symm
    rw [this, if_neg h]
    simp

theorem repl_cons39 (c : UInt8) (l : List UInt8) : replaceK [39] [39, 39] (count (c :: l) [39]) (c :: l) = (if c = 39 then [39, 39] else [c]) ++ replaceK [39] [39, 39] (count l [39]) l := by
  have hs : ([39] : List UInt8) ≠ [] := by simp
  have hi := index_cons39 c l
  by_cases h : c = 39
  · rw [if_pos h] at hi ⊢
    have hi0 : index (c :: l) [39] = ((0 : Nat) : Int) := hi
    have hc := count_hit hs hi0
    rw [hc, Nat.add_comm 1, replaceK_hit _ _ _ _ 0 hi0]
    simp
  · rw [if_neg h] at hi ⊢
    by_cases hm : index l [39] = -1
    · have hm' : index (c :: l) [39] = -1 := by rw [hi, hm]; rfl
      rw [count_miss hm', count_miss hm]
      rfl
    · have hge := index_ge l [39]
      obtain ⟨i, hi2⟩ : ∃ i : Nat, index l [39] = (i : Int) := ⟨(index l [39]).toNat, by omega⟩
      have hne : ¬ (index l [39] == -1) = true := by simpa using hm
      rw [if_neg hne, hi2] at hi
      have hi3 : index (c :: l) [39] = ((i + 1 : Nat) : Int) := by rw [hi]; simp
      have hc := count_hit hs hi3
      have hc2 := count_hit hs hi2
      rw [hc, hc2, Nat.add_comm 1, Nat.add_comm 1, replaceK_hit _ _ _ _ _ hi3, replaceK_hit _ _ _ _ _ hi2]
      simp

theorem replaceAll_apos (l : List UInt8) : replaceAll l [39] [39, 39] = aposB l := by
  have h1 : replaceAll l [39] [39, 39] = replaceK [39] [39, 39] (count l [39]) l := by
    unfold replaceAll replace replaceNum
    simp
  rw [h1]
  induction l with
  | nil => rfl
  | cons c l ih =>
    have h2 : replaceAll l [39] [39, 39] = replaceK [39] [39, 39] (count l [39]) l := by
      unfold replaceAll replace replaceNum
      simp
    rw [repl_cons39, ih h2]
    rfl

theorem apos_cons (c : UInt8) (l : List UInt8) : aposB (c :: l) = (if c = 39 then [39, 39] else [c]) ++ aposB l := rfl
theorem hex_cons (c : UInt8) (l : List UInt8) : hexB (c :: l) = hexC (c.toNat / 16) :: hexC (c.toNat % 16) :: hexB l := rfl
theorem apos_len (l : List UInt8) : (aposB l).length ≤ 2 * l.length := by
  induction l with
  | nil => simp [aposB]
  | cons c l ih =>
    rw [apos_cons, List.length_append, List.length_cons]
    have : (if c = 39 then [39, 39] else [c] : List UInt8).length ≤ 2 := by split <;> simp
    omega
theorem hex_len (l : List UInt8) : (hexB l).length = 2 * l.length := by
  induction l with
  | nil => simp [hexB]
  | cons c l ih => rw [hex_cons, List.length_cons, List.length_cons, List.length_cons]; omega

theorem printD_len (d : Dt) (h64 : fits64 d.i) : (printD d).length ≤ 2003 := by
  unfold printD
  cases hr : rightB d
  · simp
  rw [if_pos rfl]
  obtain ⟨k, i, s⟩ := d
  obtain ⟨f1, f2⟩ := h64
  have hc := right_cases hr
  simp only at hc f1 f2
  rcases hc with ⟨rfl, -, -⟩ | ⟨rfl, -, -⟩ | ⟨rfl | rfl, -⟩ | ⟨rfl | rfl, -, hs⟩
  · simp [printV]
  · simp only [printV]
    by_cases h : i = 1 <;> simp [h]
  · have := Lib.itoa_length_le i f1 f2
    simp only [printV]
    simp; omega
  · have h1 := Lib.nDigits_le20 (i.natAbs / 10000) (by omega)
    have h2 := frac_len (m := i.natAbs % 10000) (by omega)
    simp only [printV, decB]
    have h3 : (if i < 0 then [45] else [] : List UInt8).length ≤ 1 := by split <;> simp
    simp [Lib.decDigits_length]; omega
  · have := apos_len s
    simp only [printV]
    simp; omega
  · have := hex_len s
    simp only [printV]
    simp; omega

theorem join_snoc (xs : List (List UInt8)) (x sep : List UInt8) : Lib.join (xs ++ [x]) sep = (if xs = [] then [] else Lib.join xs sep ++ sep) ++ x := by
  cases xs with
  | nil => simp [Lib.join_one]
  | cons a r =>
    rw [if_neg (by simp), List.cons_append, Lib.join_cons, Lib.join_cons]
    simp [Lib.joinTail]

theorem joinTail_len (ds : List Dt) (h : ∀ d ∈ ds, fits64 d.i) : (Lib.joinTail [44, 32] (ds.map printD)).length ≤ 2005 * ds.length := by
  induction ds with
  | nil => simp [Lib.joinTail]
  | cons d r ih =>
    have h1 := printD_len d (h d (by simp))
    have h2 := ih fun d hd => h d (by simp [hd])
    simp only [Lib.joinTail, List.map_cons, List.flatten_cons, List.length_append, List.length_cons, List.length_nil] at *
    omega

theorem join_len (ds : List Dt) (h : ∀ d ∈ ds, fits64 d.i) : (Lib.join (ds.map printD) [44, 32]).length ≤ 2005 * ds.length := by
  cases ds with
  | nil => simp [Lib.join_nil]
  | cons d r =>
    have h1 := printD_len d (h d (by simp))
    have h2 := joinTail_len r fun d hd => h d (by simp [hd])
    rw [List.map_cons, Lib.join_cons, List.length_append, List.length_cons]
    omega

theorem apos_take (s : ByteArray) (k : Nat) (h : k < s.size) : aposB (s.data.toList.take (k + 1)) = aposB (s.data.toList.take k) ++ (if s[k] = 39 then [39, 39] else [s[k]]) := by
  have hl : s.data.toList.length = s.size := by rw [Array.length_toList]; rfl
  rw [List.take_add_one, List.getElem?_eq_getElem (by omega)]
  simp only [aposB, Option.toList_some, List.flatMap_append, List.flatMap_cons, List.flatMap_nil, List.append_nil]
  rfl
theorem hex_take (s : ByteArray) (k : Nat) (h : k < s.size) : hexB (s.data.toList.take (k + 1)) = hexB (s.data.toList.take k) ++ [hexC (s[k].toNat / 16), hexC (s[k].toNat % 16)] := by
  have hl : s.data.toList.length = s.size := by rw [Array.length_toList]; rfl
  rw [List.take_add_one, List.getElem?_eq_getElem (by omega)]
  simp only [hexB, Option.toList_some, List.flatMap_append, List.flatMap_cons, List.flatMap_nil, List.append_nil]
  rfl
end Go.Proofs.YtgdneoajmaeckaaGreatDoor
