/- the reference's great numbers: plain, in memory, added, less, minus, plus. No condition but the sizes. -/
import Derived.Test.YtjchlfblbmiceaaGreatPc
import Derived.WalkKit
import Derived.Deep.CutRange
import Derived.Deep.DeepCutAuto
import Derived.BigQuiet
import Derived.Deep.QuietTactic
import Derived.StillTailTactics
import Derived.Deep.RegionHeld3
namespace Go.Proofs.YtjchlfblbmiceaaGreat.big

def dgs : Nat → Nat → List Nat
  | 0, _ => []
  | k + 1, n => if n = 0 then [] else n % 1000000 :: dgs k (n / 1000000)
/-- The digits. -/
def dg (n : Nat) : List Nat := dgs n n

theorem dgs_enough : ∀ (k m n : Nat), n ≤ k → n ≤ m → dgs k n = dgs m n := by
  intro k
  induction k with
  | zero =>
    intro m n h1 h2
    obtain rfl : n = 0 := by omega
    cases m <;> simp [dgs]
  | succ k ih =>
    intro m n h1 h2
    cases m with
    | zero =>
      obtain rfl : n = 0 := by omega
      simp [dgs]
    | succ m =>
      unfold dgs
      by_cases h : n = 0
      · rw [if_pos h, if_pos h]
      · rw [if_neg h, if_neg h, ih m (n / 1000000) (by omega) (by omega)]

theorem dg_zero : dg 0 = [] := rfl
theorem dg_pos {n : Nat} (h : n ≠ 0) : dg n = n % 1000000 :: dg (n / 1000000) := by
  obtain ⟨k, rfl⟩ : ∃ k, n = k + 1 := ⟨n - 1, by omega⟩
  unfold dg
  rw [show dgs (k + 1) (k + 1) = (k + 1) % 1000000 :: dgs k ((k + 1) / 1000000) by rw [dgs, if_neg h]]
  rw [dgs_enough k ((k + 1) / 1000000) _ (by omega) (Nat.le_refl _)]
theorem dg_nil {n : Nat} : dg n = [] ↔ n = 0 := by
  constructor
  · intro h
    by_cases h0 : n = 0
    · exact h0
    · rw [dg_pos h0] at h; cases h
  · rintro rfl; rfl

theorem dg_drop (n : Nat) : ∀ i, (dg n).drop i = dg (n / 1000000 ^ i) := by
  intro i
  induction i with
  | zero => simp
  | succ i ih =>
    rw [← List.drop_drop, ih] at *
    have e : n / 1000000 ^ (i + 1) = n / 1000000 ^ i / 1000000 := by rw [Nat.pow_succ, Nat.div_div_eq_div_mul]
    rw [e]
    by_cases h : n / 1000000 ^ i = 0
    · rw [h]; rfl
    · rw [dg_pos h]; rfl
theorem dg_at (n i : Nat) (h : i < (dg n).length) : (dg n)[i]? = some (n / 1000000 ^ i % 1000000) := by
  have h1 := dg_drop n i
  have h2 : n / 1000000 ^ i ≠ 0 := fun e => by
    rw [e, dg_zero] at h1
    have := congrArg List.length h1
    rw [List.length_drop] at this
    simp at this
    omega
  rw [dg_pos h2] at h1
  have h3 := congrArg (fun l => l[0]?) h1
  simpa [List.getElem?_drop] using h3
theorem dg_lt_len (n i : Nat) : i < (dg n).length ↔ n / 1000000 ^ i ≠ 0 := by
  have h1 := congrArg List.length (dg_drop n i)
  rw [List.length_drop] at h1
  constructor
  · intro h e
    rw [e, dg_zero] at h1
    simp at h1
    omega
  · intro h
    by_cases h2 : i < (dg n).length
    · exact h2
    · rw [show (dg n).length - i = 0 by omega] at h1
      exact absurd (dg_nil.1 (List.length_eq_zero_iff.1 h1.symm)) h
theorem dg_len_le {n k : Nat} (h : n < 1000000 ^ k) : (dg n).length ≤ k := by
  by_cases h1 : k < (dg n).length
  · exact absurd (Nat.div_eq_of_lt h) ((dg_lt_len n k).1 h1)
  · omega
theorem dg_len_mono {a b : Nat} (h : a ≤ b) : (dg a).length ≤ (dg b).length := by
  by_cases h1 : (dg b).length < (dg a).length
  · have h2 := (dg_lt_len a _).1 h1
    have h3 : ¬ (dg b).length < (dg b).length := by omega
    rw [dg_lt_len] at h3
    have h5 := Nat.div_le_div_right (c := 1000000 ^ (dg b).length) h
    rw [Classical.not_not.1 h3] at h5
    exact absurd (Nat.le_zero.1 h5) h2
  · omega
theorem dg_small (n : Nat) : ∀ d ∈ dg n, d < 1000000 := by
  intro d hd
  obtain ⟨i, hi, rfl⟩ := List.getElem_of_mem hd
  have := dg_at n i hi
  rw [List.getElem?_eq_getElem hi] at this
  rw [Option.some.inj this]
  omega

/-- What digits are worth. -/
def vl : List Nat → Nat
  | [] => 0
  | d :: l => d + 1000000 * vl l
theorem vl_dg (n : Nat) : vl (dg n) = n := by
  induction n using Nat.strongRecOn with
  | _ n ih =>
    by_cases h : n = 0
    · subst h; rfl
    · rw [dg_pos h, vl, ih (n / 1000000) (by omega)]; omega
theorem vl_append (a b : List Nat) : vl (a ++ b) = vl a + 1000000 ^ a.length * vl b := by
  induction a with
  | nil => simp [vl]
  | cons d a ih =>
    rw [List.cons_append, vl, ih, vl, List.length_cons, Nat.pow_succ, Nat.mul_add]
    have : 1000000 * (1000000 ^ a.length * vl b) = 1000000 ^ a.length * 1000000 * vl b := by rw [← Nat.mul_assoc, Nat.mul_comm 1000000 (1000000 ^ a.length)]
    omega
/-- Digits whose last is not 0 are the digits of what they are worth. -/
theorem dg_vl : ∀ l : List Nat, (∀ d ∈ l, d < 1000000) → (∀ d, l.getLast? = some d → d ≠ 0) → dg (vl l) = l
  | [], _, _ => rfl
  | d :: l, h1, h2 => by
    have hd := h1 d (by simp)
    by_cases hl : l = []
    · subst hl
      have h0 : d ≠ 0 := h2 d (by simp)
      simp only [vl, Nat.mul_zero, Nat.add_zero]
      rw [dg_pos h0, Nat.mod_eq_of_lt hd, Nat.div_eq_of_lt hd]
      rfl
    · have ih := dg_vl l (fun x hx => h1 x (by simp [hx])) (fun x hx => h2 x (by rw [List.getLast?_cons_of_ne_nil hl]; exact hx))
      have hv : vl l ≠ 0 := fun e => by rw [e, dg_zero] at ih; exact hl ih.symm
      rw [vl, dg_pos (by omega)]
      rw [show (d + 1000000 * vl l) % 1000000 = d by omega, show (d + 1000000 * vl l) / 1000000 = vl l by omega, ih]
end Go.Proofs.YtjchlfblbmiceaaGreat.big
namespace Go.Proofs.YtjchlfblbmiceaaGreat.big

theorem pw_succ (n i : Nat) : n / 1000000 ^ (i + 1) = n / 1000000 ^ i / 1000000 := by rw [Nat.pow_succ, Nat.div_div_eq_div_mul]

/-- What is carried ahead of digit i. -/
def Car (x y n i c : Nat) : Prop := n / 1000000 ^ i = x / 1000000 ^ i + y / 1000000 ^ i + c ∧ c ≤ 1
theorem Car.zero (x y : Nat) : Car x y (x + y) 0 0 := ⟨by simp, by omega⟩
theorem Car.add {x y n i c : Nat} (h : Car x y n i c) : (c + x / 1000000 ^ i % 1000000 + y / 1000000 ^ i % 1000000) % 1000000 = n / 1000000 ^ i % 1000000 ∧ Car x y n (i + 1) ((c + x / 1000000 ^ i % 1000000 + y / 1000000 ^ i % 1000000) / 1000000) := by
  obtain ⟨h1, h2⟩ := h
  unfold Car
  rw [pw_succ, pw_succ, pw_succ]
  generalize n / 1000000 ^ i = n' at *
  generalize x / 1000000 ^ i = x' at *
  generalize y / 1000000 ^ i = y' at *
  omega
/-- x is y and n together: the digits of n, out of those of x and y. -/
theorem Car.less {x y n i b : Nat} (h : Car y n x i b) : (x / 1000000 ^ i % 1000000 < b + y / 1000000 ^ i % 1000000 → x / 1000000 ^ i % 1000000 + 1000000 - (b + y / 1000000 ^ i % 1000000) = n / 1000000 ^ i % 1000000 ∧ Car y n x (i + 1) 1) ∧
    (¬ x / 1000000 ^ i % 1000000 < b + y / 1000000 ^ i % 1000000 → x / 1000000 ^ i % 1000000 - (b + y / 1000000 ^ i % 1000000) = n / 1000000 ^ i % 1000000 ∧ Car y n x (i + 1) 0) := by
  obtain ⟨h1, h2⟩ := h
  unfold Car
  rw [pw_succ, pw_succ, pw_succ]
  generalize n / 1000000 ^ i = n' at *
  generalize x / 1000000 ^ i = x' at *
  generalize y / 1000000 ^ i = y' at *
  constructor
  · intro h3; refine ⟨?_, ?_, ?_⟩ <;> omega
  · intro h3; refine ⟨?_, ?_, ?_⟩ <;> omega
theorem Car.more {x y n i c : Nat} (h : Car x y n i c) : (i < (dg x).length ∨ i < (dg y).length ∨ 0 < c) ↔ i < (dg n).length := by
  rw [dg_lt_len, dg_lt_len, dg_lt_len, h.1]
  generalize x / 1000000 ^ i = x'
  generalize y / 1000000 ^ i = y'
  by_cases h1 : x' = 0 <;> by_cases h2 : y' = 0 <;> by_cases h3 : c = 0 <;> simp [h1, h2, h3] <;> omega
/-- The digit, or 0 behind the last. -/
theorem dig (n i : Nat) : (if i < (dg n).length then n / 1000000 ^ i % 1000000 else 0) = n / 1000000 ^ i % 1000000 := by
  split
  · rfl
  · rename_i h
    rw [dg_lt_len, Classical.not_not] at h
    rw [h]

theorem top_zero (n : Nat) : n / 1000000 ^ (dg n).length = 0 := by
  have : ¬ (dg n).length < (dg n).length := by omega
  rw [dg_lt_len, Classical.not_not] at this
  exact this
/-- Amounts: a row of equal digits from the top, and a smaller one. -/
theorem am_lt {x y i : Nat} (h : x / 1000000 ^ (i + 1) = y / 1000000 ^ (i + 1)) (h2 : x / 1000000 ^ i % 1000000 < y / 1000000 ^ i % 1000000) : x < y := by
  rw [pw_succ, pw_succ] at h
  have h3 : x / 1000000 ^ i < y / 1000000 ^ i := by omega
  by_cases hxy : x < y
  · exact hxy
  · have := Nat.div_le_div_right (c := 1000000 ^ i) (show y ≤ x by omega)
    omega
theorem am_eq {x y i : Nat} (h : x / 1000000 ^ (i + 1) = y / 1000000 ^ (i + 1)) (h2 : ¬ x / 1000000 ^ i % 1000000 < y / 1000000 ^ i % 1000000) (h3 : ¬ y / 1000000 ^ i % 1000000 < x / 1000000 ^ i % 1000000) : x / 1000000 ^ i = y / 1000000 ^ i := by
  rw [pw_succ, pw_succ] at h
  omega
theorem am_len {x y : Nat} (h : (dg x).length < (dg y).length) : x < y := by
  by_cases hxy : x < y
  · exact hxy
  · have := dg_len_mono (show y ≤ x by omega)
    omega
def am (x y : Nat) : Int := if x < y then -1 else if y < x then 1 else 0
theorem am_lt' {x y : Nat} (h : x < y) : am x y = -1 := by unfold am; rw [if_pos h]
theorem am_gt' {x y : Nat} (h : y < x) : am x y = 1 := by unfold am; rw [if_neg (by omega), if_pos h]
theorem am_eq' {x y : Nat} (h : x = y) : am x y = 0 := by unfold am; rw [if_neg (by omega), if_neg (by omega)]

/-- The digits as they come, whatever stands behind them. -/
def dz (n k : Nat) : List Nat := (List.range k).map fun i => n / 1000000 ^ i % 1000000
theorem dz_len (n k : Nat) : (dz n k).length = k := by simp [dz]
theorem dz_succ (n k : Nat) : dz n (k + 1) = dz n k ++ [n / 1000000 ^ k % 1000000] := by simp [dz, List.range_succ]
theorem dz_dg (n : Nat) : dz n (dg n).length = dg n := by
  apply List.ext_getElem?
  intro i
  unfold dz
  by_cases h : i < (dg n).length
  · rw [dg_at n i h, List.getElem?_map, List.getElem?_range h]; rfl
  · rw [List.getElem?_eq_none (by simpa using h), List.getElem?_eq_none (by simpa using h)]
theorem dz_at (n k i : Nat) (h : i < k) : (dz n k)[i]? = some (n / 1000000 ^ i % 1000000) := by
  unfold dz; rw [List.getElem?_map, List.getElem?_range h]; rfl
theorem dz_take (n k m : Nat) (h : m ≤ k) : (dz n k).take m = dz n m := by
  unfold dz
  rw [← List.map_take, List.take_range, Nat.min_eq_left h]
theorem dz_nil (n : Nat) : dz n 0 = [] := rfl
end Go.Proofs.YtjchlfblbmiceaaGreat.big
namespace Go.Proofs.YtjchlfblbmiceaaGreat
open Go.RowKit srt grp big

def cel (l : List Nat) : List Value := l.map fun d => .int .u64 (d : Nat)
theorem cel_len (l : List Nat) : (cel l).length = l.length := by simp [cel]
theorem cel_one (l : List Nat) : ∀ u ∈ cel l, u.oneCell' = true := by
  intro u hu
  obtain ⟨d, -, rfl⟩ := List.mem_map.1 hu
  rfl
theorem cel_snoc (l : List Nat) (d : Nat) : cel (l ++ [d]) = cel l ++ [.int .u64 (d : Nat)] := by simp [cel]
theorem cel_dz (n k i : Nat) (h : i < k) : (cel (dz n k))[i]? = some (.int .u64 ((n / 1000000 ^ i % 1000000 : Nat) : Int)) := by
  unfold cel; rw [List.getElem?_map, dz_at n k i h]; rfl
theorem infoBg : (Tryz.prog.info? 131).map (fun i => (i.zero, i.size, i.bytes)) = some (some (.int .u64 0), 1, 8) := by kernel_rfl

/-- A slice value whose elements are the first k digits of a number. -/
def DgAt (w : World) (v : Value) (n k : Nat) : Prop := ∃ a c, v = .slice a k c ∧ k ≤ c ∧ (a = none → c = 0) ∧ Src w 1 (.slice a k c) k (cel (dz n k))
theorem DgAt.fr {w w' : World} {v : Value} {n k : Nat} (h : DgAt w v n k) (f : Fr [] w w') : DgAt w' v n k := by
  obtain ⟨a, c, rfl, h1, h2, h3, h4, h5⟩ := h
  refine ⟨a, c, rfl, h1, h2, h3, h4, ?_⟩
  rcases h5 with h5 | ⟨ad, c, h5, h6⟩
  · exact Or.inl h5
  · exact Or.inr ⟨ad, c, h5, fun j u hj => f.cell (h6 j u hj) (by simp)⟩
theorem DgAt.cell {w : World} {a : Option Addr} {c n k i : Nat} (h : DgAt w (.slice a k c) n k) (hi : i < k) :
    ∃ b off, a = some ⟨b, off, none⟩ ∧ w.cell? ⟨b, off + i, none⟩ = some (.int .u64 ((n / 1000000 ^ i % 1000000 : Nat) : Int)) := by
  obtain ⟨a', c', hv, -, -, -, -, h5⟩ := h
  simp only [Value.slice.injEq] at hv
  obtain ⟨rfl, -, rfl⟩ := hv
  rcases h5 with ⟨-, h2⟩ | ⟨ad, c, hv, hc⟩
  · omega
  · simp only [Value.slice.injEq] at hv
    have c0 := hc i _ (cel_dz n k i hi)
    have hp := addr_plain (a := ad) (hc 0 _ (cel_dz n k 0 (by omega)))
    exact ⟨ad.block, ad.off, by rw [hv.1]; exact congrArg some hp, cell_add c0⟩

/-- A whole number. -/
def BigAt (w : World) (v : Value) (z : Int) : Prop := ∃ s, v = .agg #[.bool (decide (z < 0)), s] ∧ DgAt w s z.natAbs (dg z.natAbs).length
theorem BigAt.fr {w w' : World} {v : Value} {z : Int} (h : BigAt w v z) (f : Fr [] w w') : BigAt w' v z := by
  obtain ⟨s, rfl, h1⟩ := h
  exact ⟨s, rfl, h1.fr f⟩

/-- A variable that holds the first k digits of a number, in memory that is newer than w0. -/
def OutB (w0 w : World) (g : Nat) (m : Bool) (n k : Nat) : Prop :=
  w0.heap.size ≤ g ∧ g < w.heap.size ∧ Fr [] w0 w ∧ ∃ v, w.heap[g]? = some (.cells #[.bool m, v] 122) ∧ w.ownsRow (g + 1) 131 1 v k (cel (dz n k))

theorem heap_set2 {w : World} {g : Nat} {v u s : Value} {t : Nat} (h : w.heap[g]? = some (.cells #[u, s] t)) : (w.setCell ⟨g, 1, none⟩ v).heap[g]? = some (.cells #[u, v] t) := by
  rw [heap_set h]; rfl

theorem heap_set12 {w : World} {g : Nat} {x y u s : Value} {t : Nat} (h : w.heap[g]? = some (.cells #[u, s] t)) : ((w.setCell ⟨g, 0, none⟩ x).setCell ⟨g, 1, none⟩ y).heap[g]? = some (.cells #[x, y] t) :=
  heap_set2 (by rw [heap_set h]; rfl)

theorem OutB.new {w0 w : World} (f : Fr [] w0 w) (m : Bool) (n : Nat) : OutB w0 (w.alloc (.cells #[.bool m, .slice none 0 0] 122)) w.heap.size m n 0 :=
  ⟨f.size, by simp, f.alloc _, _, heap_alloc_new w _, World.ownsRow_nil _ _ _ _⟩
theorem OutB.shape {w0 w : World} {g n k : Nat} {m : Bool} (h : OutB w0 w g m n k) : ∃ a c, w.heap[g]? = some (.cells #[.bool m, .slice a k c] 122) ∧ w.ownsRow (g + 1) 131 1 (.slice a k c) k (cel (dz n k)) ∧ k ≤ c ∧ (a = none → c = 0) := by
  obtain ⟨h1, h2, h3, v, h4, h5⟩ := h
  have h6 := h5
  obtain ⟨a, c, rfl⟩ := ownsRow_shape h5
  refine ⟨a, c, h4, h6, ?_⟩
  rcases h6.2 with ⟨hv, h2⟩ | ⟨g, cap, cur, hv, hb, hg, hc, -⟩
  · simp only [Value.slice.injEq] at hv
    exact ⟨by omega, fun _ => hv.2.2⟩
  · simp only [Value.slice.injEq] at hv
    refine ⟨by omega, fun e => ?_⟩
    rw [hv.1] at e
    cases e
theorem OutB.fr {w0 w w' : World} {g n k : Nat} {m : Bool} (h : OutB w0 w g m n k) (f : Fr [] w w') : OutB w0 w' g m n k := by
  obtain ⟨h1, h2, h3, v, h4, h5⟩ := h
  exact ⟨h1, by have := f.size; omega, h3.trans f, v, f.heap h4 (by simp), ownsRow_fr h5 f (by simp)⟩
theorem OutB.put {w0 w wa w1 : World} {g n k : Nat} {m : Bool} {a : Option Addr} {c : Nat} {v' : Value} {o : Obj} (h : OutB w0 w g m n k) (ho : w.ownsRow (g + 1) 131 1 (.slice a k c) k (cel (dz n k))) (hg : w.heap[g]? = some (.cells #[.bool m, .slice a k c] 122)) (ha : wa = w.alloc o)
    (hgr : wa.grownBy w1 (Value.slice a k c).ownBlock) (h1 : w1.ownsRow (g + 1) 131 1 v' (k + 1) (cel (dz n k) ++ [.int .u64 ((n / 1000000 ^ k % 1000000 : Nat) : Int)])) : OutB w0 (w1.setCell ⟨g, 1, none⟩ v') g m n (k + 1) := by
  subst ha
  obtain ⟨h2, h3, h4, -⟩ := h
  have hlt : ∀ r, (Value.slice a k c).ownBlock = some r → g + 1 ≤ r ∧ r < w.heap.size := fun r e => ho.lt r e
  have k1 : Fr [] w0 w1 := (h4.alloc o).fresh hgr (fun r e => Or.inl (by have := hlt r e; omega))
  have k2 : Fr (Value.slice a k c).ownBlock.toList w w1 := ((Fr.refl [] w).alloc o).nil.trans (Fr.grown hgr)
  have hg1 : w1.heap[g]? = some (.cells #[.bool m, .slice a k c] 122) := k2.heap hg (fun hx => by
    have := hlt g (by simpa using hx); omega)
  refine ⟨h2, by have := k2.size; simp [World.setCell]; omega, ?_, v', heap_set2 hg1, ?_⟩
  · refine ⟨k1.os, k1.tape, k1.output, by have := k1.size; simp [World.setCell]; omega, fun q hq hS => ?_⟩
    rw [← k1.block q hq hS]
    exact Below.heap_setCell _ _ _ _ (fun e => by simp at e; omega)
  · rw [dz_succ, cel_snoc]
    exact ownsRow_set h1 (by omega)
theorem OutB.held {w w1 : World} {g n k : Nat} {m : Bool} {a : Option Addr} {c : Nat} {o : Obj} (ho : w.ownsRow (g + 1) 131 1 (.slice a k c) k (cel (dz n k))) (hg : w.heap[g]? = some (.cells #[.bool m, .slice a k c] 122))
    (hgr : (w.alloc o).grownBy w1 (Value.slice a k c).ownBlock) : w1.heap[g]? = some (.cells #[.bool m, .slice a k c] 122) := by
  have k2 : Fr (Value.slice a k c).ownBlock.toList w w1 := ((Fr.refl [] w).alloc o).nil.trans (Fr.grown hgr)
  exact k2.heap hg (fun hx => by
    have := (ho.lt g (by simpa using hx)).1; omega)
theorem OutB.dg {w0 w : World} {g n k : Nat} {m : Bool} {a : Option Addr} {c : Nat} (h : OutB w0 w g m n k) (hg : w.heap[g]? = some (.cells #[.bool m, .slice a k c] 122)) : DgAt w (.slice a k c) n k := by
  obtain ⟨a', c', h1, h2, h3, h4⟩ := h.shape
  rw [hg] at h1
  simp only [Option.some.injEq, Obj.cells.injEq, Array.mk.injEq, List.cons.injEq, Value.slice.injEq, and_true, true_and] at h1
  obtain ⟨rfl, rfl⟩ := h1
  exact ⟨a, c, rfl, h3, h4, Src.row h2 (cel_one _)⟩

/-- The variable, told: it is laid into the result's. -/
theorem OutB.ret {w0 w : World} {g r k : Nat} {z : Int} {a : Option Addr} {c : Nat} {x y : Value} (h : OutB w0 w g (decide (z < 0)) z.natAbs k) (hr : r < g) (hk : k = (big.dg z.natAbs).length) (hg : w.heap[g]? = some (.cells #[.bool (decide (z < 0)), .slice a k c] 122)) :
    BigAt ((w.setCell ⟨r, 0, none⟩ x).setCell ⟨r, 1, none⟩ y) (.agg #[.bool (decide (z < 0)), .slice a k c]) z := by
  obtain ⟨a', c', h1, h2, h3, h4⟩ := h.shape
  rw [hg] at h1
  simp only [Option.some.injEq, Obj.cells.injEq, Array.mk.injEq, List.cons.injEq, Value.slice.injEq, and_true, true_and] at h1
  obtain ⟨rfl, rfl⟩ := h1
  refine ⟨_, rfl, ?_⟩
  rw [← hk]
  exact ⟨a, c, rfl, h3, h4, Src.row (ownsRow_set (ownsRow_set h2 (by omega)) (by omega)) (cel_one _)⟩
theorem ret_fr {w w1 : World} {r : Nat} {x y : Value} (f : Fr [] w w1) (hr : w.heap.size ≤ r) : Fr [] w ((w1.setCell ⟨r, 0, none⟩ x).setCell ⟨r, 1, none⟩ y) :=
  f.past (((Fr.refl [r] w1).setCell (by simp) x).setCell (by simp) y) (by simpa using hr)

set_option maxRecDepth 100000
set_option maxHeartbeats 1600000 in
theorem of_any {w : World} {z : Int} (hz : -9223372036854775808 ≤ z ∧ z ≤ 9223372036854775807) :
    Calls Tryz.prog 109 #[.int .i64 z] w fun e w' => ∃ v, e = .returned v ∧ BigAt w' v z ∧ Fr [] w w' := by
  obtain ⟨i0, hi, hz0, hz1, hz2⟩ := info_parts infoBg
  have h1 : IntKind.u64.wrap z = z % 18446744073709551616 := rfl
  have e1 : ¬ z < 0 → IntKind.u64.wrap z = (z.natAbs : Int) := fun h => by rw [h1]; omega
  have e2 : z < 0 → IntKind.u64.wrap (- IntKind.u64.wrap z) = (z.natAbs : Int) := fun h => by
    have h2 : IntKind.u64.wrap (- IntKind.u64.wrap z) = (- IntKind.u64.wrap z) % 18446744073709551616 := rfl
    rw [h2, h1]; omega
  have hb : z.natAbs ≤ 9223372036854775808 := by omega
  have E1 := Lib.hid e1
  have E2 := Lib.hid e2
  clear h1 e1 e2
  go_enter Tryz.func109, Tryz.ntmps109
  go_upto_if 8 with fail
  generalize IntKind.u64.wrap z = y at *
  go_cut [3] (fun x wx => x = .int .u64 ((z.natAbs : Nat) : Int) ∧ wx = w.alloc (.cells #[.bool false, .slice none 0 0] 122))
  case first =>
    by_cases hn : z < 0
    · have e3 := E2.out hn
      go_wp2_with fail
      go_meet
      case rel => exact ⟨by rfl, by rfl⟩
    · have e3 := E1.out hn
      subst e3
      go_wp2_with fail
      go_meet
      case rel => exact ⟨by rfl, by rfl⟩
  case rest =>
    obtain ⟨rfl, rfl⟩ := hcut
    have hbr := heap_alloc_new w (.cells #[.bool false, .slice none 0 0] 122)
    have f1 : Fr [] w (w.alloc (.cells #[.bool false, .slice none 0 0] 122)) := (Fr.refl [] w).alloc _
    have hbs : w.heap.size < (w.alloc (.cells #[.bool false, .slice none 0 0] 122)).heap.size := by simp
    generalize hw1 : w.alloc (.cells #[.bool false, .slice none 0 0] 122) = w1 at *
    clear hw1
    go_wp2_with fail
    go_loopw [3] (fun x wr => ∃ k q : Nat, x = .int .u64 (q : Int) ∧ Hid (q = z.natAbs / 1000000 ^ k) ∧ k ≤ (dg z.natAbs).length ∧ OutB w1 wr w1.heap.size (decide (z < 0)) z.natAbs k) (fun x _ => (intOf x).toNat)
    case atStart => exact ⟨0, z.natAbs, rfl, Lib.hid (by simp), Nat.zero_le _, OutB.new (Fr.refl _ _) _ _⟩
    case round =>
      obtain ⟨k, q, rfl, HQ, hk, ho⟩ := hrel
      obtain ⟨a, c, hb1, hown, hkc, han⟩ := ho.shape
      have HO := Lib.hid ho
      have HB1 := Lib.hid hb1
      have HOwn := Lib.hid hown
      have hk5 : k ≤ 100 := by have := dg_len_le (n := z.natAbs) (k := 10) (by omega); omega
      have hgs : w1.heap.size < wr.heap.size := ho.2.1
      have x1 := cell_blk hb1 1 (.slice a k c) rfl
      have z1 : wr.frozen? ⟨w1.heap.size, 1, none⟩ = false := by simp [World.frozen?, hb1]
      have hqb : q ≤ 9223372036854775808 := by rw [HQ.out]; exact Nat.le_trans (Nat.div_le_self _ _) hb
      by_cases hlt : k < (dg z.natAbs).length
      · have hne : 0 < q := by rw [HQ.out]; exact Nat.pos_of_ne_zero ((dg_lt_len _ _).1 hlt)
        have HLt := Lib.hid hlt
        clear ho hown hb1 hlt hk hb hz
        go_upto_region 6 with fail
        go_wp2_with (at_builtin; refine wpList_append_src _ rfl (.tmp 17) (.tmp 20) 120 rfl (w1.heap.size + 1) 131 i0 _ 1 8 Tryz.underlying120 hi hz0 hz1 hz2 rfl (by decide) (.slice a k c) k _ rfl (ownsRow_fr HOwn.out ((Fr.refl [] wr).alloc _) (by simp)) (.slice (some ⟨wr.heap.size, 0, none⟩) 1 1) 1 [.int .u64 ((q : Int) % 1000000)] rfl (Src.block (heap_alloc_new wr _) rfl (by intro u hu; simp at hu; rcases hu with rfl; rfl)) (by unfold maxLen; omega) (by omega) (by simp; omega) ?_; intro v' w2 hown2 hgrow2 _; obtain ⟨a2, c2, rfl⟩ := ownsRow_shape hown2; have hb2 := OutB.held HOwn.out HB1.out hgrow2; have x2 := cell_blk hb2 1 (.slice a k c) rfl; have z2 : w2.frozen? ⟨w1.heap.size, 1, none⟩ = false := (by simp [World.frozen?, hb2]); have HOwn2 := Lib.hid hown2; have HG2 := Lib.hid hgrow2; clear hown2 hgrow2 hb2)
        go_roundw
        case rel => exact ⟨k + 1, q / 1000000, by first | rfl | go_num, Lib.hid (by rw [HQ.out, pw_succ]), HLt.out, HO.out.put HOwn.out HB1.out rfl HG2.out (by
          have h9 := HOwn2.out
          have e9 : ((z.natAbs / 1000000 ^ k % 1000000 : Nat) : Int) = (q : Int) % 1000000 := by rw [← HQ.out]; omega
          rw [e9]
          exact h9)⟩
        case measure => simp [intOf] <;> omega
      · have hk2 : k = (dg z.natAbs).length := by omega
        have hq0 : q = 0 := by rw [HQ.out, hk2]; exact top_zero _
        subst hq0
        have x0 := cell_blk hb1 0 (.bool (decide (z < 0))) rfl
        have hbr2 := ho.2.2.1.heap hbr (by simp)
        have y0 := cell_blk hbr2 0 (.bool false) rfl
        have y1 := cell_blk hbr2 1 (.slice none 0 0) rfl
        have z3 : wr.frozen? ⟨w.heap.size, 0, none⟩ = false := by simp [World.frozen?, hbr2]
        have z4 : wr.frozen? ⟨w.heap.size, 1, none⟩ = false := by simp [World.frozen?, hbr2]
        have HBr := Lib.hid hbr2
        have HK2 := Lib.hid hk2
        clear ho hown hb1 hk hb hz hbr2 hk2 hlt
        go_wp2_with fail
        have hbz := heap_set12 (x := .bool (decide (z < 0))) (y := .slice a k c) HBr.out
        have t0 := cell_blk hbz 0 _ rfl
        have t1 := cell_blk hbz 1 _ rfl
        refine bodyPost_ret (v := .agg #[.bool (decide (z < 0)), .slice a k c]) (by simp [results, Tryz.results109, go_sem, t0, t1]) rfl ⟨_, rfl, ?_, ?_⟩
        · exact HO.out.ret hbs HK2.out HB1.out
        · exact ret_fr (f1.trans HO.out.2.2.1) (Nat.le_refl _)
end Go.Proofs.YtjchlfblbmiceaaGreat
namespace Go.Proofs.YtjchlfblbmiceaaGreat
open Go.RowKit srt grp big

theorem BigAt.shape {w : World} {v : Value} {z : Int} (h : BigAt w v z) : ∃ a c, v = .agg #[.bool (decide (z < 0)), .slice a (dg z.natAbs).length c] ∧ DgAt w (.slice a (dg z.natAbs).length c) z.natAbs (dg z.natAbs).length := by
  obtain ⟨s, rfl, a, c, rfl, h1, h2, h3⟩ := h
  exact ⟨a, c, rfl, a, c, rfl, h1, h2, h3⟩

theorem box2 (w : World) (o1 o2 : Obj) : Fr [] w ((w.alloc o1).alloc o2) ∧ ((w.alloc o1).alloc o2).heap[w.heap.size]? = some o1 ∧ ((w.alloc o1).alloc o2).heap[w.heap.size + 1]? = some o2 ∧ ((w.alloc o1).alloc o2).heap.size = w.heap.size + 2 := by
  refine ⟨((Fr.refl [] w).alloc _).alloc _, ((Fr.refl [] _).alloc o2).heap (heap_alloc_new w o1) (by simp), ?_, by simp⟩
  have h := heap_alloc_new (w.alloc o1) o2
  simpa using h

set_option maxRecDepth 100000
set_option maxHeartbeats 1600000 in
theorem amounts_any {w : World} {u v : Value} {x y : Int} (hu : BigAt w u x) (hv : BigAt w v y) (hx : (dg x.natAbs).length ≤ 1000) (hy : (dg y.natAbs).length ≤ 1000) :
    Calls Tryz.prog 111 #[u, v] w fun e w' => e = .returned (.int .i64 (am x.natAbs y.natAbs)) ∧ Fr [] w w' := by
  obtain ⟨a, c, rfl, hd⟩ := hu.shape
  obtain ⟨a', c', rfl, hd'⟩ := hv.shape
  generalize decide (x < 0) = mx
  generalize decide (y < 0) = my
  clear hu hv
  generalize x.natAbs = n at *
  generalize y.natAbs = m at *
  generalize hp : (dg n).length = p at *
  generalize hq : (dg m).length = q at *
  have HP := Lib.hid hp
  have HQ := Lib.hid hq
  clear hp hq
  obtain ⟨f2, b1, b2, -⟩ := box2 w (.cells #[.bool mx, .slice a p c] 122) (.cells #[.bool my, .slice a' q c'] 122)
  have D1 := Lib.hid (hd.fr f2)
  have D2 := Lib.hid (hd'.fr f2)
  have F2 := Lib.hid f2
  have B1 := Lib.hid b1
  have B2 := Lib.hid b2
  clear hd hd' f2 b1 b2
  go_enter Tryz.func111, Tryz.ntmps111
  go_upto_region 1 with fail
  generalize (w.alloc (.cells #[.bool mx, .slice a p c] 122)).alloc (.cells #[.bool my, .slice a' q c'] 122) = w2 at *
  generalize w.heap.size + 1 = g2 at *
  generalize w.heap.size = g1 at *
  have x1 := cell_blk B1.out 1 (.slice a p c) rfl
  have x2 := cell_blk B2.out 1 (.slice a' q c') rfl
  by_cases hlen : p = q
  · subst hlen
    have h0 : ((p : Int) != (p : Int)) = false := by simp
    go_wp2_with fail
    go_loopw [5] (fun i wr => ∃ k : Nat, i = .int .i64 ((k : Int) - 1) ∧ k ≤ p ∧ Hid (n / 1000000 ^ k = m / 1000000 ^ k) ∧ Fr [] w2 wr) (fun i _ => (intOf i + 1).toNat)
    case atStart => exact ⟨p, rfl, Nat.le_refl _, Lib.hid (by
      have h1 := top_zero n
      have h2 := top_zero m
      rw [HP.out] at h1
      rw [HQ.out] at h2
      rw [h1, h2]), Fr.refl _ _⟩
    case round =>
      obtain ⟨k, rfl, hk, HE, hf⟩ := hrel
      by_cases hlt : 0 < k
      · obtain ⟨k, rfl⟩ : ∃ j, k = j + 1 := ⟨k - 1, by omega⟩
        obtain ⟨o1, e1, rfl, z1⟩ := (D1.out.fr hf).cell (show k < p by omega)
        obtain ⟨o2, e2, rfl, z2⟩ := (D2.out.fr hf).cell (show k < p by omega)
        have y1 := hf.cell x1 (by simp)
        have y2 := hf.cell x2 (by simp)
        have HF := Lib.hid hf
        have k2 : (k : Int) < (p : Int) := by omega
        have LT := Lib.hid (fun h => am_lt' (am_lt HE.out h))
        have GT := Lib.hid (fun h => am_gt' (am_lt HE.out.symm h))
        have EQ := Lib.hid (fun h1 h2 => am_eq HE.out h1 h2)
        clear hf x1 x2 HE
        generalize n / 1000000 ^ k % 1000000 = dn at *
        generalize m / 1000000 ^ k % 1000000 = dm at *
        by_cases h1 : dn < dm
        · have j1 : (dn : Int) < (dm : Int) := by omega
          have J1 := LT.out h1
          clear LT GT EQ
          go_wp2_with fail
          go_quiet (fail)
          go_wp2_with fail
          go_ret
          exact ⟨ret_int J1.symm, F2.out.trans (by first | exact HF.out.drewN _ | exact (HF.out.drewN _).drewN _)⟩
        · have j1 : ¬ (dn : Int) < (dm : Int) := by omega
          by_cases h2 : dm < dn
          · have j2 : (dm : Int) < (dn : Int) := by omega
            have J1 := GT.out h2
            clear LT GT EQ
            go_wp2_with fail
            go_quiet (fail)
            go_wp2_with fail
            go_quiet (fail)
            go_wp2_with fail
            go_ret
            exact ⟨ret_int J1.symm, F2.out.trans (by first | exact HF.out.drewN _ | exact (HF.out.drewN _).drewN _)⟩
          · have j2 : ¬ (dm : Int) < (dn : Int) := by omega
            have J1 := Lib.hid (EQ.out h1 h2)
            clear LT GT EQ
            go_wp2_with fail
            go_quiet (fail)
            go_wp2_with fail
            go_quiet (fail)
            go_wp2_with fail
            go_roundw
            case rel => exact ⟨k, by first | rfl | go_num, by omega, J1, by first | exact HF.out.drewN _ | exact (HF.out.drewN _).drewN _⟩
            case measure => simp [intOf] <;> omega
      · obtain rfl : k = 0 := by omega
        have J1 := am_eq' (show n = m by have := HE.out; simpa using this)
        have HF := Lib.hid hf
        clear hf HE
        go_wp2_with fail
        go_ret
        exact ⟨ret_int J1.symm, F2.out.trans HF.out⟩
  · have h0 : ((p : Int) != (q : Int)) = true := by simp; omega
    by_cases hlt : p < q
    · have J1 := am_lt' (am_len (show (dg n).length < (dg m).length by rw [HP.out, HQ.out]; exact hlt))
      have j1 : (p : Int) < (q : Int) := by omega
      go_wp2_with fail
      go_ret
      exact ⟨ret_int J1.symm, F2.out⟩
    · have J1 := Lib.hid (am_gt' (am_len (show (dg m).length < (dg n).length by rw [HP.out, HQ.out]; omega)))
      have j1 : ¬ (p : Int) < (q : Int) := by omega
      go_wp2_with fail
      go_ret
      exact ⟨ret_int J1.out.symm, F2.out⟩

theorem box3 (w : World) (o1 o2 o3 : Obj) : Fr [] w (((w.alloc o1).alloc o2).alloc o3) ∧ (((w.alloc o1).alloc o2).alloc o3).heap[w.heap.size]? = some o1 ∧ (((w.alloc o1).alloc o2).alloc o3).heap[w.heap.size + 1]? = some o2 ∧ (((w.alloc o1).alloc o2).alloc o3).heap[w.heap.size + 1 + 1]? = some o3 ∧ (((w.alloc o1).alloc o2).alloc o3).heap.size = w.heap.size + 3 := by
  obtain ⟨h1, h2, h3, h4⟩ := box2 w o1 o2
  have f := (Fr.refl [] ((w.alloc o1).alloc o2)).alloc o3
  refine ⟨h1.trans f, f.heap h2 (by simp), f.heap h3 (by simp), ?_, by simp⟩
  have h := heap_alloc_new ((w.alloc o1).alloc o2) o3
  rw [h4] at h
  exact h

theorem big.Car.all {x y : Nat} : ∀ i, ∃ c, Car x y (x + y) i c
  | 0 => ⟨0, Car.zero x y⟩
  | i + 1 => by
    obtain ⟨c, h⟩ := big.Car.all (x := x) (y := y) i
    exact ⟨_, h.add.2⟩
/-- A sum has a digit more at the most. -/
theorem big.dg_sum {x y k : Nat} (hx : (dg x).length ≤ k) (hy : (dg y).length ≤ k) : (dg (x + y)).length ≤ k + 1 := by
  by_cases h : k + 1 < (dg (x + y)).length
  · obtain ⟨c, hc⟩ := Car.all (x := x) (y := y) k
    obtain ⟨h1, h2⟩ := hc.add.2
    obtain ⟨c', hc'⟩ := Car.all (x := x) (y := y) (k + 1)
    have h3 := hc'.more.2 h
    have h4 : x / 1000000 ^ k = 0 := by
      have : ¬ k < (dg x).length := by omega
      rwa [dg_lt_len, Classical.not_not] at this
    have h5 : y / 1000000 ^ k = 0 := by
      have : ¬ k < (dg y).length := by omega
      rwa [dg_lt_len, Classical.not_not] at this
    have h6 := hc'.1
    have h7 := hc.1
    rw [pw_succ, pw_succ, pw_succ, h4, h5, h7, h4, h5] at h6
    have := hc.2
    omega
  · omega

set_option maxHeartbeats 3200000 in
theorem added_any {w : World} {u v : Value} {x y z : Int} (hu : BigAt w u x) (hv : BigAt w v y) (hx : (dg x.natAbs).length ≤ 1000) (hy : (dg y.natAbs).length ≤ 1000) (hz : z.natAbs = x.natAbs + y.natAbs) (hz0 : ¬ z < 0) :
    Calls Tryz.prog 110 #[u, v] w fun e w' => ∃ r, e = .returned r ∧ BigAt w' r z ∧ Fr [] w w' := by
  obtain ⟨i0, hi, hz0', hz1, hz2⟩ := info_parts infoBg
  obtain ⟨a, c, rfl, hd⟩ := hu.shape
  obtain ⟨a', c', rfl, hd'⟩ := hv.shape
  generalize decide (x < 0) = mx
  generalize decide (y < 0) = my
  clear hu hv
  have hzf : decide (z < 0) = false := decide_eq_false hz0
  have HZF := Lib.hid hzf
  clear hzf hz0
  generalize x.natAbs = n at *
  generalize y.natAbs = m at *
  generalize hp : (dg n).length = p at *
  generalize hq : (dg m).length = q at *
  have HP := Lib.hid hp
  have HQ := Lib.hid hq
  have HZ := Lib.hid hz
  clear hp hq hz
  obtain ⟨f2, b1, b2, b3, hs3⟩ := box3 w (.cells #[.bool mx, .slice a p c] 122) (.cells #[.bool my, .slice a' q c'] 122) (.cells #[.bool false, .slice none 0 0] 122)
  have D1 := Lib.hid (hd.fr f2)
  have D2 := Lib.hid (hd'.fr f2)
  have F2 := Lib.hid f2
  have B1 := Lib.hid b1
  have B2 := Lib.hid b2
  have B3 := Lib.hid b3
  clear hd hd' f2 b1 b2 b3
  go_enter Tryz.func110, Tryz.ntmps110
  go_upto_region 1 with fail
  generalize ((w.alloc (.cells #[.bool mx, .slice a p c] 122)).alloc (.cells #[.bool my, .slice a' q c'] 122)).alloc (.cells #[.bool false, .slice none 0 0] 122) = w2 at *
  have hr3 : w.heap.size + 1 + 1 < w2.heap.size := by omega
  have hr4 : w.heap.size ≤ w.heap.size + 1 + 1 := by omega
  generalize w.heap.size + 1 + 1 = g3 at *
  generalize w.heap.size + 1 = g2 at *
  have HW : Hid (w.heap.size ≤ g3) := Lib.hid hr4
  generalize hg1 : w.heap.size = g1 at *
  clear hr4 hs3
  have HG1 := Lib.hid hg1
  clear hg1
  have x1 := cell_blk B1.out 1 (.slice a p c) rfl
  have x2 := cell_blk B2.out 1 (.slice a' q c') rfl
  go_wp2_with fail
  generalize hN : z.natAbs = N at *
  have hNb : (dg N).length ≤ 1001 := by
    rw [HZ.out]
    exact dg_sum (by rw [HP.out]; exact hx) (by rw [HQ.out]; exact hy)
  go_loopw [6, 7] (fun cy i wr => ∃ k e : Nat, cy = .int .u64 (e : Int) ∧ i = .int .i64 (k : Int) ∧ k ≤ (dg N).length ∧ e ≤ 1 ∧ Hid (Car n m N k e) ∧ OutB w2 wr w2.heap.size false N k) (fun _ i _ => (dg N).length - (intOf i).toNat)
  case atStart => exact ⟨0, 0, rfl, rfl, Nat.zero_le _, by omega, Lib.hid (by rw [HZ.out]; exact Car.zero n m), OutB.new (Fr.refl _ _) _ _⟩
  case round =>
    obtain ⟨k, e, rfl, rfl, hk, he, HC, ho⟩ := hrel
    obtain ⟨oa, oc, hb1, hown, hkc, han⟩ := ho.shape
    have HO := Lib.hid ho
    have HB1 := Lib.hid hb1
    have HOwn := Lib.hid hown
    have f3 := ho.2.2.1
    have hgs : w2.heap.size < wr.heap.size := ho.2.1
    have y1 := f3.cell x1 (by simp)
    have y2 := f3.cell x2 (by simp)
    have x3 := cell_blk hb1 1 (.slice oa k oc) rfl
    have z3 : wr.frozen? ⟨w2.heap.size, 1, none⟩ = false := by simp [World.frozen?, hb1]
    have HM := Lib.hid HC.out.more
    rw [HP.out, HQ.out] at HM
    by_cases hlt : k < (dg N).length
    · have HLt := Lib.hid hlt
      clear ho hown hb1 hk x1 x2 hlt
      go_upto_region 4 with fail
      go_cut [24] (fun b wx => b = .bool true ∧ wx = wr)
      case first =>
        have hcase := HM.out.2 HLt.out
        by_cases h1 : k < p
        · have j1 : (k : Int) < (p : Int) := by omega
          go_wp2_with fail
          go_meet
          case rel => exact ⟨rfl, rfl⟩
        · have j1 : ¬ (k : Int) < (p : Int) := by omega
          by_cases h2 : k < q
          · have j2 : (k : Int) < (q : Int) := by omega
            go_wp2_with fail
            go_meet
            case rel => exact ⟨rfl, rfl⟩
          · have j2 : ¬ (k : Int) < (q : Int) := by omega
            obtain rfl : e = 1 := by omega
            go_wp2_with fail
            go_meet
            case rel => exact ⟨rfl, rfl⟩
      case rest =>
        obtain ⟨rfl, rfl⟩ := hcut
        have C1 := Lib.hid (fun h : k < p => (D1.out.fr f3).cell h)
        have C2 := Lib.hid (fun h : k < q => (D2.out.fr f3).cell h)
        have Z1 := Lib.hid (fun h : ¬ k < p => show n / 1000000 ^ k % 1000000 = 0 by rw [← dig, if_neg (by rw [HP.out]; exact h)])
        have Z2 := Lib.hid (fun h : ¬ k < q => show m / 1000000 ^ k % 1000000 = 0 by rw [← dig, if_neg (by rw [HQ.out]; exact h)])
        have hdn : n / 1000000 ^ k % 1000000 < 1000000 := Nat.mod_lt _ (by decide)
        have hdm : m / 1000000 ^ k % 1000000 < 1000000 := Nat.mod_lt _ (by decide)
        have CA := Lib.hid HC.out.add
        generalize n / 1000000 ^ k % 1000000 = dn at *
        generalize m / 1000000 ^ k % 1000000 = dm at *
        clear D1 D2 HC f3 HM
        go_upto_if 31 with fail
        go_cut [6] (fun x wx => x = .int .u64 ((e + dn : Nat) : Int) ∧ wx = wc)
        case first =>
          by_cases h1 : k < p
          · obtain ⟨b1, o1, rfl, c1⟩ := C1.out h1
            have j1 : (k : Int) < (p : Int) := by omega
            go_wp2_with fail
            go_meet
            case rel => exact ⟨by go_num, rfl⟩
          · have j1 : ¬ (k : Int) < (p : Int) := by omega
            obtain rfl := Z1.out h1
            go_wp2_with fail
            go_meet
            case rel => exact ⟨rfl, rfl⟩
        case rest =>
          obtain ⟨rfl, rfl⟩ := hcut
          generalize hed : e + dn = ed at *
          have hed2 : ed ≤ 1000000 := by omega
          go_upto_if 43 with fail
          go_cut [6] (fun x wx => x = .int .u64 ((ed + dm : Nat) : Int) ∧ wx = wc)
          case first =>
            by_cases h1 : k < q
            · obtain ⟨b1, o1, rfl, c1⟩ := C2.out h1
              have j1 : (k : Int) < (q : Int) := by omega
              go_wp2_with fail
              go_meet
              case rel => exact ⟨by go_num, rfl⟩
            · have j1 : ¬ (k : Int) < (q : Int) := by omega
              obtain rfl := Z2.out h1
              go_wp2_with fail
              go_meet
              case rel => exact ⟨rfl, rfl⟩
          case rest =>
            obtain ⟨rfl, rfl⟩ := hcut
            have hc5 : (ed + dm) / 1000000 ≤ 1 := CA.out.2.2
            have hkb : k ≤ 1001 := by have := HLt.out; omega
            generalize hem : ed + dm = em at *
            clear C1 C2 Z1 Z2 y1 y2
            go_wp2_with (at_builtin; refine wpList_append_src _ rfl (.tmp 52) (.tmp 55) 120 rfl (w2.heap.size + 1) 131 i0 _ 1 8 Tryz.underlying120 hi hz0' hz1 hz2 rfl (by decide) (.slice oa k oc) k _ rfl (ownsRow_fr HOwn.out ((Fr.refl [] wc).alloc _) (by simp)) (.slice (some ⟨wc.heap.size, 0, none⟩) 1 1) 1 [.int .u64 ((em : Int) % 1000000)] rfl (Src.block (heap_alloc_new wc _) rfl (by intro u hu; simp at hu; rcases hu with rfl; rfl)) (by unfold maxLen; omega) (by omega) (by simp; omega) ?_; intro v' w3 hown3 hgrow3 _; obtain ⟨a3, c3, rfl⟩ := ownsRow_shape hown3; have hb3 := OutB.held HOwn.out HB1.out hgrow3; have x4 := cell_blk hb3 1 (.slice oa k oc) rfl; have z4 : w3.frozen? ⟨w2.heap.size, 1, none⟩ = false := (by simp [World.frozen?, hb3]); have HOwn3 := Lib.hid hown3; have HG3 := Lib.hid hgrow3; clear hown3 hgrow3 hb3)
            go_roundw
            case rel => exact ⟨k + 1, em / 1000000, by first | rfl | go_num, by go_num, HLt.out, hc5, Lib.hid CA.out.2, HO.out.put HOwn.out HB1.out rfl HG3.out (by
              have h9 := HOwn3.out
              have e9 : ((N / 1000000 ^ k % 1000000 : Nat) : Int) = (em : Int) % 1000000 := by rw [← CA.out.1]; omega
              rw [e9]
              exact h9)⟩
            case measure => simp [intOf] <;> have := HLt.out <;> omega
    · have hnm : ¬ (k < p ∨ k < q ∨ 0 < e) := fun h => hlt (HM.out.1 h)
      have hk2 : k = (dg N).length := by omega
      have j1 : ¬ (k : Int) < (p : Int) := by omega
      have j2 : ¬ (k : Int) < (q : Int) := by omega
      obtain rfl : e = 0 := by omega
      have x0 := cell_blk hb1 0 (.bool false) rfl
      have hbr2 := f3.heap B3.out (by simp)
      have t0 := cell_blk hbr2 0 (.bool false) rfl
      have t1 := cell_blk hbr2 1 (.slice none 0 0) rfl
      have z5 : wr.frozen? ⟨g3, 0, none⟩ = false := by simp [World.frozen?, hbr2]
      have z6 : wr.frozen? ⟨g3, 1, none⟩ = false := by simp [World.frozen?, hbr2]
      have HBr := Lib.hid hbr2
      have HK2 := Lib.hid hk2
      have F3 := Lib.hid f3
      clear ho hown hb1 hk hbr2 hk2 hlt hnm f3
      go_wp2_with fail
      have hbz := heap_set12 (x := .bool false) (y := .slice oa k oc) HBr.out
      have t2 := cell_blk hbz 0 _ rfl
      have t3 := cell_blk hbz 1 _ rfl
      refine bodyPost_ret (v := .agg #[.bool false, .slice oa k oc]) (by simp [results, Tryz.results110, go_sem, t2, t3]) rfl ⟨_, rfl, ?_, ?_⟩
      · have h8 := HO.out
        have h9 := HB1.out
        rw [← hN] at h8
        rw [← HZF.out] at h8 h9 ⊢
        exact h8.ret (by omega) (by rw [hN]; exact HK2.out) h9
      · refine ret_fr (F2.out.trans F3.out) ?_
        rw [HG1.out]; exact HW.out
end Go.Proofs.YtjchlfblbmiceaaGreat
namespace Go.Proofs.YtjchlfblbmiceaaGreat
open Go.RowKit srt grp big

theorem DgAt.cut {w : World} {a : Option Addr} {n k j c : Nat} (h : DgAt w (.slice a k c) n k) (hj : j ≤ k) : DgAt w (.slice a j c) n j := by
  obtain ⟨a', c', hv, h1, h2, -, -, h5⟩ := h
  simp only [Value.slice.injEq] at hv
  obtain ⟨rfl, -, rfl⟩ := hv
  refine ⟨a, c, rfl, by omega, h2, by rw [cel_len, dz_len]; omega, cel_one _, ?_⟩
  rcases h5 with ⟨hv, h6⟩ | ⟨ad, c2, hv, h6⟩
  · simp only [Value.slice.injEq] at hv
    refine Or.inl ⟨?_, by omega⟩
    rw [hv.1, hv.2.2, show j = 0 by omega]
  · simp only [Value.slice.injEq] at hv
    refine Or.inr ⟨ad, c, by rw [hv.1], fun i u hi => h6 i u ?_⟩
    have hlt := (List.getElem?_eq_some_iff.1 hi).1
    rw [cel_len, dz_len] at hlt
    rw [cel_dz n j i hlt] at hi
    rw [cel_dz n k i (by omega)]
    exact hi

set_option maxRecDepth 100000
set_option maxHeartbeats 1600000 in
theorem trimmed_any {w : World} {a : Option Addr} {c k n : Nat} {z : Int} (hd : DgAt w (.slice a k c) n k) (hk : (dg n).length ≤ k) (hz : z.natAbs = n) (hz0 : ¬ z < 0) (hkb : k ≤ 2000) :
    Calls Tryz.prog 124 #[.agg #[.bool false, .slice a k c]] w fun e w' => ∃ v, e = .returned v ∧ BigAt w' v z ∧ Fr [] w w' := by
  have hkc : k ≤ c ∧ (a = none → c = 0) := by
    obtain ⟨a', c', hv, h1, h2, -⟩ := hd
    simp only [Value.slice.injEq] at hv
    obtain ⟨rfl, -, rfl⟩ := hv
    exact ⟨h1, h2⟩
  have HKC := Lib.hid hkc
  have hzf : decide (z < 0) = false := decide_eq_false hz0
  have HZF := Lib.hid hzf
  have HZ := Lib.hid hz
  clear hzf hz0 hkc hz
  obtain ⟨f2, b1, b2, hs2⟩ := box2 w (.cells #[.bool false, .slice a k c] 122) (.cells #[.bool false, .slice none 0 0] 122)
  have D1 := Lib.hid (hd.fr f2)
  have HD := Lib.hid hd
  have F2 := Lib.hid f2
  have B1 := Lib.hid b1
  have B2 := Lib.hid b2
  clear hd f2 b1 b2
  go_enter Tryz.func124, Tryz.ntmps124
  go_upto_region 1 with fail
  generalize (w.alloc (.cells #[.bool false, .slice a k c] 122)).alloc (.cells #[.bool false, .slice none 0 0] 122) = w2 at *
  have hg2 : w.heap.size ≤ w.heap.size + 1 := by omega
  generalize hg : w.heap.size + 1 = g2 at *
  generalize hg1 : w.heap.size = g1 at *
  have HG1 := Lib.hid hg1
  clear hg1 hg hs2
  have x1 := cell_blk B1.out 1 (.slice a k c) rfl
  have x0 := cell_blk B1.out 0 (.bool false) rfl
  go_wp2_with fail
  go_loop [3] (fun x => ∃ j : Nat, x = .int .i64 (j : Int) ∧ (dg n).length ≤ j ∧ j ≤ k) (fun x => (intOf x).toNat)
  case atStart => exact ⟨k, rfl, hk, Nat.le_refl _⟩
  case round =>
    obtain ⟨j, rfl, hlj, hjk⟩ := hrel
    by_cases hlt : (dg n).length < j
    · obtain ⟨j, rfl⟩ : ∃ i, j = i + 1 := ⟨j - 1, by omega⟩
      obtain ⟨o1, e1, rfl, z1⟩ := D1.out.cell (show j < k by omega)
      have hz1 : n / 1000000 ^ j % 1000000 = 0 := by
        have h1 : ¬ j < (dg n).length := by omega
        rw [dg_lt_len, Classical.not_not] at h1
        rw [h1]
      rw [hz1] at z1
      have k2 : (j : Int) < (k : Int) := by omega
      clear hz1
      go_wp2_with fail
      go_round
      case rel => exact ⟨j, by first | rfl | go_num, by omega, by omega⟩
      case measure => simp [intOf] <;> omega
    · have hj : j = (dg n).length := by omega
      have hstop : 0 < j → ∃ o1 e1 d, a = some ⟨o1, e1, none⟩ ∧ w2.cell? ⟨o1, e1 + (j - 1), none⟩ = some (.int .u64 ((d : Nat) : Int)) ∧ 0 < d := fun h => by
        obtain ⟨o1, e1, ha, z1⟩ := D1.out.cell (show j - 1 < k by omega)
        refine ⟨o1, e1, _, ha, z1, ?_⟩
        have h1 : j - 1 < (dg n).length := by omega
        rw [dg_lt_len] at h1
        have h2 := top_zero n
        rw [← hj, show j = j - 1 + 1 by omega, pw_succ] at h2
        omega
      have HS := Lib.hid hstop
      have HJ := Lib.hid hj
      clear hstop hj hlt
      have hkc1 := HKC.out.1
      by_cases hj0 : 0 < j
      · obtain ⟨o1, e1, d, rfl, z1, hd0⟩ := HS.out hj0
        obtain ⟨i, rfl⟩ : ∃ i, j = i + 1 := ⟨j - 1, by omega⟩
        rw [show i + 1 - 1 = i by omega] at z1
        have j1 : (i : Int) < (k : Int) := by omega
        have j2 : ((i : Int) + 1) ≤ (c : Int) := by omega
        have j3 : ((d : Int) == 0) = false := by simp; omega
        clear HS
        go_upto_region 4 with fail
        generalize i + 1 = j9 at *
        have j4 : (j9 : Int) ≤ (c : Int) := by omega
        clear j2
        go_still_tail 11, (by kernel_rfl)
        change wpList _ _ _ _ _ w2.drew
        have B4 : w2.drew.heap[g2]? = some (.cells #[.bool false, .slice none 0 0] 122) := B2.out
        have F4 := Lib.hid F2.out.drew
        have HB4 := Lib.hid B4
        have y0 := cell_blk B4 0 (.bool false) rfl
        have y1 := cell_blk B4 1 (.slice none 0 0) rfl
        have y2 : w2.drew.frozen? ⟨g2, 0, none⟩ = false := by simp only [World.frozen?, B4]; rfl
        have y3 : w2.drew.frozen? ⟨g2, 1, none⟩ = false := by simp only [World.frozen?, B4]; rfl
        clear B4
        generalize w2.drew = w3 at *
        go_wp2_with fail
        have hbz := heap_set12 (x := .bool false) (y := .slice (some ⟨o1, e1, none⟩) j9 c) HB4.out
        have t2 := cell_blk hbz 0 _ rfl
        have t3 := cell_blk hbz 1 _ rfl
        have fW : Fr [] w ((w3.setCell ⟨g2, 0, none⟩ (.bool false)).setCell ⟨g2, 1, none⟩ (.slice (some ⟨o1, e1, none⟩) j9 c)) := ret_fr F4.out (by rw [HG1.out]; exact hg2)
        refine bodyPost_ret (v := .agg #[.bool false, .slice (some ⟨o1, e1, none⟩) j9 c]) (by simp [results, Tryz.results124, go_sem, t2, t3]) rfl ⟨_, rfl, ⟨_, by rw [HZF.out], ?_⟩, fW⟩
        rw [HZ.out, ← HJ.out]
        exact (HD.out.fr fW).cut (by omega)
      · obtain rfl : j = 0 := by omega
        clear HS
        cases a with
        | none =>
          obtain rfl : c = 0 := HKC.out.2 rfl
          obtain rfl : k = 0 := by omega
          go_upto_region 4 with fail
          go_still_tail 11, (by kernel_rfl)
          change wpList _ _ _ _ _ w2.drew
          have B4 : w2.drew.heap[g2]? = some (.cells #[.bool false, .slice none 0 0] 122) := B2.out
          have F4 := Lib.hid F2.out.drew
          have HB4 := Lib.hid B4
          have y0 := cell_blk B4 0 (.bool false) rfl
          have y1 := cell_blk B4 1 (.slice none 0 0) rfl
          have y2 : w2.drew.frozen? ⟨g2, 0, none⟩ = false := by simp only [World.frozen?, B4]; rfl
          have y3 : w2.drew.frozen? ⟨g2, 1, none⟩ = false := by simp only [World.frozen?, B4]; rfl
          clear B4
          generalize w2.drew = w3 at *
          go_wp2_with fail
          have hbz := heap_set12 (x := .bool false) (y := .slice none 0 0) HB4.out
          have t2 := cell_blk hbz 0 _ rfl
          have t3 := cell_blk hbz 1 _ rfl
          have fW : Fr [] w ((w3.setCell ⟨g2, 0, none⟩ (.bool false)).setCell ⟨g2, 1, none⟩ (.slice none 0 0)) := ret_fr F4.out (by rw [HG1.out]; exact hg2)
          refine bodyPost_ret (v := .agg #[.bool false, .slice none 0 0]) (by simp [results, Tryz.results124, go_sem, t2, t3]) rfl ⟨_, rfl, ⟨_, by rw [HZF.out], ?_⟩, fW⟩
          rw [HZ.out, ← HJ.out]
          exact (HD.out.fr fW).cut (by omega)
        | some ad =>
          go_upto_region 4 with fail
          go_still_tail 11, (by kernel_rfl)
          change wpList _ _ _ _ _ w2.drew
          have B4 : w2.drew.heap[g2]? = some (.cells #[.bool false, .slice none 0 0] 122) := B2.out
          have F4 := Lib.hid F2.out.drew
          have HB4 := Lib.hid B4
          have y0 := cell_blk B4 0 (.bool false) rfl
          have y1 := cell_blk B4 1 (.slice none 0 0) rfl
          have y2 : w2.drew.frozen? ⟨g2, 0, none⟩ = false := by simp only [World.frozen?, B4]; rfl
          have y3 : w2.drew.frozen? ⟨g2, 1, none⟩ = false := by simp only [World.frozen?, B4]; rfl
          clear B4
          generalize w2.drew = w3 at *
          go_wp2_with fail
          have hbz := heap_set12 (x := .bool false) (y := .slice (some ad) 0 c) HB4.out
          have t2 := cell_blk hbz 0 _ rfl
          have t3 := cell_blk hbz 1 _ rfl
          have fW : Fr [] w ((w3.setCell ⟨g2, 0, none⟩ (.bool false)).setCell ⟨g2, 1, none⟩ (.slice (some ad) 0 c)) := ret_fr F4.out (by rw [HG1.out]; exact hg2)
          refine bodyPost_ret (v := .agg #[.bool false, .slice (some ad) 0 c]) (by simp [results, Tryz.results124, go_sem, t2, t3]) rfl ⟨_, rfl, ⟨_, by rw [HZF.out], ?_⟩, fW⟩
          rw [HZ.out, ← HJ.out]
          exact (HD.out.fr fW).cut (by omega)

/-- A digit lies in no variable of the struct's type. -/
theorem DgAt.set2 {w : World} {v x y : Value} {n k r n0 c0 t : Nat} {m : Bool} {a0 : Option Addr} (h : DgAt w v n k) (hr : w.heap[r]? = some (.cells #[.bool m, .slice a0 n0 c0] t)) : DgAt ((w.setCell ⟨r, 0, none⟩ x).setCell ⟨r, 1, none⟩ y) v n k := by
  obtain ⟨a, c, rfl, h1, h2, h3, h4, h5⟩ := h
  refine ⟨a, c, rfl, h1, h2, h3, h4, ?_⟩
  rcases h5 with h5 | ⟨ad, c2, h5, h6⟩
  · exact Or.inl h5
  · refine Or.inr ⟨ad, c2, h5, fun j u hj => ?_⟩
    have h7 := h6 j u hj
    generalize ad.add j = p at *
    obtain ⟨pb, po, rfl⟩ : ∃ b o, p = ⟨b, o, none⟩ := ⟨_, _, addr_plain h7⟩
    have hne : pb ≠ r := fun e => by
      subst e
      have hju : ∃ d : Nat, u = .int .u64 (d : Int) := by
        obtain ⟨d, -, hd⟩ := List.mem_map.1 (List.mem_of_getElem? hj)
        exact ⟨d, hd.symm⟩
      obtain ⟨d, rfl⟩ := hju
      simp only [World.cell?, hr] at h7
      match po, h7 with
      | 0, h7 => simp at h7
      | 1, h7 => simp at h7
      | q + 2, h7 => simp at h7
    exact (((Fr.refl [r] w).setCell (by simp) x).setCell (by simp) y).cell h7 (by simpa using hne)
theorem BigAt.set2 {w : World} {v x y : Value} {z : Int} {r n0 c0 t : Nat} {m : Bool} {a0 : Option Addr} (h : BigAt w v z) (hr : w.heap[r]? = some (.cells #[.bool m, .slice a0 n0 c0] t)) : BigAt ((w.setCell ⟨r, 0, none⟩ x).setCell ⟨r, 1, none⟩ y) v z := by
  obtain ⟨s, rfl, h1⟩ := h
  exact ⟨s, rfl, h1.set2 hr⟩

set_option maxHeartbeats 3200000 in
theorem less_any {w : World} {u v : Value} {x y z : Int} (hu : BigAt w u x) (hv : BigAt w v y) (hx : (dg x.natAbs).length ≤ 1000) (hz : x.natAbs = y.natAbs + z.natAbs) (hz0 : ¬ z < 0) :
    Calls Tryz.prog 118 #[u, v] w fun e w' => ∃ r, e = .returned r ∧ BigAt w' r z ∧ Fr [] w w' := by
  obtain ⟨i0, hi, hz0', hz1, hz2⟩ := info_parts infoBg
  obtain ⟨a, c, rfl, hd⟩ := hu.shape
  obtain ⟨a', c', rfl, hd'⟩ := hv.shape
  generalize decide (x < 0) = mx
  generalize decide (y < 0) = my
  clear hu hv
  have hzl : (dg z.natAbs).length ≤ (dg x.natAbs).length := dg_len_mono (by omega)
  have HZ0 := Lib.hid hz0
  clear hz0
  generalize x.natAbs = n at *
  generalize y.natAbs = m at *
  generalize hp : (dg n).length = p at *
  generalize hq : (dg m).length = q at *
  have HP := Lib.hid hp
  have HQ := Lib.hid hq
  have HZ := Lib.hid hz
  have HZL := Lib.hid hzl
  clear hp hq hz hzl
  obtain ⟨f2, b1, b2, b3, hs3⟩ := box3 w (.cells #[.bool mx, .slice a p c] 122) (.cells #[.bool my, .slice a' q c'] 122) (.cells #[.bool false, .slice none 0 0] 122)
  have D1 := Lib.hid (hd.fr f2)
  have D2 := Lib.hid (hd'.fr f2)
  have F2 := Lib.hid f2
  have B1 := Lib.hid b1
  have B2 := Lib.hid b2
  have B3 := Lib.hid b3
  clear hd hd' f2 b1 b2 b3
  go_enter Tryz.func118, Tryz.ntmps118
  go_upto_region 1 with fail
  generalize ((w.alloc (.cells #[.bool mx, .slice a p c] 122)).alloc (.cells #[.bool my, .slice a' q c'] 122)).alloc (.cells #[.bool false, .slice none 0 0] 122) = w2 at *
  have hr3 : w.heap.size + 1 + 1 < w2.heap.size := by omega
  have hr4 : w.heap.size ≤ w.heap.size + 1 + 1 := by omega
  generalize w.heap.size + 1 + 1 = g3 at *
  generalize w.heap.size + 1 = g2 at *
  generalize hg1 : w.heap.size = g1 at *
  have HW : Hid (g1 ≤ g3) := Lib.hid hr4
  have HG1 := Lib.hid hg1
  clear hr4 hs3 hg1
  have x1 := cell_blk B1.out 1 (.slice a p c) rfl
  have x2 := cell_blk B2.out 1 (.slice a' q c') rfl
  have x5 : ∀ o, (w2.alloc o).cell? ⟨g1, 1, none⟩ = some (.slice a p c) := fun o => ((Fr.refl [] w2).alloc o).cell x1 (by simp)
  go_wp2_with fail
  clear x5
  generalize hN : z.natAbs = N at *
  have HN := Lib.hid hN
  clear hN
  go_loopw [6, 14] (fun b i wr => ∃ k e : Nat, b = .int .u64 (e : Int) ∧ i = .int .i64 (k : Int) ∧ k ≤ p ∧ e ≤ 1 ∧ Hid (Car m N n k e) ∧ OutB w2 wr w2.heap.size false N k) (fun _ i _ => p - (intOf i).toNat)
  case atStart => exact ⟨0, 0, rfl, rfl, Nat.zero_le _, by omega, Lib.hid (by rw [HZ.out]; exact Car.zero m N), OutB.new (Fr.refl _ _) _ _⟩
  case round =>
    obtain ⟨k, e, rfl, rfl, hk, he, HC, ho⟩ := hrel
    obtain ⟨oa, oc, hb1, hown, hkc, han⟩ := ho.shape
    have HO := Lib.hid ho
    have HB1 := Lib.hid hb1
    have HOwn := Lib.hid hown
    have f3 := ho.2.2.1
    have hgs : w2.heap.size < wr.heap.size := ho.2.1
    have y2 := f3.cell x2 (by simp)
    have x3 := cell_blk hb1 1 (.slice oa k oc) rfl
    have z3 : wr.frozen? ⟨w2.heap.size, 1, none⟩ = false := by simp [World.frozen?, hb1]
    by_cases hlt : k < p
    · obtain ⟨o1, e1, rfl, c1⟩ := (D1.out.fr f3).cell hlt
      have C2 := Lib.hid (fun h : k < q => (D2.out.fr f3).cell h)
      have Z2 := Lib.hid (fun h : ¬ k < q => show m / 1000000 ^ k % 1000000 = 0 by rw [← dig, if_neg (by rw [HQ.out]; exact h)])
      have hdn : n / 1000000 ^ k % 1000000 < 1000000 := Nat.mod_lt _ (by decide)
      have hdm : m / 1000000 ^ k % 1000000 < 1000000 := Nat.mod_lt _ (by decide)
      have CA := Lib.hid HC.out.less
      generalize n / 1000000 ^ k % 1000000 = dn at *
      generalize m / 1000000 ^ k % 1000000 = dm at *
      have HLt := Lib.hid hlt
      have j0 : (k : Int) < (p : Int) := by omega
      clear ho hown hb1 hk x1 x2 D1 D2 HC f3 hlt
      go_upto_if 24 with fail
      go_cut [9] (fun x wx => x = .int .u64 ((e + dm : Nat) : Int) ∧ wx = wr)
      case first =>
        by_cases h1 : k < q
        · obtain ⟨b1, o1, rfl, c1⟩ := C2.out h1
          have j1 : (k : Int) < (q : Int) := by omega
          go_wp2_with fail
          go_meet
          case rel => exact ⟨by go_num, rfl⟩
        · have j1 : ¬ (k : Int) < (q : Int) := by omega
          obtain rfl := Z2.out h1
          go_wp2_with fail
          go_meet
          case rel => exact ⟨rfl, rfl⟩
      case rest =>
        obtain ⟨rfl, rfl⟩ := hcut
        generalize hed : e + dm = ed at *
        have hed2 : ed ≤ 1000000 := by omega
        clear C2 Z2 y2
        go_upto_if 34 with fail
        go_cut [6, 8] (fun b x wx => ∃ e' X : Nat, b = .int .u64 (e' : Int) ∧ x = .int .u64 (X : Int) ∧ ed ≤ X ∧ X ≤ 2000000 ∧ e' ≤ 1 ∧ Hid (X - ed = N / 1000000 ^ k % 1000000 ∧ Car m N n (k + 1) e') ∧ wx = wc)
        case first =>
          by_cases h1 : dn < ed
          · have j1 : (dn : Int) < (ed : Int) := by omega
            go_wp2_with fail
            go_meet
            case rel => exact ⟨1, dn + 1000000, rfl, by go_num, by omega, by omega, by omega, Lib.hid (CA.out.1 h1), rfl⟩
          · have j1 : ¬ (dn : Int) < (ed : Int) := by omega
            go_wp2_with fail
            go_meet
            case rel => exact ⟨0, dn, rfl, rfl, by omega, by omega, by omega, Lib.hid (CA.out.2 h1), rfl⟩
        case rest =>
          obtain ⟨e', X, rfl, rfl, hX1, hX2, he', HX, rfl⟩ := hcut
          have hw5 : IntKind.u64.wrap ((X : Int) - (ed : Int)) = ((X - ed : Nat) : Int) := by
            have h1 : IntKind.u64.wrap ((X : Int) - (ed : Int)) = ((X : Int) - (ed : Int)) % 18446744073709551616 := rfl
            rw [h1]; omega
          generalize hD : X - ed = D at *
          have hkb : k ≤ 1000 := by have := HLt.out; omega
          clear hD c1 CA
          go_wp2_with (at_builtin; refine wpList_append_src _ rfl (.tmp 38) (.tmp 42) 120 rfl (w2.heap.size + 1) 131 i0 _ 1 8 Tryz.underlying120 hi hz0' hz1 hz2 rfl (by decide) (.slice oa k oc) k _ rfl (ownsRow_fr HOwn.out ((Fr.refl [] wc).alloc _) (by simp)) (.slice (some ⟨wc.heap.size, 0, none⟩) 1 1) 1 [.int .u64 (D : Int)] rfl (Src.block (heap_alloc_new wc _) rfl (by intro u hu; simp at hu; rcases hu with rfl; rfl)) (by unfold maxLen; omega) (by omega) (by simp; omega) ?_; intro v' w3 hown3 hgrow3 _; obtain ⟨a3, c3, rfl⟩ := ownsRow_shape hown3; have hb3 := OutB.held HOwn.out HB1.out hgrow3; have x4 := cell_blk hb3 1 (.slice oa k oc) rfl; have z4 : w3.frozen? ⟨w2.heap.size, 1, none⟩ = false := (by simp [World.frozen?, hb3]); have HOwn3 := Lib.hid hown3; have HG3 := Lib.hid hgrow3; clear hown3 hgrow3 hb3)
          go_roundw
          case rel => exact ⟨k + 1, e', by first | rfl | go_num, by go_num, HLt.out, he', Lib.hid HX.out.2, HO.out.put HOwn.out HB1.out rfl HG3.out (by
            have h9 := HOwn3.out
            rw [← HX.out.1]
            exact h9)⟩
          case measure => simp [intOf] <;> have := HLt.out <;> omega
    · obtain rfl : k = p := by omega
      have x0 := cell_blk hb1 0 (.bool false) rfl
      have hbr2 := f3.heap B3.out (by simp)
      have htr := trimmed_any (z := z) (ho.dg hb1) HZL.out HN.out (by have := HZ0.out; omega) (by omega)
      have HTr := Lib.hid htr
      have HBr := Lib.hid hbr2
      have F3 := Lib.hid f3
      clear ho hown hb1 hk hbr2 hlt f3 htr
      go_wp2_with (go_at_call 124; refine HTr.out.mono ?_; rintro e w4 ⟨r, rfl, hr, f4⟩; have HR := Lib.hid hr; obtain ⟨ra, rc, rfl, -⟩ := hr.shape; have hbr4 := f4.heap HBr.out (by simp); have t0 := cell_blk hbr4 0 (.bool false) rfl; have t1 := cell_blk hbr4 1 (.slice none 0 0) rfl; have z5 : w4.frozen? ⟨g3, 0, none⟩ = false := (by simp [World.frozen?, hbr4]); have z6 : w4.frozen? ⟨g3, 1, none⟩ = false := (by simp [World.frozen?, hbr4]); have HBr4 := Lib.hid hbr4; have F4 := Lib.hid f4; clear hr hbr4 f4)
      have hbz := heap_set12 (x := .bool (decide (z < 0))) (y := .slice ra (dg z.natAbs).length rc) HBr4.out
      have t2 := cell_blk hbz 0 _ rfl
      have t3 := cell_blk hbz 1 _ rfl
      refine bodyPost_ret (v := .agg #[.bool (decide (z < 0)), .slice ra (dg z.natAbs).length rc]) (by simp [results, Tryz.results118, go_sem, t2, t3]) rfl ⟨_, rfl, HR.out.set2 HBr4.out, ?_⟩
      refine ret_fr (F2.out.trans (F3.out.trans F4.out)) ?_
      rw [HG1.out]; exact HW.out
end Go.Proofs.YtjchlfblbmiceaaGreat
namespace Go.Proofs.YtjchlfblbmiceaaGreat
open Go.RowKit srt grp big

theorem dg_ne {z : Int} (h : z ≠ 0) : 0 < (dg z.natAbs).length := by
  have h1 : dg z.natAbs ≠ [] := fun e => by rw [dg_nil] at e; omega
  exact List.length_pos_iff.2 h1
theorem dg_none {z : Int} (h : z = 0) : (dg z.natAbs).length = 0 := by subst h; rfl

set_option maxRecDepth 100000
set_option maxHeartbeats 1600000 in
theorem bminus_any {w : World} {u : Value} {x : Int} (hu : BigAt w u x) :
    Calls Tryz.prog 88 #[u] w fun e w' => ∃ r, e = .returned r ∧ BigAt w' r (-x) ∧ Fr [] w w' := by
  obtain ⟨a, c, rfl, hd⟩ := hu.shape
  clear hu
  obtain ⟨f2, b1, b2, -⟩ := box2 w (.cells #[.bool (decide (x < 0)), .slice a (dg x.natAbs).length c] 122) (.cells #[.bool false, .slice none 0 0] 122)
  have HD := Lib.hid hd
  have e1 : decide (-x < 0) = (!decide (x < 0) && decide (0 < (dg x.natAbs).length)) := by
    by_cases h : x = 0
    · subst h; rfl
    · have := dg_ne h
      rw [decide_eq_true this, Bool.and_true, Bool.eq_iff_iff]
      simp only [decide_eq_true_eq, Bool.not_eq_true', decide_eq_false_iff_not]
      omega
  have E1 := Lib.hid e1
  have HN := Lib.hid (show (-x).natAbs = x.natAbs by omega)
  clear e1 hd
  have F2 := Lib.hid f2
  have B1 := Lib.hid b1
  have B2 := Lib.hid b2
  clear f2 b1 b2
  go_enter Tryz.func88, Tryz.ntmps88
  go_upto_region 1 with fail
  generalize (w.alloc (.cells #[.bool (decide (x < 0)), .slice a (dg x.natAbs).length c] 122)).alloc (.cells #[.bool false, .slice none 0 0] 122) = w2 at *
  have hg2 : w.heap.size ≤ w.heap.size + 1 := by omega
  generalize hg : w.heap.size + 1 = g2 at *
  generalize hg1 : w.heap.size = g1 at *
  have HG1 := Lib.hid hg1
  clear hg1 hg
  generalize hmx : decide (x < 0) = mx at *
  generalize hp : (dg x.natAbs).length = p at *
  have HP := Lib.hid hp
  clear hmx hp
  have x0 := cell_blk B1.out 0 (.bool mx) rfl
  have x1 := cell_blk B1.out 1 (.slice a p c) rfl
  have y0 := cell_blk B2.out 0 (.bool false) rfl
  have y1 := cell_blk B2.out 1 (.slice none 0 0) rfl
  have y2 : w2.frozen? ⟨g2, 0, none⟩ = false := by simp [World.frozen?, B2.out]
  have y3 : w2.frozen? ⟨g2, 1, none⟩ = false := by simp [World.frozen?, B2.out]
  cases mx with
  | true =>
    go_wp2_with fail
    have hbz := heap_set12 (x := .bool (decide (-x < 0))) (y := .slice a p c) B2.out
    rw [E1.out] at hbz
    have t2 := cell_blk hbz 0 _ rfl
    have t3 := cell_blk hbz 1 _ rfl
    have fW := ret_fr (x := .bool (decide (-x < 0))) (y := .slice a p c) F2.out (by rw [HG1.out]; exact hg2 : w.heap.size ≤ g2)
    rw [E1.out] at fW
    simp only [Bool.not_true, Bool.false_and] at hbz t2 t3 fW
    refine bodyPost_ret (v := .agg #[.bool false, .slice a p c]) (by simp [results, Tryz.results88, go_sem, t2, t3]) rfl ⟨_, rfl, ⟨.slice a p c, by rw [E1.out]; simp, ?_⟩, fW⟩
    rw [HN.out, HP.out]
    exact HD.out.fr fW
  | false =>
    go_wp2_with fail
    have hbz := heap_set12 (x := .bool (decide (-x < 0))) (y := .slice a p c) B2.out
    rw [E1.out] at hbz
    have t2 := cell_blk hbz 0 _ rfl
    have t3 := cell_blk hbz 1 _ rfl
    have fW := ret_fr (x := .bool (decide (-x < 0))) (y := .slice a p c) F2.out (by rw [HG1.out]; exact hg2 : w.heap.size ≤ g2)
    rw [E1.out] at fW
    simp only [Bool.not_false, Bool.true_and] at hbz t2 t3 fW
    refine bodyPost_ret (v := .agg #[.bool (decide (0 < p)), .slice a p c]) (by simp [results, Tryz.results88, go_sem, t2, t3]) rfl ⟨_, rfl, ⟨.slice a p c, by rw [E1.out]; simp, ?_⟩, fW⟩
    rw [HN.out, HP.out]
    exact HD.out.fr fW

/-- What is told lies in the result's variable. -/
theorem ret_big {w w5 : World} {g3 n0 c0 rc t k : Nat} {z : Int} {m0 s : Bool} {a0 ra : Option Addr} (f : Fr [] w w5) (hg : w.heap.size ≤ g3) (hb : w5.heap[g3]? = some (.cells #[.bool m0, .slice a0 n0 c0] t)) (hs : decide (z < 0) = s) (hk : (dg z.natAbs).length = k) (hd : DgAt w5 (.slice ra k rc) z.natAbs k) :
    BigAt ((w5.setCell ⟨g3, 0, none⟩ (.bool s)).setCell ⟨g3, 1, none⟩ (.slice ra k rc)) (.agg #[.bool s, .slice ra k rc]) z ∧ Fr [] w ((w5.setCell ⟨g3, 0, none⟩ (.bool s)).setCell ⟨g3, 1, none⟩ (.slice ra k rc)) ∧
      ((w5.setCell ⟨g3, 0, none⟩ (.bool s)).setCell ⟨g3, 1, none⟩ (.slice ra k rc)).cell? ⟨g3, 0, none⟩ = some (.bool s) ∧ ((w5.setCell ⟨g3, 0, none⟩ (.bool s)).setCell ⟨g3, 1, none⟩ (.slice ra k rc)).cell? ⟨g3, 1, none⟩ = some (.slice ra k rc) := by
  subst hs
  subst hk
  have h := heap_set12 (x := .bool (decide (z < 0))) (y := .slice ra (dg z.natAbs).length rc) hb
  exact ⟨⟨_, rfl, hd.set2 hb⟩, ret_fr f hg, cell_blk h 0 _ rfl, cell_blk h 1 _ rfl⟩
theorem BigAt.nat {w : World} {r : Value} {N : Nat} (h : BigAt w r (N : Int)) : ∃ ra rc, r = .agg #[.bool false, .slice ra (dg N).length rc] ∧ DgAt w (.slice ra (dg N).length rc) N (dg N).length := by
  obtain ⟨ra, rc, rfl, hd⟩ := h.shape
  simp only [Int.natAbs_natCast] at hd ⊢
  exact ⟨ra, rc, by rw [decide_eq_false (show ¬ (N : Int) < 0 by omega)], hd⟩

set_option maxHeartbeats 3200000 in
theorem bplus_any {w : World} {u v : Value} {x y : Int} (hu : BigAt w u x) (hv : BigAt w v y) (hx : (dg x.natAbs).length ≤ 1000) (hy : (dg y.natAbs).length ≤ 1000) :
    Calls Tryz.prog 108 #[u, v] w fun e w' => ∃ r, e = .returned r ∧ BigAt w' r (x + y) ∧ Fr [] w w' := by
  obtain ⟨a, c, rfl, hd⟩ := hu.shape
  obtain ⟨a', c', rfl, hd'⟩ := hv.shape
  have HU := Lib.hid (fun (wi : World) (f : Fr [] w wi) => hu.fr f)
  have HV := Lib.hid (fun (wi : World) (f : Fr [] w wi) => hv.fr f)
  clear hu hv hd hd'
  obtain ⟨f2, b1, b2, b3, hs3⟩ := box3 w (.cells #[.bool (decide (x < 0)), .slice a (dg x.natAbs).length c] 122) (.cells #[.bool (decide (y < 0)), .slice a' (dg y.natAbs).length c'] 122) (.cells #[.bool false, .slice none 0 0] 122)
  have F2 := Lib.hid f2
  have B1 := Lib.hid b1
  have B2 := Lib.hid b2
  have B3 := Lib.hid b3
  clear f2 b1 b2 b3
  go_enter Tryz.func108, Tryz.ntmps108
  go_upto_region 1 with fail
  generalize ((w.alloc (.cells #[.bool (decide (x < 0)), .slice a (dg x.natAbs).length c] 122)).alloc (.cells #[.bool (decide (y < 0)), .slice a' (dg y.natAbs).length c'] 122)).alloc (.cells #[.bool false, .slice none 0 0] 122) = w2 at *
  have hr4 : w.heap.size ≤ w.heap.size + 1 + 1 := by omega
  generalize hg3 : w.heap.size + 1 + 1 = g3 at *
  generalize hg2 : w.heap.size + 1 = g2 at *
  generalize hg1 : w.heap.size = g1 at *
  have HW : Hid (w.heap.size ≤ g3) := Lib.hid (by rw [hg1]; exact hr4)
  clear hr4 hs3 hg1 hg2 hg3
  have CAdd := Lib.hid (fun (wi : World) (f : Fr [] w wi) (z : Int) h1 h2 => added_any (w := wi) (z := z) (HU.out _ f) (HV.out _ f) hx hy h1 h2)
  have CAm := Lib.hid (fun (wi : World) (f : Fr [] w wi) => amounts_any (w := wi) (HU.out _ f) (HV.out _ f) hx hy)
  have CL1 := Lib.hid (fun (wi : World) (f : Fr [] w wi) (z : Int) h1 h2 => less_any (w := wi) (z := z) (HU.out _ f) (HV.out _ f) hx h1 h2)
  have CL2 := Lib.hid (fun (wi : World) (f : Fr [] w wi) (z : Int) h1 h2 => less_any (w := wi) (z := z) (HV.out _ f) (HU.out _ f) hy h1 h2)
  have x0 := cell_blk B1.out 0 (.bool (decide (x < 0))) rfl
  have x1 := cell_blk B1.out 1 (.slice a (dg x.natAbs).length c) rfl
  have x2 := cell_blk B2.out 0 (.bool (decide (y < 0))) rfl
  have x3 := cell_blk B2.out 1 (.slice a' (dg y.natAbs).length c') rfl
  clear hx hy HU HV
  generalize (dg x.natAbs).length = p at *
  generalize (dg y.natAbs).length = q at *
  by_cases hs : decide (x < 0) = decide (y < 0)
  · have h0 : (decide (x < 0) == decide (y < 0)) = true := by rw [hs]; simp
    have HS := Lib.hid hs
    generalize hmy : decide (y < 0) = my at *
    generalize hmx : decide (x < 0) = mx at *
    have HMX := Lib.hid hmx
    have HMY := Lib.hid hmy
    clear hs hmx hmy
    have hsg : (x < 0) ↔ (y < 0) := by rw [← decide_eq_decide, HMX.out, HMY.out, HS.out]
    have hN : (x + y).natAbs = x.natAbs + y.natAbs := by omega
    have HN := Lib.hid hN
    have HE := Lib.hid (show decide (x + y < 0) = (mx && decide (0 < (dg (x + y).natAbs).length)) by
      rw [← HMX.out]
      by_cases h : x + y = 0
      · rw [h]; simp [dg_zero]
      · rw [decide_eq_true (dg_ne h), Bool.and_true]
        exact decide_eq_decide.2 (by omega))
    clear hN hsg
    go_upto_region 3 with (go_at_call 110; refine (CAdd.out _ F2.out (((x + y).natAbs : Nat) : Int) (by rw [← HN.out]; omega) (by omega)).mono ?_; rintro e w4 ⟨r, rfl, hr, f4⟩; obtain ⟨ra, rc, rfl, hd⟩ := hr.nat; have HD := Lib.hid hd; have F4 := Lib.hid f4; have y0 := f4.cell x0 (by simp); clear hr hd f4)
    have F5 := Lib.hid ((F2.out.trans F4.out).alloc (.cells #[.bool false, .slice ra (dg (x + y).natAbs).length rc] 122))
    generalize hk : (dg (x + y).natAbs).length = k at *
    have HK := Lib.hid hk
    have fa := fun s => (Fr.refl [] w4).alloc (.cells #[.bool s, .slice ra k rc] 122)
    have b5 := fun s => (fa s).heap (F4.out.heap B3.out (by simp)) (by simp)
    have y00 := fun s => (fa s).cell y0 (by simp)
    have z0 := fun s => cell_blk (b5 s) 0 (.bool false) rfl
    have z1 := fun s => cell_blk (b5 s) 1 (.slice none 0 0) rfl
    have z2 : ∀ s, (w4.alloc (.cells #[.bool s, .slice ra k rc] 122)).frozen? ⟨g3, 0, none⟩ = false := fun s => by simp only [World.frozen?, b5 s]; rfl
    have z3 : ∀ s, (w4.alloc (.cells #[.bool s, .slice ra k rc] 122)).frozen? ⟨g3, 1, none⟩ = false := fun s => by simp only [World.frozen?, b5 s]; rfl
    have HB5 := Lib.hid b5
    have HFA := Lib.hid fa
    clear hk fa b5 CAdd CL1 CL2 CAm x0 x1 x2 x3 y0 h0
    cases mx with
    | true =>
      go_wp2_with fail
      obtain ⟨hbig, hfr, t2, t3⟩ := ret_big (s := decide (0 < k)) (F2.out.trans (F4.out.trans (HFA.out (decide (0 < k))))) HW.out (HB5.out (decide (0 < k))) (by rw [HE.out]; simp) HK.out (HD.out.fr (HFA.out (decide (0 < k))))
      refine bodyPost_ret (v := .agg #[.bool (decide (0 < k)), .slice ra k rc]) (by simp [results, Tryz.results108, go_sem, t2, t3]) rfl ⟨_, rfl, hbig, hfr⟩
    | false =>
      go_wp2_with fail
      obtain ⟨hbig, hfr, t2, t3⟩ := ret_big (s := false) (F2.out.trans (F4.out.trans (HFA.out (false)))) HW.out (HB5.out (false)) (by rw [HE.out]; simp) HK.out (HD.out.fr (HFA.out (false)))
      refine bodyPost_ret (v := .agg #[.bool (false), .slice ra k rc]) (by simp [results, Tryz.results108, go_sem, t2, t3]) rfl ⟨_, rfl, hbig, hfr⟩
  · have h0 : (decide (x < 0) == decide (y < 0)) = false := by simpa using hs
    have HS := Lib.hid hs
    generalize hmy : decide (y < 0) = my at *
    generalize hmx : decide (x < 0) = mx at *
    have HMX := Lib.hid hmx
    have HMY := Lib.hid hmy
    clear hs hmx hmy CAdd
    have hsg : ¬ ((x < 0) ↔ (y < 0)) := by rw [← decide_eq_decide, HMX.out, HMY.out]; exact HS.out
    have HSG := Lib.hid hsg
    clear hsg
    have u1 : ∀ wi, Fr [] w2 wi → wi.cell? ⟨g1, 0, none⟩ = some (.bool mx) := fun wi f => f.cell x0 (by simp)
    have u2 : ∀ wi, Fr [] w2 wi → wi.cell? ⟨g1, 1, none⟩ = some (.slice a p c) := fun wi f => f.cell x1 (by simp)
    have u3 : ∀ wi, Fr [] w2 wi → wi.cell? ⟨g2, 0, none⟩ = some (.bool my) := fun wi f => f.cell x2 (by simp)
    have u4 : ∀ wi, Fr [] w2 wi → wi.cell? ⟨g2, 1, none⟩ = some (.slice a' q c') := fun wi f => f.cell x3 (by simp)
    have U1 := Lib.hid u1
    have U2 := Lib.hid u2
    have U3 := Lib.hid u3
    have U4 := Lib.hid u4
    clear u1 u2 u3 u4
    rcases Nat.lt_trichotomy x.natAbs y.natAbs with hlt | heq | hgt
    · have j0 := am_lt' hlt
      have HLt := Lib.hid hlt
      clear hlt
      generalize am x.natAbs y.natAbs = r0 at *
      subst j0
      have hN : (x + y).natAbs + x.natAbs = y.natAbs := by have := HSG.out; have := HLt.out; omega
      have HN := Lib.hid hN
      have HE := Lib.hid (show decide (x + y < 0) = my by rw [← HMY.out]; have := HSG.out; have := HLt.out; exact decide_eq_decide.2 (by omega))
      clear hN
      go_upto_region 7 with (go_at_call 111; refine (CAm.out _ F2.out).mono ?_; rintro e w4 ⟨rfl, f4⟩; have v1 := U1.out _ f4; have v2 := U2.out _ f4; have v3 := U3.out _ f4; have v4 := U4.out _ f4; have F4 := Lib.hid f4; clear f4 x0 x1 x2 x3)
      go_upto_region 11 with (go_at_call 111; refine (CAm.out _ (F2.out.trans F4.out)).mono ?_; rintro e w5 ⟨rfl, f5⟩; have f45 := F4.out.trans f5; have v5 := U1.out _ f45; have v6 := U2.out _ f45; have v7 := U3.out _ f45; have v8 := U4.out _ f45; have F5 := Lib.hid f45; clear f5 f45 v1 v2 v3 v4)
      go_upto_region 12 with (go_at_call 118; refine (CL2.out _ (F2.out.trans F5.out) (((x + y).natAbs : Nat) : Int) (by rw [← HN.out]; omega) (by omega)).mono ?_; rintro e w6 ⟨r, rfl, hr, f6⟩; obtain ⟨ra, rc, rfl, hd⟩ := hr.nat; have HD := Lib.hid hd; have f56 := F5.out.trans f6; have v1 := U3.out _ f56; have F6 := Lib.hid f56; clear hr hd f6 f56 v5 v6 v7 v8)
      generalize hk : (dg (x + y).natAbs).length = k at *
      have HK := Lib.hid hk
      have fa := fun s => (Fr.refl [] w6).alloc (.cells #[.bool s, .slice ra k rc] 122)
      have b5 := fun s => (fa s).heap (F6.out.heap B3.out (by simp)) (by simp)
      have y00 := fun s => (fa s).cell v1 (by simp)
      have z0 := fun s => cell_blk (b5 s) 0 (.bool false) rfl
      have z1 := fun s => cell_blk (b5 s) 1 (.slice none 0 0) rfl
      have z2 : ∀ s, (w6.alloc (.cells #[.bool s, .slice ra k rc] 122)).frozen? ⟨g3, 0, none⟩ = false := fun s => by simp only [World.frozen?, b5 s]; rfl
      have z3 : ∀ s, (w6.alloc (.cells #[.bool s, .slice ra k rc] 122)).frozen? ⟨g3, 1, none⟩ = false := fun s => by simp only [World.frozen?, b5 s]; rfl
      have HB5 := Lib.hid b5
      have HFA := Lib.hid fa
      clear hk fa b5 CL1 CL2 CAm h0 v1
      go_wp2_with fail
      obtain ⟨hbig, hfr, t2, t3⟩ := ret_big (s := my) (F2.out.trans (F6.out.trans (HFA.out my))) HW.out (HB5.out my) HE.out HK.out (HD.out.fr (HFA.out my))
      refine bodyPost_ret (v := .agg #[.bool my, .slice ra k rc]) (by simp [results, Tryz.results108, go_sem, t2, t3]) rfl ⟨_, rfl, hbig, hfr⟩
    · have j0 := am_eq' heq
      have HEq := Lib.hid heq
      generalize am x.natAbs y.natAbs = r0 at *
      subst j0
      go_upto_region 6 with (go_at_call 111; refine (CAm.out _ F2.out).mono ?_; rintro e w4 ⟨rfl, f4⟩; have b4 := f4.heap B3.out (by simp); have z0 := cell_blk b4 0 (.bool false) rfl; have z1 := cell_blk b4 1 (.slice none 0 0) rfl; have z2 : w4.frozen? ⟨g3, 0, none⟩ = false := (by simp [World.frozen?, b4]); have z3 : w4.frozen? ⟨g3, 1, none⟩ = false := (by simp [World.frozen?, b4]); have F4 := Lib.hid f4; have HB4 := Lib.hid b4; clear f4 b4)
      go_wp2_with fail
      have hz : x + y = 0 := by have := HEq.out; have := HSG.out; omega
      obtain ⟨hbig, hfr, t2, t3⟩ := ret_big (z := x + y) (s := false) (k := 0) (ra := none) (rc := 0) (F2.out.trans F4.out) HW.out HB4.out (by rw [hz]; rfl) (by rw [hz]; rfl) ⟨none, 0, rfl, Nat.le_refl _, fun _ => rfl, by simp [cel, dz], by simp [cel, dz], Or.inl ⟨rfl, rfl⟩⟩
      refine bodyPost_ret (v := .agg #[.bool false, .slice none 0 0]) (by simp [results, Tryz.results108, go_sem, t2, t3]) rfl ⟨_, rfl, hbig, hfr⟩
    · have j0 := am_gt' hgt
      have HGt := Lib.hid hgt
      clear hgt
      generalize am x.natAbs y.natAbs = r0 at *
      subst j0
      have hN : (x + y).natAbs + y.natAbs = x.natAbs := by have := HSG.out; have := HGt.out; omega
      have HN := Lib.hid hN
      have HE := Lib.hid (show decide (x + y < 0) = mx by rw [← HMX.out]; have := HSG.out; have := HGt.out; exact decide_eq_decide.2 (by omega))
      clear hN
      go_upto_region 7 with (go_at_call 111; refine (CAm.out _ F2.out).mono ?_; rintro e w4 ⟨rfl, f4⟩; have v1 := U1.out _ f4; have v2 := U2.out _ f4; have v3 := U3.out _ f4; have v4 := U4.out _ f4; have F4 := Lib.hid f4; clear f4 x0 x1 x2 x3)
      go_upto_region 8 with (go_at_call 111; refine (CAm.out _ (F2.out.trans F4.out)).mono ?_; rintro e w5 ⟨rfl, f5⟩; have f45 := F4.out.trans f5; have v5 := U1.out _ f45; have v6 := U2.out _ f45; have v7 := U3.out _ f45; have v8 := U4.out _ f45; have F5 := Lib.hid f45; clear f5 f45 v1 v2 v3 v4)
      go_upto_region 9 with (go_at_call 118; refine (CL1.out _ (F2.out.trans F5.out) (((x + y).natAbs : Nat) : Int) (by rw [← HN.out]; omega) (by omega)).mono ?_; rintro e w6 ⟨r, rfl, hr, f6⟩; obtain ⟨ra, rc, rfl, hd⟩ := hr.nat; have HD := Lib.hid hd; have f56 := F5.out.trans f6; have v1 := U1.out _ f56; have F6 := Lib.hid f56; clear hr hd f6 f56 v5 v6 v7 v8)
      generalize hk : (dg (x + y).natAbs).length = k at *
      have HK := Lib.hid hk
      have fa := fun s => (Fr.refl [] w6).alloc (.cells #[.bool s, .slice ra k rc] 122)
      have b5 := fun s => (fa s).heap (F6.out.heap B3.out (by simp)) (by simp)
      have y00 := fun s => (fa s).cell v1 (by simp)
      have z0 := fun s => cell_blk (b5 s) 0 (.bool false) rfl
      have z1 := fun s => cell_blk (b5 s) 1 (.slice none 0 0) rfl
      have z2 : ∀ s, (w6.alloc (.cells #[.bool s, .slice ra k rc] 122)).frozen? ⟨g3, 0, none⟩ = false := fun s => by simp only [World.frozen?, b5 s]; rfl
      have z3 : ∀ s, (w6.alloc (.cells #[.bool s, .slice ra k rc] 122)).frozen? ⟨g3, 1, none⟩ = false := fun s => by simp only [World.frozen?, b5 s]; rfl
      have HB5 := Lib.hid b5
      have HFA := Lib.hid fa
      clear hk fa b5 CL1 CL2 CAm h0 v1
      go_wp2_with fail
      obtain ⟨hbig, hfr, t2, t3⟩ := ret_big (s := mx) (F2.out.trans (F6.out.trans (HFA.out mx))) HW.out (HB5.out mx) HE.out HK.out (HD.out.fr (HFA.out mx))
      refine bodyPost_ret (v := .agg #[.bool mx, .slice ra k rc]) (by simp [results, Tryz.results108, go_sem, t2, t3]) rfl ⟨_, rfl, hbig, hfr⟩
end Go.Proofs.YtjchlfblbmiceaaGreat
namespace Go.Proofs.YtjchlfblbmiceaaGreat
open Go.RowKit srt grp big

def most (x : Int) : Nat := if x < 0 then 9223372036854775808 else 9223372036854775807
theorem most_am (x : Int) : (0 < am x.natAbs (most x)) ↔ fitB x = false := by
  have h : fitB x = false ↔ ¬ (-9223372036854775808 ≤ x ∧ x ≤ 9223372036854775807) := by rw [← fitB_iff, Bool.not_eq_true]
  rw [h]
  unfold am most
  split
  · split
    · omega
    · split <;> omega
  · split
    · omega
    · split <;> omega

/-- The variable that holds the greatest amount. -/
def MostAt (w wx : World) (g : Nat) (x : Int) : Prop :=
  ∃ ra rc, wx.heap[g]? = some (.cells #[.bool false, .slice ra (dg (most x)).length rc] 122) ∧ BigAt wx (.agg #[.bool false, .slice ra (dg (most x)).length rc]) (most x : Int) ∧ Fr [] w wx

set_option maxRecDepth 100000
set_option maxHeartbeats 3200000 in
theorem bfits_any {w : World} {u : Value} {x : Int} (hu : BigAt w u x) (hx : (dg x.natAbs).length ≤ 1000) :
    Calls Tryz.prog 89 #[u] w fun e w' => e = .returned (.tuple #[.int .i64 (if fitB x then x else 0), .bool (fitB x)]) ∧ Fr [] w w' := by
  obtain ⟨a, c, rfl, hd⟩ := hu.shape
  have HU := Lib.hid (fun (wi : World) (f : Fr [] w wi) => hu.fr f)
  have HD := Lib.hid (fun (wi : World) (f : Fr [] w wi) => hd.fr f)
  have f1 : Fr [] w (w.alloc (.cells #[.bool (decide (x < 0)), .slice a (dg x.natAbs).length c] 122)) := (Fr.refl [] w).alloc _
  have b1 := heap_alloc_new w (.cells #[.bool (decide (x < 0)), .slice a (dg x.natAbs).length c] 122)
  clear hu hd
  go_enter Tryz.func89, Tryz.ntmps89
  go_upto_region 1 with fail
  generalize hw1 : w.alloc (.cells #[.bool (decide (x < 0)), .slice a (dg x.natAbs).length c] 122) = w1 at *
  generalize w.heap.size = g1 at *
  have F1 := Lib.hid f1
  have B1 := Lib.hid b1
  clear f1 b1 hw1
  go_upto_region 2 with (go_at_call 109; refine (of_any (by omega)).mono ?_; rintro e w2 ⟨r, rfl, hr, f2⟩; have hr' : BigAt w2 r ((9223372036854775807 : Nat) : Int) := hr; obtain ⟨ra, rc, rfl, hd2⟩ := hr'.nat; have HR := Lib.hid hr'; have F2 := Lib.hid f2; clear hr hr' f2 hd2)
  generalize hkM : (dg 9223372036854775807).length = kM at *
  have HKM := Lib.hid hkM
  clear hkM
  have f3 : Fr [] w2 (w2.alloc (.cells #[.bool false, .slice ra kM rc] 122)) := (Fr.refl [] w2).alloc _
  have b4 := heap_alloc_new w2 (.cells #[.bool false, .slice ra kM rc] 122)
  have b5 := f3.heap (F2.out.heap B1.out (by simp)) (by simp)
  have hg4 : w.heap.size ≤ w2.heap.size := (F1.out.trans F2.out).size
  have hg14 : g1 ≠ w2.heap.size := by
    have h1 := (Array.getElem?_eq_some_iff.1 (F2.out.heap B1.out (by simp))).1
    omega
  have F3 := Lib.hid ((F1.out.trans F2.out).trans f3)
  have HR3 := Lib.hid (HR.out.fr f3)
  have B4 := Lib.hid b4
  have B5 := Lib.hid b5
  clear f3 b4 b5 HR F1 F2 B1
  generalize w2.heap.size = g4 at *
  generalize w2.alloc (.cells #[.bool false, .slice ra kM rc] 122) = w3 at *
  generalize hmx : decide (x < 0) = mx at *
  have HMX := Lib.hid hmx
  clear hmx
  have y0 := cell_blk B5.out 0 (.bool mx) rfl
  go_upto_if 9 with fail
  go_cut [] (fun wx => MostAt w wx g4 x ∧ wx.heap[g1]? = some (.cells #[.bool mx, .slice a (dg x.natAbs).length c] 122))
  case first =>
    cases mx with
    | true =>
      have HNeg := Lib.hid (of_decide_eq_true HMX.out)
      go_upto_region 3 with fail
      have t0 := cell_blk B4.out 0 (.bool false) rfl
      have t1 := cell_blk B4.out 1 (.slice ra kM rc) rfl
      have hl1 : (dg (1 : Int).natAbs).length ≤ 1000 := Nat.le_trans (dg_len_le (k := 4) (by decide)) (by decide)
      have hlM : (dg ((9223372036854775807 : Nat) : Int).natAbs).length ≤ 1000 := Nat.le_trans (dg_len_le (k := 4) (by decide)) (by decide)
      have HL1 := Lib.hid hl1
      have HLM := Lib.hid hlM
      clear hl1 hlM
      have d0 : w3.drew.cell? ⟨g4, 0, none⟩ = some (.bool false) := t0
      have d1 : w3.drew.cell? ⟨g4, 1, none⟩ = some (.slice ra kM rc) := t1
      go_region_with (first
        | (go_at_call 109; refine (of_any (by omega)).mono ?_; rintro e wo ⟨r1, rfl, hr1, fo⟩; have FO := Lib.hid (F3.out.drew.trans fo); have t2 := fo.cell t0 (by simp); have t3 := fo.cell t1 (by simp); have HR1 := Lib.hid hr1; have HRo := Lib.hid ((HR3.out.fr (Fr.refl [] w3).drew).fr fo); have bo := fo.heap (a := w3.drew) B4.out (by simp); have bo1 := fo.heap (a := w3.drew) B5.out (by simp); have BO := Lib.hid bo; have BO1 := Lib.hid bo1; clear hr1 fo bo bo1)
        | (go_at_call 110; refine (added_any (z := ((9223372036854775808 : Nat) : Int)) HRo.out HR1.out HLM.out HL1.out (by decide) (by decide)).mono ?_; rintro e wp ⟨r2, rfl, hr2, fp⟩; obtain ⟨rb, rd, rfl, -⟩ := hr2.nat; have HR2 := Lib.hid hr2; have FP := Lib.hid (FO.out.trans fp); have bp := fp.heap BO.out (by simp); have t4 := cell_blk bp 0 (.bool false) rfl; have t5 := cell_blk bp 1 (.slice ra kM rc) rfl; have t6 : wp.frozen? ⟨g4, 0, none⟩ = false := (by simp [World.frozen?, bp]); have t7 : wp.frozen? ⟨g4, 1, none⟩ = false := (by simp [World.frozen?, bp]); have bp1 := fp.heap BO1.out (by simp); have BP := Lib.hid bp; have BP1 := Lib.hid bp1; clear hr2 fp bp bp1))
      all_goals
        go_wp2_with fail
        go_meet
        have e : most x = 9223372036854775808 := by unfold most; rw [if_pos HNeg.out]
        exact ⟨⟨rb, rd, by rw [e]; exact heap_set12 BP.out, by rw [e]; exact HR2.out.set2 BP.out, ret_fr FP.out hg4⟩, (((Fr.refl [g4] wp).setCell (by simp) _).setCell (by simp) _).heap BP1.out (by simpa using hg14)⟩
    | false =>
      have HNeg := Lib.hid (of_decide_eq_false HMX.out)
      go_wp2_with fail
      go_meet
      case rel =>
        have e : most x = 9223372036854775807 := by unfold most; rw [if_neg (by have := HNeg.out; omega)]
        exact ⟨⟨ra, rc, by rw [e, HKM.out]; exact B4.out, by rw [e, HKM.out]; exact HR3.out, F3.out⟩, B5.out⟩
  case rest =>
    obtain ⟨⟨rb, rd, bm, hm, fm⟩, bg1⟩ := hcut
    have hlm : (dg ((most x : Nat) : Int).natAbs).length ≤ 1000 := by
      rw [Int.natAbs_natCast]
      exact Nat.le_trans (dg_len_le (k := 4) (by unfold most; split <;> decide)) (by decide)
    have ham := amounts_any (HU.out _ fm) hm hx hlm
    rw [Int.natAbs_natCast] at ham
    have hsg := most_am x
    have HAm := Lib.hid ham
    have FM := Lib.hid fm
    have BG1 := Lib.hid bg1
    have s0 := cell_blk bg1 0 (.bool mx) rfl
    have s1 := cell_blk bg1 1 (.slice a (dg x.natAbs).length c) rfl
    have s2 := cell_blk bm 0 (.bool false) rfl
    have s3 := cell_blk bm 1 (.slice rb (dg (most x)).length rd) rfl
    clear ham hm fm bg1 bm hlm y0 B4 B5 HR3 F3
    generalize am x.natAbs (most x) = r0 at *
    by_cases hf : fitB x = true
    · have hr0 : ¬ (0 < r0) := fun h => by rw [hsg] at h; rw [h] at hf; cases hf
      have HFit := Lib.hid hf
      clear hsg hf
      go_upto_region 6 with (go_at_call 111; refine HAm.out.mono ?_; rintro e w6 ⟨rfl, f6⟩; have F6 := Lib.hid (FM.out.trans f6); have bg6 := f6.heap BG1.out (by simp); have v0 := cell_blk bg6 0 (.bool mx) rfl; have v1 := cell_blk bg6 1 (.slice a (dg x.natAbs).length c) rfl; have D6 := Lib.hid (HD.out _ F6.out); clear f6 bg6 s0 s1 s2 s3)
      have hfit := (fitB_iff x).1 HFit.out
      have hb : x.natAbs ≤ 9223372036854775808 := by omega
      generalize hk : (dg x.natAbs).length = p at *
      have HK := Lib.hid hk
      clear hk HU HAm
      go_wp2_with fail
      go_loop [5, 6] (fun n i => ∃ k q : Nat, i = .int .i64 ((k : Int) - 1) ∧ n = .int .u64 (q : Int) ∧ k ≤ p ∧ Hid (q = x.natAbs / 1000000 ^ k)) (fun _ i => (intOf i + 1).toNat)
      case atStart => exact ⟨p, 0, rfl, rfl, Nat.le_refl _, Lib.hid (by rw [← HK.out]; exact (top_zero _).symm)⟩
      case round =>
        obtain ⟨k, q, rfl, rfl, hk, HQ⟩ := hrel
        by_cases hlt : 0 < k
        · obtain ⟨k, rfl⟩ : ∃ j, k = j + 1 := ⟨k - 1, by omega⟩
          obtain ⟨o1, e1, rfl, z1⟩ := D6.out.cell (show k < p by omega)
          have j1 : (k : Int) < (p : Int) := by omega
          have hq := HQ.out
          rw [pw_succ] at hq
          have hle : x.natAbs / 1000000 ^ k ≤ 9223372036854775808 := Nat.le_trans (Nat.div_le_self _ _) hb
          have hnew : q * 1000000 + x.natAbs / 1000000 ^ k % 1000000 = x.natAbs / 1000000 ^ k := by omega
          have HNew := Lib.hid hnew
          have hdd : x.natAbs / 1000000 ^ k % 1000000 < 1000000 := Nat.mod_lt _ (by decide)
          have hqb : q * 1000000 + x.natAbs / 1000000 ^ k % 1000000 ≤ 9223372036854775808 := by omega
          clear hq hle hnew
          generalize x.natAbs / 1000000 ^ k % 1000000 = d at *
          go_wp2_with fail
          go_round
          case rel => exact ⟨k, q * 1000000 + d, by first | rfl | go_num, by go_num, by omega, Lib.hid HNew.out⟩
          case measure => simp [intOf] <;> omega
        · obtain rfl : k = 0 := by omega
          have hq : q = x.natAbs := by have := HQ.out; simpa using this
          have HFx := Lib.hid (show (if fitB x = true then x else 0) = x by rw [if_pos HFit.out])
          have HF1 := Lib.hid HFit.out
          clear HQ HFit
          cases mx with
          | true =>
            have hn : x < 0 := of_decide_eq_true HMX.out
            obtain ⟨A, hA, hB⟩ : ∃ A, IntKind.u64.wrap (-(q : Int)) = A ∧ IntKind.i64.wrap A = x := ⟨_, rfl, by
              have h1 : IntKind.u64.wrap (-(q : Int)) = (-(q : Int)) % 18446744073709551616 := rfl
              rw [h1, IntKind.wrap_i64]; omega⟩
            clear hn hq
            go_wp2_with fail
            go_ret2
            exact ⟨rfl, F6.out⟩
          | false =>
            have hn : ¬ x < 0 := of_decide_eq_false HMX.out
            have hB : IntKind.i64.wrap (q : Int) = x := by rw [IntKind.wrap_i64]; omega
            clear hn hq
            go_wp2_with fail
            go_ret2
            exact ⟨rfl, F6.out⟩
    · have hr0 : 0 < r0 := hsg.2 (by simpa using hf)
      have HFit := Lib.hid hf
      clear hsg hf
      go_wp2_with (go_at_call 111; refine HAm.out.mono ?_; rintro e w6 ⟨rfl, f6⟩)
      go_ret2
      exact ⟨rfl, FM.out.trans f6⟩
end Go.Proofs.YtjchlfblbmiceaaGreat
