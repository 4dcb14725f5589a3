/- Sums by a key, a list that is told in one way alone, and sums of 128 bits. No program in sight. No condition. -/
import Derived.WalkKit
namespace Go.Proofs.YtjchlfblbmiceaaGreat.grp

/-! ### sums of 128 bits -/
def lo (S : Int) : Nat := (S % 18446744073709551616).toNat
def hi (S : Int) : Nat := (S / 18446744073709551616 % 18446744073709551616).toNat

theorem lo_lt (S : Int) : lo S < 18446744073709551616 := by unfold lo; omega
theorem hi_lt (S : Int) : hi S < 18446744073709551616 := by unfold hi; omega
theorem lo_add (S n : Int) : (lo S + lo n + 0) % 18446744073709551616 = lo (S + n) := by unfold lo; omega
theorem hi_add (S n : Int) : (hi S + hi n + (lo S + lo n + 0) / 18446744073709551616) % 18446744073709551616 = hi (S + n) := by unfold lo hi; omega
theorem carry_le (S n : Int) : (lo S + lo n + 0) / 18446744073709551616 ≤ 1 := by unfold lo; omega
theorem lo_neg (S : Int) : (0 + 18446744073709551616 - lo S - 0) % 18446744073709551616 = lo (-S) := by unfold lo; omega
theorem hi_neg (S : Int) : (0 + 18446744073709551616 - hi S - (if 0 < lo S + 0 then 1 else 0)) % 18446744073709551616 = hi (-S) := by
  unfold lo hi; split <;> omega
theorem lo_zero : lo 0 = 0 := rfl
theorem hi_zero : hi 0 = 0 := rfl

/-! ### keys in an order, rows of pairs -/
section
variable {κ : Type}
variable (cmp : κ → κ → Int)
structure Strict : Prop where
  swap : ∀ a b, cmp b a = - cmp a b
  eq : ∀ a b, cmp a b = 0 → a = b
  trans : ∀ a b c, cmp a b ≤ 0 → cmp b c ≤ 0 → cmp a c ≤ 0

variable {cmp}
theorem Strict.self (G : Strict cmp) (a : κ) : cmp a a = 0 := by have := G.swap a a; omega
theorem Strict.lt_trans (G : Strict cmp) {a b c : κ} (h : cmp a b < 0) (k : cmp b c < 0) : cmp a c < 0 := by
  have h1 := G.trans a b c (by omega) (by omega)
  by_cases h2 : cmp a c = 0
  · have := G.eq _ _ h2
    subst this
    have := G.swap a b
    omega
  · omega
theorem Strict.le_lt (G : Strict cmp) {a b c : κ} (h : cmp a b ≤ 0) (k : cmp b c < 0) : cmp a c < 0 := by
  by_cases h1 : cmp a b = 0
  · rw [G.eq _ _ h1]; exact k
  · exact G.lt_trans (by omega) k
theorem Strict.lt_le (G : Strict cmp) {a b c : κ} (h : cmp a b < 0) (k : cmp b c ≤ 0) : cmp a c < 0 := by
  by_cases h1 : cmp b c = 0
  · rw [← G.eq _ _ h1]; exact h
  · exact G.lt_trans h (by omega)
theorem Strict.ne (G : Strict cmp) {a b : κ} (h : cmp a b < 0) : a ≠ b := fun e => by subst e; have := G.self a; omega

/-- The first n of a row of pairs. -/
def firsts (f : Nat → κ × Int) (n : Nat) : List (κ × Int) := (List.range n).map f
theorem firsts_succ (f : Nat → κ × Int) (n : Nat) : firsts f (n + 1) = firsts f n ++ [f n] := by simp [firsts, List.range_succ]
/-- The sum of the k from the o-th on. -/
def part (f : Nat → κ × Int) (o k : Nat) : Int := ((List.range k).map fun j => (f (o + j)).2).sum
theorem part_zero (f : Nat → κ × Int) (o : Nat) : part f o 0 = 0 := rfl
theorem part_succ (f : Nat → κ × Int) (o k : Nat) : part f o (k + 1) = part f o k + (f (o + k)).2 := by simp [part, List.range_succ, List.sum_append]

end

/-! ### sums by a key -/
section
variable {κ : Type} [DecidableEq κ]

def sumK (l : List (κ × Int)) (r : κ) : Int := (l.map fun p => if p.1 = r then p.2 else 0).sum

theorem sumK_nil (r : κ) : sumK [] r = 0 := rfl
theorem sumK_cons (p : κ × Int) (l : List (κ × Int)) (r : κ) : sumK (p :: l) r = (if p.1 = r then p.2 else 0) + sumK l r := by simp [sumK]
theorem sumK_append (a b : List (κ × Int)) (r : κ) : sumK (a ++ b) r = sumK a r + sumK b r := by simp [sumK, List.sum_append]
theorem sumK_perm {a b : List (κ × Int)} (h : a.Perm b) (r : κ) : sumK a r = sumK b r := by
  induction h with
  | nil => rfl
  | cons p _ ih => rw [sumK_cons, sumK_cons, ih]
  | swap p q l => rw [sumK_cons, sumK_cons, sumK_cons, sumK_cons]; omega
  | trans _ _ ih1 ih2 => exact ih1.trans ih2
theorem sumK_none {l : List (κ × Int)} {r : κ} (h : ∀ p ∈ l, p.1 ≠ r) : sumK l r = 0 := by
  induction l with
  | nil => rfl
  | cons p l ih =>
    rw [sumK_cons, if_neg (h p (by simp)), ih (fun q hq => h q (by simp [hq]))]; rfl
theorem sumK_all {l : List (κ × Int)} {r : κ} (h : ∀ p ∈ l, p.1 = r) : sumK l r = (l.map (·.2)).sum := by
  induction l with
  | nil => rfl
  | cons p l ih =>
    rw [sumK_cons, if_pos (h p (by simp)), ih (fun q hq => h q (by simp [hq]))]; simp

variable {cmp : κ → κ → Int}
variable (cmp)
/-- Rising by the key, none 0 times, and of each key so much. -/
structure Canon (os : List (κ × Int)) (S : κ → Int) : Prop where
  up : os.Pairwise fun a b => cmp a.1 b.1 < 0
  nz : ∀ p ∈ os, p.2 ≠ 0
  sum : ∀ r, sumK os r = S r

variable {cmp}
theorem Canon.tail {p : κ × Int} {os : List (κ × Int)} {S : κ → Int} (h : Canon cmp (p :: os) S) : Canon cmp os (fun r => S r - (if p.1 = r then p.2 else 0)) :=
  ⟨(List.pairwise_cons.1 h.up).2, fun q hq => h.nz q (by simp [hq]), fun r => by rw [← h.sum r, sumK_cons]; omega⟩

theorem Canon.head (G : Strict cmp) {p : κ × Int} {os : List (κ × Int)} {S : κ → Int} (h : Canon cmp (p :: os) S) : S p.1 = p.2 := by
  rw [← h.sum, sumK_cons, if_pos rfl, sumK_none fun q hq => (G.ne ((List.pairwise_cons.1 h.up).1 q hq)).symm]; omega

theorem Canon.low (G : Strict cmp) {p : κ × Int} {os : List (κ × Int)} {S : κ → Int} (h : Canon cmp (p :: os) S) {r : κ} (hr : cmp r p.1 < 0) : S r = 0 := by
  rw [← h.sum]
  refine sumK_none fun q hq => ?_
  rcases List.mem_cons.1 hq with rfl | hq
  · exact (G.ne hr).symm
  · exact (G.ne (G.lt_trans hr ((List.pairwise_cons.1 h.up).1 q hq))).symm

theorem Canon.uniq (G : Strict cmp) : ∀ {a b : List (κ × Int)} {S : κ → Int}, Canon cmp a S → Canon cmp b S → a = b := by
  intro a
  induction a with
  | nil =>
    intro b S h k
    cases b with
    | nil => rfl
    | cons q b => exact absurd ((k.head G).symm.trans (h.sum q.1).symm) (k.nz q (by simp))
  | cons p a ih =>
    intro b S h k
    cases b with
    | nil => exact absurd ((h.head G).symm.trans (k.sum p.1).symm) (h.nz p (by simp))
    | cons q b =>
      have hp := h.head G
      have hq := k.head G
      have np := h.nz p (by simp)
      have nq := k.nz q (by simp)
      have e : p.1 = q.1 := by
        rcases Int.lt_trichotomy (cmp p.1 q.1) 0 with h1 | h1 | h1
        · exact absurd (hp.symm.trans (k.low G h1)) np
        · exact G.eq _ _ h1
        · have := G.swap p.1 q.1
          exact absurd (hq.symm.trans (h.low G (by omega))) nq
      have e2 : p = q := by
        refine Prod.ext e ?_
        rw [← hp, ← hq, e]
      subst e2
      rw [ih h.tail k.tail]

theorem Canon.nil {S : κ → Int} (h : ∀ r, S r = 0) : Canon cmp [] S := ⟨List.Pairwise.nil, by simp, fun r => (h r).symm⟩
theorem Canon.of {os : List (κ × Int)} {S T : κ → Int} (h : Canon cmp os S) (e : ∀ r, S r = T r) : Canon cmp os T := ⟨h.up, h.nz, fun r => (h.sum r).trans (e r)⟩
/-- A list that is told so is told so again. -/
theorem Canon.again {os : List (κ × Int)} {S : κ → Int} (h : Canon cmp os S) : Canon cmp os (sumK os) := h.of fun r => (h.sum r).symm

theorem Canon.mem (G : Strict cmp) : ∀ {os : List (κ × Int)} {S : κ → Int} {p : κ × Int}, Canon cmp os S → p ∈ os → S p.1 = p.2 := by
  intro os
  induction os with
  | nil => intro S p _ h; cases h
  | cons q os ih =>
    intro S p h hp
    rcases List.mem_cons.1 hp with rfl | hp
    · exact h.head G
    · have h1 := ih h.tail hp
      have : cmp q.1 p.1 < 0 := (List.pairwise_cons.1 h.up).1 p hp
      rw [if_neg (G.ne this)] at h1
      omega
theorem Canon.has {os : List (κ × Int)} {S : κ → Int} (h : Canon cmp os S) {r : κ} (hr : S r ≠ 0) : ∃ p ∈ os, p.1 = r := by
  by_cases hx : ∃ p ∈ os, p.1 = r
  · exact hx
  · exact absurd ((h.sum r).symm.trans (sumK_none fun p hp e => hx ⟨p, hp, e⟩)) hr

/-- A list that is told, and one greater still. -/
theorem Canon.snoc {os : List (κ × Int)} {S T : κ → Int} {p : κ × Int} (h : Canon cmp os S) (hlt : ∀ q ∈ os, cmp q.1 p.1 < 0) (hz : p.2 ≠ 0) (hT : ∀ r, T r = S r + (if p.1 = r then p.2 else 0)) : Canon cmp (os ++ [p]) T :=
  ⟨List.pairwise_append.2 ⟨h.up, List.pairwise_singleton _ _, fun a ha b hb => by
      rw [List.mem_singleton.1 hb]; exact hlt a ha⟩,
    fun q hq => by
      rcases List.mem_append.1 hq with hq | hq
      · exact h.nz q hq
      · rw [List.mem_singleton.1 hq]; exact hz,
    fun r => by rw [sumK_append, sumK_cons, sumK_nil, h.sum, hT]; omega⟩

/-! ### a rising row of keys, group by group -/
theorem sumK_succ (f : Nat → κ × Int) (n : Nat) (r : κ) : sumK (firsts f (n + 1)) r = sumK (firsts f n) r + (if (f n).1 = r then (f n).2 else 0) := by
  rw [firsts_succ, sumK_append, sumK_cons, sumK_nil]; omega

/-- Within a group all goes to the group's key. -/
theorem sumK_group {f : Nat → κ × Int} {o k : Nat} (h : ∀ j, j < k → (f (o + j)).1 = (f o).1) (r : κ) : sumK (firsts f (o + k)) r = sumK (firsts f o) r + (if (f o).1 = r then part f o k else 0) := by
  induction k with
  | zero => simp [part_zero]
  | succ k ih =>
    rw [show o + (k + 1) = o + k + 1 from rfl, sumK_succ, ih (fun j hj => h j (by omega)), h k (by omega), part_succ]
    split <;> omega

/-- What stands behind a step through the groups: the keys so far are less than those to come. -/
structure Grp (cmp : κ → κ → Int) (f : Nat → κ × Int) (N : Nat) (s : Int) (o : Nat) (os : List (κ × Int)) : Prop where
  can : Canon cmp os (fun r => s * sumK (firsts f o) r)
  keys : ∀ q ∈ os, ∃ i, i < o ∧ q.1 = (f i).1
  apart : ∀ i j, i < o → o ≤ j → j < N → cmp (f i).1 (f j).1 < 0

theorem Grp.start (f : Nat → κ × Int) (N : Nat) (s : Int) : Grp cmp f N s 0 [] := ⟨Canon.nil fun r => by simp [firsts, sumK_nil], by simp, fun i j h => by omega⟩

theorem Grp.next (G : Strict cmp) {f : Nat → κ × Int} {N : Nat} {s : Int} {o k : Nat} {os : List (κ × Int)} (h : Grp cmp f N s o os) (hs : ∀ i j, i ≤ j → j < N → cmp (f i).1 (f j).1 ≤ 0) (hk : 0 < k) (hok : o + k ≤ N) (hg : ∀ j, j < k → (f (o + j)).1 = (f o).1) (he : o + k = N ∨ (f (o + k)).1 ≠ (f o).1) :
    (s * part f o k = 0 → Grp cmp f N s (o + k) os) ∧ (s * part f o k ≠ 0 → Grp cmp f N s (o + k) (os ++ [((f o).1, s * part f o k)])) := by
  have ap : ∀ i j, i < o + k → o + k ≤ j → j < N → cmp (f i).1 (f j).1 < 0 := by
    intro i j h1 h2 h3
    by_cases hi : i < o
    · exact h.apart i j hi (by omega) h3
    · have e := hg (i - o) (by omega)
      rw [show o + (i - o) = i by omega] at e
      rw [e]
      rcases he with he | he
      · omega
      · have h4 := hs o (o + k) (by omega) (by omega)
        have h5 : cmp (f o).1 (f (o + k)).1 ≠ 0 := fun e => he (G.eq _ _ e).symm
        exact G.lt_le (show cmp (f o).1 (f (o + k)).1 < 0 by omega) (hs (o + k) j h2 h3)
  have sm : ∀ r, s * sumK (firsts f (o + k)) r = s * sumK (firsts f o) r + (if (f o).1 = r then s * part f o k else 0) := by
    intro r
    rw [sumK_group hg r, Int.mul_add]
    split <;> simp
  constructor
  · intro hz
    refine ⟨h.can.of fun r => ?_, fun q hq => ?_, ap⟩
    · rw [sm r, hz]; simp
    · obtain ⟨i, hi, e⟩ := h.keys q hq
      exact ⟨i, by omega, e⟩
  · intro hz
    refine ⟨h.can.snoc (fun q hq => ?_) hz sm, fun q hq => ?_, ap⟩
    · obtain ⟨i, hi, e⟩ := h.keys q hq
      rw [e]
      exact h.apart i o hi (Nat.le_refl _) (by omega)
    · rcases List.mem_append.1 hq with hq | hq
      · obtain ⟨i, hi, e⟩ := h.keys q hq
        exact ⟨i, by omega, e⟩
      · rw [List.mem_singleton.1 hq]
        exact ⟨o, by omega, rfl⟩

/-- A group's sum is the whole sum of its key. -/
theorem Grp.whole (G : Strict cmp) {f : Nat → κ × Int} {N : Nat} {s : Int} {o k : Nat} {os : List (κ × Int)} (h : Grp cmp f N s o os) (hs : ∀ i j, i ≤ j → j < N → cmp (f i).1 (f j).1 ≤ 0) (hk : 0 < k) (hok : o + k ≤ N) (hg : ∀ j, j < k → (f (o + j)).1 = (f o).1) (he : o + k = N ∨ (f (o + k)).1 ≠ (f o).1) :
    sumK (firsts f N) (f o).1 = part f o k := by
  have h0 : sumK (firsts f o) (f o).1 = 0 := sumK_none fun p hp => by
    obtain ⟨i, hi, rfl⟩ := List.mem_map.1 hp
    exact G.ne (h.apart i o (List.mem_range.1 hi) (Nat.le_refl _) (by omega))
  have h1 : sumK (firsts f (o + k)) (f o).1 = part f o k := by rw [sumK_group hg, h0, if_pos rfl]; omega
  have h2 : ∀ m, o + k + m ≤ N → sumK (firsts f (o + k + m)) (f o).1 = part f o k := by
    intro m
    induction m with
    | zero => intro _; exact h1
    | succ m ih =>
      intro hm
      rw [show o + k + (m + 1) = o + k + m + 1 from rfl, sumK_succ, ih (by omega), if_neg, Int.add_zero]
      intro e
      rcases he with he | he
      · omega
      · have h4 := hs o (o + k) (by omega) (by omega)
        have h5 : cmp (f o).1 (f (o + k)).1 ≠ 0 := fun e => he (G.eq _ _ e).symm
        have := G.lt_le (show cmp (f o).1 (f (o + k)).1 < 0 by omega) (hs (o + k) (o + k + m) (by omega) (by omega))
        rw [e] at this
        have := G.self (f o).1
        omega
  have := h2 (N - (o + k)) (by omega)
  rwa [show o + k + (N - (o + k)) = N by omega] at this
end
end Go.Proofs.YtjchlfblbmiceaaGreat.grp
