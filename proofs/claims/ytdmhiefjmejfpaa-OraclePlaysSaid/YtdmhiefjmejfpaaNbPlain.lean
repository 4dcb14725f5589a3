/- The plain part of OracleNeverBack: what each call does to an oracle that is well; the holds as a flat row. -/
import Derived.Test.YtdmhiefjmejfpaaHoldsWalk
namespace Go.Proofs.Ytdmhiefjmejfpaa
open Go.RowKit Go.Maps

theorem leastOf_mono {r r' : Int} {L L' : List (Int × Int)} (h1 : leastOf r L ≤ r') (h2 : ∀ p ∈ L', leastOf r L ≤ p.2) : leastOf r L ≤ leastOf r' L' := by
  obtain ⟨-, -, h⟩ := leastOf_le L' r'
  rcases h with h | ⟨p, hp, h⟩
  · omega
  · have := h2 p hp; omega

theorem Good.write {s : Orc} (g : Good s) (h : s.last < 1099511627776) : Good { s with last := s.last + 1 } :=
  ⟨g.r0, by have := g.rl; simp only; omega, by simp only; omega, g.m0, g.m1, g.rise, g.mem, g.few⟩

theorem Good.settle {s : Orc} (g : Good s) (t : Int) (h1 : s.read ≤ t) (h2 : t ≤ s.last) : Good { s with read := t } ∧ leastOf s.read s.L ≤ leastOf t s.L := by
  refine ⟨⟨by have := g.r0; simp only; omega, h2, g.lm, g.m0, g.m1, g.rise, ?_, g.few⟩, ?_⟩
  · intro p hp
    have := g.mem p hp
    simp only; omega
  · have h3 := leastOf_le s.L s.read
    exact leastOf_mono (by omega) h3.2.1

theorem Good.hold {s : Orc} (g : Good s) (t : Int) (h1 : leastOf s.read s.L ≤ t) (h2 : t ≤ s.read) (hn : s.L.length < 64) (hm : s.made < 1099511627776) :
    Good { s with L := s.L ++ [(s.made + 1, t)], made := s.made + 1 } ∧ leastOf s.read s.L ≤ leastOf s.read (s.L ++ [(s.made + 1, t)]) := by
  have hl := leastLo g
  refine ⟨⟨g.r0, g.rl, g.lm, by have := g.m0; simp only; omega, by simp only; omega, ?_, ?_, by simp only [List.length_append, List.length_singleton]; omega⟩, ?_⟩
  · simp only [List.pairwise_append, List.pairwise_singleton, true_and, List.mem_singleton]
    refine ⟨g.rise, ?_⟩
    rintro p hp q rfl
    have := g.mem p hp
    simp only; omega
  · intro p hp
    rcases List.mem_append.1 hp with hp | hp
    · have := g.mem p hp; simp only; omega
    · rw [List.mem_singleton] at hp
      subst hp
      have := g.m0
      simp only; omega
  · have h3 := leastOf_le s.L s.read
    refine leastOf_mono h3.1 ?_
    intro p hp
    rcases List.mem_append.1 hp with hp | hp
    · exact h3.2.1 p hp
    · rw [List.mem_singleton] at hp; subst hp; exact h1

theorem mem_setT {L : List (Int × Int)} {k t : Int} {p : Int × Int} (h : p ∈ setT L k t) : ∃ q ∈ L, p.1 = q.1 ∧ ((q.1 = k ∧ p.2 = t) ∨ (q.1 ≠ k ∧ p.2 = q.2)) := by
  unfold setT at h
  obtain ⟨q, hq, rfl⟩ := List.mem_map.1 h
  refine ⟨q, hq, ?_⟩
  split
  · rename_i e; exact ⟨rfl, Or.inl ⟨e, rfl⟩⟩
  · rename_i e; exact ⟨rfl, Or.inr ⟨e, rfl⟩⟩

theorem Good.move {s : Orc} (g : Good s) (k t t0 : Int) (hk : timeOf s.L k = some t0) (h1 : t0 ≤ t) (h2 : t ≤ s.read) :
    Good { s with L := setT s.L k t } ∧ leastOf s.read s.L ≤ leastOf s.read (setT s.L k t) := by
  have hm := timeOf_some hk
  have hm2 := g.mem _ hm
  simp only at hm2
  have h3 := leastOf_le s.L s.read
  have h4 := h3.2.1 _ hm
  simp only at h4
  refine ⟨⟨g.r0, g.rl, g.lm, g.m0, g.m1, ?_, ?_, by simp only [setT_length]; exact g.few⟩, ?_⟩
  · unfold setT
    simp only [List.pairwise_map]
    refine g.rise.imp ?_
    intro a b h
    split <;> split <;> simpa using h
  · intro p hp
    obtain ⟨q, hq, e1, e2⟩ := mem_setT hp
    have := g.mem q hq
    simp only
    rcases e2 with ⟨e2, e3⟩ | ⟨e2, e3⟩ <;> omega
  · refine leastOf_mono h3.1 ?_
    intro p hp
    obtain ⟨q, hq, e1, e2⟩ := mem_setT hp
    have := h3.2.1 q hq
    rcases e2 with ⟨e2, e3⟩ | ⟨e2, e3⟩ <;> omega

theorem Good.free {s : Orc} (g : Good s) (k : Int) : Good { s with L := without s.L k } ∧ leastOf s.read s.L ≤ leastOf s.read (without s.L k) := by
  have h3 := leastOf_le s.L s.read
  refine ⟨⟨g.r0, g.rl, g.lm, g.m0, g.m1, ?_, ?_, ?_⟩, ?_⟩
  · unfold without; exact List.Pairwise.filter _ g.rise
  · intro p hp; exact g.mem p ((List.mem_filter.1 hp).1)
  · have := List.length_filter_le (fun p : Int × Int => !decide (p.1 = k)) s.L
    have := g.few
    simp only [without]; omega
  · exact leastOf_mono h3.1 (fun p hp => h3.2.1 p ((List.mem_filter.1 hp).1))

def flat (L : List (Int × Int)) : List Value := L.flatMap fun p => [.int .i64 p.1, .int .i64 p.2]
theorem flat_nil : flat [] = [] := rfl
theorem flat_append (A B : List (Int × Int)) : flat (A ++ B) = flat A ++ flat B := by simp [flat]
theorem flat_one (p : Int × Int) : flat [p] = [.int .i64 p.1, .int .i64 p.2] := rfl
theorem flat_cons (p : Int × Int) (L : List (Int × Int)) : flat (p :: L) = .int .i64 p.1 :: .int .i64 p.2 :: flat L := rfl
theorem flat_len (L : List (Int × Int)) : (flat L).length = L.length * 2 := by
  induction L with
  | nil => rfl
  | cons p L ih => rw [flat_cons]; simp [ih]; omega

theorem flat_get {L : List (Int × Int)} : ∀ {i : Nat}, (h : i < L.length) → (flat L)[i * 2]? = some (.int .i64 (L[i]).1) ∧ (flat L)[i * 2 + 1]? = some (.int .i64 (L[i]).2) := by
  induction L with
  | nil => intro i h; simp at h
  | cons p L ih =>
    intro i h
    cases i with
    | zero => simp [flat_cons]
    | succ i =>
      have := ih (i := i) (by simpa using h)
      rw [flat_cons, show (i + 1) * 2 = i * 2 + 2 from by omega]
      simpa using this

theorem flat_set {L : List (Int × Int)} : ∀ {i : Nat} (t : Int), (h : i < L.length) → (flat L).set (i * 2 + 1) (.int .i64 t) = flat (L.set i ((L[i]).1, t)) := by
  induction L with
  | nil => intro i t h; simp at h
  | cons p L ih =>
    intro i t h
    cases i with
    | zero => simp [flat_cons]
    | succ i =>
      have := ih (i := i) t (by simpa using h)
      rw [flat_cons, show (i + 1) * 2 + 1 = i * 2 + 1 + 2 from by omega]
      simpa [flat_cons] using this

/-! ### the move's loop: the first i elements are turned -/
def movT (L : List (Int × Int)) (k t : Int) (i : Nat) : List (Int × Int) := setT (L.take i) k t ++ L.drop i
theorem movT_zero (L : List (Int × Int)) (k t : Int) : movT L k t 0 = L := by simp [movT, setT]
theorem movT_len (L : List (Int × Int)) (k t : Int) (i : Nat) : (movT L k t i).length = L.length := by
  simp only [movT, List.length_append, setT_length, List.length_take, List.length_drop]; omega
theorem movT_end (L : List (Int × Int)) (k t : Int) : movT L k t L.length = setT L k t := by simp [movT]
theorem movT_get {L : List (Int × Int)} {k t : Int} {i : Nat} (h : i < L.length) : (movT L k t i)[i]'(by rw [movT_len]; exact h) = L[i] := by
  have e : (setT (L.take i) k t).length = i := by rw [setT_length, List.length_take]; omega
  simp only [movT]
  rw [List.getElem_append_right (by omega)]
  simp [e]
theorem movT_split {L : List (Int × Int)} {k t : Int} {i : Nat} (h : i < L.length) : movT L k t i = setT (L.take i) k t ++ L[i] :: L.drop (i + 1) := by
  simp only [movT]; rw [List.drop_eq_getElem_cons h]
theorem movT_hit {L : List (Int × Int)} {k t : Int} {i : Nat} (h : i < L.length) (hk : (L[i]).1 = k) : (movT L k t i).set i ((L[i]).1, t) = movT L k t (i + 1) := by
  have e : (setT (L.take i) k t).length = i := by rw [setT_length, List.length_take]; omega
  rw [movT_split h, List.set_append_right _ _ (by omega), e, Nat.sub_self, List.set_cons_zero]
  unfold movT
  rw [List.take_succ_eq_append_getElem h]
  generalize L.take i = A
  generalize L[i] = q at *
  simp [setT, hk]
theorem movT_miss {L : List (Int × Int)} {k t : Int} {i : Nat} (h : i < L.length) (hk : (L[i]).1 ≠ k) : movT L k t i = movT L k t (i + 1) := by
  rw [movT_split h]
  unfold movT
  rw [List.take_succ_eq_append_getElem h]
  generalize L.take i = A
  generalize L[i] = q at *
  simp [setT, hk]

def seenNo (L : List (Int × Int)) (k : Int) (i : Nat) : Bool := (L.take i).any fun p => decide (p.1 = k)
theorem seenNo_zero (L : List (Int × Int)) (k : Int) : seenNo L k 0 = false := by simp [seenNo]
theorem seenNo_hit {L : List (Int × Int)} {k : Int} {i : Nat} (h : i < L.length) (hk : (L[i]).1 = k) : seenNo L k (i + 1) = true := by
  unfold seenNo
  rw [List.take_succ_eq_append_getElem h]
  generalize L.take i = A
  generalize L[i] = q at *
  simp [hk]
theorem seenNo_miss {L : List (Int × Int)} {k : Int} {i : Nat} (h : i < L.length) (hk : (L[i]).1 ≠ k) : seenNo L k (i + 1) = seenNo L k i := by
  unfold seenNo
  rw [List.take_succ_eq_append_getElem h]
  generalize L.take i = A
  generalize L[i] = q at *
  simp [hk]
theorem seenNo_end {L : List (Int × Int)} {k t : Int} (h : timeOf L k = some t) : seenNo L k L.length = true := by
  unfold seenNo
  rw [List.take_length, any_timeOf, h]; rfl

/-! ### the free's loop -/
theorem without_take_hit {L : List (Int × Int)} {k : Int} {i : Nat} (h : i < L.length) (hk : (L[i]).1 = k) : without (L.take (i + 1)) k = without (L.take i) k := by
  rw [List.take_succ_eq_append_getElem h]
  generalize L.take i = A
  generalize L[i] = q at *
  simp [without, hk]
theorem without_take_miss {L : List (Int × Int)} {k : Int} {i : Nat} (h : i < L.length) (hk : (L[i]).1 ≠ k) : without (L.take (i + 1)) k = without (L.take i) k ++ [L[i]] := by
  rw [List.take_succ_eq_append_getElem h]
  generalize L.take i = A
  generalize L[i] = q at *
  simp [without, hk]
theorem without_len_le (L : List (Int × Int)) (k : Int) : (without L k).length ≤ L.length := List.length_filter_le _ _
theorem without_len {L : List (Int × Int)} {k t : Int} (hs : L.Pairwise (fun a b => a.1 < b.1)) (h : timeOf L k = some t) : (without L k).length + 1 = L.length := by
  have hm := timeOf_some h
  clear h
  induction L with
  | nil => cases hm
  | cons q L ih =>
    rw [List.pairwise_cons] at hs
    rcases List.mem_cons.1 hm with rfl | hm
    · have : L.filter (fun p => !decide (p.1 = k)) = L := by
        apply List.filter_eq_self.2
        intro p hp
        have := hs.1 p hp
        simp at this ⊢; omega
      simp [without, this]
    · have h1 := hs.1 _ hm
      have hne : ¬ q.1 = k := by simp at h1; omega
      have := ih hs.2 hm
      simp [without, hne] at this ⊢
      omega

end Go.Proofs.Ytdmhiefjmejfpaa
