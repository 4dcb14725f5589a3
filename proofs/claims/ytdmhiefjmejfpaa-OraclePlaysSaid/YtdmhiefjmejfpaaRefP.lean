/- Plain lemmas for the reference's Move and Free: where a hold lies in the list; parts of a flat row as sources. -/
import Derived.Test.YtdmhiefjmejfpaaRef
import Derived.Test.YtdmhiefjmejfpaaApp
namespace Go.Proofs.Ytdmhiefjmejfpaa
open Go.RowKit Go.Maps

theorem placeOf_none {L : List (Int × Int)} {k : Int} (h : timeOf L k = none) : placeOf L k = none := by
  unfold placeOf
  rw [List.findIdx?_eq_none_iff]
  intro p hp
  unfold timeOf at h
  rw [Option.map_eq_none_iff, List.find?_eq_none] at h
  simpa using h p hp

theorem placeOf_some {L : List (Int × Int)} {k t0 : Int} (h : timeOf L k = some t0) : ∃ i, placeOf L k = some i ∧ ∃ hi : i < L.length, L[i] = (k, t0) := by
  induction L with
  | nil => simp [timeOf] at h
  | cons q L ih =>
    by_cases hq : q.1 = k
    · refine ⟨0, ?_, by simp, ?_⟩
      · unfold placeOf; rw [List.findIdx?_cons]; simp [hq]
      · simp [timeOf, hq] at h
        obtain ⟨a, b⟩ := q
        simp at hq h ⊢
        exact ⟨hq, h⟩
    · have e : timeOf (q :: L) k = timeOf L k := by simp [timeOf, hq]
      rw [e] at h
      obtain ⟨i, h1, h2, h3⟩ := ih h
      refine ⟨i + 1, ?_, by simp; omega, by simpa using h3⟩
      unfold placeOf at h1 ⊢
      rw [List.findIdx?_cons]
      simp [hq, h1]

theorem only_at {L : List (Int × Int)} (hs : L.Pairwise (fun a b => a.1 < b.1)) {i j : Nat} (hi : i < L.length) (hj : j < L.length) (h : (L[i]).1 = (L[j]).1) : i = j := by
  have hp := List.pairwise_iff_getElem.1 hs
  rcases Nat.lt_trichotomy i j with hij | hij | hij
  · have := hp i j hi hj hij; omega
  · exact hij
  · have := hp j i hj hi hij; omega

theorem setT_set {L : List (Int × Int)} (hs : L.Pairwise (fun a b => a.1 < b.1)) {i : Nat} {k t t0 : Int} (hi : i < L.length) (h : L[i] = (k, t0)) : setT L k t = L.set i (k, t) := by
  apply List.ext_getElem
  · simp [setT]
  · intro j h1 h2
    have hj : j < L.length := by simpa [setT] using h1
    simp only [setT, List.getElem_map, List.getElem_set]
    by_cases e : i = j
    · subst e; simp [h]
    · have hne : ¬ (L[j]).1 = k := fun e2 => e (only_at hs hi hj (by rw [h, e2]))
      simp [e, hne]

theorem without_cut {L : List (Int × Int)} (hs : L.Pairwise (fun a b => a.1 < b.1)) {i : Nat} {k t0 : Int} (hi : i < L.length) (h : L[i] = (k, t0)) : without L k = L.take i ++ L.drop (i + 1) := by
  have e : L = L.take i ++ L[i] :: L.drop (i + 1) := by
    rw [← List.drop_eq_getElem_cons hi, List.take_append_drop]
  have h1 : ∀ p ∈ L.take i, ¬ p.1 = k := by
    intro p hp e2
    obtain ⟨j, hj, e3⟩ := List.mem_iff_getElem.1 hp
    have hj' : j < i ∧ j < L.length := by rw [List.length_take] at hj; omega
    have e4 : L[j]'hj'.2 = p := by rw [← e3]; simp
    have := only_at hs hi hj'.2 (by rw [h, e4, e2])
    omega
  have h2 : ∀ p ∈ L.drop (i + 1), ¬ p.1 = k := by
    intro p hp e2
    obtain ⟨j, hj, e3⟩ := List.mem_iff_getElem.1 hp
    have hj' : i + 1 + j < L.length := by simp at hj; omega
    have e4 : L[i + 1 + j]'hj' = p := by rw [← e3]; simp
    have := only_at hs hi hj' (by rw [h, e4, e2])
    omega
  unfold without
  conv => lhs; rw [e]
  rw [List.filter_append, List.filter_cons, List.filter_eq_self.2 (by intro p hp; simpa using h1 p hp), List.filter_eq_self.2 (by intro p hp; simpa using h2 p hp)]
  simp [h]

theorem flat_take (L : List (Int × Int)) : ∀ i, (flat L).take (i * 2) = flat (L.take i) := by
  induction L with
  | nil => intro i; simp [flat]
  | cons p L ih =>
    intro i
    cases i with
    | zero => simp [flat]
    | succ i => rw [flat_cons, show (i + 1) * 2 = i * 2 + 2 from by omega]; simp [ih, flat_cons]
theorem flat_drop (L : List (Int × Int)) : ∀ i, (flat L).drop (i * 2) = flat (L.drop i) := by
  induction L with
  | nil => intro i; simp [flat]
  | cons p L ih =>
    intro i
    cases i with
    | zero => simp
    | succ i => rw [flat_cons, show (i + 1) * 2 = i * 2 + 2 from by omega]; simp [ih]

/-- The beginning of a row, as a source. -/
theorem Src.head {w : World} {base e g n c i : Nat} {L : List (Int × Int)} (h : w.ownsRow base e 2 (.slice (some ⟨g, 0, none⟩) n c) n (flat L)) (h1 : ∀ u ∈ flat L, u.oneCell' = true) (hi : i ≤ n) (hn : n = L.length) (c' : Nat) :
    Src w 2 (.slice (some ⟨g, 0, none⟩) i c') i (flat (L.take i)) := by
  have hc := (row_cells h).1
  refine ⟨by rw [flat_len, List.length_take]; congr 1; omega, ?_, Or.inr ⟨_, c', rfl, ?_⟩⟩
  · intro u hu
    rw [← flat_take] at hu
    exact h1 u (List.mem_of_mem_take hu)
  · intro j u hj
    rw [← flat_take] at hj
    have hadd : (⟨g, 0, none⟩ : Addr).add j = ⟨g, j, none⟩ := by unfold Addr.add; split <;> simp_all
    have hjl : j < i * 2 := by
      have := (List.getElem?_eq_some_iff.1 hj).1
      rw [List.length_take] at this; omega
    rw [List.getElem?_take_of_lt hjl] at hj
    rw [hadd, hc j (by omega)]; exact hj

/-- Its end. -/
theorem Src.tail {w : World} {base e g n c i : Nat} {L : List (Int × Int)} (h : w.ownsRow base e 2 (.slice (some ⟨g, 0, none⟩) n c) n (flat L)) (h1 : ∀ u ∈ flat L, u.oneCell' = true) (hi : i ≤ n) (hn : n = L.length) (c' : Nat) :
    Src w 2 (.slice (some ⟨g, i * 2, none⟩) (n - i) c') (n - i) (flat (L.drop i)) := by
  have hc := (row_cells h).1
  refine ⟨by rw [flat_len, List.length_drop]; congr 1; omega, ?_, Or.inr ⟨_, c', rfl, ?_⟩⟩
  · intro u hu
    rw [← flat_drop] at hu
    exact h1 u (List.mem_of_mem_drop hu)
  · intro j u hj
    rw [← flat_drop, List.getElem?_drop] at hj
    have hjl : i * 2 + j < n * 2 := by
      have := (List.getElem?_eq_some_iff.1 hj).1
      rw [flat_len] at this; omega
    have hadd : (⟨g, i * 2, none⟩ : Addr).add j = ⟨g, i * 2 + j, none⟩ := by unfold Addr.add; split <;> simp_all
    rw [hadd, hc _ hjl]; exact hj

/-- A cut of no element, wherever it points. -/
theorem Src.empty (w : World) (ad : Addr) (c : Nat) : Src w 2 (.slice (some ad) 0 c) 0 [] := ⟨rfl, by simp, Or.inr ⟨ad, c, rfl, by simp⟩⟩

end Go.Proofs.Ytdmhiefjmejfpaa
