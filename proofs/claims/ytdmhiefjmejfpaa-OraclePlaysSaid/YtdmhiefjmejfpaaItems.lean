/- A list of pairs of oracles, each in blocks of its own. No condition. -/
import Derived.Test.YtdmhiefjmejfpaaStep2
namespace Go.Proofs.Ytdmhiefjmejfpaa
open Go.RowKit Go.Maps

/-- A pair: the oracle's block, its map's, the reference's block; how both stand. -/
structure Item where
  x : Nat
  m : Nat
  r : Nat
  s : Orc

/-- One pair, well. -/
structure Okay (w : World) (B : Nat) (k : Nat) (it : Item) : Prop where
  own : Own w it.x it.m it.s
  ref : RefOwn w it.r it.s
  good : Good it.s
  few : it.s.made ≤ (k : Int)
  bx : B ≤ it.x
  bm : B ≤ it.m
  br : B ≤ it.r

def Apart (a b : Item) : Prop := a.x ≠ b.x ∧ a.m ≠ b.m ∧ a.r ≠ b.r

structure AllOk (w : World) (B : Nat) (k : Nat) (l : List Item) : Prop where
  each : ∀ it ∈ l, Okay w B k it
  apart : l.Pairwise Apart

theorem Apart.symm {a b : Item} (h : Apart a b) : Apart b a := ⟨h.1.symm, h.2.1.symm, h.2.2.symm⟩

theorem Okay.kinds {w : World} {B k : Nat} {a b : Item} (ha : Okay w B k a) (hb : Okay w B k b) : a.x ≠ b.m ∧ a.x ≠ b.r ∧ a.m ≠ b.x ∧ a.m ≠ b.r ∧ a.r ≠ b.x ∧ a.r ≠ b.m := by
  have a1 := ha.own.blk
  have b1 := hb.own.blk
  obtain ⟨es, c, a2, -⟩ := ha.own.map
  obtain ⟨es', c', b2, -⟩ := hb.own.map
  obtain ⟨va, ra⟩ := ha.ref
  obtain ⟨vb, rb⟩ := hb.ref
  have a3 := ra.blk
  have b3 := rb.blk
  refine ⟨?_, ?_, ?_, ?_, ?_, ?_⟩ <;> intro e
  · rw [e, b2] at a1; simp at a1
  · rw [e, b3] at a1; simp at a1
  · rw [e, b1] at a2; simp at a2
  · rw [e, b3] at a2; simp at a2
  · rw [e, b1] at a3; simp at a3
  · rw [e, b2] at a3; simp at a3

theorem Okay.lt {w : World} {B k : Nat} {a : Item} (ha : Okay w B k a) : a.x < w.heap.size ∧ a.m < w.heap.size ∧ a.r < w.heap.size := by
  obtain ⟨va, ra⟩ := ha.ref
  exact ⟨(Array.getElem?_eq_some_iff.1 ha.own.blk).1, ha.own.map.lt, (Array.getElem?_eq_some_iff.1 ra.blk).1⟩

theorem Okay.noRow {w : World} {B k : Nat} {a : Item} (ha : Okay w B k a) : NoRow w [a.x, a.m, a.r] := by
  obtain ⟨va, ra⟩ := ha.ref
  intro x hx
  simp at hx
  rcases hx with rfl | rfl | rfl
  · exact ha.own.noRow _ (by simp)
  · exact ha.own.noRow _ (by simp)
  · exact ra.noRow _ (by simp)

theorem Okay.mono {w : World} {B k k' : Nat} {a : Item} (h : Okay w B k a) (hk : k ≤ k') : Okay w B k' a :=
  ⟨h.own, h.ref, h.good, by have := h.few; omega, h.bx, h.bm, h.br⟩

theorem Okay.fr {w w' : World} {B k : Nat} {a : Item} (h : Okay w B k a) (f : Fr [] w w') : Okay w' B k a :=
  ⟨h.own.fr f (by simp) (by simp), h.ref.fr f (by simp) (NoRow.nil _), h.good, h.few, h.bx, h.bm, h.br⟩

/-- Another pair is as it was behind a call of this one. -/
theorem Okay.other {w w' : World} {B k : Nat} {a b : Item} (hb : Okay w B k b) (ha : Okay w B k a) (hab : Apart a b) (f : Fr [a.x, a.m, a.r] w w') : Okay w' B k b := by
  obtain ⟨k1, k2, k3, k4, k5, k6⟩ := ha.kinds hb
  obtain ⟨n1, n2, n3⟩ := hab
  refine ⟨hb.own.fr f ?_ ?_, hb.ref.fr f ?_ ha.noRow, hb.good, hb.few, hb.bx, hb.bm, hb.br⟩
  · simp only [List.mem_cons, List.not_mem_nil, or_false]
    rintro (e | e | e)
    · exact n1 e.symm
    · exact k3 e.symm
    · exact k5 e.symm
  · simp only [List.mem_cons, List.not_mem_nil, or_false]
    rintro (e | e | e)
    · exact k1 e.symm
    · exact n2 e.symm
    · exact k6 e.symm
  · simp only [List.mem_cons, List.not_mem_nil, or_false]
    rintro (e | e | e)
    · exact k2 e.symm
    · exact k4 e.symm
    · exact n3 e.symm

theorem AllOk.fr {w w' : World} {B k : Nat} {l : List Item} (h : AllOk w B k l) (f : Fr [] w w') : AllOk w' B k l :=
  ⟨fun it hit => (h.each it hit).fr f, h.apart⟩
theorem AllOk.mono {w : World} {B k k' : Nat} {l : List Item} (h : AllOk w B k l) (hk : k ≤ k') : AllOk w B k' l :=
  ⟨fun it hit => (h.each it hit).mono hk, h.apart⟩

/-- A call of pair j. -/
theorem AllOk.step {w w' : World} {B k j : Nat} {l : List Item} (h : AllOk w B k l) (hj : j < l.length) {s' : Orc} (ho : Own w' (l[j]).x (l[j]).m s') (hr : RefOwn w' (l[j]).r s') (hg : Good s') (hm : s'.made ≤ ((k + 1 : Nat) : Int))
    (f : Fr [(l[j]).x, (l[j]).m, (l[j]).r] w w') : AllOk w' B (k + 1) (l.set j { l[j] with s := s' }) := by
  have hjo := h.each _ (List.getElem_mem hj)
  have hp := List.pairwise_iff_getElem.1 h.apart
  refine ⟨?_, ?_⟩
  · intro it hit
    obtain ⟨i, hi, rfl⟩ := List.mem_iff_getElem.1 hit
    have hi' : i < l.length := by simpa using hi
    rw [List.getElem_set]
    by_cases e : j = i
    · subst e
      rw [if_pos rfl]
      exact ⟨ho, hr, hg, hm, hjo.bx, hjo.bm, hjo.br⟩
    · rw [if_neg e]
      have hio := h.each _ (List.getElem_mem hi')
      refine (hio.other hjo ?_ f).mono (by omega)
      rcases Nat.lt_or_gt_of_ne e with hlt | hlt
      · exact hp j i hj hi' hlt
      · exact (hp i j hi' hj hlt).symm
  · rw [List.pairwise_iff_getElem]
    intro a b ha hb hab
    have ha' : a < l.length := by simpa using ha
    have hb' : b < l.length := by simpa using hb
    have := hp a b ha' hb' hab
    rw [List.getElem_set, List.getElem_set]
    by_cases e1 : j = a
    · subst e1
      rw [if_pos rfl, if_neg (by omega)]; exact this
    · rw [if_neg e1]
      by_cases e2 : j = b
      · subst e2
        rw [if_pos rfl]; exact this
      · rw [if_neg e2]; exact this

/-- One pair more, in new blocks. -/
theorem AllOk.snoc {w w' : World} {B k : Nat} {l : List Item} {it : Item} (h : AllOk w B k l) (f : Fr [] w w') (hi : Okay w' B k it) (h1 : w.heap.size ≤ it.x) (h2 : w.heap.size ≤ it.m) (h3 : w.heap.size ≤ it.r) : AllOk w' B k (l ++ [it]) := by
  refine ⟨?_, ?_⟩
  · intro a ha
    rcases List.mem_append.1 ha with ha | ha
    · exact (h.each a ha).fr f
    · rw [List.mem_singleton] at ha; subst ha; exact hi
  · simp only [List.pairwise_append, List.pairwise_singleton, true_and, List.mem_singleton]
    refine ⟨h.apart, ?_⟩
    rintro a ha b rfl
    have := (h.each a ha).lt
    exact ⟨by omega, by omega, by omega⟩

def ptrs (f : Item → Nat) (l : List Item) : List Value := l.map fun it => .pointer (some ⟨f it, 0, none⟩)
theorem ptrs_len (f : Item → Nat) (l : List Item) : (ptrs f l).length = l.length := by simp [ptrs]
theorem ptrs_get (f : Item → Nat) (l : List Item) {j : Nat} (h : j < l.length) : (ptrs f l)[j]? = some (.pointer (some ⟨f l[j], 0, none⟩)) := by simp [ptrs, h]
theorem ptrs_snoc (f : Item → Nat) (l : List Item) (it : Item) : ptrs f (l ++ [it]) = ptrs f l ++ [.pointer (some ⟨f it, 0, none⟩)] := by simp [ptrs]
theorem ptrs_set (f : Item → Nat) (l : List Item) {j : Nat} (h : j < l.length) {it : Item} (he : f it = f l[j]) : ptrs f (l.set j it) = ptrs f l := by
  apply List.ext_getElem
  · simp [ptrs]
  · intro i h1 h2
    have hi : i < l.length := by simpa [ptrs] using h2
    simp only [ptrs, List.getElem_map, List.getElem_set]
    by_cases e : j = i
    · subst e; simp [he]
    · simp [e]

/-- A row of pointers is none of an oracle's blocks. -/
theorem ownsRow_beside {w w' : World} {B k base e size n : Nat} {v : Value} {xs : List Value} {a : Item} (h : w.ownsRow base e size v n xs) (ha : Okay w B k a) (he : e = 24 ∨ e = 47) (f : Fr [a.x, a.m, a.r] w w') : w'.ownsRow base e size v n xs := by
  obtain ⟨h1, h2⟩ := h
  refine ⟨h1, ?_⟩
  rcases h2 with h2 | ⟨g, cap, cur, hv, hg, hh, r⟩
  · exact Or.inl h2
  · refine Or.inr ⟨g, cap, cur, hv, hg, f.heap hh ?_, r⟩
    have a1 := ha.own.blk
    obtain ⟨es, c, a2, -⟩ := ha.own.map
    obtain ⟨va, ra⟩ := ha.ref
    have a3 := ra.blk
    simp only [List.mem_cons, List.not_mem_nil, or_false]
    rintro (rfl | rfl | rfl)
    · rw [hh] at a1; rcases he with rfl | rfl <;> simp at a1
    · rw [hh] at a2; simp at a2
    · rw [hh] at a3; rcases he with rfl | rfl <;> simp at a3

/-- The blocks of S are rows of pointers. -/
def PtrRows (w : World) (S : List Nat) : Prop := ∀ x ∈ S, ∃ cs e fz, w.heap[x]? = some (.cells cs e fz) ∧ (e = 24 ∨ e = 47)

theorem Okay.frx {w w' : World} {B k : Nat} {a : Item} {S : List Nat} (h : Okay w B k a) (f : Fr S w w') (hS : PtrRows w S) : Okay w' B k a := by
  have h1 : a.x ∉ S := by
    intro hx
    obtain ⟨cs, e, fz, hb, he⟩ := hS _ hx
    rw [h.own.blk] at hb
    rcases he with rfl | rfl <;> simp at hb
  have h2 : a.m ∉ S := by
    intro hx
    obtain ⟨cs, e, fz, hb, he⟩ := hS _ hx
    obtain ⟨es, c, a2, -⟩ := h.own.map
    rw [a2] at hb; simp at hb
  obtain ⟨va, ra⟩ := h.ref
  have h3 : a.r ∉ S := by
    intro hx
    obtain ⟨cs, e, fz, hb, he⟩ := hS _ hx
    rw [ra.blk] at hb
    rcases he with rfl | rfl <;> simp at hb
  have h4 : NoRow w S := by
    intro x hx cs fz hb
    obtain ⟨cs', e, fz', hb', he⟩ := hS _ hx
    rw [hb'] at hb
    rcases he with rfl | rfl <;> simp at hb
  exact ⟨h.own.fr f h1 h2, ⟨va, ra.fr f h3 h4⟩, h.good, h.few, h.bx, h.bm, h.br⟩

theorem AllOk.frx {w w' : World} {B k : Nat} {l : List Item} {S : List Nat} (h : AllOk w B k l) (f : Fr S w w') (hS : PtrRows w S) : AllOk w' B k l :=
  ⟨fun it hit => (h.each it hit).frx f hS, h.apart⟩

theorem row_block {w : World} {base e size n g c : Nat} {xs : List Value} (h : w.ownsRow base e size (.slice (some ⟨g, 0, none⟩) n c) n xs) : ∃ cur, w.heap[g]? = some (.cells cur e (0, 0)) := by
  obtain ⟨h1, h2⟩ := h
  rcases h2 with ⟨h2, -⟩ | ⟨g', cap, cur, hv, hg, hh, -⟩
  · simp at h2
  · simp at hv
    obtain ⟨rfl, rfl⟩ := hv
    exact ⟨cur, hh⟩

theorem ownsRow_far {w w' : World} {base e e' size n g : Nat} {v : Value} {xs : List Value} {cs : Array Value} {fz : Nat × Nat} (h : w.ownsRow base e size v n xs) (f : Fr [g] w w') (hg : w.heap[g]? = some (.cells cs e' fz)) (hne : e ≠ e') : w'.ownsRow base e size v n xs := by
  obtain ⟨h1, h2⟩ := h
  refine ⟨h1, ?_⟩
  rcases h2 with h2 | ⟨g', cap, cur, hv, hb, hh, r⟩
  · exact Or.inl h2
  · refine Or.inr ⟨g', cap, cur, hv, hb, f.heap hh ?_, r⟩
    intro hx
    rw [List.mem_singleton] at hx
    subst hx
    rw [hg] at hh
    simp at hh
    exact hne hh.2.1.symm

end Go.Proofs.Ytdmhiefjmejfpaa
