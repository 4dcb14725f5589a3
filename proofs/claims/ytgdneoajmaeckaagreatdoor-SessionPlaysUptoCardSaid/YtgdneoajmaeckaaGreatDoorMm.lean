/- Words for memory: rows that one owns, cells of blocks, lists of strings, lists of numbers. No condition. -/
import Derived.Test.YtgdneoajmaeckaaGreatDoorKm
import Derived.Test.YtgdneoajmaeckaaGreatDoorApp
namespace Go.Proofs.YtgdneoajmaeckaaGreatDoor
open Go.RowKit

theorem cell_blk {w : World} {b : Nat} {cs : Array Value} {t : Nat} (h : w.heap[b]? = some (.cells cs t)) (j : Nat) (u : Value) (hj : cs[j]? = some u) : w.cell? ⟨b, j, none⟩ = some u := by
  simp [World.cell?, h, hj]
theorem ownsRow_base {w : World} {b base e size n : Nat} {v : Value} {xs : List Value} (h : w.ownsRow base e size v n xs) (hb : b ≤ base) : w.ownsRow b e size v n xs := by
  obtain ⟨h1, h2⟩ := h
  refine ⟨h1, ?_⟩
  rcases h2 with h2 | ⟨g, cap, cur, hv, hg, hh, r⟩
  · exact Or.inl h2
  · exact Or.inr ⟨g, cap, cur, hv, by omega, hh, r⟩
theorem ownsRow_fr {w w' : World} {S : List Nat} {base e size n : Nat} {v : Value} {xs : List Value} (h : w.ownsRow base e size v n xs) (f : Fr S w w') (hS : ∀ x ∈ S, x < base) : w'.ownsRow base e size v n xs := by
  obtain ⟨h1, h2⟩ := h
  refine ⟨h1, ?_⟩
  rcases h2 with h2 | ⟨g, cap, cur, hv, hg, hh, r⟩
  · exact Or.inl h2
  · exact Or.inr ⟨g, cap, cur, hv, hg, f.heap hh (fun hx => by have := hS g hx; omega), r⟩
theorem ownsRow_shape {w : World} {base e size n : Nat} {v : Value} {xs : List Value} (h : w.ownsRow base e size v n xs) : ∃ a c, v = .slice a n c := by
  rcases h.2 with ⟨rfl, rfl⟩ | ⟨g, cap, cur, rfl, -⟩
  · exact ⟨_, _, rfl⟩
  · exact ⟨_, _, rfl⟩
theorem Src.alloc {w : World} {size m : Nat} {x : Value} {news : List Value} (h : Src w size x m news) (o : Obj) : Src (w.alloc o) size x m news := by
  obtain ⟨h1, h2, h3⟩ := h
  refine ⟨h1, h2, ?_⟩
  rcases h3 with h3 | ⟨ad, c, h3, h4⟩
  · exact Or.inl h3
  · exact Or.inr ⟨ad, c, h3, fun j u hj => ((Fr.refl [] w).alloc o).cell (h4 j u hj) (by simp)⟩
theorem Src.fr {w w' : World} {size m : Nat} {x : Value} {news : List Value} (h : Src w size x m news) (f : Fr [] w w') : Src w' size x m news := by
  obtain ⟨h1, h2, h3⟩ := h
  refine ⟨h1, h2, ?_⟩
  rcases h3 with h3 | ⟨ad, c, h3, h4⟩
  · exact Or.inl h3
  · exact Or.inr ⟨ad, c, h3, fun j u hj => f.cell (h4 j u hj) (by simp)⟩

/-- A block older than an owned row stays as it is, whatever is appended to the row. -/
theorem keep_own {w5 w3 : World} {o x : Obj} {t base size n : Nat} {e : TypeId} {v : Value} {xs : List Value} (h : w5.heap[t]? = some o) (ho : w5.ownsRow base e size v n xs) (hg : (w5.alloc x).grownBy w3 v.ownBlock) (hx : t < base) : w3.heap[t]? = some o := by
  have h5 := ((Fr.refl [] w5).alloc x).heap h (by simp)
  have h6 : Fr v.ownBlock.toList (w5.alloc x) w3 := Fr.grown hg
  exact h6.heap h5 (fun hm => by have := (ho.lt t (by simpa using hm)).1; omega)

theorem infoS : (Tryz.prog.info? 9).map (fun i => (i.zero, i.size, i.bytes)) = some (some (.string ⟨#[]⟩), 1, 16) := by kernel_rfl

/-- Strings as cells. -/
def strsL (l : List (List UInt8)) : List Value := l.map fun x => .string ⟨x.toArray⟩
theorem strsL_snoc (l : List (List UInt8)) (x : List UInt8) : strsL l ++ [.string ⟨x.toArray⟩] = strsL (l ++ [x]) := by simp [strsL]
theorem strsL_len (l : List (List UInt8)) : (strsL l).length = l.length := by simp [strsL]

/-- The cell of an owned list of strings. -/
theorem strs_at {w : World} {base : Nat} {a : Option Addr} {n c : Nat} {l : List (List UInt8)} (h : w.ownsRow base 9 1 (.slice a n c) n (strsL l)) {k : Nat} (hk : k < l.length) :
    ∃ b, a = some ⟨b, 0, none⟩ ∧ w.cell? ⟨b, k, none⟩ = some (.string ⟨l[k].toArray⟩) := by
  have h1 := h.1
  rw [strsL_len] at h1
  rcases h.2 with ⟨hv, h0⟩ | ⟨g, cap, cur, hv, hb, hg, hc, hc2, hsz, htk⟩
  · omega
  · simp only [Value.slice.injEq] at hv
    obtain ⟨rfl, -, rfl⟩ := hv
    refine ⟨g, rfl, ?_⟩
    have h2 : (strsL l)[k]? = some (.string ⟨l[k].toArray⟩) := by simp [strsL, hk]
    rw [← htk, List.getElem?_take] at h2
    split at h2
    · simp only [World.cell?, hg]
      simpa using h2
    · cases h2

/-- Numbers as cells. -/
def kiC (l : List Int) : List Value := l.map (Value.int .i64)
theorem kiC_len (l : List Int) : (kiC l).length = l.length := by simp [kiC]
theorem kiC_one (l : List Int) : ∀ u ∈ kiC l, u.oneCell' = true := by
  intro u hu
  simp only [kiC, List.mem_map] at hu
  obtain ⟨x, -, rfl⟩ := hu
  rfl
/-- A list of numbers that came in. -/
def IntsAt (w : World) (v : Value) (l : List Int) : Prop :=
  ∃ a c, v = .slice a l.length c ∧ (a = none → c = 0) ∧ l.length ≤ c ∧ ∀ k x, l[k]? = some x → ∃ b off, a = some ⟨b, off, none⟩ ∧ w.cell? ⟨b, off + k, none⟩ = some (.int .i64 x)
theorem IntsAt.fr {w w' : World} {v : Value} {l : List Int} (h : IntsAt w v l) (f : Fr [] w w') : IntsAt w' v l := by
  obtain ⟨a, c, h1, h2, h3, h4⟩ := h
  refine ⟨a, c, h1, h2, h3, fun k x hk => ?_⟩
  obtain ⟨b, off, h5, h6⟩ := h4 k x hk
  exact ⟨b, off, h5, f.cell h6 (by simp)⟩
theorem IntsAt.shape {w : World} {v : Value} {l : List Int} (h : IntsAt w v l) : ∃ a c, v = .slice a l.length c ∧ (a = none → c = 0) ∧ l.length ≤ c := by
  obtain ⟨a, c, h1, h2, h3, -⟩ := h
  exact ⟨a, c, h1, h2, h3⟩
theorem IntsAt.at {w : World} {a : Option Addr} {n c : Nat} {l : List Int} (h : IntsAt w (.slice a n c) l) {k : Nat} (hk : k < l.length) :
    ∃ b off, a = some ⟨b, off, none⟩ ∧ w.cell? ⟨b, off + k, none⟩ = some (.int .i64 l[k]) := by
  obtain ⟨a', c', h1, -, -, h4⟩ := h
  simp only [Value.slice.injEq] at h1
  obtain ⟨rfl, -, -⟩ := h1
  exact h4 k _ (List.getElem?_eq_getElem hk)
end Go.Proofs.YtgdneoajmaeckaaGreatDoor
