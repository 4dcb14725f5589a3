/- The script of calls as it came in: every element's five cells. No condition. -/
import Derived.Test.YtdmhiefjmejfpaaNbPlain
import Derived.Deep.Slices
import Derived.Deep.Fields
import Derived.ProofKit
namespace Go.Proofs.Ytdmhiefjmejfpaa
open Go.ChangeShapes Go.WideShapes Go.ChangeAt Go.RowKit Go.Deep

section
variable {H : Type} {enc : TypeId × Value → H} {P : Program} {w : World} {base : Nat} {spare : Nat → Bool} {held : Bool}

theorem cell_add {a : Addr} {k : Nat} {v : Value} (h : w.cell? (a.add k) = some v) : w.cell? ⟨a.block, a.off + k, none⟩ = some v := by
  unfold Addr.add at h
  by_cases hk : k = 0
  · subst hk
    simp only [if_true] at h
    obtain ⟨b, o, sp⟩ := a
    cases sp with
    | none => exact h
    | some x => unfold World.cell? at h; split at h <;> simp at h
  · rw [if_neg hk] at h; exact h

theorem slice_bounds {t e : TypeId} {fuel len cap : Nat} {ad : Option Addr} {x : DataW H × List MemPlace} (ht : P.underlying t = some (.slice e)) (h : DataW.trod enc P w base spare held fuel t [.slice ad len cap] = some x) :
    len ≤ cap ∧ cap ≤ maxLen ∧ (0 < len → ∃ a, ad = some a) := by
  rcases open_slice ht h with ⟨h0, -⟩ | ⟨a, l, c, m, n, D, Pl, hcs, -, hl, hm, hmm, -, hi⟩
  · simp at h0
    obtain ⟨rfl, rfl, rfl⟩ := h0
    exact ⟨Nat.le_refl _, Nat.zero_le _, fun h => by omega⟩
  · simp at hcs
    obtain ⟨rfl, rfl, rfl⟩ := hcs
    exact ⟨hl, hm, fun _ => ⟨a, rfl⟩⟩

/-- A slice of structs of one-cell fields: each field of each element has its cell, which reads by the field's type. -/
theorem structs_at {t e : TypeId} {fs : Array Field} {fuel len cap : Nat} {ad : Option Addr} {x : DataW H × List MemPlace} (ht : P.underlying t = some (.slice e)) (he : P.underlying e = some (.struct fs))
    (hone : oneCellFields P fs = true) (hC : P.cellsOf e = fs.size) (h0 : 0 < fs.size) (h : DataW.trod enc P w base spare held fuel t [.slice ad len cap] = some x) (i : Nat) (hi : i < len) :
    ∃ b off, ad = some ⟨b, off, none⟩ ∧ ∀ (j : Nat) (f : Field), fs[j]? = some f → ∃ v y n, w.cell? ⟨b, off + i * fs.size + j, none⟩ = some v ∧ DataW.trod enc P w base spare held n f.type [v] = some y := by
  rcases open_slice ht h with ⟨hn, -⟩ | ⟨a, l, c, m, n, D, Pl, hcs, -, hl, hm, hmm, -, hel⟩
  · simp at hn; omega
  · simp at hcs
    obtain ⟨rfl, rfl, rfl⟩ := hcs
    have him : i < m := by rw [hmm]; split <;> omega
    have key : ∀ i, i < m → ∀ (j : Nat) (f : Field), fs[j]? = some f → ∃ v y n, w.cell? ⟨a.block, a.off + i * fs.size + j, none⟩ = some v ∧ w.cell? (a.add (i * fs.size + j)) = some v ∧ DataW.trod enc P w base spare held n f.type [v] = some y := by
      intro i hi j f hj
      obtain ⟨cs', hc, ht'⟩ := hel i hi
      rw [hC] at hc
      obtain ⟨-, hcl, hat⟩ := World.cells?_some hc
      obtain ⟨ys, n', -, -, -, hyl, hf⟩ := DataW.trod_struct he ht'
      obtain ⟨ho, hk⟩ := hone_of hone j f hj
      have hjl : j < fs.size := (Array.getElem?_eq_some_iff.1 hj).1
      have hv : cs'[j]? = some (cs'[j]'(by omega)) := List.getElem?_eq_getElem (by omega)
      have h1 := hat j hjl
      rw [add_add, hv] at h1
      have h2 := hf j f hj
      rw [ho, hk, List.drop_eq_getElem_cons (show j < cs'.length by omega)] at h2
      rw [List.getElem?_eq_getElem (show j < ys.length by omega)] at h2
      refine ⟨_, _, n', ?_, h1, h2⟩
      have := cell_add h1
      rw [← Nat.add_assoc] at this
      exact this
    refine ⟨a.block, a.off, ?_, fun j f hj => ?_⟩
    · obtain ⟨v, y, n, -, h1, -⟩ := key 0 (by omega) 0 fs[0] (by simp [h0])
      simp only [Nat.zero_mul, Nat.add_zero, Addr.add, if_true] at h1
      obtain ⟨b, o, sp⟩ := a
      cases sp with
      | none => rfl
      | some x => unfold World.cell? at h1; split at h1 <;> simp at h1
    · obtain ⟨v, y, n, h1, -, h2⟩ := key i him j f hj
      exact ⟨v, y, n, h1, h2⟩
end

end Go.Proofs.Ytdmhiefjmejfpaa
