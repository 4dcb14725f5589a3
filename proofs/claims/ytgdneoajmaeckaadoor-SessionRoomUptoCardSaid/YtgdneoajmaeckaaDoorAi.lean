/- A list of numbers that came in: off the form's reading. No condition. -/
import Derived.Test.YtgdneoajmaeckaaDoorMm
import Derived.Test.YtgdneoajmaeckaaDoorOrd
import Derived.Deep.Slices
import Derived.Deep.Fields
import Derived.ChangeSame
import Derived.SizedLaws
import Derived.OpenShut
namespace Go.Proofs.YtgdneoajmaeckaaDoor
open Go.ChangeShapes Go.WideShapes Go.RowKit Go.Deep

theorem addr_plain {w : World} {a : Addr} {v : Value} (h : w.cell? (a.add 0) = some v) : a = ⟨a.block, a.off, none⟩ := by
  simp only [Addr.add, if_true] at h
  obtain ⟨b, o, sp⟩ := a
  cases sp with
  | none => rfl
  | some x => unfold World.cell? at h; split at h <;> simp at h

theorem cell_add {w : World} {a : Addr} {k : Nat} {v : Value} (h : w.cell? (a.add k) = some v) : w.cell? ⟨a.block, a.off + k, none⟩ = some v := by
  unfold Addr.add at h
  by_cases hk : k = 0
  · subst hk
    simp only [if_true] at h
    obtain ⟨b, o, sp⟩ := a
    cases sp with
    | none => exact h
    | some x => unfold World.cell? at h; split at h <;> simp at h
  · rw [if_neg hk] at h; exact h

theorem wf_i64 {n : Int} (h : (Lit.int .i64 n).wf = true) : fits64 n := by
  have h1 : IntKind.min .i64 = -9223372036854775808 := by decide
  have h2 : IntKind.max .i64 = 9223372036854775807 := by decide
  simp only [Lit.wf, Bool.and_eq_true, decide_eq_true_eq, h1, h2] at h
  exact h

theorem intCells : Tryd.prog.cellsOf 3 = 1 := by kernel_rfl

section
variable {H : Type} {enc : TypeId × Value → H} {w : World} {base : Nat} {spare : Nat → Bool} {held : Bool}

/-- What the form's reading of a list of numbers gives. -/
theorem ints_of_trod {fuel len cap : Nat} {ad : Option Addr} {d : DataW H} {p : List MemPlace} (h : DataW.trod enc Tryd.prog w base spare held fuel 22 [.slice ad len cap] = some (d, p)) :
    ∃ l : List Int, IntsAt w (.slice ad len cap) l ∧ ∀ x ∈ l, -9223372036854775808 ≤ x ∧ x ≤ 9223372036854775807 := by
  rcases open_ints Tryd.underlying22 Tryd.underlying3 intCells h with ⟨hv, hx⟩ | ⟨a, len2, cap2, zs, hv, hb, hl, hm, hmm, hx, hel, hwf⟩
  · simp only [List.cons.injEq, and_true, Value.slice.injEq] at hv
    obtain ⟨rfl, rfl, rfl⟩ := hv
    exact ⟨[], ⟨none, 0, rfl, fun _ => rfl, Nat.le_refl _, by simp⟩, by simp⟩
  · simp only [List.cons.injEq, and_true, Value.slice.injEq] at hv
    obtain ⟨rfl, rfl, rfl⟩ := hv
    have hlz : len ≤ zs.length := by rw [hmm]; split <;> omega
    have hll : (zs.take len).length = len := by rw [List.length_take]; omega
    refine ⟨zs.take len, ⟨some a, cap, by rw [hll], (fun h => by cases h), by rw [hll]; exact hl, fun k x hk => ?_⟩, fun x hx => wf_i64 (hwf x (List.mem_of_mem_take hx))⟩
    have hkl : k < len := by
      have := (List.getElem?_eq_some_iff.1 hk).1
      rw [hll] at this
      exact this
    have hc := fun j (hj : j < len) => hel j (by omega)
    have ha := addr_plain (hc 0 (by omega))
    have hk2 := hc k hkl
    rw [List.getElem?_take_of_lt hkl] at hk
    rw [List.getD_eq_getElem?_getD, hk] at hk2
    exact ⟨a.block, a.off, by rw [← ha], cell_add hk2⟩
end
end Go.Proofs.YtgdneoajmaeckaaDoor
