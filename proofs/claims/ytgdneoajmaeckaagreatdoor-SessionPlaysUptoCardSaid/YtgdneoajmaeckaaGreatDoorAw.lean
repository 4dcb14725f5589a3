/- Addresses and cells off the form's reading. No condition. -/
import Derived.Test.YtgdneoajmaeckaaGreatDoorMm
import Derived.Test.YtgdneoajmaeckaaGreatDoorOrd
import Derived.Deep.Slices
import Derived.Deep.Fields
import Derived.ChangeSame
import Derived.SizedLaws
import Derived.OpenShut
namespace Go.Proofs.YtgdneoajmaeckaaGreatDoor
open Go.ChangeShapes Go.WideShapes Go.RowKit Go.Deep

theorem addr_plain {w : World} {a : Addr} {v : Value} (h : w.cell? (a.add 0) = some v) : a = ⟨a.block, a.off, none⟩ := by
  simp only [Addr.add, if_true] at h
  obtain ⟨b, o, sp⟩ := a
  cases sp with
  | none => rfl
  | some x => unfold World.cell? at h; split at h <;> simp at h

theorem cell_add {w : World} {a : Addr} {k : Nat} {v : Value} (h : w.cell? (a.add k) = some v) : w.cell? ⟨a.block, a.off + k, none⟩ = some v := by
  unfold Addr.add at h
  by_cases hk : k = 0
  · subst hk
    simp only [if_true] at h
    obtain ⟨b, o, sp⟩ := a
    cases sp with
    | none => exact h
    | some x => unfold World.cell? at h; split at h <;> simp at h
  · rw [if_neg hk] at h; exact h

theorem wf_i64 {n : Int} (h : (Lit.int .i64 n).wf = true) : fits64 n := by
  have h1 : IntKind.min .i64 = -9223372036854775808 := by decide
  have h2 : IntKind.max .i64 = 9223372036854775807 := by decide
  simp only [Lit.wf, Bool.and_eq_true, decide_eq_true_eq, h1, h2] at h
  exact h

end Go.Proofs.YtgdneoajmaeckaaGreatDoor
