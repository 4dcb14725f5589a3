/- The plain law of a text's end: what textB does where a zero byte comes first. No condition. -/
import Derived.Test.YtpcmibimglkocaaDoorPlain
namespace Go.Proofs.YtpcmibimglkocaaDoor

theorem textB_pre (p : List UInt8) (hp : ∀ c ∈ p, c ≠ 0) (l : List UInt8) : textB (p ++ l) = (textB l).map fun q => (p ++ q.1, q.2) := by
  induction p with
  | nil => simp
  | cons c r ih =>
    rw [List.cons_append, textB_char (hp c (by simp)), ih (fun x hx => hp x (List.mem_cons_of_mem _ hx)), Option.map_map]
    rfl

theorem textB_none_of (p : List UInt8) (hp : ∀ c ∈ p, c ≠ 0) : textB p = none := by
  have := textB_pre p hp []
  rwa [List.append_nil, textB_nil, Option.map_none] at this

theorem textB_last (p : List UInt8) (hp : ∀ c ∈ p, c ≠ 0) : textB (p ++ [0]) = none := by
  rw [textB_pre p hp, textB_one]; rfl

theorem textB_pre_end (p r : List UInt8) (hp : ∀ c ∈ p, c ≠ 0) : textB (p ++ 0 :: 0 :: r) = some (p, r) := by
  rw [textB_pre p hp, textB_end]; simp

theorem textB_pre_zero (p r : List UInt8) (hp : ∀ c ∈ p, c ≠ 0) : textB (p ++ 0 :: 1 :: r) = (textB r).map fun q => (p ++ 0 :: q.1, q.2) := by
  rw [textB_pre p hp, textB_zero, Option.map_map]; rfl

theorem textB_pre_bad (p r : List UInt8) (d : UInt8) (hp : ∀ c ∈ p, c ≠ 0) (h0 : d ≠ 0) (h1 : d ≠ 1) : textB (p ++ 0 :: d :: r) = none := by
  rw [textB_pre p hp, textB_bad h0 h1]; rfl

end Go.Proofs.YtpcmibimglkocaaDoor
