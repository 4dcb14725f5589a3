/- The plain part of the row statements: a datum, which may be, how one is read off bytes. No condition. -/
import Derived.Lib.ValidU
namespace Go.Proofs.YtgdneoajmaeckaaGreatDoor

/-- A value: its kind, its number, its text's bytes. -/
structure Dt where
  kind : Int
  i : Int
  s : List UInt8

def rightB (d : Dt) : Bool :=
  (decide (d.kind = 0) && decide (d.i = 0) && d.s.isEmpty) || (decide (d.kind = 1) && (decide (d.i = 0) || decide (d.i = 1)) && d.s.isEmpty) ||
  ((decide (d.kind = 2) || decide (d.kind = 3)) && d.s.isEmpty) || (decide (d.kind = 4) && decide (d.i = 0) && decide (d.s.length ≤ 1000) && Lib.validD d.s) ||
  (decide (d.kind = 5) && decide (d.i = 0) && decide (d.s.length ≤ 1000))

/-- A text off its bytes: what it is, and the bytes behind its end. -/
def textB : List UInt8 → Option (List UInt8 × List UInt8)
  | [] => none
  | c :: r =>
    if c = 0 then
      match r with
      | [] => none
      | d :: r' => if d = 0 then some ([], r') else if d = 1 then (textB r').map fun p => (0 :: p.1, p.2) else none
    else (textB r).map fun p => (c :: p.1, p.2)

theorem textB_nil : textB [] = none := by unfold textB; rfl
theorem textB_char {c : UInt8} (h : c ≠ 0) (r : List UInt8) : textB (c :: r) = (textB r).map fun p => (c :: p.1, p.2) := by
  rw [textB.eq_def]; simp only [if_neg h]
theorem textB_one : textB [0] = none := by rw [textB]; simp
theorem textB_end (r : List UInt8) : textB (0 :: 0 :: r) = some ([], r) := by rw [textB]; simp
theorem textB_zero (r : List UInt8) : textB (0 :: 1 :: r) = (textB r).map fun p => (0 :: p.1, p.2) := by rw [textB]; simp
theorem textB_bad {d : UInt8} (h0 : d ≠ 0) (h1 : d ≠ 1) (r : List UInt8) : textB (0 :: d :: r) = none := by rw [textB]; simp [h0, h1]

/-- A number of 64 bits off eight bytes, the highest first. -/
def natB (l : List UInt8) : Nat := l.foldl (fun n c => n * 256 + c.toNat) 0
def numB (l : List UInt8) : Int := (natB l : Int) - 9223372036854775808

/-- One value off bytes that are not empty. -/
def valB : List UInt8 → Option (Dt × List UInt8)
  | [] => none
  | c :: r =>
    if c = 1 then some (⟨0, 0, []⟩, r)
    else if c = 2 then
      match r with
      | [] => none
      | b :: r' => if b.toNat ≤ 1 then some (⟨1, b.toNat, []⟩, r') else none
    else if c = 3 ∨ c = 4 then if r.length < 8 then none else some (⟨(c.toNat : Int) - 1, numB (r.take 8), []⟩, r.drop 8)
    else if c = 5 ∨ c = 6 then
      match textB r with
      | none => none
      | some (t, r') => if rightB ⟨(c.toNat : Int) - 1, 0, t⟩ then some (⟨(c.toNat : Int) - 1, 0, t⟩, r') else none
    else none

/-- A row off its bytes; n: more steps than bytes; m: how many values may come. -/
def rowB : Nat → Nat → List UInt8 → Option (List Dt)
  | 0, _, _ => none
  | n + 1, m, l =>
    if l = [] then some []
    else match valB l with
      | none => none
      | some (d, r) => if m = 0 then none else (rowB n (m - 1) r).map (d :: ·)

end Go.Proofs.YtgdneoajmaeckaaGreatDoor
