/-
  No cell of these rows narrows 'for every input' (looked for: loops, veiled, ifaces, maps, wideKeys, modest, calm, conditions, laid).
  DERIVED. THE GIVEN ROWS OF THIS SEAT. 3 by the template 'for every input the law returns true; each argument reads behind the call as it read before'; 0 by the template 'total and deterministic' (their statements: YtdmhiefjmejfpaaTotals.lean).
  GIVEN WITH THE SEED: the statements are not yours to turn. If you find one false, say at which input.
  Laid BY PROGRAM, IN A SANDBOX (cutbox-rows.mjs): the forced cells as the released guide's own fill.sh prints them over the translation 05e677a406070414… (all of the seat's roots in one cut). By AI agents, Wed Nov 11 2026. No macro, syntax, notation, axiom, sorry.
-/
import Derived.Test.YtdmhiefjmejfpaaChecked
import GoSem.Claim
import GoSem.ClaimJoined
import GoSem.ClaimMapViews
import Derived.JoinedTies
import Derived.KernelRfl
namespace Go.Proofs.Ytdmhiefjmejfpaa
/- THE CELL 'sum', in the pinned program and in every row, IS THE sha256 OF THE DUMP (.gsa) THAT YtdmhiefjmejfpaaProg.lean LOADS. Nothing in Lean hashes anything: it is a label: what it is worth is what the hold of that sum in a sandbox is worth. -/
noncomputable def Try.pinned : Pinned := { name := "ytdmhiefjmejfpaa", sum := "05e677a4060704141ada9489516fce7538488eb350194de79f6847a40fe617a5", checked := Try.checked }
namespace Rows
def none {H : Type} : Left H := { results := [], args := [] }

/-- 'freshetlaw18.OracleNeverBack': WHATEVER THE INPUT: true; the input reads as it did. -/
def oracleNeverBackSpec : ChangeSpec := { name := "oracleNeverBack", fn := fun _ => fun
  | [d1, d2] => { results := [.lit (.bool true)], args := [d1, d2] }
  | _ => none }
def oracleNeverBackRow : OpenClaim := { program := "ytdmhiefjmejfpaa", sum := "05e677a4060704141ada9489516fce7538488eb350194de79f6847a40fe617a5", func := "freshet/freshetlaw18.OracleNeverBack", spec := "oracleNeverBack", apart := false }
def OracleNeverBackSaid : Prop := oracleNeverBackRow.holds Try.pinned (OpenSpec.ofChange oracleNeverBackSpec)

/-- ITS FALSE NEIGHBOUR: 'it returns false'. Refute it at one input. -/
def oracleNeverBackWrong : ChangeSpec := { name := "oracleNeverBack", fn := fun _ => fun
  | [d1, d2] => { results := [.lit (.bool false)], args := [d1, d2] }
  | _ => none }
def OracleNeverBackWrongFalsely : Prop := oracleNeverBackRow.holds Try.pinned (OpenSpec.ofChange oracleNeverBackWrong)

/-- 'freshetlaw18.OracleHolds': WHATEVER THE INPUT: true; the input reads as it did. -/
def oracleHoldsSpec : ChangeSpec := { name := "oracleHolds", fn := fun _ => fun
  | [d1, d2, d3] => { results := [.lit (.bool true)], args := [d1, d2, d3] }
  | _ => none }
def oracleHoldsRow : OpenClaim := { program := "ytdmhiefjmejfpaa", sum := "05e677a4060704141ada9489516fce7538488eb350194de79f6847a40fe617a5", func := "freshet/freshetlaw18.OracleHolds", spec := "oracleHolds", apart := false }
def OracleHoldsSaid : Prop := oracleHoldsRow.holds Try.pinned (OpenSpec.ofChange oracleHoldsSpec)

/-- ITS FALSE NEIGHBOUR: 'it returns false'. Refute it at one input. -/
def oracleHoldsWrong : ChangeSpec := { name := "oracleHolds", fn := fun _ => fun
  | [d1, d2, d3] => { results := [.lit (.bool false)], args := [d1, d2, d3] }
  | _ => none }
def OracleHoldsWrongFalsely : Prop := oracleHoldsRow.holds Try.pinned (OpenSpec.ofChange oracleHoldsWrong)

/-- 'freshetlaw18.OraclePlays': WHATEVER THE INPUT: true; the input reads as it did. -/
def oraclePlaysSpec : ChangeSpec := { name := "oraclePlays", fn := fun _ => fun
  | [d1, d2] => { results := [.lit (.bool true)], args := [d1, d2] }
  | _ => none }
def oraclePlaysRow : OpenClaim := { program := "ytdmhiefjmejfpaa", sum := "05e677a4060704141ada9489516fce7538488eb350194de79f6847a40fe617a5", func := "freshet/freshetlaw18.OraclePlays", spec := "oraclePlays", inPlace := ["maps.clone"], apart := false }
def OraclePlaysSaid : Prop := oraclePlaysRow.holds Try.pinned (OpenSpec.ofChange oraclePlaysSpec)

/-- ITS FALSE NEIGHBOUR: 'it returns false'. Refute it at one input. -/
def oraclePlaysWrong : ChangeSpec := { name := "oraclePlays", fn := fun _ => fun
  | [d1, d2] => { results := [.lit (.bool false)], args := [d1, d2] }
  | _ => none }
def OraclePlaysWrongFalsely : Prop := oraclePlaysRow.holds Try.pinned (OpenSpec.ofChange oraclePlaysWrong)

/- THE SECOND FORM. 'bulk': how many values and letters a reading holds, each counted each time it is reached (what is shared counts as often as it is met; a slice's spare places count too). A statement '..UptoSaid' is the law's where the arguments, and the package variables that the reading takes, are together of bulk at most 1048576: NARROWER than '..Said'. Prove '..Said' where nothing that the law and all that it calls make is longer than what came in: it says more and counts as full. Else prove '..UptoSaid'. A law counts once. -/
mutual
def uptoBulk {H : Type} : DataW H → Nat
  | .lit (.string bytes) => bytes.length + 1
  | .lit _ => 1
  | .nil => 1
  | .ptr d => uptoBulk d + 1
  | .slice elems spare => uptoBulkAll elems + uptoBulkAll spare + 1
  | .agg parts => uptoBulkAll parts + 1
  | .iface _ d => uptoBulk d + 1
  | .map entries => uptoBulkEntries entries + 1
  | .held _ => 1
def uptoBulkAll {H : Type} : List (DataW H) → Nat
  | [] => 0
  | d :: r => uptoBulk d + uptoBulkAll r
def uptoBulkEntries {H : Type} : List (Lit × DataW H) → Nat
  | [] => 0
  | x :: r => uptoBulkEntry x + uptoBulkEntries r
def uptoBulkEntry {H : Type} : Lit × DataW H → Nat
  | (.string bytes, d) => bytes.length + uptoBulk d + 1
  | (_, d) => uptoBulk d + 1
 end
def uptoSmall : (H : Type) → List (DataW H) → Bool := fun _ ds => decide (uptoBulkAll ds ≤ 1048576)
def OpenSpec.upto (s : _root_.Go.ChangeSpec) : _root_.Go.OpenSpec := { _root_.Go.OpenSpec.ofChange s with cond := some uptoSmall }

/-- 'freshetlaw18.OracleNeverBack', WHERE WHAT IT READS IS OF BULK AT MOST 1048576: true; the input reads as it did. -/
def oracleNeverBackUptoRow : OpenClaim := { program := "ytdmhiefjmejfpaa", sum := "05e677a4060704141ada9489516fce7538488eb350194de79f6847a40fe617a5", func := "freshet/freshetlaw18.OracleNeverBack", spec := "oracleNeverBack", apart := false, narrowed := true }
def OracleNeverBackUptoSaid : Prop := oracleNeverBackUptoRow.holds Try.pinned (OpenSpec.upto oracleNeverBackSpec)

/-- 'freshetlaw18.OracleHolds', WHERE WHAT IT READS IS OF BULK AT MOST 1048576: true; the input reads as it did. -/
def oracleHoldsUptoRow : OpenClaim := { program := "ytdmhiefjmejfpaa", sum := "05e677a4060704141ada9489516fce7538488eb350194de79f6847a40fe617a5", func := "freshet/freshetlaw18.OracleHolds", spec := "oracleHolds", apart := false, narrowed := true }
def OracleHoldsUptoSaid : Prop := oracleHoldsUptoRow.holds Try.pinned (OpenSpec.upto oracleHoldsSpec)

/-- 'freshetlaw18.OraclePlays', WHERE WHAT IT READS IS OF BULK AT MOST 1048576: true; the input reads as it did. -/
def oraclePlaysUptoRow : OpenClaim := { program := "ytdmhiefjmejfpaa", sum := "05e677a4060704141ada9489516fce7538488eb350194de79f6847a40fe617a5", func := "freshet/freshetlaw18.OraclePlays", spec := "oraclePlays", inPlace := ["maps.clone"], apart := false, narrowed := true }
def OraclePlaysUptoSaid : Prop := oraclePlaysUptoRow.holds Try.pinned (OpenSpec.upto oraclePlaysSpec)

end Rows
end Go.Proofs.Ytdmhiefjmejfpaa
