/-
  No cell of these rows narrows 'for every input' (looked for: loops, veiled, ifaces, maps, wideKeys, modest, calm, conditions, laid).
  DERIVED. THE GIVEN ROWS OF THIS SEAT. 2 by the template 'for every input the law returns true; each argument reads behind the call as it read before'; 0 by the template 'total and deterministic' (their statements: YtjchlfblbmiceaaGreatTotals.lean).
  GIVEN WITH THE SEED: the statements are not yours to turn. If you find one false, say at which input.
  Laid BY PROGRAM, IN A SANDBOX (cutbox-rows.mjs): the forced cells as the released guide's own fill.sh prints them over the translation fbff71520cb9e072… (all of the seat's roots in one cut). By AI agents, Wed Nov 11 2026. No macro, syntax, notation, axiom, sorry.
-/
import Derived.Test.YtjchlfblbmiceaaGreatChecked
import GoSem.Claim
import GoSem.ClaimJoined
import GoSem.ClaimMapViews
import Derived.JoinedTies
import Derived.KernelRfl
namespace Go.Proofs.YtjchlfblbmiceaaGreat
/- THE CELL 'sum', in the pinned program and in every row, IS THE sha256 OF THE DUMP (.gsa) THAT YtjchlfblbmiceaaGreatProg.lean LOADS. Nothing in Lean hashes anything: it is a label: what it is worth is what the hold of that sum in a sandbox is worth. -/
noncomputable def Tryz.pinned : Pinned := { name := "ytjchlfblbmiceaagreat", sum := "fbff71520cb9e072893a89f4617c3c82e33b0442b26327080aa3f3ace189aa19", checked := Tryz.checked }
namespace Rows
def none {H : Type} : Left H := { results := [], args := [] }

/-- 'freshetlaw13.ArrangeSame': WHATEVER THE INPUT: true; the input reads as it did. -/
def arrangeSameSpec : ChangeSpec := { name := "arrangeSame", fn := fun _ => fun
  | [d1, d2, d3] => { results := [.lit (.bool true)], args := [d1, d2, d3] }
  | _ => none }
def arrangeSameRow : OpenClaim := { program := "ytjchlfblbmiceaagreat", sum := "fbff71520cb9e072893a89f4617c3c82e33b0442b26327080aa3f3ace189aa19", func := "freshet/freshetlaw13.ArrangeSame", spec := "arrangeSame", inPlace := ["internal/bytealg.abigen_runtime_cmpstring", "math/bits.Add64", "math/bits.Sub64"], unfollowed := true, recurses := true, apart := false }
def ArrangeSameSaid : Prop := arrangeSameRow.holds Tryz.pinned (OpenSpec.ofChange arrangeSameSpec)

/-- ITS FALSE NEIGHBOUR: 'it returns false'. Refute it at one input. -/
def arrangeSameWrong : ChangeSpec := { name := "arrangeSame", fn := fun _ => fun
  | [d1, d2, d3] => { results := [.lit (.bool false)], args := [d1, d2, d3] }
  | _ => none }
def ArrangeSameWrongFalsely : Prop := arrangeSameRow.holds Tryz.pinned (OpenSpec.ofChange arrangeSameWrong)

/-- 'freshetlaw13.ArrangePlays': WHATEVER THE INPUT: true; the input reads as it did. -/
def arrangePlaysSpec : ChangeSpec := { name := "arrangePlays", fn := fun _ => fun
  | [d1, d2] => { results := [.lit (.bool true)], args := [d1, d2] }
  | _ => none }
def arrangePlaysRow : OpenClaim := { program := "ytjchlfblbmiceaagreat", sum := "fbff71520cb9e072893a89f4617c3c82e33b0442b26327080aa3f3ace189aa19", func := "freshet/freshetlaw13.ArrangePlays", spec := "arrangePlays", inPlace := ["internal/bytealg.abigen_runtime_cmpstring", "math/bits.Add64", "math/bits.Sub64"], unfollowed := true, recurses := true, apart := false }
def ArrangePlaysSaid : Prop := arrangePlaysRow.holds Tryz.pinned (OpenSpec.ofChange arrangePlaysSpec)

/-- ITS FALSE NEIGHBOUR: 'it returns false'. Refute it at one input. -/
def arrangePlaysWrong : ChangeSpec := { name := "arrangePlays", fn := fun _ => fun
  | [d1, d2] => { results := [.lit (.bool false)], args := [d1, d2] }
  | _ => none }
def ArrangePlaysWrongFalsely : Prop := arrangePlaysRow.holds Tryz.pinned (OpenSpec.ofChange arrangePlaysWrong)

/- THE SECOND FORM. 'bulk': how many values and letters a reading holds, each counted each time it is reached (what is shared counts as often as it is met; a slice's spare places count too). A statement '..UptoSaid' is the law's where the arguments, and the package variables that the reading takes, are together of bulk at most 1048576: NARROWER than '..Said'. Prove '..Said' where nothing that the law and all that it calls make is longer than what came in: it says more and counts as full. Else prove '..UptoSaid'. A law counts once. -/
mutual
def uptoBulk {H : Type} : DataW H → Nat
  | .lit (.string bytes) => bytes.length + 1
  | .lit _ => 1
  | .nil => 1
  | .ptr d => uptoBulk d + 1
  | .slice elems spare => uptoBulkAll elems + uptoBulkAll spare + 1
  | .agg parts => uptoBulkAll parts + 1
  | .iface _ d => uptoBulk d + 1
  | .map entries => uptoBulkEntries entries + 1
  | .held _ => 1
def uptoBulkAll {H : Type} : List (DataW H) → Nat
  | [] => 0
  | d :: r => uptoBulk d + uptoBulkAll r
def uptoBulkEntries {H : Type} : List (Lit × DataW H) → Nat
  | [] => 0
  | x :: r => uptoBulkEntry x + uptoBulkEntries r
def uptoBulkEntry {H : Type} : Lit × DataW H → Nat
  | (.string bytes, d) => bytes.length + uptoBulk d + 1
  | (_, d) => uptoBulk d + 1
 end
def uptoSmall : (H : Type) → List (DataW H) → Bool := fun _ ds => decide (uptoBulkAll ds ≤ 1048576)
def OpenSpec.upto (s : _root_.Go.ChangeSpec) : _root_.Go.OpenSpec := { _root_.Go.OpenSpec.ofChange s with cond := some uptoSmall }

/-- 'freshetlaw13.ArrangeSame', WHERE WHAT IT READS IS OF BULK AT MOST 1048576: true; the input reads as it did. -/
def arrangeSameUptoRow : OpenClaim := { program := "ytjchlfblbmiceaagreat", sum := "fbff71520cb9e072893a89f4617c3c82e33b0442b26327080aa3f3ace189aa19", func := "freshet/freshetlaw13.ArrangeSame", spec := "arrangeSame", inPlace := ["internal/bytealg.abigen_runtime_cmpstring", "math/bits.Add64", "math/bits.Sub64"], unfollowed := true, recurses := true, apart := false, narrowed := true }
def ArrangeSameUptoSaid : Prop := arrangeSameUptoRow.holds Tryz.pinned (OpenSpec.upto arrangeSameSpec)

/-- 'freshetlaw13.ArrangePlays', WHERE WHAT IT READS IS OF BULK AT MOST 1048576: true; the input reads as it did. -/
def arrangePlaysUptoRow : OpenClaim := { program := "ytjchlfblbmiceaagreat", sum := "fbff71520cb9e072893a89f4617c3c82e33b0442b26327080aa3f3ace189aa19", func := "freshet/freshetlaw13.ArrangePlays", spec := "arrangePlays", inPlace := ["internal/bytealg.abigen_runtime_cmpstring", "math/bits.Add64", "math/bits.Sub64"], unfollowed := true, recurses := true, apart := false, narrowed := true }
def ArrangePlaysUptoSaid : Prop := arrangePlaysUptoRow.holds Tryz.pinned (OpenSpec.upto arrangePlaysSpec)

end Rows
end Go.Proofs.YtjchlfblbmiceaaGreat
