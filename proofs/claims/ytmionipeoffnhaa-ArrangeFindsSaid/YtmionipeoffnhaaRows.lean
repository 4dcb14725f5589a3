/-
  No cell of these rows narrows 'for every input' (looked for: loops, veiled, ifaces, maps, wideKeys, modest, calm, conditions, laid).
  DERIVED. THE GIVEN ROWS OF THIS SEAT. 11 by the template 'for every input the law returns true; each argument reads behind the call as it read before'; 0 by the template 'total and deterministic' (their statements: YtmionipeoffnhaaTotals.lean).
  GIVEN WITH THE SEED: the statements are not yours to turn. If you find one false, say at which input.
  Laid BY PROGRAM, IN A SANDBOX (cutbox-rows.mjs): the forced cells as the released guide's own fill.sh prints them over the translation 6fbce445a815c956… (all of the seat's roots in one cut). By AI agents, Wed Nov 11 2026. No macro, syntax, notation, axiom, sorry.
-/
import Derived.Test.YtmionipeoffnhaaChecked
import GoSem.Claim
import GoSem.ClaimJoined
import GoSem.ClaimMapViews
import Derived.JoinedTies
import Derived.KernelRfl
namespace Go.Proofs.Ytmionipeoffnhaa
/- THE CELL 'sum', in the pinned program and in every row, IS THE sha256 OF THE DUMP (.gsa) THAT YtmionipeoffnhaaProg.lean LOADS. Nothing in Lean hashes anything: it is a label: what it is worth is what the hold of that sum in a sandbox is worth. -/
noncomputable def Try.pinned : Pinned := { name := "ytmionipeoffnhaa", sum := "6fbce445a815c956e2ed0b2c01cbb66f193b4cfb84bff6bb48f175e7372704e4", checked := Try.checked }
namespace Rows
def none {H : Type} : Left H := { results := [], args := [] }

/-- 'freshetlaw03.ZsetOwn': WHATEVER THE INPUT: true; the input reads as it did. -/
def zsetOwnSpec : ChangeSpec := { name := "zsetOwn", fn := fun _ => fun
  | [d] => { results := [.lit (.bool true)], args := [d] }
  | _ => none }
def zsetOwnRow : OpenClaim := { program := "ytmionipeoffnhaa", sum := "6fbce445a815c956e2ed0b2c01cbb66f193b4cfb84bff6bb48f175e7372704e4", func := "freshet/freshetlaw03.ZsetOwn", spec := "zsetOwn", inPlace := ["internal/bytealg.abigen_runtime_cmpstring", "math/bits.Add64", "math/bits.Sub64"], unfollowed := true, recurses := true, apart := false }
def ZsetOwnSaid : Prop := zsetOwnRow.holds Try.pinned (OpenSpec.ofChange zsetOwnSpec)

/-- ITS FALSE NEIGHBOUR: 'it returns false'. Refute it at one input. -/
def zsetOwnWrong : ChangeSpec := { name := "zsetOwn", fn := fun _ => fun
  | [d] => { results := [.lit (.bool false)], args := [d] }
  | _ => none }
def ZsetOwnWrongFalsely : Prop := zsetOwnRow.holds Try.pinned (OpenSpec.ofChange zsetOwnWrong)

/-- 'freshetlaw03.ZsetGroup': WHATEVER THE INPUT: true; the input reads as it did. -/
def zsetGroupSpec : ChangeSpec := { name := "zsetGroup", fn := fun _ => fun
  | [d1, d2] => { results := [.lit (.bool true)], args := [d1, d2] }
  | _ => none }
def zsetGroupRow : OpenClaim := { program := "ytmionipeoffnhaa", sum := "6fbce445a815c956e2ed0b2c01cbb66f193b4cfb84bff6bb48f175e7372704e4", func := "freshet/freshetlaw03.ZsetGroup", spec := "zsetGroup", inPlace := ["internal/bytealg.abigen_runtime_cmpstring", "math/bits.Add64", "math/bits.Sub64"], unfollowed := true, recurses := true, apart := false }
def ZsetGroupSaid : Prop := zsetGroupRow.holds Try.pinned (OpenSpec.ofChange zsetGroupSpec)

/-- ITS FALSE NEIGHBOUR: 'it returns false'. Refute it at one input. -/
def zsetGroupWrong : ChangeSpec := { name := "zsetGroup", fn := fun _ => fun
  | [d1, d2] => { results := [.lit (.bool false)], args := [d1, d2] }
  | _ => none }
def ZsetGroupWrongFalsely : Prop := zsetGroupRow.holds Try.pinned (OpenSpec.ofChange zsetGroupWrong)

/-- 'freshetlaw03.ZsetOrder': WHATEVER THE INPUT: true; the input reads as it did. -/
def zsetOrderSpec : ChangeSpec := { name := "zsetOrder", fn := fun _ => fun
  | [d1, d2] => { results := [.lit (.bool true)], args := [d1, d2] }
  | _ => none }
def zsetOrderRow : OpenClaim := { program := "ytmionipeoffnhaa", sum := "6fbce445a815c956e2ed0b2c01cbb66f193b4cfb84bff6bb48f175e7372704e4", func := "freshet/freshetlaw03.ZsetOrder", spec := "zsetOrder", inPlace := ["internal/bytealg.abigen_runtime_cmpstring", "math/bits.Add64", "math/bits.Sub64"], unfollowed := true, recurses := true, apart := false }
def ZsetOrderSaid : Prop := zsetOrderRow.holds Try.pinned (OpenSpec.ofChange zsetOrderSpec)

/-- ITS FALSE NEIGHBOUR: 'it returns false'. Refute it at one input. -/
def zsetOrderWrong : ChangeSpec := { name := "zsetOrder", fn := fun _ => fun
  | [d1, d2] => { results := [.lit (.bool false)], args := [d1, d2] }
  | _ => none }
def ZsetOrderWrongFalsely : Prop := zsetOrderRow.holds Try.pinned (OpenSpec.ofChange zsetOrderWrong)

/-- 'freshetlaw03.ZsetSettles': WHATEVER THE INPUT: true; the input reads as it did. -/
def zsetSettlesSpec : ChangeSpec := { name := "zsetSettles", fn := fun _ => fun
  | [d1, d2] => { results := [.lit (.bool true)], args := [d1, d2] }
  | _ => none }
def zsetSettlesRow : OpenClaim := { program := "ytmionipeoffnhaa", sum := "6fbce445a815c956e2ed0b2c01cbb66f193b4cfb84bff6bb48f175e7372704e4", func := "freshet/freshetlaw03.ZsetSettles", spec := "zsetSettles", inPlace := ["internal/bytealg.abigen_runtime_cmpstring", "math/bits.Add64", "math/bits.Sub64"], unfollowed := true, recurses := true, apart := false }
def ZsetSettlesSaid : Prop := zsetSettlesRow.holds Try.pinned (OpenSpec.ofChange zsetSettlesSpec)

/-- ITS FALSE NEIGHBOUR: 'it returns false'. Refute it at one input. -/
def zsetSettlesWrong : ChangeSpec := { name := "zsetSettles", fn := fun _ => fun
  | [d1, d2] => { results := [.lit (.bool false)], args := [d1, d2] }
  | _ => none }
def ZsetSettlesWrongFalsely : Prop := zsetSettlesRow.holds Try.pinned (OpenSpec.ofChange zsetSettlesWrong)

/-- 'freshetlaw03.ZsetTimes': WHATEVER THE INPUT: true; the input reads as it did. -/
def zsetTimesSpec : ChangeSpec := { name := "zsetTimes", fn := fun _ => fun
  | [d1, d2, d3] => { results := [.lit (.bool true)], args := [d1, d2, d3] }
  | _ => none }
def zsetTimesRow : OpenClaim := { program := "ytmionipeoffnhaa", sum := "6fbce445a815c956e2ed0b2c01cbb66f193b4cfb84bff6bb48f175e7372704e4", func := "freshet/freshetlaw03.ZsetTimes", spec := "zsetTimes", inPlace := ["internal/bytealg.abigen_runtime_cmpstring", "math/bits.Add64", "math/bits.Sub64"], unfollowed := true, recurses := true, apart := false }
def ZsetTimesSaid : Prop := zsetTimesRow.holds Try.pinned (OpenSpec.ofChange zsetTimesSpec)

/-- ITS FALSE NEIGHBOUR: 'it returns false'. Refute it at one input. -/
def zsetTimesWrong : ChangeSpec := { name := "zsetTimes", fn := fun _ => fun
  | [d1, d2, d3] => { results := [.lit (.bool false)], args := [d1, d2, d3] }
  | _ => none }
def ZsetTimesWrongFalsely : Prop := zsetTimesRow.holds Try.pinned (OpenSpec.ofChange zsetTimesWrong)

/-- 'freshetlaw03.ZsetTidies': WHATEVER THE INPUT: true; the input reads as it did. -/
def zsetTidiesSpec : ChangeSpec := { name := "zsetTidies", fn := fun _ => fun
  | [d] => { results := [.lit (.bool true)], args := [d] }
  | _ => none }
def zsetTidiesRow : OpenClaim := { program := "ytmionipeoffnhaa", sum := "6fbce445a815c956e2ed0b2c01cbb66f193b4cfb84bff6bb48f175e7372704e4", func := "freshet/freshetlaw03.ZsetTidies", spec := "zsetTidies", inPlace := ["internal/bytealg.abigen_runtime_cmpstring", "math/bits.Add64", "math/bits.Sub64"], unfollowed := true, recurses := true, apart := false }
def ZsetTidiesSaid : Prop := zsetTidiesRow.holds Try.pinned (OpenSpec.ofChange zsetTidiesSpec)

/-- ITS FALSE NEIGHBOUR: 'it returns false'. Refute it at one input. -/
def zsetTidiesWrong : ChangeSpec := { name := "zsetTidies", fn := fun _ => fun
  | [d] => { results := [.lit (.bool false)], args := [d] }
  | _ => none }
def ZsetTidiesWrongFalsely : Prop := zsetTidiesRow.holds Try.pinned (OpenSpec.ofChange zsetTidiesWrong)

/-- 'freshetlaw03.ZsetSplits': WHATEVER THE INPUT: true; the input reads as it did. -/
def zsetSplitsSpec : ChangeSpec := { name := "zsetSplits", fn := fun _ => fun
  | [d] => { results := [.lit (.bool true)], args := [d] }
  | _ => none }
def zsetSplitsRow : OpenClaim := { program := "ytmionipeoffnhaa", sum := "6fbce445a815c956e2ed0b2c01cbb66f193b4cfb84bff6bb48f175e7372704e4", func := "freshet/freshetlaw03.ZsetSplits", spec := "zsetSplits", inPlace := ["internal/bytealg.abigen_runtime_cmpstring", "math/bits.Add64", "math/bits.Sub64"], unfollowed := true, recurses := true, apart := false }
def ZsetSplitsSaid : Prop := zsetSplitsRow.holds Try.pinned (OpenSpec.ofChange zsetSplitsSpec)

/-- ITS FALSE NEIGHBOUR: 'it returns false'. Refute it at one input. -/
def zsetSplitsWrong : ChangeSpec := { name := "zsetSplits", fn := fun _ => fun
  | [d] => { results := [.lit (.bool false)], args := [d] }
  | _ => none }
def ZsetSplitsWrongFalsely : Prop := zsetSplitsRow.holds Try.pinned (OpenSpec.ofChange zsetSplitsWrong)

/-- 'freshetlaw13.ArrangeShape': WHATEVER THE INPUT: true; the input reads as it did. -/
def arrangeShapeSpec : ChangeSpec := { name := "arrangeShape", fn := fun _ => fun
  | [d1, d2] => { results := [.lit (.bool true)], args := [d1, d2] }
  | _ => none }
def arrangeShapeRow : OpenClaim := { program := "ytmionipeoffnhaa", sum := "6fbce445a815c956e2ed0b2c01cbb66f193b4cfb84bff6bb48f175e7372704e4", func := "freshet/freshetlaw13.ArrangeShape", spec := "arrangeShape", inPlace := ["internal/bytealg.abigen_runtime_cmpstring", "math/bits.Add64", "math/bits.Sub64"], unfollowed := true, recurses := true, apart := false }
def ArrangeShapeSaid : Prop := arrangeShapeRow.holds Try.pinned (OpenSpec.ofChange arrangeShapeSpec)

/-- ITS FALSE NEIGHBOUR: 'it returns false'. Refute it at one input. -/
def arrangeShapeWrong : ChangeSpec := { name := "arrangeShape", fn := fun _ => fun
  | [d1, d2] => { results := [.lit (.bool false)], args := [d1, d2] }
  | _ => none }
def ArrangeShapeWrongFalsely : Prop := arrangeShapeRow.holds Try.pinned (OpenSpec.ofChange arrangeShapeWrong)

/-- 'freshetlaw13.ArrangeLazy': WHATEVER THE INPUT: true; the input reads as it did. -/
def arrangeLazySpec : ChangeSpec := { name := "arrangeLazy", fn := fun _ => fun
  | [d1, d2, d3] => { results := [.lit (.bool true)], args := [d1, d2, d3] }
  | _ => none }
def arrangeLazyRow : OpenClaim := { program := "ytmionipeoffnhaa", sum := "6fbce445a815c956e2ed0b2c01cbb66f193b4cfb84bff6bb48f175e7372704e4", func := "freshet/freshetlaw13.ArrangeLazy", spec := "arrangeLazy", inPlace := ["internal/bytealg.abigen_runtime_cmpstring", "math/bits.Add64", "math/bits.Sub64"], unfollowed := true, recurses := true, apart := false }
def ArrangeLazySaid : Prop := arrangeLazyRow.holds Try.pinned (OpenSpec.ofChange arrangeLazySpec)

/-- ITS FALSE NEIGHBOUR: 'it returns false'. Refute it at one input. -/
def arrangeLazyWrong : ChangeSpec := { name := "arrangeLazy", fn := fun _ => fun
  | [d1, d2, d3] => { results := [.lit (.bool false)], args := [d1, d2, d3] }
  | _ => none }
def ArrangeLazyWrongFalsely : Prop := arrangeLazyRow.holds Try.pinned (OpenSpec.ofChange arrangeLazyWrong)

/-- 'freshetlaw13.ArrangeTwins': WHATEVER THE INPUT: true; the input reads as it did. -/
def arrangeTwinsSpec : ChangeSpec := { name := "arrangeTwins", fn := fun _ => fun
  | [d1, d2, d3, d4] => { results := [.lit (.bool true)], args := [d1, d2, d3, d4] }
  | _ => none }
def arrangeTwinsRow : OpenClaim := { program := "ytmionipeoffnhaa", sum := "6fbce445a815c956e2ed0b2c01cbb66f193b4cfb84bff6bb48f175e7372704e4", func := "freshet/freshetlaw13.ArrangeTwins", spec := "arrangeTwins", inPlace := ["internal/bytealg.abigen_runtime_cmpstring", "math/bits.Add64", "math/bits.Sub64"], unfollowed := true, recurses := true, apart := false }
def ArrangeTwinsSaid : Prop := arrangeTwinsRow.holds Try.pinned (OpenSpec.ofChange arrangeTwinsSpec)

/-- ITS FALSE NEIGHBOUR: 'it returns false'. Refute it at one input. -/
def arrangeTwinsWrong : ChangeSpec := { name := "arrangeTwins", fn := fun _ => fun
  | [d1, d2, d3, d4] => { results := [.lit (.bool false)], args := [d1, d2, d3, d4] }
  | _ => none }
def ArrangeTwinsWrongFalsely : Prop := arrangeTwinsRow.holds Try.pinned (OpenSpec.ofChange arrangeTwinsWrong)

/-- 'freshetlaw13.ArrangeFinds': WHATEVER THE INPUT: true; the input reads as it did. -/
def arrangeFindsSpec : ChangeSpec := { name := "arrangeFinds", fn := fun _ => fun
  | [d1, d2, d3] => { results := [.lit (.bool true)], args := [d1, d2, d3] }
  | _ => none }
def arrangeFindsRow : OpenClaim := { program := "ytmionipeoffnhaa", sum := "6fbce445a815c956e2ed0b2c01cbb66f193b4cfb84bff6bb48f175e7372704e4", func := "freshet/freshetlaw13.ArrangeFinds", spec := "arrangeFinds", inPlace := ["internal/bytealg.abigen_runtime_cmpstring", "math/bits.Add64", "math/bits.Sub64"], unfollowed := true, recurses := true, apart := false }
def ArrangeFindsSaid : Prop := arrangeFindsRow.holds Try.pinned (OpenSpec.ofChange arrangeFindsSpec)

/-- ITS FALSE NEIGHBOUR: 'it returns false'. Refute it at one input. -/
def arrangeFindsWrong : ChangeSpec := { name := "arrangeFinds", fn := fun _ => fun
  | [d1, d2, d3] => { results := [.lit (.bool false)], args := [d1, d2, d3] }
  | _ => none }
def ArrangeFindsWrongFalsely : Prop := arrangeFindsRow.holds Try.pinned (OpenSpec.ofChange arrangeFindsWrong)

/- THE SECOND FORM. 'bulk': how many values and letters a reading holds, each counted each time it is reached (what is shared counts as often as it is met; a slice's spare places count too). A statement '..UptoSaid' is the law's where the arguments, and the package variables that the reading takes, are together of bulk at most 1048576: NARROWER than '..Said'. Prove '..Said' where nothing that the law and all that it calls make is longer than what came in: it says more and counts as full. Else prove '..UptoSaid'. A law counts once. -/
mutual
def uptoBulk {H : Type} : DataW H → Nat
  | .lit (.string bytes) => bytes.length + 1
  | .lit _ => 1
  | .nil => 1
  | .ptr d => uptoBulk d + 1
  | .slice elems spare => uptoBulkAll elems + uptoBulkAll spare + 1
  | .agg parts => uptoBulkAll parts + 1
  | .iface _ d => uptoBulk d + 1
  | .map entries => uptoBulkEntries entries + 1
  | .held _ => 1
def uptoBulkAll {H : Type} : List (DataW H) → Nat
  | [] => 0
  | d :: r => uptoBulk d + uptoBulkAll r
def uptoBulkEntries {H : Type} : List (Lit × DataW H) → Nat
  | [] => 0
  | x :: r => uptoBulkEntry x + uptoBulkEntries r
def uptoBulkEntry {H : Type} : Lit × DataW H → Nat
  | (.string bytes, d) => bytes.length + uptoBulk d + 1
  | (_, d) => uptoBulk d + 1
 end
def uptoSmall : (H : Type) → List (DataW H) → Bool := fun _ ds => decide (uptoBulkAll ds ≤ 1048576)
def OpenSpec.upto (s : _root_.Go.ChangeSpec) : _root_.Go.OpenSpec := { _root_.Go.OpenSpec.ofChange s with cond := some uptoSmall }

/-- 'freshetlaw03.ZsetOwn', WHERE WHAT IT READS IS OF BULK AT MOST 1048576: true; the input reads as it did. -/
def zsetOwnUptoRow : OpenClaim := { program := "ytmionipeoffnhaa", sum := "6fbce445a815c956e2ed0b2c01cbb66f193b4cfb84bff6bb48f175e7372704e4", func := "freshet/freshetlaw03.ZsetOwn", spec := "zsetOwn", inPlace := ["internal/bytealg.abigen_runtime_cmpstring", "math/bits.Add64", "math/bits.Sub64"], unfollowed := true, recurses := true, apart := false, narrowed := true }
def ZsetOwnUptoSaid : Prop := zsetOwnUptoRow.holds Try.pinned (OpenSpec.upto zsetOwnSpec)

/-- 'freshetlaw03.ZsetGroup', WHERE WHAT IT READS IS OF BULK AT MOST 1048576: true; the input reads as it did. -/
def zsetGroupUptoRow : OpenClaim := { program := "ytmionipeoffnhaa", sum := "6fbce445a815c956e2ed0b2c01cbb66f193b4cfb84bff6bb48f175e7372704e4", func := "freshet/freshetlaw03.ZsetGroup", spec := "zsetGroup", inPlace := ["internal/bytealg.abigen_runtime_cmpstring", "math/bits.Add64", "math/bits.Sub64"], unfollowed := true, recurses := true, apart := false, narrowed := true }
def ZsetGroupUptoSaid : Prop := zsetGroupUptoRow.holds Try.pinned (OpenSpec.upto zsetGroupSpec)

/-- 'freshetlaw03.ZsetOrder', WHERE WHAT IT READS IS OF BULK AT MOST 1048576: true; the input reads as it did. -/
def zsetOrderUptoRow : OpenClaim := { program := "ytmionipeoffnhaa", sum := "6fbce445a815c956e2ed0b2c01cbb66f193b4cfb84bff6bb48f175e7372704e4", func := "freshet/freshetlaw03.ZsetOrder", spec := "zsetOrder", inPlace := ["internal/bytealg.abigen_runtime_cmpstring", "math/bits.Add64", "math/bits.Sub64"], unfollowed := true, recurses := true, apart := false, narrowed := true }
def ZsetOrderUptoSaid : Prop := zsetOrderUptoRow.holds Try.pinned (OpenSpec.upto zsetOrderSpec)

/-- 'freshetlaw03.ZsetSettles', WHERE WHAT IT READS IS OF BULK AT MOST 1048576: true; the input reads as it did. -/
def zsetSettlesUptoRow : OpenClaim := { program := "ytmionipeoffnhaa", sum := "6fbce445a815c956e2ed0b2c01cbb66f193b4cfb84bff6bb48f175e7372704e4", func := "freshet/freshetlaw03.ZsetSettles", spec := "zsetSettles", inPlace := ["internal/bytealg.abigen_runtime_cmpstring", "math/bits.Add64", "math/bits.Sub64"], unfollowed := true, recurses := true, apart := false, narrowed := true }
def ZsetSettlesUptoSaid : Prop := zsetSettlesUptoRow.holds Try.pinned (OpenSpec.upto zsetSettlesSpec)

/-- 'freshetlaw03.ZsetTimes', WHERE WHAT IT READS IS OF BULK AT MOST 1048576: true; the input reads as it did. -/
def zsetTimesUptoRow : OpenClaim := { program := "ytmionipeoffnhaa", sum := "6fbce445a815c956e2ed0b2c01cbb66f193b4cfb84bff6bb48f175e7372704e4", func := "freshet/freshetlaw03.ZsetTimes", spec := "zsetTimes", inPlace := ["internal/bytealg.abigen_runtime_cmpstring", "math/bits.Add64", "math/bits.Sub64"], unfollowed := true, recurses := true, apart := false, narrowed := true }
def ZsetTimesUptoSaid : Prop := zsetTimesUptoRow.holds Try.pinned (OpenSpec.upto zsetTimesSpec)

/-- 'freshetlaw03.ZsetTidies', WHERE WHAT IT READS IS OF BULK AT MOST 1048576: true; the input reads as it did. -/
def zsetTidiesUptoRow : OpenClaim := { program := "ytmionipeoffnhaa", sum := "6fbce445a815c956e2ed0b2c01cbb66f193b4cfb84bff6bb48f175e7372704e4", func := "freshet/freshetlaw03.ZsetTidies", spec := "zsetTidies", inPlace := ["internal/bytealg.abigen_runtime_cmpstring", "math/bits.Add64", "math/bits.Sub64"], unfollowed := true, recurses := true, apart := false, narrowed := true }
def ZsetTidiesUptoSaid : Prop := zsetTidiesUptoRow.holds Try.pinned (OpenSpec.upto zsetTidiesSpec)

/-- 'freshetlaw03.ZsetSplits', WHERE WHAT IT READS IS OF BULK AT MOST 1048576: true; the input reads as it did. -/
def zsetSplitsUptoRow : OpenClaim := { program := "ytmionipeoffnhaa", sum := "6fbce445a815c956e2ed0b2c01cbb66f193b4cfb84bff6bb48f175e7372704e4", func := "freshet/freshetlaw03.ZsetSplits", spec := "zsetSplits", inPlace := ["internal/bytealg.abigen_runtime_cmpstring", "math/bits.Add64", "math/bits.Sub64"], unfollowed := true, recurses := true, apart := false, narrowed := true }
def ZsetSplitsUptoSaid : Prop := zsetSplitsUptoRow.holds Try.pinned (OpenSpec.upto zsetSplitsSpec)

/-- 'freshetlaw13.ArrangeShape', WHERE WHAT IT READS IS OF BULK AT MOST 1048576: true; the input reads as it did. -/
def arrangeShapeUptoRow : OpenClaim := { program := "ytmionipeoffnhaa", sum := "6fbce445a815c956e2ed0b2c01cbb66f193b4cfb84bff6bb48f175e7372704e4", func := "freshet/freshetlaw13.ArrangeShape", spec := "arrangeShape", inPlace := ["internal/bytealg.abigen_runtime_cmpstring", "math/bits.Add64", "math/bits.Sub64"], unfollowed := true, recurses := true, apart := false, narrowed := true }
def ArrangeShapeUptoSaid : Prop := arrangeShapeUptoRow.holds Try.pinned (OpenSpec.upto arrangeShapeSpec)

/-- 'freshetlaw13.ArrangeLazy', WHERE WHAT IT READS IS OF BULK AT MOST 1048576: true; the input reads as it did. -/
def arrangeLazyUptoRow : OpenClaim := { program := "ytmionipeoffnhaa", sum := "6fbce445a815c956e2ed0b2c01cbb66f193b4cfb84bff6bb48f175e7372704e4", func := "freshet/freshetlaw13.ArrangeLazy", spec := "arrangeLazy", inPlace := ["internal/bytealg.abigen_runtime_cmpstring", "math/bits.Add64", "math/bits.Sub64"], unfollowed := true, recurses := true, apart := false, narrowed := true }
def ArrangeLazyUptoSaid : Prop := arrangeLazyUptoRow.holds Try.pinned (OpenSpec.upto arrangeLazySpec)

/-- 'freshetlaw13.ArrangeTwins', WHERE WHAT IT READS IS OF BULK AT MOST 1048576: true; the input reads as it did. -/
def arrangeTwinsUptoRow : OpenClaim := { program := "ytmionipeoffnhaa", sum := "6fbce445a815c956e2ed0b2c01cbb66f193b4cfb84bff6bb48f175e7372704e4", func := "freshet/freshetlaw13.ArrangeTwins", spec := "arrangeTwins", inPlace := ["internal/bytealg.abigen_runtime_cmpstring", "math/bits.Add64", "math/bits.Sub64"], unfollowed := true, recurses := true, apart := false, narrowed := true }
def ArrangeTwinsUptoSaid : Prop := arrangeTwinsUptoRow.holds Try.pinned (OpenSpec.upto arrangeTwinsSpec)

/-- 'freshetlaw13.ArrangeFinds', WHERE WHAT IT READS IS OF BULK AT MOST 1048576: true; the input reads as it did. -/
def arrangeFindsUptoRow : OpenClaim := { program := "ytmionipeoffnhaa", sum := "6fbce445a815c956e2ed0b2c01cbb66f193b4cfb84bff6bb48f175e7372704e4", func := "freshet/freshetlaw13.ArrangeFinds", spec := "arrangeFinds", inPlace := ["internal/bytealg.abigen_runtime_cmpstring", "math/bits.Add64", "math/bits.Sub64"], unfollowed := true, recurses := true, apart := false, narrowed := true }
def ArrangeFindsUptoSaid : Prop := arrangeFindsUptoRow.holds Try.pinned (OpenSpec.upto arrangeFindsSpec)

end Rows
end Go.Proofs.Ytmionipeoffnhaa
