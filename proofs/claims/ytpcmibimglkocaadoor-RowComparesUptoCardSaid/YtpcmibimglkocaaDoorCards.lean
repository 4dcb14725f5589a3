/-
  DERIVED. GIVEN WITH THE SEED: THE CARDS: each row of YtpcmibimglkocaaDoorRows.lean that lists a variable, with what it lists TIED to the program's text (the seventh form; the later family's looks); each row that meets fmt, with fmt's text TOLD by the authors' own Lean function (tested against real Go, not proved from fmt's source: count such statements apart). THE CARD IS WHAT COUNTS. Prove the row's statement (the work); the ties are given (YtpcmibimglkocaaDoorTie.lean); close each card by the builder's one call (the guide's Derived/Test/ToyasCard.lean, 'card_holds'). Laid BY PROGRAM, IN A SANDBOX (cutbox-door.mjs). By AI agents, Wed Nov 11 2026. No macro, syntax, notation, axiom, sorry.
-/
import Derived.Test.YtpcmibimglkocaaDoorRows
import GoSem.ClaimSeven
namespace Go.Proofs.YtpcmibimglkocaaDoor
namespace Rows

/-- THE TIED CARD OF 'freshetlaw02.RowReads'. -/
def rowReadsCard : Claim7 := { stood := { row := rowReadsRow, standIns := [], harness := (true, "4c9e7afc0247159d57dcea014d763eb6626673e07715bc6d99d5e037b76a8cf0"), looks := false }, kinds := [], alts := [], laidByText := true, laidKinds := [.data, .pinned], laidTests := true, laidLooks := .later }
def RowReadsCardSaid : Prop := Claim7.holds Tryd.pinned (.plain (OpenSpec.ofChange rowReadsSpec)) rowReadsCard

/-- THE TIED CARD OF 'freshetlaw02.RowOwn'. -/
def rowOwnCard : Claim7 := { stood := { row := rowOwnRow, standIns := [], harness := (true, "4c9e7afc0247159d57dcea014d763eb6626673e07715bc6d99d5e037b76a8cf0"), looks := false }, kinds := [], alts := [], laidByText := true, laidKinds := [.data, .pinned], laidTests := true, laidLooks := .later }
def RowOwnCardSaid : Prop := Claim7.holds Tryd.pinned (.plain (OpenSpec.ofChange rowOwnSpec)) rowOwnCard

/-- THE TIED CARD OF 'freshetlaw02.RowBytes'. -/
def rowBytesCard : Claim7 := { stood := { row := rowBytesRow, standIns := [], harness := (true, "4c9e7afc0247159d57dcea014d763eb6626673e07715bc6d99d5e037b76a8cf0"), looks := false }, kinds := [], alts := [], laidByText := true, laidKinds := [.data, .pinned], laidTests := true, laidLooks := .later }
def RowBytesCardSaid : Prop := Claim7.holds Tryd.pinned (.plain (OpenSpec.ofChange rowBytesSpec)) rowBytesCard

/-- THE TIED CARD OF 'freshetlaw02.RowParts'. -/
def rowPartsCard : Claim7 := { stood := { row := rowPartsRow, standIns := [], harness := (true, "4c9e7afc0247159d57dcea014d763eb6626673e07715bc6d99d5e037b76a8cf0"), looks := false }, kinds := [], alts := [], laidByText := true, laidKinds := [.data, .pinned], laidTests := true, laidLooks := .later }
def RowPartsCardSaid : Prop := Claim7.holds Tryd.pinned (.plain (OpenSpec.ofChange rowPartsSpec)) rowPartsCard

/-- THE TIED CARD OF 'freshetlaw02.RowOrder'. -/
def rowOrderCard : Claim7 := { stood := { row := rowOrderRow, standIns := [], harness := (true, "4c9e7afc0247159d57dcea014d763eb6626673e07715bc6d99d5e037b76a8cf0"), looks := false }, kinds := [], alts := [], laidByText := true, laidKinds := [.data, .pinned], laidTests := true, laidLooks := .later }
def RowOrderCardSaid : Prop := Claim7.holds Tryd.pinned (.plain (OpenSpec.ofChange rowOrderSpec)) rowOrderCard

/-- THE TIED CARD OF 'freshetlaw02.RowBack'. -/
def rowBackCard : Claim7 := { stood := { row := rowBackRow, standIns := [], harness := (true, "4c9e7afc0247159d57dcea014d763eb6626673e07715bc6d99d5e037b76a8cf0"), looks := false }, kinds := [], alts := [], laidByText := true, laidKinds := [.data, .pinned], laidTests := true, laidLooks := .later }
def RowBackCardSaid : Prop := Claim7.holds Tryd.pinned (.plain (OpenSpec.ofChange rowBackSpec)) rowBackCard

/-- THE TIED CARD OF 'freshetlaw02.RowCompares'. -/
def rowComparesCard : Claim7 := { stood := { row := rowComparesRow, standIns := [], harness := (true, "4c9e7afc0247159d57dcea014d763eb6626673e07715bc6d99d5e037b76a8cf0"), looks := false }, kinds := [], alts := [], laidByText := true, laidKinds := [.data, .data, .data, .data, .pinned], laidTests := true, laidLooks := .later }
def RowComparesCardSaid : Prop := Claim7.holds Tryd.pinned (.plain (OpenSpec.ofChange rowComparesSpec)) rowComparesCard

/-- THE SECOND FORM's CARD OF 'freshetlaw02.RowReads'. -/
def rowReadsUptoCard : Claim7 := { stood := { row := rowReadsUptoRow, standIns := [], harness := (true, "4c9e7afc0247159d57dcea014d763eb6626673e07715bc6d99d5e037b76a8cf0"), looks := false }, kinds := [], alts := [], laidByText := true, laidKinds := [.data, .pinned], laidTests := true, laidLooks := .later }
def RowReadsUptoCardSaid : Prop := Claim7.holds Tryd.pinned (.plain (OpenSpec.upto rowReadsSpec)) rowReadsUptoCard

/-- THE SECOND FORM's CARD OF 'freshetlaw02.RowOwn'. -/
def rowOwnUptoCard : Claim7 := { stood := { row := rowOwnUptoRow, standIns := [], harness := (true, "4c9e7afc0247159d57dcea014d763eb6626673e07715bc6d99d5e037b76a8cf0"), looks := false }, kinds := [], alts := [], laidByText := true, laidKinds := [.data, .pinned], laidTests := true, laidLooks := .later }
def RowOwnUptoCardSaid : Prop := Claim7.holds Tryd.pinned (.plain (OpenSpec.upto rowOwnSpec)) rowOwnUptoCard

/-- THE SECOND FORM's CARD OF 'freshetlaw02.RowBytes'. -/
def rowBytesUptoCard : Claim7 := { stood := { row := rowBytesUptoRow, standIns := [], harness := (true, "4c9e7afc0247159d57dcea014d763eb6626673e07715bc6d99d5e037b76a8cf0"), looks := false }, kinds := [], alts := [], laidByText := true, laidKinds := [.data, .pinned], laidTests := true, laidLooks := .later }
def RowBytesUptoCardSaid : Prop := Claim7.holds Tryd.pinned (.plain (OpenSpec.upto rowBytesSpec)) rowBytesUptoCard

/-- THE SECOND FORM's CARD OF 'freshetlaw02.RowParts'. -/
def rowPartsUptoCard : Claim7 := { stood := { row := rowPartsUptoRow, standIns := [], harness := (true, "4c9e7afc0247159d57dcea014d763eb6626673e07715bc6d99d5e037b76a8cf0"), looks := false }, kinds := [], alts := [], laidByText := true, laidKinds := [.data, .pinned], laidTests := true, laidLooks := .later }
def RowPartsUptoCardSaid : Prop := Claim7.holds Tryd.pinned (.plain (OpenSpec.upto rowPartsSpec)) rowPartsUptoCard

/-- THE SECOND FORM's CARD OF 'freshetlaw02.RowOrder'. -/
def rowOrderUptoCard : Claim7 := { stood := { row := rowOrderUptoRow, standIns := [], harness := (true, "4c9e7afc0247159d57dcea014d763eb6626673e07715bc6d99d5e037b76a8cf0"), looks := false }, kinds := [], alts := [], laidByText := true, laidKinds := [.data, .pinned], laidTests := true, laidLooks := .later }
def RowOrderUptoCardSaid : Prop := Claim7.holds Tryd.pinned (.plain (OpenSpec.upto rowOrderSpec)) rowOrderUptoCard

/-- THE SECOND FORM's CARD OF 'freshetlaw02.RowBack'. -/
def rowBackUptoCard : Claim7 := { stood := { row := rowBackUptoRow, standIns := [], harness := (true, "4c9e7afc0247159d57dcea014d763eb6626673e07715bc6d99d5e037b76a8cf0"), looks := false }, kinds := [], alts := [], laidByText := true, laidKinds := [.data, .pinned], laidTests := true, laidLooks := .later }
def RowBackUptoCardSaid : Prop := Claim7.holds Tryd.pinned (.plain (OpenSpec.upto rowBackSpec)) rowBackUptoCard

/-- THE SECOND FORM's CARD OF 'freshetlaw02.RowCompares'. -/
def rowComparesUptoCard : Claim7 := { stood := { row := rowComparesUptoRow, standIns := [], harness := (true, "4c9e7afc0247159d57dcea014d763eb6626673e07715bc6d99d5e037b76a8cf0"), looks := false }, kinds := [], alts := [], laidByText := true, laidKinds := [.data, .data, .data, .data, .pinned], laidTests := true, laidLooks := .later }
def RowComparesUptoCardSaid : Prop := Claim7.holds Tryd.pinned (.plain (OpenSpec.upto rowComparesSpec)) rowComparesUptoCard
end Rows
end Go.Proofs.YtpcmibimglkocaaDoor
