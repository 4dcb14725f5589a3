/-
  DERIVED. GIVEN WITH THE SEED: THE CARDS: each row of YtgdneoajmaeckaaDoorRows.lean that lists a variable, with what it lists TIED to the program's text (the seventh form; the later family's looks); each row that meets fmt, with fmt's text TOLD by the authors' own Lean function (tested against real Go, not proved from fmt's source: count such statements apart). THE CARD IS WHAT COUNTS. Prove the row's statement (the work); the ties are given (YtgdneoajmaeckaaDoorTie.lean); close each card by the builder's one call (the guide's Derived/Test/ToyasCard.lean, 'card_holds'). Laid BY PROGRAM, IN A SANDBOX (cutbox-door.mjs). By AI agents, Wed Nov 11 2026. No macro, syntax, notation, axiom, sorry.
-/
import Derived.Test.YtgdneoajmaeckaaDoorRows
import GoSem.ClaimSeven
namespace Go.Proofs.YtgdneoajmaeckaaDoor
namespace Rows

/-- THE TIED CARD OF 'freshetlaw21.SessionCuts'. -/
def sessionCutsCard : Claim7 := { stood := { row := sessionCutsRow, standIns := [], harness := (true, "4248a82249cf94156a4b6423d859485092a8042e6ae6d462120a4d519c6b157d"), looks := true }, kinds := [], alts := [], laidByText := true, laidKinds := [.data, .pinned], laidTests := true, laidLooks := .later }
def SessionCutsCardSaid : Prop := Claim7.holds Tryd.pinned (.plain (OpenSpec.ofChange sessionCutsSpec)) sessionCutsCard

/-- THE TIED CARD OF 'freshetlaw21.SessionSays'. -/
def sessionSaysCard : Claim7 := { stood := { row := sessionSaysRow, standIns := [], harness := (true, "4248a82249cf94156a4b6423d859485092a8042e6ae6d462120a4d519c6b157d"), looks := true }, kinds := [], alts := [], laidByText := true, laidKinds := [.data, .data, .data, .data, .pinned], laidTests := true, laidLooks := .later }
def SessionSaysCardSaid : Prop := Claim7.holds Tryd.pinned (.plain (OpenSpec.ofChange sessionSaysSpec)) sessionSaysCard

/-- THE TIED CARD OF 'freshetlaw21.SessionLines'. -/
def sessionLinesCard : Claim7 := { stood := { row := sessionLinesRow, standIns := [], harness := (true, "4248a82249cf94156a4b6423d859485092a8042e6ae6d462120a4d519c6b157d"), looks := true }, kinds := [], alts := [], laidByText := true, laidKinds := [.data, .data, .data, .data, .pinned], laidTests := true, laidLooks := .later }
def SessionLinesCardSaid : Prop := Claim7.holds Tryd.pinned (.plain (OpenSpec.ofChange sessionLinesSpec)) sessionLinesCard

/-- THE TIED CARD OF 'freshetlaw21.SessionRoom'. -/
def sessionRoomCard : Claim7 := { stood := { row := sessionRoomRow, standIns := [], harness := (true, "4248a82249cf94156a4b6423d859485092a8042e6ae6d462120a4d519c6b157d"), looks := true }, kinds := [], alts := [], laidByText := true, laidKinds := [.data, .data, .data, .data, .pinned], laidTests := true, laidLooks := .later }
def SessionRoomCardSaid : Prop := Claim7.holds Tryd.pinned (.plain (OpenSpec.ofChange sessionRoomSpec)) sessionRoomCard

/-- THE SECOND FORM's CARD OF 'freshetlaw21.SessionCuts'. -/
def sessionCutsUptoCard : Claim7 := { stood := { row := sessionCutsUptoRow, standIns := [], harness := (true, "4248a82249cf94156a4b6423d859485092a8042e6ae6d462120a4d519c6b157d"), looks := true }, kinds := [], alts := [], laidByText := true, laidKinds := [.data, .pinned], laidTests := true, laidLooks := .later }
def SessionCutsUptoCardSaid : Prop := Claim7.holds Tryd.pinned (.plain (OpenSpec.upto sessionCutsSpec)) sessionCutsUptoCard

/-- THE SECOND FORM's CARD OF 'freshetlaw21.SessionSays'. -/
def sessionSaysUptoCard : Claim7 := { stood := { row := sessionSaysUptoRow, standIns := [], harness := (true, "4248a82249cf94156a4b6423d859485092a8042e6ae6d462120a4d519c6b157d"), looks := true }, kinds := [], alts := [], laidByText := true, laidKinds := [.data, .data, .data, .data, .pinned], laidTests := true, laidLooks := .later }
def SessionSaysUptoCardSaid : Prop := Claim7.holds Tryd.pinned (.plain (OpenSpec.upto sessionSaysSpec)) sessionSaysUptoCard

/-- THE SECOND FORM's CARD OF 'freshetlaw21.SessionLines'. -/
def sessionLinesUptoCard : Claim7 := { stood := { row := sessionLinesUptoRow, standIns := [], harness := (true, "4248a82249cf94156a4b6423d859485092a8042e6ae6d462120a4d519c6b157d"), looks := true }, kinds := [], alts := [], laidByText := true, laidKinds := [.data, .data, .data, .data, .pinned], laidTests := true, laidLooks := .later }
def SessionLinesUptoCardSaid : Prop := Claim7.holds Tryd.pinned (.plain (OpenSpec.upto sessionLinesSpec)) sessionLinesUptoCard

/-- THE SECOND FORM's CARD OF 'freshetlaw21.SessionRoom'. -/
def sessionRoomUptoCard : Claim7 := { stood := { row := sessionRoomUptoRow, standIns := [], harness := (true, "4248a82249cf94156a4b6423d859485092a8042e6ae6d462120a4d519c6b157d"), looks := true }, kinds := [], alts := [], laidByText := true, laidKinds := [.data, .data, .data, .data, .pinned], laidTests := true, laidLooks := .later }
def SessionRoomUptoCardSaid : Prop := Claim7.holds Tryd.pinned (.plain (OpenSpec.upto sessionRoomSpec)) sessionRoomUptoCard
end Rows
end Go.Proofs.YtgdneoajmaeckaaDoor
