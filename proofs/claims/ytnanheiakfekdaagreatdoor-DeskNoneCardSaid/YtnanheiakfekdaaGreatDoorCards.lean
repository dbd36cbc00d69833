/-
  DERIVED. GIVEN WITH THE SEED: THE CARDS: each row of YtnanheiakfekdaaGreatDoorRows.lean that lists a variable, with what it lists TIED to the program's text (the seventh form; the later family's looks); each row that meets fmt, with fmt's text TOLD by the authors' own Lean function (tested against real Go, not proved from fmt's source: count such statements apart). THE CARD IS WHAT COUNTS. Prove the row's statement (the work); the ties are given (YtnanheiakfekdaaGreatDoorTie.lean); close each card by the builder's one call (the guide's Derived/Test/ToyasCard.lean, 'card_holds'). Laid BY PROGRAM, IN A SANDBOX (cutbox-door.mjs). By AI agents, Wed Nov 11 2026. No macro, syntax, notation, axiom, sorry.
-/
import Derived.Test.YtnanheiakfekdaaGreatDoorRows
import GoSem.ClaimSeven
namespace Go.Proofs.YtnanheiakfekdaaGreatDoor
namespace Rows

/-- THE TIED CARD OF 'waysidelaw28.DeskGrows'. -/
def deskGrowsCard : Claim7 := { stood := { row := deskGrowsRow, standIns := [], harness := (true, "b0dced846b3b3a43fa766eea3dc368acb4278f8c5c550bf406976ed2125d2229"), looks := true }, kinds := [], alts := [], laidByText := true, laidKinds := [.data, .data, .data, .data, .sentinel, .sentinel, .pinned], laidTests := true, laidLooks := .later }
def DeskGrowsCardSaid : Prop := Claim7.holds Tryz.pinned (.plain (OpenSpec.ofChange deskGrowsSpec)) deskGrowsCard

/-- THE TIED CARD OF 'waysidelaw28.DeskLines'. -/
def deskLinesCard : Claim7 := { stood := { row := deskLinesRow, standIns := [], harness := (true, "b0dced846b3b3a43fa766eea3dc368acb4278f8c5c550bf406976ed2125d2229"), looks := true }, kinds := [], alts := [], laidByText := true, laidKinds := [.data, .data, .data, .data, .sentinel, .sentinel, .pinned], laidTests := true, laidLooks := .later }
def DeskLinesCardSaid : Prop := Claim7.holds Tryz.pinned (.plain (OpenSpec.ofChange deskLinesSpec)) deskLinesCard

/-- THE TIED CARD OF 'waysidelaw28.DeskPicks'. -/
def deskPicksCard : Claim7 := { stood := { row := deskPicksRow, standIns := [], harness := (true, "b0dced846b3b3a43fa766eea3dc368acb4278f8c5c550bf406976ed2125d2229"), looks := true }, kinds := [], alts := [], laidByText := true, laidKinds := [.data, .data, .data, .data, .sentinel, .sentinel, .pinned], laidTests := true, laidLooks := .later }
def DeskPicksCardSaid : Prop := Claim7.holds Tryz.pinned (.plain (OpenSpec.ofChange deskPicksSpec)) deskPicksCard

/-- THE TIED CARD OF 'waysidelaw28.DeskNone'. -/
def deskNoneCard : Claim7 := { stood := { row := deskNoneRow, standIns := [], harness := (true, "b0dced846b3b3a43fa766eea3dc368acb4278f8c5c550bf406976ed2125d2229"), looks := true }, kinds := [], alts := [], laidByText := true, laidKinds := [.data, .data, .data, .data, .sentinel, .sentinel, .pinned], laidTests := true, laidLooks := .later }
def DeskNoneCardSaid : Prop := Claim7.holds Tryz.pinned (.plain (OpenSpec.ofChange deskNoneSpec)) deskNoneCard

/-- THE SECOND FORM's CARD OF 'waysidelaw28.DeskGrows'. -/
def deskGrowsUptoCard : Claim7 := { stood := { row := deskGrowsUptoRow, standIns := [], harness := (true, "b0dced846b3b3a43fa766eea3dc368acb4278f8c5c550bf406976ed2125d2229"), looks := true }, kinds := [], alts := [], laidByText := true, laidKinds := [.data, .data, .data, .data, .sentinel, .sentinel, .pinned], laidTests := true, laidLooks := .later }
def DeskGrowsUptoCardSaid : Prop := Claim7.holds Tryz.pinned (.plain (OpenSpec.upto deskGrowsSpec)) deskGrowsUptoCard

/-- THE SECOND FORM's CARD OF 'waysidelaw28.DeskLines'. -/
def deskLinesUptoCard : Claim7 := { stood := { row := deskLinesUptoRow, standIns := [], harness := (true, "b0dced846b3b3a43fa766eea3dc368acb4278f8c5c550bf406976ed2125d2229"), looks := true }, kinds := [], alts := [], laidByText := true, laidKinds := [.data, .data, .data, .data, .sentinel, .sentinel, .pinned], laidTests := true, laidLooks := .later }
def DeskLinesUptoCardSaid : Prop := Claim7.holds Tryz.pinned (.plain (OpenSpec.upto deskLinesSpec)) deskLinesUptoCard

/-- THE SECOND FORM's CARD OF 'waysidelaw28.DeskPicks'. -/
def deskPicksUptoCard : Claim7 := { stood := { row := deskPicksUptoRow, standIns := [], harness := (true, "b0dced846b3b3a43fa766eea3dc368acb4278f8c5c550bf406976ed2125d2229"), looks := true }, kinds := [], alts := [], laidByText := true, laidKinds := [.data, .data, .data, .data, .sentinel, .sentinel, .pinned], laidTests := true, laidLooks := .later }
def DeskPicksUptoCardSaid : Prop := Claim7.holds Tryz.pinned (.plain (OpenSpec.upto deskPicksSpec)) deskPicksUptoCard

/-- THE SECOND FORM's CARD OF 'waysidelaw28.DeskNone'. -/
def deskNoneUptoCard : Claim7 := { stood := { row := deskNoneUptoRow, standIns := [], harness := (true, "b0dced846b3b3a43fa766eea3dc368acb4278f8c5c550bf406976ed2125d2229"), looks := true }, kinds := [], alts := [], laidByText := true, laidKinds := [.data, .data, .data, .data, .sentinel, .sentinel, .pinned], laidTests := true, laidLooks := .later }
def DeskNoneUptoCardSaid : Prop := Claim7.holds Tryz.pinned (.plain (OpenSpec.upto deskNoneSpec)) deskNoneUptoCard
end Rows
end Go.Proofs.YtnanheiakfekdaaGreatDoor
