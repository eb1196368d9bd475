/-
  DERIVED. GIVEN WITH THE SEED: THE CARDS: each row of YtfgfalidpbbkhaaDoorRows.lean that lists a variable, with what it lists TIED to the program's text (the seventh form; the later family's looks); each row that meets fmt, with fmt's text TOLD by the authors' own Lean function (tested against real Go, not proved from fmt's source: count such statements apart). THE CARD IS WHAT COUNTS. Prove the row's statement (the work); the ties are given (YtfgfalidpbbkhaaDoorTie.lean); close each card by the builder's one call (the guide's Derived/Test/ToyasCard.lean, 'card_holds'). Laid BY PROGRAM, IN A SANDBOX (cutbox-door.mjs). By AI agents, Wed Nov 11 2026. No macro, syntax, notation, axiom, sorry.
-/
import Derived.Test.YtfgfalidpbbkhaaDoorRows
import GoSem.ClaimSeven
namespace Go.Proofs.YtfgfalidpbbkhaaDoor
namespace Rows

/-- THE TIED CARD OF 'relievolaw15.MeshDices'. -/
def meshDicesCard : Claim7 := { stood := { row := meshDicesRow, standIns := [], harness := (true, "b16a706345ec7dfde7fb487ac27c95ddd2d946e48e427e776ea1b3026783a61d"), looks := false }, kinds := [], alts := [], laidByText := true, laidKinds := [.data], laidTests := true, laidLooks := .later }
def MeshDicesCardSaid : Prop := Claim7.holds Tryd.pinned (.plain (OpenSpec.ofChange meshDicesSpec)) meshDicesCard

/-- THE TIED CARD OF 'relievolaw15.MeshSmooth'. -/
def meshSmoothCard : Claim7 := { stood := { row := meshSmoothRow, standIns := [], harness := (true, "b16a706345ec7dfde7fb487ac27c95ddd2d946e48e427e776ea1b3026783a61d"), looks := false }, kinds := [], alts := [], laidByText := true, laidKinds := [.data], laidTests := true, laidLooks := .later }
def MeshSmoothCardSaid : Prop := Claim7.holds Tryd.pinned (.plain (OpenSpec.ofChange meshSmoothSpec)) meshSmoothCard

/-- THE TIED CARD OF 'relievolaw15.MeshNear'. -/
def meshNearCard : Claim7 := { stood := { row := meshNearRow, standIns := [], harness := (true, "b16a706345ec7dfde7fb487ac27c95ddd2d946e48e427e776ea1b3026783a61d"), looks := false }, kinds := [], alts := [], laidByText := true, laidKinds := [.data], laidTests := true, laidLooks := .later }
def MeshNearCardSaid : Prop := Claim7.holds Tryd.pinned (.plain (OpenSpec.ofChange meshNearSpec)) meshNearCard

/-- THE TIED CARD OF 'relievolaw15.MeshCounts'. -/
def meshCountsCard : Claim7 := { stood := { row := meshCountsRow, standIns := [], harness := (true, "b16a706345ec7dfde7fb487ac27c95ddd2d946e48e427e776ea1b3026783a61d"), looks := false }, kinds := [], alts := [], laidByText := true, laidKinds := [.data], laidTests := true, laidLooks := .later }
def MeshCountsCardSaid : Prop := Claim7.holds Tryd.pinned (.plain (OpenSpec.ofChange meshCountsSpec)) meshCountsCard

/-- THE TIED CARD OF 'relievolaw15.MeshMoved'. -/
def meshMovedCard : Claim7 := { stood := { row := meshMovedRow, standIns := [], harness := (true, "b16a706345ec7dfde7fb487ac27c95ddd2d946e48e427e776ea1b3026783a61d"), looks := false }, kinds := [], alts := [], laidByText := true, laidKinds := [.data], laidTests := true, laidLooks := .later }
def MeshMovedCardSaid : Prop := Claim7.holds Tryd.pinned (.plain (OpenSpec.ofChange meshMovedSpec)) meshMovedCard

/-- THE TIED CARD OF 'relievolaw15.MeshWithin'. -/
def meshWithinCard : Claim7 := { stood := { row := meshWithinRow, standIns := [], harness := (true, "b16a706345ec7dfde7fb487ac27c95ddd2d946e48e427e776ea1b3026783a61d"), looks := false }, kinds := [], alts := [], laidByText := true, laidKinds := [.data], laidTests := true, laidLooks := .later }
def MeshWithinCardSaid : Prop := Claim7.holds Tryd.pinned (.plain (OpenSpec.ofChange meshWithinSpec)) meshWithinCard

/-- THE SECOND FORM's CARD OF 'relievolaw15.MeshDices'. -/
def meshDicesUptoCard : Claim7 := { stood := { row := meshDicesUptoRow, standIns := [], harness := (true, "b16a706345ec7dfde7fb487ac27c95ddd2d946e48e427e776ea1b3026783a61d"), looks := false }, kinds := [], alts := [], laidByText := true, laidKinds := [.data], laidTests := true, laidLooks := .later }
def MeshDicesUptoCardSaid : Prop := Claim7.holds Tryd.pinned (.plain (OpenSpec.upto meshDicesSpec)) meshDicesUptoCard

/-- THE SECOND FORM's CARD OF 'relievolaw15.MeshSmooth'. -/
def meshSmoothUptoCard : Claim7 := { stood := { row := meshSmoothUptoRow, standIns := [], harness := (true, "b16a706345ec7dfde7fb487ac27c95ddd2d946e48e427e776ea1b3026783a61d"), looks := false }, kinds := [], alts := [], laidByText := true, laidKinds := [.data], laidTests := true, laidLooks := .later }
def MeshSmoothUptoCardSaid : Prop := Claim7.holds Tryd.pinned (.plain (OpenSpec.upto meshSmoothSpec)) meshSmoothUptoCard

/-- THE SECOND FORM's CARD OF 'relievolaw15.MeshNear'. -/
def meshNearUptoCard : Claim7 := { stood := { row := meshNearUptoRow, standIns := [], harness := (true, "b16a706345ec7dfde7fb487ac27c95ddd2d946e48e427e776ea1b3026783a61d"), looks := false }, kinds := [], alts := [], laidByText := true, laidKinds := [.data], laidTests := true, laidLooks := .later }
def MeshNearUptoCardSaid : Prop := Claim7.holds Tryd.pinned (.plain (OpenSpec.upto meshNearSpec)) meshNearUptoCard

/-- THE SECOND FORM's CARD OF 'relievolaw15.MeshCounts'. -/
def meshCountsUptoCard : Claim7 := { stood := { row := meshCountsUptoRow, standIns := [], harness := (true, "b16a706345ec7dfde7fb487ac27c95ddd2d946e48e427e776ea1b3026783a61d"), looks := false }, kinds := [], alts := [], laidByText := true, laidKinds := [.data], laidTests := true, laidLooks := .later }
def MeshCountsUptoCardSaid : Prop := Claim7.holds Tryd.pinned (.plain (OpenSpec.upto meshCountsSpec)) meshCountsUptoCard

/-- THE SECOND FORM's CARD OF 'relievolaw15.MeshMoved'. -/
def meshMovedUptoCard : Claim7 := { stood := { row := meshMovedUptoRow, standIns := [], harness := (true, "b16a706345ec7dfde7fb487ac27c95ddd2d946e48e427e776ea1b3026783a61d"), looks := false }, kinds := [], alts := [], laidByText := true, laidKinds := [.data], laidTests := true, laidLooks := .later }
def MeshMovedUptoCardSaid : Prop := Claim7.holds Tryd.pinned (.plain (OpenSpec.upto meshMovedSpec)) meshMovedUptoCard

/-- THE SECOND FORM's CARD OF 'relievolaw15.MeshWithin'. -/
def meshWithinUptoCard : Claim7 := { stood := { row := meshWithinUptoRow, standIns := [], harness := (true, "b16a706345ec7dfde7fb487ac27c95ddd2d946e48e427e776ea1b3026783a61d"), looks := false }, kinds := [], alts := [], laidByText := true, laidKinds := [.data], laidTests := true, laidLooks := .later }
def MeshWithinUptoCardSaid : Prop := Claim7.holds Tryd.pinned (.plain (OpenSpec.upto meshWithinSpec)) meshWithinUptoCard
end Rows
end Go.Proofs.YtfgfalidpbbkhaaDoor
