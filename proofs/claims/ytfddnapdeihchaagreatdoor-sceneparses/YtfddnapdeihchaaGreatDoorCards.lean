/-
  DERIVED. GIVEN WITH THE SEED: THE CARDS: each row of YtfddnapdeihchaaGreatDoorRows.lean that lists a variable, with what it lists TIED to the program's text (the seventh form; the later family's looks); each row that meets fmt, with fmt's text TOLD by the authors' own Lean function (tested against real Go, not proved from fmt's source: count such statements apart). THE CARD IS WHAT COUNTS. Prove the row's statement (the work); the ties are given (YtfddnapdeihchaaGreatDoorTie.lean); close each card by the builder's one call (the guide's Derived/Test/ToyasCard.lean, 'card_holds'). Laid BY PROGRAM, IN A SANDBOX (cutbox-door.mjs). By AI agents, Wed Nov 11 2026. No macro, syntax, notation, axiom, sorry.
-/
import Derived.Test.YtfddnapdeihchaaGreatDoorRows
import GoSem.ClaimSeven
namespace Go.Proofs.YtfddnapdeihchaaGreatDoor
namespace Rows

/-- THE TIED CARD OF 'relievolaw06.SceneParses'. -/
def sceneParsesCard : Claim7 := { stood := { row := sceneParsesRow, standIns := [], harness := (true, "36f64cd2183673800216604586ec6025e79b83a6921a82879a8ab25126406d98"), looks := true }, kinds := [], alts := [], laidByText := true, laidKinds := [.data, .data, .data, .data, .sentinel, .sentinel, .listed, .data, .pinned], laidTests := true, laidLooks := .later }
def SceneParsesCardSaid : Prop := Claim7.holds Tryz.pinned (.plain (OpenSpec.ofChange sceneParsesSpec)) sceneParsesCard

/-- THE TIED CARD OF 'relievolaw07.PrintShows'. -/
def printShowsCard : Claim7 := { stood := { row := printShowsRow, standIns := [], harness := (true, "36f64cd2183673800216604586ec6025e79b83a6921a82879a8ab25126406d98"), looks := true }, kinds := [], alts := [], laidByText := true, laidKinds := [.data, .data, .data, .data, .sentinel, .sentinel, .listed, .data, .pinned], laidTests := true, laidLooks := .later }
def PrintShowsCardSaid : Prop := Claim7.holds Tryz.pinned (.plain (OpenSpec.ofChange printShowsSpec)) printShowsCard

/-- THE TIED CARD OF 'relievolaw07.PrintBack'. -/
def printBackCard : Claim7 := { stood := { row := printBackRow, standIns := [], harness := (true, "36f64cd2183673800216604586ec6025e79b83a6921a82879a8ab25126406d98"), looks := true }, kinds := [], alts := [], laidByText := true, laidKinds := [.data, .data, .data, .data, .sentinel, .sentinel, .listed, .data, .pinned], laidTests := true, laidLooks := .later }
def PrintBackCardSaid : Prop := Claim7.holds Tryz.pinned (.plain (OpenSpec.ofChange printBackSpec)) printBackCard

/-- THE TIED CARD OF 'relievolaw07.PrintLines'. -/
def printLinesCard : Claim7 := { stood := { row := printLinesRow, standIns := [], harness := (true, "36f64cd2183673800216604586ec6025e79b83a6921a82879a8ab25126406d98"), looks := true }, kinds := [], alts := [], laidByText := true, laidKinds := [.data, .data, .data, .data, .sentinel, .sentinel, .listed, .data, .pinned], laidTests := true, laidLooks := .later }
def PrintLinesCardSaid : Prop := Claim7.holds Tryz.pinned (.plain (OpenSpec.ofChange printLinesSpec)) printLinesCard

/-- THE TIED CARD OF 'relievolaw07.PrintBytes'. -/
def printBytesCard : Claim7 := { stood := { row := printBytesRow, standIns := [], harness := (true, "36f64cd2183673800216604586ec6025e79b83a6921a82879a8ab25126406d98"), looks := true }, kinds := [], alts := [], laidByText := true, laidKinds := [.data, .data, .data, .data, .sentinel, .sentinel, .listed, .data, .pinned], laidTests := true, laidLooks := .later }
def PrintBytesCardSaid : Prop := Claim7.holds Tryz.pinned (.plain (OpenSpec.ofChange printBytesSpec)) printBytesCard

/-- THE SECOND FORM's CARD OF 'relievolaw06.SceneParses'. -/
def sceneParsesUptoCard : Claim7 := { stood := { row := sceneParsesUptoRow, standIns := [], harness := (true, "36f64cd2183673800216604586ec6025e79b83a6921a82879a8ab25126406d98"), looks := true }, kinds := [], alts := [], laidByText := true, laidKinds := [.data, .data, .data, .data, .sentinel, .sentinel, .listed, .data, .pinned], laidTests := true, laidLooks := .later }
def SceneParsesUptoCardSaid : Prop := Claim7.holds Tryz.pinned (.plain (OpenSpec.upto sceneParsesSpec)) sceneParsesUptoCard

/-- THE SECOND FORM's CARD OF 'relievolaw07.PrintShows'. -/
def printShowsUptoCard : Claim7 := { stood := { row := printShowsUptoRow, standIns := [], harness := (true, "36f64cd2183673800216604586ec6025e79b83a6921a82879a8ab25126406d98"), looks := true }, kinds := [], alts := [], laidByText := true, laidKinds := [.data, .data, .data, .data, .sentinel, .sentinel, .listed, .data, .pinned], laidTests := true, laidLooks := .later }
def PrintShowsUptoCardSaid : Prop := Claim7.holds Tryz.pinned (.plain (OpenSpec.upto printShowsSpec)) printShowsUptoCard

/-- THE SECOND FORM's CARD OF 'relievolaw07.PrintBack'. -/
def printBackUptoCard : Claim7 := { stood := { row := printBackUptoRow, standIns := [], harness := (true, "36f64cd2183673800216604586ec6025e79b83a6921a82879a8ab25126406d98"), looks := true }, kinds := [], alts := [], laidByText := true, laidKinds := [.data, .data, .data, .data, .sentinel, .sentinel, .listed, .data, .pinned], laidTests := true, laidLooks := .later }
def PrintBackUptoCardSaid : Prop := Claim7.holds Tryz.pinned (.plain (OpenSpec.upto printBackSpec)) printBackUptoCard

/-- THE SECOND FORM's CARD OF 'relievolaw07.PrintLines'. -/
def printLinesUptoCard : Claim7 := { stood := { row := printLinesUptoRow, standIns := [], harness := (true, "36f64cd2183673800216604586ec6025e79b83a6921a82879a8ab25126406d98"), looks := true }, kinds := [], alts := [], laidByText := true, laidKinds := [.data, .data, .data, .data, .sentinel, .sentinel, .listed, .data, .pinned], laidTests := true, laidLooks := .later }
def PrintLinesUptoCardSaid : Prop := Claim7.holds Tryz.pinned (.plain (OpenSpec.upto printLinesSpec)) printLinesUptoCard

/-- THE SECOND FORM's CARD OF 'relievolaw07.PrintBytes'. -/
def printBytesUptoCard : Claim7 := { stood := { row := printBytesUptoRow, standIns := [], harness := (true, "36f64cd2183673800216604586ec6025e79b83a6921a82879a8ab25126406d98"), looks := true }, kinds := [], alts := [], laidByText := true, laidKinds := [.data, .data, .data, .data, .sentinel, .sentinel, .listed, .data, .pinned], laidTests := true, laidLooks := .later }
def PrintBytesUptoCardSaid : Prop := Claim7.holds Tryz.pinned (.plain (OpenSpec.upto printBytesSpec)) printBytesUptoCard
end Rows
end Go.Proofs.YtfddnapdeihchaaGreatDoor
