/-
  DERIVED. GIVEN WITH THE SEED: THE CARDS: each row of YtfddnapdeihchaaDoorRows.lean that lists a variable, with what it lists TIED to the program's text (the seventh form; the later family's looks); each row that meets fmt, with fmt's text TOLD by the authors' own Lean function (tested against real Go, not proved from fmt's source: count such statements apart). THE CARD IS WHAT COUNTS. Prove the row's statement (the work); the ties are given (YtfddnapdeihchaaDoorTie.lean); close each card by the builder's one call (the guide's Derived/Test/ToyasCard.lean, 'card_holds'). Laid BY PROGRAM, IN A SANDBOX (cutbox-door.mjs). By AI agents, Wed Nov 11 2026. No macro, syntax, notation, axiom, sorry.
-/
import Derived.Test.YtfddnapdeihchaaDoorRows
import GoSem.ClaimSeven
namespace Go.Proofs.YtfddnapdeihchaaDoor
namespace Rows

/-- THE TIED CARD OF 'relievolaw06.SceneFronts'. -/
def sceneFrontsCard : Claim7 := { stood := { row := sceneFrontsRow, standIns := [], harness := (true, "d34aed5efcd76e274d660016c09aac7e6b6998999ed56a530e09774af38692b0"), looks := true }, kinds := [], alts := [], laidByText := true, laidKinds := [.data, .data, .data, .data, .sentinel, .sentinel, .listed, .data, .pinned], laidTests := true, laidLooks := .later }
def SceneFrontsCardSaid : Prop := Claim7.holds Tryd.pinned (.plain (OpenSpec.ofChange sceneFrontsSpec)) sceneFrontsCard

/-- THE TIED CARD OF 'relievolaw06.SceneBounds'. -/
def sceneBoundsCard : Claim7 := { stood := { row := sceneBoundsRow, standIns := [], harness := (true, "d34aed5efcd76e274d660016c09aac7e6b6998999ed56a530e09774af38692b0"), looks := true }, kinds := [], alts := [], laidByText := true, laidKinds := [.data, .data, .data, .data, .sentinel, .sentinel, .listed, .data, .pinned], laidTests := true, laidLooks := .later }
def SceneBoundsCardSaid : Prop := Claim7.holds Tryd.pinned (.plain (OpenSpec.ofChange sceneBoundsSpec)) sceneBoundsCard

/-- THE TIED CARD OF 'relievolaw06.SceneOrder'. -/
def sceneOrderCard : Claim7 := { stood := { row := sceneOrderRow, standIns := [], harness := (true, "d34aed5efcd76e274d660016c09aac7e6b6998999ed56a530e09774af38692b0"), looks := true }, kinds := [], alts := [], laidByText := true, laidKinds := [.data, .data, .data, .data, .sentinel, .sentinel, .listed, .data, .pinned], laidTests := true, laidLooks := .later }
def SceneOrderCardSaid : Prop := Claim7.holds Tryd.pinned (.plain (OpenSpec.ofChange sceneOrderSpec)) sceneOrderCard

/-- THE TIED CARD OF 'relievolaw06.SceneCages'. -/
def sceneCagesCard : Claim7 := { stood := { row := sceneCagesRow, standIns := [], harness := (true, "d34aed5efcd76e274d660016c09aac7e6b6998999ed56a530e09774af38692b0"), looks := true }, kinds := [], alts := [], laidByText := true, laidKinds := [.data, .data, .data, .data, .sentinel, .sentinel, .listed, .data, .pinned], laidTests := true, laidLooks := .later }
def SceneCagesCardSaid : Prop := Claim7.holds Tryd.pinned (.plain (OpenSpec.ofChange sceneCagesSpec)) sceneCagesCard

/-- THE SECOND FORM's CARD OF 'relievolaw06.SceneFronts'. -/
def sceneFrontsUptoCard : Claim7 := { stood := { row := sceneFrontsUptoRow, standIns := [], harness := (true, "d34aed5efcd76e274d660016c09aac7e6b6998999ed56a530e09774af38692b0"), looks := true }, kinds := [], alts := [], laidByText := true, laidKinds := [.data, .data, .data, .data, .sentinel, .sentinel, .listed, .data, .pinned], laidTests := true, laidLooks := .later }
def SceneFrontsUptoCardSaid : Prop := Claim7.holds Tryd.pinned (.plain (OpenSpec.upto sceneFrontsSpec)) sceneFrontsUptoCard

/-- THE SECOND FORM's CARD OF 'relievolaw06.SceneBounds'. -/
def sceneBoundsUptoCard : Claim7 := { stood := { row := sceneBoundsUptoRow, standIns := [], harness := (true, "d34aed5efcd76e274d660016c09aac7e6b6998999ed56a530e09774af38692b0"), looks := true }, kinds := [], alts := [], laidByText := true, laidKinds := [.data, .data, .data, .data, .sentinel, .sentinel, .listed, .data, .pinned], laidTests := true, laidLooks := .later }
def SceneBoundsUptoCardSaid : Prop := Claim7.holds Tryd.pinned (.plain (OpenSpec.upto sceneBoundsSpec)) sceneBoundsUptoCard

/-- THE SECOND FORM's CARD OF 'relievolaw06.SceneOrder'. -/
def sceneOrderUptoCard : Claim7 := { stood := { row := sceneOrderUptoRow, standIns := [], harness := (true, "d34aed5efcd76e274d660016c09aac7e6b6998999ed56a530e09774af38692b0"), looks := true }, kinds := [], alts := [], laidByText := true, laidKinds := [.data, .data, .data, .data, .sentinel, .sentinel, .listed, .data, .pinned], laidTests := true, laidLooks := .later }
def SceneOrderUptoCardSaid : Prop := Claim7.holds Tryd.pinned (.plain (OpenSpec.upto sceneOrderSpec)) sceneOrderUptoCard

/-- THE SECOND FORM's CARD OF 'relievolaw06.SceneCages'. -/
def sceneCagesUptoCard : Claim7 := { stood := { row := sceneCagesUptoRow, standIns := [], harness := (true, "d34aed5efcd76e274d660016c09aac7e6b6998999ed56a530e09774af38692b0"), looks := true }, kinds := [], alts := [], laidByText := true, laidKinds := [.data, .data, .data, .data, .sentinel, .sentinel, .listed, .data, .pinned], laidTests := true, laidLooks := .later }
def SceneCagesUptoCardSaid : Prop := Claim7.holds Tryd.pinned (.plain (OpenSpec.upto sceneCagesSpec)) sceneCagesUptoCard
end Rows
end Go.Proofs.YtfddnapdeihchaaDoor
