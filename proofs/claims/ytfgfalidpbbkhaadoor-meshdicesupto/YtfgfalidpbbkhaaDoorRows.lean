/-
  NARROWER THAN 'FOR EVERY INPUT', by the rows' own cells (each row's printed sentence says how): MeshDices: laid · MeshSmooth: laid · MeshNear: laid · MeshCounts: laid · MeshMoved: laid · MeshWithin: laid.
  DERIVED. THE GIVEN ROWS OF THIS SEAT. 6 by the template 'for every input the law returns true; each argument reads behind the call as it read before'; 0 by the template 'total and deterministic' (their statements: YtfgfalidpbbkhaaDoorTotals.lean).
  GIVEN WITH THE SEED: the statements are not yours to turn. If you find one false, say at which input.
  Laid BY PROGRAM, IN A SANDBOX (cutbox-rows.mjs): the forced cells as the released guide's own fill.sh prints them over the translation 3b57a54d6807924b… (all of the seat's roots in one cut). By AI agents, Wed Nov 11 2026. No macro, syntax, notation, axiom, sorry.
-/
import Derived.Test.YtfgfalidpbbkhaaDoorChecked
import GoSem.Claim
import GoSem.ClaimJoined
import GoSem.ClaimMapViews
import Derived.JoinedTies
import Derived.KernelRfl
namespace Go.Proofs.YtfgfalidpbbkhaaDoor
/- THE CELL 'sum', in the pinned program and in every row, IS THE sha256 OF THE DUMP (.gsa) THAT YtfgfalidpbbkhaaDoorProg.lean LOADS. Nothing in Lean hashes anything: it is a label: what it is worth is what the hold of that sum in a sandbox is worth. -/
noncomputable def Tryd.pinned : Pinned := { name := "ytfgfalidpbbkhaadoor", sum := "3b57a54d6807924b5a98879f06c4cf7216b1ddb8e347f5720ccaf3c6ce2024bb", checked := Tryd.checked }
namespace Rows
def none {H : Type} : Left H := { results := [], args := [] }

/- WHAT THE LISTED PACKAGE-LEVEL VARIABLES READ AS WHEN THE CALL BEGINS. Each datum BY PROGRAM (the guide's laid-datum.mjs) off the statement by which the dump's own 'gosem.cut.vars' lays the variable. In a bare row this is a premise. The card (YtfgfalidpbbkhaaDoorCards.lean) ties it to the program's text. -/
def laid_relievo_mesh_corners {H : Type} : DataW H := .agg [.lit (.int .i64 0), .lit (.int .i64 3), .lit (.int .i64 15), .lit (.int .i64 12)]

/-- 'relievolaw15.MeshDices': WHATEVER THE INPUT: true; the input reads as it did. -/
def meshDicesSpec : ChangeSpec := { name := "meshDices", fn := fun _ => fun
  | [d1, d2, d3, d4, d5] => { results := [.lit (.bool true)], args := [d1, d2, d3, d4, d5] }
  | _ => none }
def meshDicesRow : OpenClaim := { program := "ytfgfalidpbbkhaadoor", sum := "3b57a54d6807924b5a98879f06c4cf7216b1ddb8e347f5720ccaf3c6ce2024bb", func := "relievo/relievolaw15.MeshDices", spec := "meshDices", unfollowed := true, recurses := true, named := ["relievo/mesh.corners"], plainKeys := false, apart := false, laid := [("relievo/mesh.corners", laid_relievo_mesh_corners)] }
def MeshDicesSaid : Prop := meshDicesRow.holds Tryd.pinned (OpenSpec.ofChange meshDicesSpec)

/-- ITS FALSE NEIGHBOUR: 'it returns false'. Refute it at one input. -/
def meshDicesWrong : ChangeSpec := { name := "meshDices", fn := fun _ => fun
  | [d1, d2, d3, d4, d5] => { results := [.lit (.bool false)], args := [d1, d2, d3, d4, d5] }
  | _ => none }
def MeshDicesWrongFalsely : Prop := meshDicesRow.holds Tryd.pinned (OpenSpec.ofChange meshDicesWrong)

/-- 'relievolaw15.MeshSmooth': WHATEVER THE INPUT: true; the input reads as it did. -/
def meshSmoothSpec : ChangeSpec := { name := "meshSmooth", fn := fun _ => fun
  | [d1, d2] => { results := [.lit (.bool true)], args := [d1, d2] }
  | _ => none }
def meshSmoothRow : OpenClaim := { program := "ytfgfalidpbbkhaadoor", sum := "3b57a54d6807924b5a98879f06c4cf7216b1ddb8e347f5720ccaf3c6ce2024bb", func := "relievo/relievolaw15.MeshSmooth", spec := "meshSmooth", unfollowed := true, recurses := true, named := ["relievo/mesh.corners"], plainKeys := false, apart := false, laid := [("relievo/mesh.corners", laid_relievo_mesh_corners)] }
def MeshSmoothSaid : Prop := meshSmoothRow.holds Tryd.pinned (OpenSpec.ofChange meshSmoothSpec)

/-- ITS FALSE NEIGHBOUR: 'it returns false'. Refute it at one input. -/
def meshSmoothWrong : ChangeSpec := { name := "meshSmooth", fn := fun _ => fun
  | [d1, d2] => { results := [.lit (.bool false)], args := [d1, d2] }
  | _ => none }
def MeshSmoothWrongFalsely : Prop := meshSmoothRow.holds Tryd.pinned (OpenSpec.ofChange meshSmoothWrong)

/-- 'relievolaw15.MeshNear': WHATEVER THE INPUT: true; the input reads as it did. -/
def meshNearSpec : ChangeSpec := { name := "meshNear", fn := fun _ => fun
  | [d1, d2, d3] => { results := [.lit (.bool true)], args := [d1, d2, d3] }
  | _ => none }
def meshNearRow : OpenClaim := { program := "ytfgfalidpbbkhaadoor", sum := "3b57a54d6807924b5a98879f06c4cf7216b1ddb8e347f5720ccaf3c6ce2024bb", func := "relievo/relievolaw15.MeshNear", spec := "meshNear", unfollowed := true, recurses := true, named := ["relievo/mesh.corners"], plainKeys := false, apart := false, laid := [("relievo/mesh.corners", laid_relievo_mesh_corners)] }
def MeshNearSaid : Prop := meshNearRow.holds Tryd.pinned (OpenSpec.ofChange meshNearSpec)

/-- ITS FALSE NEIGHBOUR: 'it returns false'. Refute it at one input. -/
def meshNearWrong : ChangeSpec := { name := "meshNear", fn := fun _ => fun
  | [d1, d2, d3] => { results := [.lit (.bool false)], args := [d1, d2, d3] }
  | _ => none }
def MeshNearWrongFalsely : Prop := meshNearRow.holds Tryd.pinned (OpenSpec.ofChange meshNearWrong)

/-- 'relievolaw15.MeshCounts': WHATEVER THE INPUT: true; the input reads as it did. -/
def meshCountsSpec : ChangeSpec := { name := "meshCounts", fn := fun _ => fun
  | [d1, d2, d3] => { results := [.lit (.bool true)], args := [d1, d2, d3] }
  | _ => none }
def meshCountsRow : OpenClaim := { program := "ytfgfalidpbbkhaadoor", sum := "3b57a54d6807924b5a98879f06c4cf7216b1ddb8e347f5720ccaf3c6ce2024bb", func := "relievo/relievolaw15.MeshCounts", spec := "meshCounts", unfollowed := true, recurses := true, named := ["relievo/mesh.corners"], plainKeys := false, apart := false, laid := [("relievo/mesh.corners", laid_relievo_mesh_corners)] }
def MeshCountsSaid : Prop := meshCountsRow.holds Tryd.pinned (OpenSpec.ofChange meshCountsSpec)

/-- ITS FALSE NEIGHBOUR: 'it returns false'. Refute it at one input. -/
def meshCountsWrong : ChangeSpec := { name := "meshCounts", fn := fun _ => fun
  | [d1, d2, d3] => { results := [.lit (.bool false)], args := [d1, d2, d3] }
  | _ => none }
def MeshCountsWrongFalsely : Prop := meshCountsRow.holds Tryd.pinned (OpenSpec.ofChange meshCountsWrong)

/-- 'relievolaw15.MeshMoved': WHATEVER THE INPUT: true; the input reads as it did. -/
def meshMovedSpec : ChangeSpec := { name := "meshMoved", fn := fun _ => fun
  | [d1, d2, d3] => { results := [.lit (.bool true)], args := [d1, d2, d3] }
  | _ => none }
def meshMovedRow : OpenClaim := { program := "ytfgfalidpbbkhaadoor", sum := "3b57a54d6807924b5a98879f06c4cf7216b1ddb8e347f5720ccaf3c6ce2024bb", func := "relievo/relievolaw15.MeshMoved", spec := "meshMoved", unfollowed := true, recurses := true, named := ["relievo/mesh.corners"], plainKeys := false, apart := false, laid := [("relievo/mesh.corners", laid_relievo_mesh_corners)] }
def MeshMovedSaid : Prop := meshMovedRow.holds Tryd.pinned (OpenSpec.ofChange meshMovedSpec)

/-- ITS FALSE NEIGHBOUR: 'it returns false'. Refute it at one input. -/
def meshMovedWrong : ChangeSpec := { name := "meshMoved", fn := fun _ => fun
  | [d1, d2, d3] => { results := [.lit (.bool false)], args := [d1, d2, d3] }
  | _ => none }
def MeshMovedWrongFalsely : Prop := meshMovedRow.holds Tryd.pinned (OpenSpec.ofChange meshMovedWrong)

/-- 'relievolaw15.MeshWithin': WHATEVER THE INPUT: true; the input reads as it did. -/
def meshWithinSpec : ChangeSpec := { name := "meshWithin", fn := fun _ => fun
  | [d1, d2, d3] => { results := [.lit (.bool true)], args := [d1, d2, d3] }
  | _ => none }
def meshWithinRow : OpenClaim := { program := "ytfgfalidpbbkhaadoor", sum := "3b57a54d6807924b5a98879f06c4cf7216b1ddb8e347f5720ccaf3c6ce2024bb", func := "relievo/relievolaw15.MeshWithin", spec := "meshWithin", unfollowed := true, recurses := true, named := ["relievo/mesh.corners"], plainKeys := false, apart := false, laid := [("relievo/mesh.corners", laid_relievo_mesh_corners)] }
def MeshWithinSaid : Prop := meshWithinRow.holds Tryd.pinned (OpenSpec.ofChange meshWithinSpec)

/-- ITS FALSE NEIGHBOUR: 'it returns false'. Refute it at one input. -/
def meshWithinWrong : ChangeSpec := { name := "meshWithin", fn := fun _ => fun
  | [d1, d2, d3] => { results := [.lit (.bool false)], args := [d1, d2, d3] }
  | _ => none }
def MeshWithinWrongFalsely : Prop := meshWithinRow.holds Tryd.pinned (OpenSpec.ofChange meshWithinWrong)

/- THE SECOND FORM. 'bulk': how many values and letters a reading holds, each counted each time it is reached (what is shared counts as often as it is met; a slice's spare places count too). A statement '..UptoSaid' is the law's where the arguments, and the package variables that the reading takes, are together of bulk at most 1048576: NARROWER than '..Said'. Prove '..Said' where nothing that the law and all that it calls make is longer than what came in: it says more and counts as full. Else prove '..UptoSaid'. A law counts once. -/
mutual
def uptoBulk {H : Type} : DataW H → Nat
  | .lit (.string bytes) => bytes.length + 1
  | .lit _ => 1
  | .nil => 1
  | .ptr d => uptoBulk d + 1
  | .slice elems spare => uptoBulkAll elems + uptoBulkAll spare + 1
  | .agg parts => uptoBulkAll parts + 1
  | .iface _ d => uptoBulk d + 1
  | .map entries => uptoBulkEntries entries + 1
  | .held _ => 1
def uptoBulkAll {H : Type} : List (DataW H) → Nat
  | [] => 0
  | d :: r => uptoBulk d + uptoBulkAll r
def uptoBulkEntries {H : Type} : List (Lit × DataW H) → Nat
  | [] => 0
  | x :: r => uptoBulkEntry x + uptoBulkEntries r
def uptoBulkEntry {H : Type} : Lit × DataW H → Nat
  | (.string bytes, d) => bytes.length + uptoBulk d + 1
  | (_, d) => uptoBulk d + 1
 end
def uptoSmall : (H : Type) → List (DataW H) → Bool := fun _ ds => decide (uptoBulkAll ds ≤ 1048576)
def OpenSpec.upto (s : _root_.Go.ChangeSpec) : _root_.Go.OpenSpec := { _root_.Go.OpenSpec.ofChange s with cond := some uptoSmall }

/-- 'relievolaw15.MeshDices', WHERE WHAT IT READS IS OF BULK AT MOST 1048576: true; the input reads as it did. -/
def meshDicesUptoRow : OpenClaim := { program := "ytfgfalidpbbkhaadoor", sum := "3b57a54d6807924b5a98879f06c4cf7216b1ddb8e347f5720ccaf3c6ce2024bb", func := "relievo/relievolaw15.MeshDices", spec := "meshDices", unfollowed := true, recurses := true, named := ["relievo/mesh.corners"], plainKeys := false, apart := false, laid := [("relievo/mesh.corners", laid_relievo_mesh_corners)], narrowed := true }
def MeshDicesUptoSaid : Prop := meshDicesUptoRow.holds Tryd.pinned (OpenSpec.upto meshDicesSpec)

/-- 'relievolaw15.MeshSmooth', WHERE WHAT IT READS IS OF BULK AT MOST 1048576: true; the input reads as it did. -/
def meshSmoothUptoRow : OpenClaim := { program := "ytfgfalidpbbkhaadoor", sum := "3b57a54d6807924b5a98879f06c4cf7216b1ddb8e347f5720ccaf3c6ce2024bb", func := "relievo/relievolaw15.MeshSmooth", spec := "meshSmooth", unfollowed := true, recurses := true, named := ["relievo/mesh.corners"], plainKeys := false, apart := false, laid := [("relievo/mesh.corners", laid_relievo_mesh_corners)], narrowed := true }
def MeshSmoothUptoSaid : Prop := meshSmoothUptoRow.holds Tryd.pinned (OpenSpec.upto meshSmoothSpec)

/-- 'relievolaw15.MeshNear', WHERE WHAT IT READS IS OF BULK AT MOST 1048576: true; the input reads as it did. -/
def meshNearUptoRow : OpenClaim := { program := "ytfgfalidpbbkhaadoor", sum := "3b57a54d6807924b5a98879f06c4cf7216b1ddb8e347f5720ccaf3c6ce2024bb", func := "relievo/relievolaw15.MeshNear", spec := "meshNear", unfollowed := true, recurses := true, named := ["relievo/mesh.corners"], plainKeys := false, apart := false, laid := [("relievo/mesh.corners", laid_relievo_mesh_corners)], narrowed := true }
def MeshNearUptoSaid : Prop := meshNearUptoRow.holds Tryd.pinned (OpenSpec.upto meshNearSpec)

/-- 'relievolaw15.MeshCounts', WHERE WHAT IT READS IS OF BULK AT MOST 1048576: true; the input reads as it did. -/
def meshCountsUptoRow : OpenClaim := { program := "ytfgfalidpbbkhaadoor", sum := "3b57a54d6807924b5a98879f06c4cf7216b1ddb8e347f5720ccaf3c6ce2024bb", func := "relievo/relievolaw15.MeshCounts", spec := "meshCounts", unfollowed := true, recurses := true, named := ["relievo/mesh.corners"], plainKeys := false, apart := false, laid := [("relievo/mesh.corners", laid_relievo_mesh_corners)], narrowed := true }
def MeshCountsUptoSaid : Prop := meshCountsUptoRow.holds Tryd.pinned (OpenSpec.upto meshCountsSpec)

/-- 'relievolaw15.MeshMoved', WHERE WHAT IT READS IS OF BULK AT MOST 1048576: true; the input reads as it did. -/
def meshMovedUptoRow : OpenClaim := { program := "ytfgfalidpbbkhaadoor", sum := "3b57a54d6807924b5a98879f06c4cf7216b1ddb8e347f5720ccaf3c6ce2024bb", func := "relievo/relievolaw15.MeshMoved", spec := "meshMoved", unfollowed := true, recurses := true, named := ["relievo/mesh.corners"], plainKeys := false, apart := false, laid := [("relievo/mesh.corners", laid_relievo_mesh_corners)], narrowed := true }
def MeshMovedUptoSaid : Prop := meshMovedUptoRow.holds Tryd.pinned (OpenSpec.upto meshMovedSpec)

/-- 'relievolaw15.MeshWithin', WHERE WHAT IT READS IS OF BULK AT MOST 1048576: true; the input reads as it did. -/
def meshWithinUptoRow : OpenClaim := { program := "ytfgfalidpbbkhaadoor", sum := "3b57a54d6807924b5a98879f06c4cf7216b1ddb8e347f5720ccaf3c6ce2024bb", func := "relievo/relievolaw15.MeshWithin", spec := "meshWithin", unfollowed := true, recurses := true, named := ["relievo/mesh.corners"], plainKeys := false, apart := false, laid := [("relievo/mesh.corners", laid_relievo_mesh_corners)], narrowed := true }
def MeshWithinUptoSaid : Prop := meshWithinUptoRow.holds Tryd.pinned (OpenSpec.upto meshWithinSpec)

end Rows
end Go.Proofs.YtfgfalidpbbkhaaDoor
