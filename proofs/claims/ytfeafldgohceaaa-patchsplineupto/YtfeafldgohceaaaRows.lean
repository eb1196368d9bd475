/-
  No cell of these rows narrows 'for every input' (looked for: loops, veiled, ifaces, maps, wideKeys, modest, calm, conditions, laid).
  DERIVED. THE GIVEN ROWS OF THIS SEAT. 10 by the template 'for every input the law returns true; each argument reads behind the call as it read before'; 0 by the template 'total and deterministic' (their statements: YtfeafldgohceaaaTotals.lean).
  GIVEN WITH THE SEED: the statements are not yours to turn. If you find one false, say at which input.
  Laid BY PROGRAM, IN A SANDBOX (cutbox-rows.mjs): the forced cells as the released guide's own fill.sh prints them over the translation fb3254bc54e71266… (all of the seat's roots in one cut). By AI agents, Wed Nov 11 2026. No macro, syntax, notation, axiom, sorry.
-/
import Derived.Test.YtfeafldgohceaaaChecked
import GoSem.Claim
import GoSem.ClaimJoined
import GoSem.ClaimMapViews
import Derived.JoinedTies
import Derived.KernelRfl
namespace Go.Proofs.Ytfeafldgohceaaa
/- THE CELL 'sum', in the pinned program and in every row, IS THE sha256 OF THE DUMP (.gsa) THAT YtfeafldgohceaaaProg.lean LOADS. Nothing in Lean hashes anything: it is a label: what it is worth is what the hold of that sum in a sandbox is worth. -/
noncomputable def Try.pinned : Pinned := { name := "ytfeafldgohceaaa", sum := "fb3254bc54e7126618289d47d2b324decf22daa8f2fd60991ba06d1ae1c1ea6b", checked := Try.checked }
namespace Rows
def none {H : Type} : Left H := { results := [], args := [] }

/-- 'relievolaw09.SubQuads': WHATEVER THE INPUT: true; the input reads as it did. -/
def subQuadsSpec : ChangeSpec := { name := "subQuads", fn := fun _ => fun
  | [d] => { results := [.lit (.bool true)], args := [d] }
  | _ => none }
def subQuadsRow : OpenClaim := { program := "ytfeafldgohceaaa", sum := "fb3254bc54e7126618289d47d2b324decf22daa8f2fd60991ba06d1ae1c1ea6b", func := "relievo/relievolaw09.SubQuads", spec := "subQuads", unfollowed := true, recurses := true, plainKeys := false, apart := false }
def SubQuadsSaid : Prop := subQuadsRow.holds Try.pinned (OpenSpec.ofChange subQuadsSpec)

/-- ITS FALSE NEIGHBOUR: 'it returns false'. Refute it at one input. -/
def subQuadsWrong : ChangeSpec := { name := "subQuads", fn := fun _ => fun
  | [d] => { results := [.lit (.bool false)], args := [d] }
  | _ => none }
def SubQuadsWrongFalsely : Prop := subQuadsRow.holds Try.pinned (OpenSpec.ofChange subQuadsWrong)

/-- 'relievolaw09.SubNear': WHATEVER THE INPUT: true; the input reads as it did. -/
def subNearSpec : ChangeSpec := { name := "subNear", fn := fun _ => fun
  | [d] => { results := [.lit (.bool true)], args := [d] }
  | _ => none }
def subNearRow : OpenClaim := { program := "ytfeafldgohceaaa", sum := "fb3254bc54e7126618289d47d2b324decf22daa8f2fd60991ba06d1ae1c1ea6b", func := "relievo/relievolaw09.SubNear", spec := "subNear", unfollowed := true, recurses := true, plainKeys := false, apart := false }
def SubNearSaid : Prop := subNearRow.holds Try.pinned (OpenSpec.ofChange subNearSpec)

/-- ITS FALSE NEIGHBOUR: 'it returns false'. Refute it at one input. -/
def subNearWrong : ChangeSpec := { name := "subNear", fn := fun _ => fun
  | [d] => { results := [.lit (.bool false)], args := [d] }
  | _ => none }
def SubNearWrongFalsely : Prop := subNearRow.holds Try.pinned (OpenSpec.ofChange subNearWrong)

/-- 'relievolaw09.SubFlat': WHATEVER THE INPUT: true; the input reads as it did. -/
def subFlatSpec : ChangeSpec := { name := "subFlat", fn := fun _ => fun
  | [d1, d2] => { results := [.lit (.bool true)], args := [d1, d2] }
  | _ => none }
def subFlatRow : OpenClaim := { program := "ytfeafldgohceaaa", sum := "fb3254bc54e7126618289d47d2b324decf22daa8f2fd60991ba06d1ae1c1ea6b", func := "relievo/relievolaw09.SubFlat", spec := "subFlat", unfollowed := true, recurses := true, plainKeys := false, apart := false }
def SubFlatSaid : Prop := subFlatRow.holds Try.pinned (OpenSpec.ofChange subFlatSpec)

/-- ITS FALSE NEIGHBOUR: 'it returns false'. Refute it at one input. -/
def subFlatWrong : ChangeSpec := { name := "subFlat", fn := fun _ => fun
  | [d1, d2] => { results := [.lit (.bool false)], args := [d1, d2] }
  | _ => none }
def SubFlatWrongFalsely : Prop := subFlatRow.holds Try.pinned (OpenSpec.ofChange subFlatWrong)

/-- 'relievolaw09.SubTurned': WHATEVER THE INPUT: true; the input reads as it did. -/
def subTurnedSpec : ChangeSpec := { name := "subTurned", fn := fun _ => fun
  | [d] => { results := [.lit (.bool true)], args := [d] }
  | _ => none }
def subTurnedRow : OpenClaim := { program := "ytfeafldgohceaaa", sum := "fb3254bc54e7126618289d47d2b324decf22daa8f2fd60991ba06d1ae1c1ea6b", func := "relievo/relievolaw09.SubTurned", spec := "subTurned", unfollowed := true, recurses := true, plainKeys := false, apart := false }
def SubTurnedSaid : Prop := subTurnedRow.holds Try.pinned (OpenSpec.ofChange subTurnedSpec)

/-- ITS FALSE NEIGHBOUR: 'it returns false'. Refute it at one input. -/
def subTurnedWrong : ChangeSpec := { name := "subTurned", fn := fun _ => fun
  | [d] => { results := [.lit (.bool false)], args := [d] }
  | _ => none }
def SubTurnedWrongFalsely : Prop := subTurnedRow.holds Try.pinned (OpenSpec.ofChange subTurnedWrong)

/-- 'relievolaw09.SubScaled': WHATEVER THE INPUT: true; the input reads as it did. -/
def subScaledSpec : ChangeSpec := { name := "subScaled", fn := fun _ => fun
  | [d1, d2] => { results := [.lit (.bool true)], args := [d1, d2] }
  | _ => none }
def subScaledRow : OpenClaim := { program := "ytfeafldgohceaaa", sum := "fb3254bc54e7126618289d47d2b324decf22daa8f2fd60991ba06d1ae1c1ea6b", func := "relievo/relievolaw09.SubScaled", spec := "subScaled", unfollowed := true, recurses := true, plainKeys := false, apart := false }
def SubScaledSaid : Prop := subScaledRow.holds Try.pinned (OpenSpec.ofChange subScaledSpec)

/-- ITS FALSE NEIGHBOUR: 'it returns false'. Refute it at one input. -/
def subScaledWrong : ChangeSpec := { name := "subScaled", fn := fun _ => fun
  | [d1, d2] => { results := [.lit (.bool false)], args := [d1, d2] }
  | _ => none }
def SubScaledWrongFalsely : Prop := subScaledRow.holds Try.pinned (OpenSpec.ofChange subScaledWrong)

/-- 'relievolaw09.SubInside': WHATEVER THE INPUT: true; the input reads as it did. -/
def subInsideSpec : ChangeSpec := { name := "subInside", fn := fun _ => fun
  | [d] => { results := [.lit (.bool true)], args := [d] }
  | _ => none }
def subInsideRow : OpenClaim := { program := "ytfeafldgohceaaa", sum := "fb3254bc54e7126618289d47d2b324decf22daa8f2fd60991ba06d1ae1c1ea6b", func := "relievo/relievolaw09.SubInside", spec := "subInside", unfollowed := true, recurses := true, plainKeys := false, apart := false }
def SubInsideSaid : Prop := subInsideRow.holds Try.pinned (OpenSpec.ofChange subInsideSpec)

/-- ITS FALSE NEIGHBOUR: 'it returns false'. Refute it at one input. -/
def subInsideWrong : ChangeSpec := { name := "subInside", fn := fun _ => fun
  | [d] => { results := [.lit (.bool false)], args := [d] }
  | _ => none }
def SubInsideWrongFalsely : Prop := subInsideRow.holds Try.pinned (OpenSpec.ofChange subInsideWrong)

/-- 'relievolaw10.PatchShares': WHATEVER THE INPUT: true; the input reads as it did. -/
def patchSharesSpec : ChangeSpec := { name := "patchShares", fn := fun _ => fun
  | [d] => { results := [.lit (.bool true)], args := [d] }
  | _ => none }
def patchSharesRow : OpenClaim := { program := "ytfeafldgohceaaa", sum := "fb3254bc54e7126618289d47d2b324decf22daa8f2fd60991ba06d1ae1c1ea6b", func := "relievo/relievolaw10.PatchShares", spec := "patchShares", unfollowed := true, recurses := true, plainKeys := false, apart := false }
def PatchSharesSaid : Prop := patchSharesRow.holds Try.pinned (OpenSpec.ofChange patchSharesSpec)

/-- ITS FALSE NEIGHBOUR: 'it returns false'. Refute it at one input. -/
def patchSharesWrong : ChangeSpec := { name := "patchShares", fn := fun _ => fun
  | [d] => { results := [.lit (.bool false)], args := [d] }
  | _ => none }
def PatchSharesWrongFalsely : Prop := patchSharesRow.holds Try.pinned (OpenSpec.ofChange patchSharesWrong)

/-- 'relievolaw10.PatchSpline': WHATEVER THE INPUT: true; the input reads as it did. -/
def patchSplineSpec : ChangeSpec := { name := "patchSpline", fn := fun _ => fun
  | [d] => { results := [.lit (.bool true)], args := [d] }
  | _ => none }
def patchSplineRow : OpenClaim := { program := "ytfeafldgohceaaa", sum := "fb3254bc54e7126618289d47d2b324decf22daa8f2fd60991ba06d1ae1c1ea6b", func := "relievo/relievolaw10.PatchSpline", spec := "patchSpline", unfollowed := true, recurses := true, plainKeys := false, apart := false }
def PatchSplineSaid : Prop := patchSplineRow.holds Try.pinned (OpenSpec.ofChange patchSplineSpec)

/-- ITS FALSE NEIGHBOUR: 'it returns false'. Refute it at one input. -/
def patchSplineWrong : ChangeSpec := { name := "patchSpline", fn := fun _ => fun
  | [d] => { results := [.lit (.bool false)], args := [d] }
  | _ => none }
def PatchSplineWrongFalsely : Prop := patchSplineRow.holds Try.pinned (OpenSpec.ofChange patchSplineWrong)

/-- 'relievolaw10.PatchMoved': WHATEVER THE INPUT: true; the input reads as it did. -/
def patchMovedSpec : ChangeSpec := { name := "patchMoved", fn := fun _ => fun
  | [d1, d2] => { results := [.lit (.bool true)], args := [d1, d2] }
  | _ => none }
def patchMovedRow : OpenClaim := { program := "ytfeafldgohceaaa", sum := "fb3254bc54e7126618289d47d2b324decf22daa8f2fd60991ba06d1ae1c1ea6b", func := "relievo/relievolaw10.PatchMoved", spec := "patchMoved", unfollowed := true, recurses := true, plainKeys := false, apart := false }
def PatchMovedSaid : Prop := patchMovedRow.holds Try.pinned (OpenSpec.ofChange patchMovedSpec)

/-- ITS FALSE NEIGHBOUR: 'it returns false'. Refute it at one input. -/
def patchMovedWrong : ChangeSpec := { name := "patchMoved", fn := fun _ => fun
  | [d1, d2] => { results := [.lit (.bool false)], args := [d1, d2] }
  | _ => none }
def PatchMovedWrongFalsely : Prop := patchMovedRow.holds Try.pinned (OpenSpec.ofChange patchMovedWrong)

/-- 'relievolaw10.PatchInside': WHATEVER THE INPUT: true; the input reads as it did. -/
def patchInsideSpec : ChangeSpec := { name := "patchInside", fn := fun _ => fun
  | [d] => { results := [.lit (.bool true)], args := [d] }
  | _ => none }
def patchInsideRow : OpenClaim := { program := "ytfeafldgohceaaa", sum := "fb3254bc54e7126618289d47d2b324decf22daa8f2fd60991ba06d1ae1c1ea6b", func := "relievo/relievolaw10.PatchInside", spec := "patchInside", unfollowed := true, recurses := true, plainKeys := false, apart := false }
def PatchInsideSaid : Prop := patchInsideRow.holds Try.pinned (OpenSpec.ofChange patchInsideSpec)

/-- ITS FALSE NEIGHBOUR: 'it returns false'. Refute it at one input. -/
def patchInsideWrong : ChangeSpec := { name := "patchInside", fn := fun _ => fun
  | [d] => { results := [.lit (.bool false)], args := [d] }
  | _ => none }
def PatchInsideWrongFalsely : Prop := patchInsideRow.holds Try.pinned (OpenSpec.ofChange patchInsideWrong)

/- THE SECOND FORM. 'bulk': how many values and letters a reading holds, each counted each time it is reached (what is shared counts as often as it is met; a slice's spare places count too). A statement '..UptoSaid' is the law's where the arguments, and the package variables that the reading takes, are together of bulk at most 1048576: NARROWER than '..Said'. Prove '..Said' where nothing that the law and all that it calls make is longer than what came in: it says more and counts as full. Else prove '..UptoSaid'. A law counts once. -/
mutual
def uptoBulk {H : Type} : DataW H → Nat
  | .lit (.string bytes) => bytes.length + 1
  | .lit _ => 1
  | .nil => 1
  | .ptr d => uptoBulk d + 1
  | .slice elems spare => uptoBulkAll elems + uptoBulkAll spare + 1
  | .agg parts => uptoBulkAll parts + 1
  | .iface _ d => uptoBulk d + 1
  | .map entries => uptoBulkEntries entries + 1
  | .held _ => 1
def uptoBulkAll {H : Type} : List (DataW H) → Nat
  | [] => 0
  | d :: r => uptoBulk d + uptoBulkAll r
def uptoBulkEntries {H : Type} : List (Lit × DataW H) → Nat
  | [] => 0
  | x :: r => uptoBulkEntry x + uptoBulkEntries r
def uptoBulkEntry {H : Type} : Lit × DataW H → Nat
  | (.string bytes, d) => bytes.length + uptoBulk d + 1
  | (_, d) => uptoBulk d + 1
 end
def uptoSmall : (H : Type) → List (DataW H) → Bool := fun _ ds => decide (uptoBulkAll ds ≤ 1048576)
def OpenSpec.upto (s : _root_.Go.ChangeSpec) : _root_.Go.OpenSpec := { _root_.Go.OpenSpec.ofChange s with cond := some uptoSmall }

/-- 'relievolaw09.SubQuads', WHERE WHAT IT READS IS OF BULK AT MOST 1048576: true; the input reads as it did. -/
def subQuadsUptoRow : OpenClaim := { program := "ytfeafldgohceaaa", sum := "fb3254bc54e7126618289d47d2b324decf22daa8f2fd60991ba06d1ae1c1ea6b", func := "relievo/relievolaw09.SubQuads", spec := "subQuads", unfollowed := true, recurses := true, plainKeys := false, apart := false, narrowed := true }
def SubQuadsUptoSaid : Prop := subQuadsUptoRow.holds Try.pinned (OpenSpec.upto subQuadsSpec)

/-- 'relievolaw09.SubNear', WHERE WHAT IT READS IS OF BULK AT MOST 1048576: true; the input reads as it did. -/
def subNearUptoRow : OpenClaim := { program := "ytfeafldgohceaaa", sum := "fb3254bc54e7126618289d47d2b324decf22daa8f2fd60991ba06d1ae1c1ea6b", func := "relievo/relievolaw09.SubNear", spec := "subNear", unfollowed := true, recurses := true, plainKeys := false, apart := false, narrowed := true }
def SubNearUptoSaid : Prop := subNearUptoRow.holds Try.pinned (OpenSpec.upto subNearSpec)

/-- 'relievolaw09.SubFlat', WHERE WHAT IT READS IS OF BULK AT MOST 1048576: true; the input reads as it did. -/
def subFlatUptoRow : OpenClaim := { program := "ytfeafldgohceaaa", sum := "fb3254bc54e7126618289d47d2b324decf22daa8f2fd60991ba06d1ae1c1ea6b", func := "relievo/relievolaw09.SubFlat", spec := "subFlat", unfollowed := true, recurses := true, plainKeys := false, apart := false, narrowed := true }
def SubFlatUptoSaid : Prop := subFlatUptoRow.holds Try.pinned (OpenSpec.upto subFlatSpec)

/-- 'relievolaw09.SubTurned', WHERE WHAT IT READS IS OF BULK AT MOST 1048576: true; the input reads as it did. -/
def subTurnedUptoRow : OpenClaim := { program := "ytfeafldgohceaaa", sum := "fb3254bc54e7126618289d47d2b324decf22daa8f2fd60991ba06d1ae1c1ea6b", func := "relievo/relievolaw09.SubTurned", spec := "subTurned", unfollowed := true, recurses := true, plainKeys := false, apart := false, narrowed := true }
def SubTurnedUptoSaid : Prop := subTurnedUptoRow.holds Try.pinned (OpenSpec.upto subTurnedSpec)

/-- 'relievolaw09.SubScaled', WHERE WHAT IT READS IS OF BULK AT MOST 1048576: true; the input reads as it did. -/
def subScaledUptoRow : OpenClaim := { program := "ytfeafldgohceaaa", sum := "fb3254bc54e7126618289d47d2b324decf22daa8f2fd60991ba06d1ae1c1ea6b", func := "relievo/relievolaw09.SubScaled", spec := "subScaled", unfollowed := true, recurses := true, plainKeys := false, apart := false, narrowed := true }
def SubScaledUptoSaid : Prop := subScaledUptoRow.holds Try.pinned (OpenSpec.upto subScaledSpec)

/-- 'relievolaw09.SubInside', WHERE WHAT IT READS IS OF BULK AT MOST 1048576: true; the input reads as it did. -/
def subInsideUptoRow : OpenClaim := { program := "ytfeafldgohceaaa", sum := "fb3254bc54e7126618289d47d2b324decf22daa8f2fd60991ba06d1ae1c1ea6b", func := "relievo/relievolaw09.SubInside", spec := "subInside", unfollowed := true, recurses := true, plainKeys := false, apart := false, narrowed := true }
def SubInsideUptoSaid : Prop := subInsideUptoRow.holds Try.pinned (OpenSpec.upto subInsideSpec)

/-- 'relievolaw10.PatchShares', WHERE WHAT IT READS IS OF BULK AT MOST 1048576: true; the input reads as it did. -/
def patchSharesUptoRow : OpenClaim := { program := "ytfeafldgohceaaa", sum := "fb3254bc54e7126618289d47d2b324decf22daa8f2fd60991ba06d1ae1c1ea6b", func := "relievo/relievolaw10.PatchShares", spec := "patchShares", unfollowed := true, recurses := true, plainKeys := false, apart := false, narrowed := true }
def PatchSharesUptoSaid : Prop := patchSharesUptoRow.holds Try.pinned (OpenSpec.upto patchSharesSpec)

/-- 'relievolaw10.PatchSpline', WHERE WHAT IT READS IS OF BULK AT MOST 1048576: true; the input reads as it did. -/
def patchSplineUptoRow : OpenClaim := { program := "ytfeafldgohceaaa", sum := "fb3254bc54e7126618289d47d2b324decf22daa8f2fd60991ba06d1ae1c1ea6b", func := "relievo/relievolaw10.PatchSpline", spec := "patchSpline", unfollowed := true, recurses := true, plainKeys := false, apart := false, narrowed := true }
def PatchSplineUptoSaid : Prop := patchSplineUptoRow.holds Try.pinned (OpenSpec.upto patchSplineSpec)

/-- 'relievolaw10.PatchMoved', WHERE WHAT IT READS IS OF BULK AT MOST 1048576: true; the input reads as it did. -/
def patchMovedUptoRow : OpenClaim := { program := "ytfeafldgohceaaa", sum := "fb3254bc54e7126618289d47d2b324decf22daa8f2fd60991ba06d1ae1c1ea6b", func := "relievo/relievolaw10.PatchMoved", spec := "patchMoved", unfollowed := true, recurses := true, plainKeys := false, apart := false, narrowed := true }
def PatchMovedUptoSaid : Prop := patchMovedUptoRow.holds Try.pinned (OpenSpec.upto patchMovedSpec)

/-- 'relievolaw10.PatchInside', WHERE WHAT IT READS IS OF BULK AT MOST 1048576: true; the input reads as it did. -/
def patchInsideUptoRow : OpenClaim := { program := "ytfeafldgohceaaa", sum := "fb3254bc54e7126618289d47d2b324decf22daa8f2fd60991ba06d1ae1c1ea6b", func := "relievo/relievolaw10.PatchInside", spec := "patchInside", unfollowed := true, recurses := true, plainKeys := false, apart := false, narrowed := true }
def PatchInsideUptoSaid : Prop := patchInsideUptoRow.holds Try.pinned (OpenSpec.upto patchInsideSpec)

end Rows
end Go.Proofs.Ytfeafldgohceaaa
