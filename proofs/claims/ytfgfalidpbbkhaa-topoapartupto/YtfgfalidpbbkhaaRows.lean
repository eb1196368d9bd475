/-
  No cell of these rows narrows 'for every input' (looked for: loops, veiled, ifaces, maps, wideKeys, modest, calm, conditions, laid).
  DERIVED. THE GIVEN ROWS OF THIS SEAT. 6 by the template 'for every input the law returns true; each argument reads behind the call as it read before'; 0 by the template 'total and deterministic' (their statements: YtfgfalidpbbkhaaTotals.lean).
  GIVEN WITH THE SEED: the statements are not yours to turn. If you find one false, say at which input.
  Laid BY PROGRAM, IN A SANDBOX (cutbox-rows.mjs): the forced cells as the released guide's own fill.sh prints them over the translation 4810f494c28fc691… (all of the seat's roots in one cut). By AI agents, Wed Nov 11 2026. No macro, syntax, notation, axiom, sorry.
-/
import Derived.Test.YtfgfalidpbbkhaaChecked
import GoSem.Claim
import GoSem.ClaimJoined
import GoSem.ClaimMapViews
import Derived.JoinedTies
import Derived.KernelRfl
namespace Go.Proofs.Ytfgfalidpbbkhaa
/- THE CELL 'sum', in the pinned program and in every row, IS THE sha256 OF THE DUMP (.gsa) THAT YtfgfalidpbbkhaaProg.lean LOADS. Nothing in Lean hashes anything: it is a label: what it is worth is what the hold of that sum in a sandbox is worth. -/
noncomputable def Try.pinned : Pinned := { name := "ytfgfalidpbbkhaa", sum := "4810f494c28fc6913b0d95d3393919afe57ccc48b2a26951064adb8f15c50c81", checked := Try.checked }
namespace Rows
def none {H : Type} : Left H := { results := [], args := [] }

/-- 'relievolaw08.TopoBuilds': WHATEVER THE INPUT: true; the input reads as it did. -/
def topoBuildsSpec : ChangeSpec := { name := "topoBuilds", fn := fun _ => fun
  | [d1, d2] => { results := [.lit (.bool true)], args := [d1, d2] }
  | _ => none }
def topoBuildsRow : OpenClaim := { program := "ytfgfalidpbbkhaa", sum := "4810f494c28fc6913b0d95d3393919afe57ccc48b2a26951064adb8f15c50c81", func := "relievo/relievolaw08.TopoBuilds", spec := "topoBuilds", unfollowed := true, recurses := true, plainKeys := false, apart := false }
def TopoBuildsSaid : Prop := topoBuildsRow.holds Try.pinned (OpenSpec.ofChange topoBuildsSpec)

/-- ITS FALSE NEIGHBOUR: 'it returns false'. Refute it at one input. -/
def topoBuildsWrong : ChangeSpec := { name := "topoBuilds", fn := fun _ => fun
  | [d1, d2] => { results := [.lit (.bool false)], args := [d1, d2] }
  | _ => none }
def TopoBuildsWrongFalsely : Prop := topoBuildsRow.holds Try.pinned (OpenSpec.ofChange topoBuildsWrong)

/-- 'relievolaw08.TopoTurned': WHATEVER THE INPUT: true; the input reads as it did. -/
def topoTurnedSpec : ChangeSpec := { name := "topoTurned", fn := fun _ => fun
  | [d1, d2] => { results := [.lit (.bool true)], args := [d1, d2] }
  | _ => none }
def topoTurnedRow : OpenClaim := { program := "ytfgfalidpbbkhaa", sum := "4810f494c28fc6913b0d95d3393919afe57ccc48b2a26951064adb8f15c50c81", func := "relievo/relievolaw08.TopoTurned", spec := "topoTurned", unfollowed := true, recurses := true, plainKeys := false, apart := false }
def TopoTurnedSaid : Prop := topoTurnedRow.holds Try.pinned (OpenSpec.ofChange topoTurnedSpec)

/-- ITS FALSE NEIGHBOUR: 'it returns false'. Refute it at one input. -/
def topoTurnedWrong : ChangeSpec := { name := "topoTurned", fn := fun _ => fun
  | [d1, d2] => { results := [.lit (.bool false)], args := [d1, d2] }
  | _ => none }
def TopoTurnedWrongFalsely : Prop := topoTurnedRow.holds Try.pinned (OpenSpec.ofChange topoTurnedWrong)

/-- 'relievolaw08.TopoApart': WHATEVER THE INPUT: true; the input reads as it did. -/
def topoApartSpec : ChangeSpec := { name := "topoApart", fn := fun _ => fun
  | [d1, d2, d3, d4] => { results := [.lit (.bool true)], args := [d1, d2, d3, d4] }
  | _ => none }
def topoApartRow : OpenClaim := { program := "ytfgfalidpbbkhaa", sum := "4810f494c28fc6913b0d95d3393919afe57ccc48b2a26951064adb8f15c50c81", func := "relievo/relievolaw08.TopoApart", spec := "topoApart", unfollowed := true, recurses := true, plainKeys := false, apart := false }
def TopoApartSaid : Prop := topoApartRow.holds Try.pinned (OpenSpec.ofChange topoApartSpec)

/-- ITS FALSE NEIGHBOUR: 'it returns false'. Refute it at one input. -/
def topoApartWrong : ChangeSpec := { name := "topoApart", fn := fun _ => fun
  | [d1, d2, d3, d4] => { results := [.lit (.bool false)], args := [d1, d2, d3, d4] }
  | _ => none }
def TopoApartWrongFalsely : Prop := topoApartRow.holds Try.pinned (OpenSpec.ofChange topoApartWrong)

/-- 'relievolaw08.TopoFewer': WHATEVER THE INPUT: true; the input reads as it did. -/
def topoFewerSpec : ChangeSpec := { name := "topoFewer", fn := fun _ => fun
  | [d1, d2] => { results := [.lit (.bool true)], args := [d1, d2] }
  | _ => none }
def topoFewerRow : OpenClaim := { program := "ytfgfalidpbbkhaa", sum := "4810f494c28fc6913b0d95d3393919afe57ccc48b2a26951064adb8f15c50c81", func := "relievo/relievolaw08.TopoFewer", spec := "topoFewer", unfollowed := true, recurses := true, plainKeys := false, apart := false }
def TopoFewerSaid : Prop := topoFewerRow.holds Try.pinned (OpenSpec.ofChange topoFewerSpec)

/-- ITS FALSE NEIGHBOUR: 'it returns false'. Refute it at one input. -/
def topoFewerWrong : ChangeSpec := { name := "topoFewer", fn := fun _ => fun
  | [d1, d2] => { results := [.lit (.bool false)], args := [d1, d2] }
  | _ => none }
def TopoFewerWrongFalsely : Prop := topoFewerRow.holds Try.pinned (OpenSpec.ofChange topoFewerWrong)

/-- 'relievolaw08.TopoFinds': WHATEVER THE INPUT: true; the input reads as it did. -/
def topoFindsSpec : ChangeSpec := { name := "topoFinds", fn := fun _ => fun
  | [d1, d2, d3, d4] => { results := [.lit (.bool true)], args := [d1, d2, d3, d4] }
  | _ => none }
def topoFindsRow : OpenClaim := { program := "ytfgfalidpbbkhaa", sum := "4810f494c28fc6913b0d95d3393919afe57ccc48b2a26951064adb8f15c50c81", func := "relievo/relievolaw08.TopoFinds", spec := "topoFinds", unfollowed := true, recurses := true, plainKeys := false, apart := false }
def TopoFindsSaid : Prop := topoFindsRow.holds Try.pinned (OpenSpec.ofChange topoFindsSpec)

/-- ITS FALSE NEIGHBOUR: 'it returns false'. Refute it at one input. -/
def topoFindsWrong : ChangeSpec := { name := "topoFinds", fn := fun _ => fun
  | [d1, d2, d3, d4] => { results := [.lit (.bool false)], args := [d1, d2, d3, d4] }
  | _ => none }
def TopoFindsWrongFalsely : Prop := topoFindsRow.holds Try.pinned (OpenSpec.ofChange topoFindsWrong)

/-- 'relievolaw08.TopoCounts': WHATEVER THE INPUT: true; the input reads as it did. -/
def topoCountsSpec : ChangeSpec := { name := "topoCounts", fn := fun _ => fun
  | [d1, d2] => { results := [.lit (.bool true)], args := [d1, d2] }
  | _ => none }
def topoCountsRow : OpenClaim := { program := "ytfgfalidpbbkhaa", sum := "4810f494c28fc6913b0d95d3393919afe57ccc48b2a26951064adb8f15c50c81", func := "relievo/relievolaw08.TopoCounts", spec := "topoCounts", unfollowed := true, recurses := true, plainKeys := false, apart := false }
def TopoCountsSaid : Prop := topoCountsRow.holds Try.pinned (OpenSpec.ofChange topoCountsSpec)

/-- ITS FALSE NEIGHBOUR: 'it returns false'. Refute it at one input. -/
def topoCountsWrong : ChangeSpec := { name := "topoCounts", fn := fun _ => fun
  | [d1, d2] => { results := [.lit (.bool false)], args := [d1, d2] }
  | _ => none }
def TopoCountsWrongFalsely : Prop := topoCountsRow.holds Try.pinned (OpenSpec.ofChange topoCountsWrong)

/- THE SECOND FORM. 'bulk': how many values and letters a reading holds, each counted each time it is reached (what is shared counts as often as it is met; a slice's spare places count too). A statement '..UptoSaid' is the law's where the arguments, and the package variables that the reading takes, are together of bulk at most 1048576: NARROWER than '..Said'. Prove '..Said' where nothing that the law and all that it calls make is longer than what came in: it says more and counts as full. Else prove '..UptoSaid'. A law counts once. -/
mutual
def uptoBulk {H : Type} : DataW H → Nat
  | .lit (.string bytes) => bytes.length + 1
  | .lit _ => 1
  | .nil => 1
  | .ptr d => uptoBulk d + 1
  | .slice elems spare => uptoBulkAll elems + uptoBulkAll spare + 1
  | .agg parts => uptoBulkAll parts + 1
  | .iface _ d => uptoBulk d + 1
  | .map entries => uptoBulkEntries entries + 1
  | .held _ => 1
def uptoBulkAll {H : Type} : List (DataW H) → Nat
  | [] => 0
  | d :: r => uptoBulk d + uptoBulkAll r
def uptoBulkEntries {H : Type} : List (Lit × DataW H) → Nat
  | [] => 0
  | x :: r => uptoBulkEntry x + uptoBulkEntries r
def uptoBulkEntry {H : Type} : Lit × DataW H → Nat
  | (.string bytes, d) => bytes.length + uptoBulk d + 1
  | (_, d) => uptoBulk d + 1
 end
def uptoSmall : (H : Type) → List (DataW H) → Bool := fun _ ds => decide (uptoBulkAll ds ≤ 1048576)
def OpenSpec.upto (s : _root_.Go.ChangeSpec) : _root_.Go.OpenSpec := { _root_.Go.OpenSpec.ofChange s with cond := some uptoSmall }

/-- 'relievolaw08.TopoBuilds', WHERE WHAT IT READS IS OF BULK AT MOST 1048576: true; the input reads as it did. -/
def topoBuildsUptoRow : OpenClaim := { program := "ytfgfalidpbbkhaa", sum := "4810f494c28fc6913b0d95d3393919afe57ccc48b2a26951064adb8f15c50c81", func := "relievo/relievolaw08.TopoBuilds", spec := "topoBuilds", unfollowed := true, recurses := true, plainKeys := false, apart := false, narrowed := true }
def TopoBuildsUptoSaid : Prop := topoBuildsUptoRow.holds Try.pinned (OpenSpec.upto topoBuildsSpec)

/-- 'relievolaw08.TopoTurned', WHERE WHAT IT READS IS OF BULK AT MOST 1048576: true; the input reads as it did. -/
def topoTurnedUptoRow : OpenClaim := { program := "ytfgfalidpbbkhaa", sum := "4810f494c28fc6913b0d95d3393919afe57ccc48b2a26951064adb8f15c50c81", func := "relievo/relievolaw08.TopoTurned", spec := "topoTurned", unfollowed := true, recurses := true, plainKeys := false, apart := false, narrowed := true }
def TopoTurnedUptoSaid : Prop := topoTurnedUptoRow.holds Try.pinned (OpenSpec.upto topoTurnedSpec)

/-- 'relievolaw08.TopoApart', WHERE WHAT IT READS IS OF BULK AT MOST 1048576: true; the input reads as it did. -/
def topoApartUptoRow : OpenClaim := { program := "ytfgfalidpbbkhaa", sum := "4810f494c28fc6913b0d95d3393919afe57ccc48b2a26951064adb8f15c50c81", func := "relievo/relievolaw08.TopoApart", spec := "topoApart", unfollowed := true, recurses := true, plainKeys := false, apart := false, narrowed := true }
def TopoApartUptoSaid : Prop := topoApartUptoRow.holds Try.pinned (OpenSpec.upto topoApartSpec)

/-- 'relievolaw08.TopoFewer', WHERE WHAT IT READS IS OF BULK AT MOST 1048576: true; the input reads as it did. -/
def topoFewerUptoRow : OpenClaim := { program := "ytfgfalidpbbkhaa", sum := "4810f494c28fc6913b0d95d3393919afe57ccc48b2a26951064adb8f15c50c81", func := "relievo/relievolaw08.TopoFewer", spec := "topoFewer", unfollowed := true, recurses := true, plainKeys := false, apart := false, narrowed := true }
def TopoFewerUptoSaid : Prop := topoFewerUptoRow.holds Try.pinned (OpenSpec.upto topoFewerSpec)

/-- 'relievolaw08.TopoFinds', WHERE WHAT IT READS IS OF BULK AT MOST 1048576: true; the input reads as it did. -/
def topoFindsUptoRow : OpenClaim := { program := "ytfgfalidpbbkhaa", sum := "4810f494c28fc6913b0d95d3393919afe57ccc48b2a26951064adb8f15c50c81", func := "relievo/relievolaw08.TopoFinds", spec := "topoFinds", unfollowed := true, recurses := true, plainKeys := false, apart := false, narrowed := true }
def TopoFindsUptoSaid : Prop := topoFindsUptoRow.holds Try.pinned (OpenSpec.upto topoFindsSpec)

/-- 'relievolaw08.TopoCounts', WHERE WHAT IT READS IS OF BULK AT MOST 1048576: true; the input reads as it did. -/
def topoCountsUptoRow : OpenClaim := { program := "ytfgfalidpbbkhaa", sum := "4810f494c28fc6913b0d95d3393919afe57ccc48b2a26951064adb8f15c50c81", func := "relievo/relievolaw08.TopoCounts", spec := "topoCounts", unfollowed := true, recurses := true, plainKeys := false, apart := false, narrowed := true }
def TopoCountsUptoSaid : Prop := topoCountsUptoRow.holds Try.pinned (OpenSpec.upto topoCountsSpec)

end Rows
end Go.Proofs.Ytfgfalidpbbkhaa
