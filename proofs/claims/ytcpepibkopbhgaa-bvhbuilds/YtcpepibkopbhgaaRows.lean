/-
  No cell of these rows narrows 'for every input' (looked for: loops, veiled, ifaces, maps, wideKeys, modest, calm, conditions, laid).
  DERIVED. THE GIVEN ROWS OF THIS SEAT. 5 by the template 'for every input the law returns true; each argument reads behind the call as it read before'; 0 by the template 'total and deterministic' (their statements: YtcpepibkopbhgaaTotals.lean).
  GIVEN WITH THE SEED: the statements are not yours to turn. If you find one false, say at which input.
  Laid BY PROGRAM, IN A SANDBOX (cutbox-rows.mjs): the forced cells as the released guide's own fill.sh prints them over the translation a7f11c915153405b… (all of the seat's roots in one cut). By AI agents, Wed Nov 11 2026. No macro, syntax, notation, axiom, sorry.
-/
import Derived.Test.YtcpepibkopbhgaaChecked
import GoSem.Claim
import GoSem.ClaimJoined
import GoSem.ClaimMapViews
import Derived.JoinedTies
import Derived.KernelRfl
namespace Go.Proofs.Ytcpepibkopbhgaa
/- THE CELL 'sum', in the pinned program and in every row, IS THE sha256 OF THE DUMP (.gsa) THAT YtcpepibkopbhgaaProg.lean LOADS. Nothing in Lean hashes anything: it is a label: what it is worth is what the hold of that sum in a sandbox is worth. -/
noncomputable def Try.pinned : Pinned := { name := "ytcpepibkopbhgaa", sum := "a7f11c915153405bb1043e4d919986aee3f0b739a9745bab1dfd0dc312b695e7", checked := Try.checked }
namespace Rows
def none {H : Type} : Left H := { results := [], args := [] }

/-- 'relievolaw16.BvhBuilds': WHATEVER THE INPUT: true; the input reads as it did. -/
def bvhBuildsSpec : ChangeSpec := { name := "bvhBuilds", fn := fun _ => fun
  | [d1, d2, d3, d4] => { results := [.lit (.bool true)], args := [d1, d2, d3, d4] }
  | _ => none }
def bvhBuildsRow : OpenClaim := { program := "ytcpepibkopbhgaa", sum := "a7f11c915153405bb1043e4d919986aee3f0b739a9745bab1dfd0dc312b695e7", func := "relievo/relievolaw16.BvhBuilds", spec := "bvhBuilds", unfollowed := true, recurses := true, apart := false }
def BvhBuildsSaid : Prop := bvhBuildsRow.holds Try.pinned (OpenSpec.ofChange bvhBuildsSpec)

/-- ITS FALSE NEIGHBOUR: 'it returns false'. Refute it at one input. -/
def bvhBuildsWrong : ChangeSpec := { name := "bvhBuilds", fn := fun _ => fun
  | [d1, d2, d3, d4] => { results := [.lit (.bool false)], args := [d1, d2, d3, d4] }
  | _ => none }
def BvhBuildsWrongFalsely : Prop := bvhBuildsRow.holds Try.pinned (OpenSpec.ofChange bvhBuildsWrong)

/-- 'relievolaw16.BvhAll': WHATEVER THE INPUT: true; the input reads as it did. -/
def bvhAllSpec : ChangeSpec := { name := "bvhAll", fn := fun _ => fun
  | [d1, d2] => { results := [.lit (.bool true)], args := [d1, d2] }
  | _ => none }
def bvhAllRow : OpenClaim := { program := "ytcpepibkopbhgaa", sum := "a7f11c915153405bb1043e4d919986aee3f0b739a9745bab1dfd0dc312b695e7", func := "relievo/relievolaw16.BvhAll", spec := "bvhAll", unfollowed := true, recurses := true, apart := false }
def BvhAllSaid : Prop := bvhAllRow.holds Try.pinned (OpenSpec.ofChange bvhAllSpec)

/-- ITS FALSE NEIGHBOUR: 'it returns false'. Refute it at one input. -/
def bvhAllWrong : ChangeSpec := { name := "bvhAll", fn := fun _ => fun
  | [d1, d2] => { results := [.lit (.bool false)], args := [d1, d2] }
  | _ => none }
def BvhAllWrongFalsely : Prop := bvhAllRow.holds Try.pinned (OpenSpec.ofChange bvhAllWrong)

/-- 'relievolaw16.BvhTouches': WHATEVER THE INPUT: true; the input reads as it did. -/
def bvhTouchesSpec : ChangeSpec := { name := "bvhTouches", fn := fun _ => fun
  | [d1, d2, d3, d4] => { results := [.lit (.bool true)], args := [d1, d2, d3, d4] }
  | _ => none }
def bvhTouchesRow : OpenClaim := { program := "ytcpepibkopbhgaa", sum := "a7f11c915153405bb1043e4d919986aee3f0b739a9745bab1dfd0dc312b695e7", func := "relievo/relievolaw16.BvhTouches", spec := "bvhTouches", unfollowed := true, recurses := true, apart := false }
def BvhTouchesSaid : Prop := bvhTouchesRow.holds Try.pinned (OpenSpec.ofChange bvhTouchesSpec)

/-- ITS FALSE NEIGHBOUR: 'it returns false'. Refute it at one input. -/
def bvhTouchesWrong : ChangeSpec := { name := "bvhTouches", fn := fun _ => fun
  | [d1, d2, d3, d4] => { results := [.lit (.bool false)], args := [d1, d2, d3, d4] }
  | _ => none }
def BvhTouchesWrongFalsely : Prop := bvhTouchesRow.holds Try.pinned (OpenSpec.ofChange bvhTouchesWrong)

/-- 'relievolaw16.BvhOne': WHATEVER THE INPUT: true; the input reads as it did. -/
def bvhOneSpec : ChangeSpec := { name := "bvhOne", fn := fun _ => fun
  | [d1, d2, d3] => { results := [.lit (.bool true)], args := [d1, d2, d3] }
  | _ => none }
def bvhOneRow : OpenClaim := { program := "ytcpepibkopbhgaa", sum := "a7f11c915153405bb1043e4d919986aee3f0b739a9745bab1dfd0dc312b695e7", func := "relievo/relievolaw16.BvhOne", spec := "bvhOne", unfollowed := true, recurses := true, apart := false }
def BvhOneSaid : Prop := bvhOneRow.holds Try.pinned (OpenSpec.ofChange bvhOneSpec)

/-- ITS FALSE NEIGHBOUR: 'it returns false'. Refute it at one input. -/
def bvhOneWrong : ChangeSpec := { name := "bvhOne", fn := fun _ => fun
  | [d1, d2, d3] => { results := [.lit (.bool false)], args := [d1, d2, d3] }
  | _ => none }
def BvhOneWrongFalsely : Prop := bvhOneRow.holds Try.pinned (OpenSpec.ofChange bvhOneWrong)

/-- 'relievolaw16.BvhLeaves': WHATEVER THE INPUT: true; the input reads as it did. -/
def bvhLeavesSpec : ChangeSpec := { name := "bvhLeaves", fn := fun _ => fun
  | [d1, d2, d3, d4] => { results := [.lit (.bool true)], args := [d1, d2, d3, d4] }
  | _ => none }
def bvhLeavesRow : OpenClaim := { program := "ytcpepibkopbhgaa", sum := "a7f11c915153405bb1043e4d919986aee3f0b739a9745bab1dfd0dc312b695e7", func := "relievo/relievolaw16.BvhLeaves", spec := "bvhLeaves", unfollowed := true, recurses := true, apart := false }
def BvhLeavesSaid : Prop := bvhLeavesRow.holds Try.pinned (OpenSpec.ofChange bvhLeavesSpec)

/-- ITS FALSE NEIGHBOUR: 'it returns false'. Refute it at one input. -/
def bvhLeavesWrong : ChangeSpec := { name := "bvhLeaves", fn := fun _ => fun
  | [d1, d2, d3, d4] => { results := [.lit (.bool false)], args := [d1, d2, d3, d4] }
  | _ => none }
def BvhLeavesWrongFalsely : Prop := bvhLeavesRow.holds Try.pinned (OpenSpec.ofChange bvhLeavesWrong)

/- THE SECOND FORM. 'bulk': how many values and letters a reading holds, each counted each time it is reached (what is shared counts as often as it is met; a slice's spare places count too). A statement '..UptoSaid' is the law's where the arguments, and the package variables that the reading takes, are together of bulk at most 1048576: NARROWER than '..Said'. Prove '..Said' where nothing that the law and all that it calls make is longer than what came in: it says more and counts as full. Else prove '..UptoSaid'. A law counts once. -/
mutual
def uptoBulk {H : Type} : DataW H → Nat
  | .lit (.string bytes) => bytes.length + 1
  | .lit _ => 1
  | .nil => 1
  | .ptr d => uptoBulk d + 1
  | .slice elems spare => uptoBulkAll elems + uptoBulkAll spare + 1
  | .agg parts => uptoBulkAll parts + 1
  | .iface _ d => uptoBulk d + 1
  | .map entries => uptoBulkEntries entries + 1
  | .held _ => 1
def uptoBulkAll {H : Type} : List (DataW H) → Nat
  | [] => 0
  | d :: r => uptoBulk d + uptoBulkAll r
def uptoBulkEntries {H : Type} : List (Lit × DataW H) → Nat
  | [] => 0
  | x :: r => uptoBulkEntry x + uptoBulkEntries r
def uptoBulkEntry {H : Type} : Lit × DataW H → Nat
  | (.string bytes, d) => bytes.length + uptoBulk d + 1
  | (_, d) => uptoBulk d + 1
 end
def uptoSmall : (H : Type) → List (DataW H) → Bool := fun _ ds => decide (uptoBulkAll ds ≤ 1048576)
def OpenSpec.upto (s : _root_.Go.ChangeSpec) : _root_.Go.OpenSpec := { _root_.Go.OpenSpec.ofChange s with cond := some uptoSmall }

/-- 'relievolaw16.BvhBuilds', WHERE WHAT IT READS IS OF BULK AT MOST 1048576: true; the input reads as it did. -/
def bvhBuildsUptoRow : OpenClaim := { program := "ytcpepibkopbhgaa", sum := "a7f11c915153405bb1043e4d919986aee3f0b739a9745bab1dfd0dc312b695e7", func := "relievo/relievolaw16.BvhBuilds", spec := "bvhBuilds", unfollowed := true, recurses := true, apart := false, narrowed := true }
def BvhBuildsUptoSaid : Prop := bvhBuildsUptoRow.holds Try.pinned (OpenSpec.upto bvhBuildsSpec)

/-- 'relievolaw16.BvhAll', WHERE WHAT IT READS IS OF BULK AT MOST 1048576: true; the input reads as it did. -/
def bvhAllUptoRow : OpenClaim := { program := "ytcpepibkopbhgaa", sum := "a7f11c915153405bb1043e4d919986aee3f0b739a9745bab1dfd0dc312b695e7", func := "relievo/relievolaw16.BvhAll", spec := "bvhAll", unfollowed := true, recurses := true, apart := false, narrowed := true }
def BvhAllUptoSaid : Prop := bvhAllUptoRow.holds Try.pinned (OpenSpec.upto bvhAllSpec)

/-- 'relievolaw16.BvhTouches', WHERE WHAT IT READS IS OF BULK AT MOST 1048576: true; the input reads as it did. -/
def bvhTouchesUptoRow : OpenClaim := { program := "ytcpepibkopbhgaa", sum := "a7f11c915153405bb1043e4d919986aee3f0b739a9745bab1dfd0dc312b695e7", func := "relievo/relievolaw16.BvhTouches", spec := "bvhTouches", unfollowed := true, recurses := true, apart := false, narrowed := true }
def BvhTouchesUptoSaid : Prop := bvhTouchesUptoRow.holds Try.pinned (OpenSpec.upto bvhTouchesSpec)

/-- 'relievolaw16.BvhOne', WHERE WHAT IT READS IS OF BULK AT MOST 1048576: true; the input reads as it did. -/
def bvhOneUptoRow : OpenClaim := { program := "ytcpepibkopbhgaa", sum := "a7f11c915153405bb1043e4d919986aee3f0b739a9745bab1dfd0dc312b695e7", func := "relievo/relievolaw16.BvhOne", spec := "bvhOne", unfollowed := true, recurses := true, apart := false, narrowed := true }
def BvhOneUptoSaid : Prop := bvhOneUptoRow.holds Try.pinned (OpenSpec.upto bvhOneSpec)

/-- 'relievolaw16.BvhLeaves', WHERE WHAT IT READS IS OF BULK AT MOST 1048576: true; the input reads as it did. -/
def bvhLeavesUptoRow : OpenClaim := { program := "ytcpepibkopbhgaa", sum := "a7f11c915153405bb1043e4d919986aee3f0b739a9745bab1dfd0dc312b695e7", func := "relievo/relievolaw16.BvhLeaves", spec := "bvhLeaves", unfollowed := true, recurses := true, apart := false, narrowed := true }
def BvhLeavesUptoSaid : Prop := bvhLeavesUptoRow.holds Try.pinned (OpenSpec.upto bvhLeavesSpec)

end Rows
end Go.Proofs.Ytcpepibkopbhgaa
