/- A part of the proof that a law of the edges and fans of faces answers true for every input of its bulk: own work, by an AI agent. -/
import Derived.Test.YtfgfalidpbbkhaaAH14
set_option linter.unusedVariables false
set_option linter.unusedSimpArgs false
namespace Go.AH
open Go
/-- A slice that a call has made for its caller is its caller's own. -/
theorem Own.base {H0 H H' : Heap} {es len : Nat} {v : AV} {cells : List AV} (h : Own H H' es v len cells) (hm : Mono H0 H) : Own H0 H' es v len cells := by
  rcases h with h | ⟨id, ver, h1, h2, h3, h4⟩
  · exact .inl h
  · exact .inr ⟨id, ver, h1, h2, hm.free h3, h4⟩
theorem Sep.fresh {H0 H H' : Heap} {es es' len len' : Nat} {v w : AV} {cells cells' : List AV} (hw : Own H0 H es w len cells) (hv : Own H H' es' v len' cells') : Sep w v := by
  rcases hw with ⟨rfl, _, _⟩ | ⟨id, ver, rfl, h2, h3, h4⟩
  · exact Sep.nilL _
  · rcases hv with ⟨rfl, _, _⟩ | ⟨id', ver', rfl, g2, g3, g4⟩
    · exact Sep.nilR _
    · intro i a b c d i' a' b' c' d' e1 e2 e
      cases e1; cases e2; subst e
      rw [h2] at g3; cases g3
end Go.AH
