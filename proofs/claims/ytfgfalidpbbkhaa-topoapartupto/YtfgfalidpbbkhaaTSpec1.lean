/- A part of the proof that a law of the edges and fans of faces answers true for every input of its bulk: own work, by an AI agent. -/
import Derived.Test.YtfgfalidpbbkhaaTSpec
set_option linter.unusedVariables false
set_option linter.unusedSimpArgs false
namespace Go.Proofs.T
open Go Go.AH
theorem or_hit {l : List Int} : ∀ {i : Int}, 0 ≤ i → i < l.length → (∀ j : Int, 0 ≤ j → j < i → at_ l j = 0) → at_ l i ≠ 0 → at_ l i = orI l := by
  induction l with
  | nil => intro i h0 h1; simp at h1; omega
  | cons x l ih =>
    intro i h0 h1 hp hi
    by_cases e : i = 0
    · subst e; simp [at_, orI] at hi ⊢; simp [hi]
    · have hx : x = 0 := by have := hp 0 (by omega) (by omega); simpa [at_] using this
      have e1 : i.toNat = (i - 1).toNat + 1 := by omega
      have h2 : at_ (x :: l) i = at_ l (i - 1) := by unfold at_; rw [e1]; rfl
      rw [h2, orI, if_pos hx]
      refine ih (by omega) (by simp at h1; omega) (fun j g1 g2 => ?_) (h2 ▸ hi)
      have := hp (j + 1) (by omega) (by omega)
      have e2 : (j + 1).toNat = j.toNat + 1 := by omega
      unfold at_ at this ⊢; rw [e2] at this; exact this
theorem or_miss {l : List Int} : (∀ j : Int, 0 ≤ j → j < l.length → at_ l j = 0) → 0 = orI l := by
  induction l with
  | nil => intro _; rfl
  | cons x l ih =>
    intro hp
    have hx : x = 0 := by have := hp 0 (by omega) (by simp); simpa [at_] using this
    rw [orI, if_pos hx]
    refine ih fun j g1 g2 => ?_
    have := hp (j + 1) (by omega) (by simp; omega)
    have e2 : (j + 1).toNat = j.toNat + 1 := by omega
    unfold at_ at this ⊢; rw [e2] at this; exact this
theorem ix_dec {l : List Int} {v : Int} : decide (ixI l v ≥ 0) = decide (v ∈ l) := by
  unfold ixI
  by_cases h : v ∈ l <;> simp [h]
end Go.Proofs.T
