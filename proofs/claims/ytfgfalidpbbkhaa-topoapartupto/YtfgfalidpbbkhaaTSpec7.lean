/- A part of the proof that a law of the edges and fans of faces answers true for every input of its bulk: own work, by an AI agent. -/
import Derived.Test.YtfgfalidpbbkhaaT6
set_option linter.unusedVariables false
set_option linter.unusedSimpArgs false
namespace Go.Proofs.T
open Go Go.AH
theorem weigh_le {m : Int} : ∀ {fs : List (List Int)} {n : Int}, weighS m fs n ≤ m → n + ((sides fs).length : Int) ≤ m := by
  have key : ∀ (fs : List (List Int)) (n : Int) (k : Nat), weighS m fs n ≤ m → n + ((sidesFrom k fs).length : Int) ≤ m := by
    intro fs
    induction fs with
    | nil => intro n k h; simpa [weighS, sidesFrom] using h
    | cons l fs ih =>
      intro n k h
      unfold weighS at h
      split at h
      · have := ih _ (k + 1) h
        rw [sidesFrom, List.length_append, List.length_map, wayF_len]
        omega
      · omega
  intro fs n h
  exact key fs n 0 h
theorem great_no {v : Int} {fs : List (List Int)} (h : ¬ greatS v fs) : v ≤ 60 ∧ fs.length ≤ 300 ∧ (sides fs).length ≤ 300 := by
  unfold greatS weighC at h
  have h1 : v ≤ 60 := by omega
  have h2 : ¬ (if (fs.length : Int) > 300 then (300 : Int) + 1 else weighS 300 fs fs.length) > 300 := fun g => h (.inr g)
  split at h2
  · omega
  · have := weigh_le (m := 300) (fs := fs) (n := fs.length) (by omega)
    omega
theorem fan_len (fs : List (List Int)) (c : Int) : (fanL fs c).length ≤ fs.length + 1 := by
  unfold fanL
  split
  · simp
  · rw [orb_len]
    unfold stopK
    have := List.findIdx_le_length (p := fun k => decide (1 ≤ k ∧ (iterS (stepS fs c) (headS fs c) k < 0 ∨ iterS (stepS fs c) (headS fs c) k = headS fs c))) (xs := List.range (fs.length + 1))
    simpa using this
structure Small (t : Tp) : Prop where
  ed : t.ed.length ≤ 1048576
  fan : t.fan.length ≤ 1048576
  rnd : t.rnd.length ≤ 1048576
  fans : ∀ l ∈ t.fan, l.length ≤ 1048576
  ok : ∀ e ∈ t.ed, EOK e
  sorted : SortedE t.ed
theorem pw_at {l : List Ed} (h : l.Pairwise ltE) : SortedE l := by
  intro i j h0 h1 h2
  rw [List.pairwise_iff_getElem] at h
  have hi : i.toNat < l.length := by omega
  have hj : j.toNat < l.length := by omega
  have := h i.toNat j.toNat hi hj (by omega)
  simpa [at_, hi, hj] using this
theorem build_small {v : Int} {fs : List (List Int)} (h : ¬ greatS v fs) : Small (buildT v fs) := by
  obtain ⟨h1, h2, h3⟩ := great_no h
  by_cases ho : okS v fs
  · rw [(build_ok ho).1]
    refine ⟨?_, ?_, ?_, ?_, ?_, pw_at (eOut_sorted fs v)⟩
    · have := eOut_len (fs := fs) (n := v) (a := v) (by omega)
      simp only; omega
    · simp [fansU]; omega
    · simp [rndU]; omega
    · intro l hl
      simp only [fansU, List.mem_map] at hl
      obtain ⟨k, _, rfl⟩ := hl
      have := fan_len fs (k : Int); omega
    · intro e he
      rcases eOut_small e he with h | h
      · unfold EOK inR; omega
      · obtain ⟨g1, g2, g3, g4, g5, g6⟩ := mem_eOut.1 he
        have a := along_lt fs e.A e.B
        have b := along_lt fs e.B e.A
        rw [← g4] at a
        rw [← g5] at b
        unfold EOK inR
        by_cases c : 0 ≤ e.G
        · have := b.2 c; omega
        · omega
  · rw [(build_no ho).1]
    exact ⟨by simp, by simp, by simp, by simp, by simp, fun i j h0 h1 h2 => by simp at h2; omega⟩
/-! ### The two that are tried first -/
def E1 : List Ed := [⟨0, 1, 0, -1⟩, ⟨0, 2, -1, 0⟩, ⟨1, 2, 0, -1⟩]
def F1 : List (List Int) := [[0], [0], [0]]
def R1 : List Bool := [false, false, false]
theorem int3 {P : Int → Prop} {n : Int} (h0 : P 0) (h1 : P 1) (h2 : P 2) (hn : n ≤ 3) : ∀ i : Int, 0 ≤ i → i < n → P i := by
  intro i g0 g1
  have : i = 0 ∨ i = 1 ∨ i = 2 := by omega
  rcases this with rfl | rfl | rfl <;> assumption
theorem ok1 : okS 3 [[0, 1, 2]] := by
  refine ⟨by decide, fun f h0 h1 => ?_, int3 (by decide) (by decide) (by decide) (by decide)⟩
  have : f = 0 := by simp at h1; omega
  subst this
  refine ⟨by decide, int3 (by decide) (by decide) (by decide) (by decide), ?_, int3 (by decide) (by decide) (by decide) (by decide)⟩
  intro i k k0 ki il
  have h3 : ((at_ [[(0 : Int), 1, 2]] 0).length : Int) = 3 := rfl
  rw [h3] at il
  have : (i = 1 ∧ k = 0) ∨ (i = 2 ∧ k = 0) ∨ (i = 2 ∧ k = 1) := by omega
  rcases this with ⟨rfl, rfl⟩ | ⟨rfl, rfl⟩ | ⟨rfl, rfl⟩ <;> decide
theorem no2 : ¬ okS 4 [[0, 1, 2], [0, 1, 3]] := fun h => by
  have := (h.2.1 0 (by decide) (by decide)).2.2.2 0 (by decide) (by decide)
  revert this
  decide
theorem c12a : PC Try.prog 12 [.int .i64 3, .sl ([[0, 1, 2]] : List (List Int)).length (([[0, 1, 2]] : List (List Int)).map eF)] (.tup [.agg [.sl E1.length (E1.flatMap eE), .sl F1.length (F1.map eF), .sl R1.length (R1.map eBo)], .int .i64 0]) := by
  have h := c12 [[0, 1, 2]] (by decide) (by decide) 3 (by decide) (by decide)
  rw [(build_ok ok1).1, (build_ok ok1).2] at h
  have e1 : eOut [[0, 1, 2]] 3 3 = E1 := by decide
  have e2 : fansU [[0, 1, 2]] 3 = F1 := by decide
  have e3 : rndU [[0, 1, 2]] 3 = R1 := by decide
  rw [e1, e2, e3] at h
  exact h
theorem c12b : PC Try.prog 12 [.int .i64 4, .sl ([[0, 1, 2], [0, 1, 3]] : List (List Int)).length (([[0, 1, 2], [0, 1, 3]] : List (List Int)).map eF)] (.tup [.agg [.sl ([] : List Ed).length (([] : List Ed).flatMap eE), .sl ([] : List (List Int)).length (([] : List (List Int)).map eF), .sl ([] : List Bool).length (([] : List Bool).map eBo)], .int .i64 14]) := by
  have h := c12 [[0, 1, 2], [0, 1, 3]] (by decide) (by decide) 4 (by decide) (by decide)
  rw [(build_no no2).1, (build_no no2).2] at h
  exact h
end Go.Proofs.T
