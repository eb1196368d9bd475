/- A part of the proof that a law of the edges and fans of faces answers true for every input of its bulk: own work, by an AI agent. -/
import Derived.Test.YtfgfalidpbbkhaaTSpec2
import Derived.Test.YtfgfalidpbbkhaaAH11
set_option linter.unusedVariables false
set_option linter.unusedSimpArgs false
namespace Go.Proofs.T
open Go Go.AH
theorem eE_iff (a b : Ed) : a = b ↔ eE a = eE b := by
  cases a; cases b; simp [eE]
theorem eW_iff (a b : Int × Int) : a = b ↔ eW a = eW b := by
  cases a; cases b; simp [eW]
def EOK (e : Ed) : Prop := inR e.A ∧ inR e.B ∧ inR e.F ∧ inR e.G
/-- The order of edges against a way. -/
def cE (e : Ed) (w : Int × Int) : Int := orI [cmpI e.A w.1, cmpI e.B w.2]
theorem cE_neg (e : Ed) (w : Int × Int) : cE e w < 0 ↔ e.A < w.1 ∨ (e.A = w.1 ∧ e.B < w.2) := by
  unfold cE cmpI orI
  simp only [orI]
  split <;> (try split) <;> (try split) <;> (try split) <;> omega
theorem cE_zero (e : Ed) (w : Int × Int) : cE e w = 0 ↔ e.A = w.1 ∧ e.B = w.2 := by
  unfold cE cmpI orI
  simp only [orI]
  split <;> (try split) <;> (try split) <;> (try split) <;> omega
def ltE (x y : Ed) : Prop := x.A < y.A ∨ (x.A = y.A ∧ x.B < y.B)
def SortedE (l : List Ed) : Prop := ∀ i j : Int, 0 ≤ i → i < j → j < l.length → ltE (at_ l i) (at_ l j)
def lowS (l : List Ed) (w : Int × Int) : Int := ((l.findIdx fun e => decide (¬ cE e w < 0)) : Nat)
theorem low_nn (l : List Ed) (w : Int × Int) : 0 ≤ lowS l w := by unfold lowS; omega
theorem low_le (l : List Ed) (w : Int × Int) : lowS l w ≤ l.length := by
  unfold lowS; have := List.findIdx_le_length (p := fun e => decide (¬ cE e w < 0)) (xs := l); omega
theorem low_neg {l : List Ed} {w : Int × Int} {j : Int} (h0 : 0 ≤ j) (h1 : j < lowS l w) : cE (at_ l j) w < 0 := by
  have hle := low_le l w
  unfold lowS at h1 hle
  have hl : j.toNat < l.length := by omega
  have := List.not_of_lt_findIdx (p := fun e => decide (¬ cE e w < 0)) (xs := l) (i := j.toNat) (by omega)
  simp only [decide_eq_false_iff_not, Decidable.not_not] at this
  simpa [at_, hl] using this
theorem low_at {l : List Ed} {w : Int × Int} (h : lowS l w < l.length) : ¬ cE (at_ l (lowS l w)) w < 0 := by
  unfold lowS at h ⊢
  have hl : (l.findIdx fun e => decide (¬ cE e w < 0)) < l.length := by omega
  have := List.findIdx_getElem (p := fun e => decide (¬ cE e w < 0)) (xs := l) (w := hl)
  simp only [decide_eq_true_eq] at this
  have e : at_ l ((l.findIdx fun e => decide (¬ cE e w < 0) : Nat) : Int) = l[l.findIdx fun e => decide (¬ cE e w < 0)] := by
    unfold at_; rw [Int.toNat_natCast]; exact (List.getElem_eq_getD _).symm
  rw [e]; exact this
theorem low_of {l : List Ed} {w : Int × Int} {i : Int} (h0 : 0 ≤ i) (h1 : i ≤ l.length) (hp : ∀ k : Int, 0 ≤ k → k < i → cE (at_ l k) w < 0) (hq : i < l.length → ¬ cE (at_ l i) w < 0) : i = lowS l w := by
  have g0 := low_nn l w
  have g1 := low_le l w
  rcases Int.lt_trichotomy i (lowS l w) with h | h | h
  · exact absurd (low_neg h0 h) (hq (by omega))
  · exact h
  · exact absurd (hp _ g0 h) (low_at (by omega))
theorem sorted_neg {l : List Ed} {w : Int × Int} (hs : SortedE l) {k h : Int} (h0 : 0 ≤ k) (h1 : k ≤ h) (h2 : h < l.length) (hh : cE (at_ l h) w < 0) : cE (at_ l k) w < 0 := by
  by_cases e : k = h
  · subst e; exact hh
  · have := hs k h h0 (by omega) h2
    rw [cE_neg] at hh ⊢
    unfold ltE at this
    omega
theorem sorted_nn {l : List Ed} {w : Int × Int} (hs : SortedE l) {k h : Int} (h0 : 0 ≤ h) (h1 : h ≤ k) (h2 : k < l.length) (hh : ¬ cE (at_ l h) w < 0) : ¬ cE (at_ l k) w < 0 := fun c => hh (sorted_neg hs h0 h1 h2 c)
def isAt (l : List Ed) (w : Int × Int) : Bool := decide (lowS l w < l.length ∧ cE (at_ l (lowS l w)) w = 0)
/-- The binary search finds what the plain search finds. -/
theorem low_find {t : Tp} (hs : SortedE t.ed) (a b : Int) : (isAt t.ed (min a b, max a b) = (findS t a b).isSome) ∧ (isAt t.ed (min a b, max a b) = true → lowS t.ed (min a b, max a b) = optI (findS t a b)) := by
  have h0 := low_nn t.ed (min a b, max a b)
  have hle := low_le t.ed (min a b, max a b)
  have hlow := fun (j : Int) (h1 : 0 ≤ j) (h2 : j < lowS t.ed (min a b, max a b)) => low_neg h1 h2
  by_cases hc : isAt t.ed (min a b, max a b) = true
  · have hc' := hc
    unfold isAt at hc'
    rw [decide_eq_true_eq, cE_zero] at hc'
    have hf : findS t a b = some (lowS t.ed (min a b, max a b)).toNat := find_hit h0 hc'.1 hc'.2.1 hc'.2.2 fun j h1 h2 e => by
      have := hlow j h1 h2
      have h3 := (cE_zero (at_ t.ed j) (min a b, max a b)).2 e
      omega
    rw [hf]
    exact ⟨hc, fun _ => by simp only [optI]; omega⟩
  · have hf : findS t a b = none := find_miss fun j h1 h2 e => by
      have h3 := (cE_zero (at_ t.ed j) (min a b, max a b)).2 e
      have h4 : ¬ j < lowS t.ed (min a b, max a b) := fun g => by have := hlow j h1 g; omega
      apply hc
      unfold isAt
      rw [decide_eq_true_eq]
      have h5 : lowS t.ed (min a b, max a b) = j := by
        by_cases g : lowS t.ed (min a b, max a b) = j
        · exact g
        · have h6 := hs (lowS t.ed (min a b, max a b)) j h0 (by omega) h2
          refine absurd ((cE_neg _ _).2 ?_) (low_at (l := t.ed) (w := (min a b, max a b)) (by omega))
          unfold ltE at h6
          simp only at e ⊢
          omega
      rw [h5]; exact ⟨h2, h3⟩
    rw [hf]
    refine ⟨?_, fun h => absurd h hc⟩
    simpa using hc
theorem fs_none {o : Option Nat} (h : o.isSome = false) : o = none := by cases o <;> simp_all
def goodF (v : Int) (fs : List (List Int)) (l : List Int) : Prop := 3 ≤ (l.length : Int) ∧ (∀ i : Int, 0 ≤ i → i < l.length → 0 ≤ at_ l i ∧ at_ l i < v) ∧
  (∀ i k : Int, 0 ≤ k → k < i → i < l.length → at_ l i ≠ at_ l k) ∧ (∀ i : Int, 0 ≤ i → i < l.length → 0 ≤ alongS fs (at_ l i) (at_ l ((i + 1) % l.length)))
def goodS (v : Int) (fs : List (List Int)) : Prop := ∀ f : Int, 0 ≤ f → f < fs.length → goodF v fs (at_ fs f)
noncomputable instance (v : Int) (fs : List (List Int)) : Decidable (goodS v fs) := Classical.propDecidable _
end Go.Proofs.T
