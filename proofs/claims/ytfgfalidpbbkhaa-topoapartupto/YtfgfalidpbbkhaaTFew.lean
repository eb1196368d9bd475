/- A part of the proof that a law of the edges and fans of faces answers true for every input of its bulk: own work, by an AI agent. -/
import Derived.Test.YtfgfalidpbbkhaaT7
set_option linter.unusedVariables false
set_option linter.unusedSimpArgs false
namespace Go.Proofs.T
open Go Go.AH
def lone (c : Int) (e : Ed) : Bool := decide ((e.A = c ∨ e.B = c) ∧ min e.F e.G < 0)
def cntJ (j : Int) (l : List Ed) (c : Int) : Int := (((l.take j.toNat).filter (lone c)).length : Nat)
theorem cnt_0 (l : List Ed) (c : Int) : cntJ 0 l c = 0 := by simp [cntJ]
theorem cnt_T {l : List Ed} {c j : Int} (h0 : 0 ≤ j) (h1 : j < l.length) (h : lone c (at_ l j) = true) : cntJ (j + 1) l c = cntJ j l c + 1 := by
  unfold cntJ; rw [take_step h0 h1]; simp [h]
theorem cnt_F {l : List Ed} {c j : Int} (h0 : 0 ≤ j) (h1 : j < l.length) (h : lone c (at_ l j) = false) : cntJ (j + 1) l c = cntJ j l c := by
  unfold cntJ; rw [take_step h0 h1]; simp [h]
theorem cnt_le (l : List Ed) (c j : Int) : 0 ≤ cntJ j l c ∧ cntJ j l c ≤ l.length := by
  unfold cntJ
  have h1 := List.length_filter_le (lone c) (l.take j.toNat)
  have h2 := List.length_take_le j.toNat l
  have h3 : (l.take j.toNat).length ≤ l.length := by rw [List.length_take]; omega
  omega
theorem rnd_at {n : Int} {fs : List (List Int)} (h : okS n fs) {c : Int} (h0 : 0 ≤ c) (h1 : c < n) : at_ (buildT n fs).rnd c = fanR fs c ∧ c < (buildT n fs).rnd.length := by
  rw [(build_ok h).1]
  have hc : c.toNat < n.toNat := by omega
  refine ⟨?_, by simp [rndU]; omega⟩
  unfold at_ rndU
  simp [hc, Int.toNat_of_nonneg h0]
theorem buildE_ok {n : Int} {fs : List (List Int)} (h : buildE n fs = 0) : okS n fs := by
  unfold buildE at h
  split at h
  · assumption
  · omega
end Go.Proofs.T
namespace Go.Proofs.T
open Go Go.AH
theorem edged_lone {t : Tp} {c j : Int} (h0 : 0 ≤ j) (h1 : j < t.ed.length) (hc : (at_ t.ed j).A = c ∨ (at_ t.ed j).B = c) : lone c (at_ t.ed j) = edgedS t j := by
  unfold lone edgedS
  exact decide_eq_decide.2 (by omega)
theorem lone_no {c : Int} {e : Ed} (h : ¬ (e.A = c ∨ e.B = c)) : lone c e = false := by
  unfold lone; exact decide_eq_false (fun g => h g.1)
def FewLaw : Prop := ∀ {n : Int} {fs : List (List Int)} (_ : okS n fs) {c : Int} (_ : 0 ≤ c) (_ : c < n), cntJ (buildT n fs).ed.length (buildT n fs).ed c = if fanR fs c = true then 0 else 2
end Go.Proofs.T
