/- A part of the proof that a law of the edges and fans of faces answers true for every input of its bulk: own work, by an AI agent. -/
import Derived.Test.YtfgfalidpbbkhaaTTy
import Derived.Test.YtfgfalidpbbkhaaAH11
import Derived.Test.YtfgfalidpbbkhaaTSpec2
import Derived.KernelRfl
set_option linter.unusedVariables false
set_option linter.unusedSimpArgs false
namespace Go.Proofs.T
open Go Go.AH Go.Maps
theorem laid : laidOutB Try.prog = true := by kernel_rfl
theorem row_lt {a b : Nat} (h : Nat.ble (a + 1) b = true) : a < b := Nat.le_of_ble_eq_true h
theorem tm52 : TMap Try.prog 52 63 3 := TMap.mk' laid (m := 5) (by decide) rfl (row_lt (by kernel_rfl)) (by kernel_rfl) (by kernel_rfl)
theorem teq37 : TEq Try.prog 37 := TEq.mk' laid (m := 5) (by decide) (row_lt (by kernel_rfl)) (by kernel_rfl) (by kernel_rfl) (by kernel_rfl)
theorem kok63 {a b : Int} (ha : inR a) (hb : inR b) : KOK Try.prog 63 (.agg [.int .i64 a, .int .i64 b]) :=
  KOK.ints (xs := [a, b]) rfl (by kernel_rfl) (by kernel_rfl) rfl (by kernel_rfl) rfl rfl (by simp [ha, hb])
theorem kok37 {e : Ed} (h : inR e.A ∧ inR e.B ∧ inR e.F ∧ inR e.G) : KOK Try.prog 37 (.agg (eE e)) :=
  KOK.ints (xs := [e.A, e.B, e.F, e.G]) rfl (by kernel_rfl) (by kernel_rfl) rfl (by kernel_rfl) rfl rfl (by simp [h])
theorem tm55 : TMap Try.prog 55 3 35 := ⟨rfl, int_keyed (q := .i64) rfl⟩
theorem kok3 {a : Int} (h : inR a) : KOK Try.prog 3 (.int .i64 a) := KOK.int rfl h
end Go.Proofs.T
