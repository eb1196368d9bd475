/- The middle patch of nine squares is the uniform bicubic spline's, within two units. -/
import Derived.Test.YtfeafldgohceaaaB04
import Derived.Test.YtfeafldgohceaaaB06
set_option linter.unusedSimpArgs false
set_option linter.unusedVariables false
set_option linter.defProp false
namespace Go.Proofs.Ytfeafldgohceaaa.patchSpline
open Go Go.ChangeShapes Go.WideShapes Go.ChangeAt Go.RowKit Go.AH Go.Deep Go.Proofs.T Go.Proofs.U
set_option linter.unusedVariables false
set_option linter.unusedSimpArgs false
set_option maxRecDepth 100000 in
set_option maxHeartbeats 1000000 in
theorem contract (H : Type) (enc : TypeId × Value → H) (W : World) (base : Nat) (args : Array Value) (ds gs : List (DataW H)) (before : List MemPlace)
    (hval : ∀ (j : Nat) t v, Try.f10.params[j]? = some t → args[j]? = some v → Value.okWide Try.prog W .any base t v)
    (hW : DataW.Whole enc Try.prog Try.f10.params.toList Rows.patchSplineSpec.vars false W args.toList ds gs before) (hk : Rows.uptoSmall H (ds ++ gs) = true) :
    Calls Try.prog 10 args W fun e W' => ∃ v, e = .returned v ∧ Rows.patchSplineSpec.post enc Try.prog Try.f10 false true false false W args v W' := by
  have hW' := hW
  obtain ⟨p, q, hA0, hV, rfl, hfz, hnd⟩ := hW
  have hA : DataW.TrodAll enc Try.prog W 0 (fun _ => true) true Try.f10.params.toList args.toList ds p := hA0
  rw [Try.params10] at hA hval
  obtain ⟨v0, vs0, d0, ds0, p0, q0, hargs0, rfl, rfl, h0, r0⟩ := trodAll_cons hA
  obtain ⟨rfl, rfl, rfl⟩ := trodAll_nil r0
  obtain rfl : args = #[v0] := by cases args; simp_all
  obtain ⟨rfl, rfl⟩ := trodVars_none hV
  obtain ⟨a0, g0, z0⟩ := arg_sl u_22 opVs (hval 0 22 v0 rfl rfl) h0
  clear hA0
  simp only [List.append_nil, List.nil_append] at hW'
  have hb := of_decide_eq_true hk
  simp only [List.append_nil, Rows.uptoBulkAll] at hb
  have hlt : ∀ x ∈ p0, x.block < W.heap.size := fun x hx => hW'.lt x (by simpa using hx)
  refine (c_PatchSpline a0 (by have := z0.1; omega) nH idM W _ (nH_HR globs_none) ⟨rfl, ?_⟩).mono fun e W' ⟨rv, he, μ', H', r', k2, k3, k4, k5, _⟩ => ?_
  · intro j x y hx hy
    match j, hx, hy with
    | 0, hx, hy => cases hx; cases hy; exact g0
    | n + 1, hx, _ => simp at hx
  · subst he
    rw [k5] at k3
    cases k3
    have hs := Ext.since0 k4
    refine ⟨_, rfl, ?_⟩
    have hargs : ∀ sp : Nat → Bool, (∀ x ∈ p0, sp x.block = true) → DataW.TrodAll enc Try.prog W' 0 sp true Try.f10.params.toList _ _ (p0) := fun sp hsp => by
      rw [Try.params10]
      have := trodAll_cons_mk (WideElems.Trod_stays laid (by kernel_rfl) (row_lt (by kernel_rfl)) h0 (fun x hx => stays hs (hlt x (by simp [hx]))) (fun x hx => hsp x (by simp [hx]))) trodAll_mk0
      simpa only [List.append_nil, List.nil_append] using this
    refine ⟨_, _, _, [], p0, [], hW', ?_, ?_, ?_, hs.frame _, ?_⟩
    · exact trodAll_cons_mk (shut_bool Try.underlying4 _) trodAll_mk0
    · exact hargs _ (fun x hx => by simpa using hlt x hx)
    · exact rfl
    · exact fun h => by cases h
set_option maxRecDepth 100000 in
theorem lifted (os : Os) (started : os.Started) (H : Type) (enc : TypeId × Value → H) (F : Stop.Interp) :
    ReturnsInHanded {} Try.checked os 10 .any ((Rows.OpenSpec.upto Rows.patchSplineSpec).pre6 enc Try.prog Try.f10 Rows.patchSplineUptoRow.domain false) (((Rows.OpenSpec.upto Rows.patchSplineSpec).at F).post enc Try.prog Try.f10 false true false false) := by
  refine returnsInHanded_of_cond (C := Try.checked) (s := Rows.OpenSpec.upto Rows.patchSplineSpec) (k := Rows.uptoSmall) rfl own started (by kernel_rfl) Try.func10
    (OpenSpec.witness (enc := enc) (C := Try.checked) (s := Rows.OpenSpec.upto Rows.patchSplineSpec) (k := Rows.uptoSmall) rfl false ⟨#[], #[.slice none 0 0], []⟩ 8 (by kernel_rfl) (by kernel_rfl) (by kernel_rfl)
      (x := ([.nil], [], [])) (by kernel_rfl) rfl (by kernel_rfl)) ?_
  intro W base args ds gs before hval hW _ hk _
  exact contract H enc W base args ds gs before hval hW hk
theorem over : Rows.patchSplineUptoRow.holds Try.pinned (Rows.OpenSpec.upto Rows.patchSplineSpec) :=
  OpenClaim.holds_of_cond 10 Try.f10 rfl rfl rfl rfl rfl rfl rfl ⟨rfl, rfl, rfl, rfl, rfl⟩ rfl rfl rfl rfl rfl (by kernel_rfl) Try.func10 (by kernel_rfl)
    (of_decide_eq_true (by kernel_rfl)) (by unfold Func.isWrapper; first | (rw [if_pos (by decide +kernel)]; kernel_rfl) | (rw [if_neg (by decide +kernel)]; exact ⟨rfl, rfl⟩))
    (fun os started H enc _ F => lifted os started H enc F)
theorem proved : Rows.PatchSplineUptoSaid := over
end Go.Proofs.Ytfeafldgohceaaa.patchSpline
#print axioms Go.Proofs.Ytfeafldgohceaaa.patchSpline.proved
