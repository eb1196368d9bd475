/- SceneOrder: lines of lights and of the sky may stand anywhere. -/
import Derived.Test.YtfddnapdeihchaaDoorB01
import Derived.Test.YtfddnapdeihchaaDoorB04
set_option linter.unusedSimpArgs false
set_option linter.unusedVariables false
set_option linter.defProp false
namespace Go.Proofs.YtfddnapdeihchaaDoor.sceneOrder
open Go Go.ChangeShapes Go.WideShapes Go.ChangeAt Go.RowKit Go.AH Go.Deep Go.Proofs.L Go.Proofs.S
open Go.ChangeMaps (open_string shut_string)
set_option linter.unusedVariables false
set_option linter.unusedSimpArgs false
set_option maxRecDepth 100000 in
set_option maxHeartbeats 1000000 in
theorem contract (H : Type) (enc : TypeId × Value → H) (W : World) (base : Nat) (args : Array Value) (ds gs : List (DataW H)) (before : List MemPlace)
    (hval : ∀ (j : Nat) t v, Tryd.f5.params[j]? = some t → args[j]? = some v → Value.okWide Tryd.prog W .any base t v)
    (hW : DataW.Whole enc Tryd.prog Tryd.f5.params.toList Rows.sceneOrderSpec.vars false W args.toList ds gs before) (hL : laidMetH Tryd.prog Rows.sceneOrderRow.laid W) (hS : W.ShapedOpen Tryd.prog) :
    Calls Tryd.prog 5 args W fun e W' => ∃ v, e = .returned v ∧ Rows.sceneOrderSpec.post enc Tryd.prog Tryd.f5 false true false false W args v W' := by
  have hW' := hW
  obtain ⟨p, q, hA0, hV, rfl, hfz, hnd⟩ := hW
  have hA : DataW.TrodAll enc Tryd.prog W 0 (fun _ => true) true Tryd.f5.params.toList args.toList ds p := hA0
  rw [Tryd.params5] at hA hval
  obtain ⟨v0, vs0, d0, ds0, p0, q0, hargs0, rfl, rfl, h0, r0⟩ := trodAll_cons hA
  obtain ⟨rfl, rfl, rfl⟩ := trodAll_nil r0
  obtain rfl : args = #[v0] := by cases args; simp_all
  obtain ⟨rfl, rfl⟩ := trodVars_none hV
  obtain ⟨a0, rfl, rfl, rfl, w0⟩ := open_string Tryd.underlying9 (hval 0 9 v0 rfl rfl) h0
  clear hA0
  simp only [List.append_nil, List.nil_append] at hW'
  obtain ⟨I, hG⟩ := globs_of hL hS
  refine (c_SceneOrder a0 nH idM W _ (nH_HR hG) ⟨rfl, ?_⟩).mono fun e W' ⟨rv, he, μ', H', r', k2, k3, k4, k5, _⟩ => ?_
  · intro j x y hx hy
    match j, hx, hy with
    | 0, hx, hy => cases hx; cases hy; exact .str _
    | n + 1, hx, _ => simp at hx
  · subst he
    rw [k5] at k3
    cases k3
    have hs := Ext.since0 k4
    refine ⟨_, rfl, ?_⟩
    have hargs : ∀ sp : Nat → Bool, (∀ x ∈ ([] : List MemPlace), sp x.block = true) → DataW.TrodAll enc Tryd.prog W' 0 sp true Tryd.f5.params.toList _ _ (([] : List MemPlace)) := fun sp hsp => by
      rw [Tryd.params5]
      exact trodAll_cons_mk (shut_string Tryd.underlying9 w0) trodAll_mk0
    refine ⟨_, _, _, [], ([] : List MemPlace), [], hW', ?_, ?_, ?_, hs.frame _, ?_⟩
    · exact trodAll_cons_mk (shut_bool Tryd.underlying4 _) trodAll_mk0
    · exact hargs _ (fun x hx => by cases hx)
    · exact rfl
    · exact fun h => by cases h
theorem laid_met (os : Os) : laidMet Tryd.prog Rows.sceneOrderRow.laid ((World.laidAll Tryd.prog os Rows.sceneOrderRow.laid).forCall (fun _ _ => 0) ⟨#[], #[.string ⟨#[]⟩], []⟩).memory :=
  laidMet_laidAll _ (by kernel_rfl) (by kernel_rfl)
theorem reads (os : Os) {H : Type} (enc : TypeId × Value → H) : ∃ places, DataW.whole enc Tryd.prog ((World.laidAll Tryd.prog os Rows.sceneOrderRow.laid).forCall (fun _ _ => 0) ⟨#[], #[.string ⟨#[]⟩], []⟩).memory Tryd.f5.params.toList Rows.sceneOrderSpec.vars false (#[.string ⟨#[]⟩] : Array Value).toList 8 = some ([.lit (.string [])], [], places) :=
  ⟨[], by kernel_rfl⟩
set_option maxRecDepth 100000 in
theorem lifted (os : Os) (started : os.Started) (H : Type) (enc : TypeId × Value → H) (F : Stop.Interp) :
    ReturnsInHanded {} Tryd.checked os 5 .any ((OpenSpec.ofChange Rows.sceneOrderSpec).preRow enc Tryd.prog Tryd.f5 Rows.sceneOrderRow.domain false Rows.sceneOrderRow.laid) (((OpenSpec.ofChange Rows.sceneOrderSpec).at F).post enc Tryd.prog Tryd.f5 false true false false) := by
  obtain ⟨places, hx⟩ := reads os enc
  refine returnsInHanded_of_row (C := Tryd.checked) (s := OpenSpec.ofChange Rows.sceneOrderSpec) own started (by kernel_rfl) Tryd.func5
    (witness_row_atRef (enc := enc) (C := Tryd.checked) false (World.laidAll Tryd.prog os Rows.sceneOrderRow.laid) #[.string ⟨#[]⟩] (World.laidAll_os _ _ _) (by kernel_rfl) (by kernel_rfl) (by kernel_rfl)
      (OpenSpec.preRow_of_cond 8 hx (by kernel_rfl) (fun k hk => by cases hk) (by kernel_rfl) (laid_met os))) ?_
  intro W base args ds gs before hval hW _ hcond _ hL hS _
  exact contract H enc W base args ds gs before hval hW hL hS
theorem said : Rows.SceneOrderSaid :=
  OpenClaim.holds_of_cond 5 Tryd.f5 rfl rfl rfl rfl rfl rfl rfl ⟨rfl, rfl, rfl, rfl, rfl⟩ rfl rfl rfl rfl rfl (by kernel_rfl) Tryd.func5 (by kernel_rfl)
    (of_decide_eq_true (by kernel_rfl)) (by unfold Func.isWrapper; first | (rw [if_pos (by decide +kernel)]; kernel_rfl) | (rw [if_neg (by decide +kernel)]; exact ⟨rfl, rfl⟩))
    (fun os started H enc _ F => by rw [OpenClaim.pre_eq_preRow]; exact lifted os started H enc F)
theorem plain (f : FuncId) (fn : Func) (hf : Tryd.pinned.checked.prog.funcNamed "relievo/relievolaw06.SceneOrder" = some f) (hfn : Tryd.pinned.checked.prog.funcs[f]? = some fn) :
    true = Tryd.pinned.checked.prog.looks [] ∧ ∀ (j : Nat) t, fn.params[j]? = some t → Tryd.pinned.checked.prog.wantsStandIn t = false := by
  obtain rfl : f = 5 := Option.some.inj ((show Tryd.prog.funcNamed "relievo/relievolaw06.SceneOrder" = some 5 by kernel_rfl).symm.trans hf) |>.symm
  obtain rfl : fn = Tryd.f5 := (Option.some.inj (Tryd.func5.symm.trans hfn)).symm
  refine ⟨by kernel_rfl, fun j t ht => ?_⟩
  rw [Tryd.params5] at ht
  have hm : t ∈ [9] := by simpa using Array.mem_of_getElem? ht
  have hall : ([9].all fun u => !Tryd.prog.wantsStandIn u) = true := by kernel_rfl
  exact (show Tryd.prog.wantsStandIn t = false by simpa using List.all_eq_true.1 hall t hm)
theorem proved : Rows.SceneOrderCardSaid :=
  Claim7.holds_tied_plain_at .later [] _ _ _ _ said (fun _ h => by cases h) (by kernel_rfl) (fun _ h => by cases h) sceneOrder_row_tie rfl ⟨rfl, rfl⟩ (by kernel_rfl) rfl plain (by kernel_rfl)
end Go.Proofs.YtfddnapdeihchaaDoor.sceneOrder
#print axioms Go.Proofs.YtfddnapdeihchaaDoor.sceneOrder.proved
