/- A cage that is moved has its patches moved, with the same normals. -/
import Derived.Test.YtfeafldgohceaaaB04
import Derived.Test.YtfeafldgohceaaaB06
set_option linter.unusedSimpArgs false
set_option linter.unusedVariables false
set_option linter.defProp false
namespace Go.Proofs.Ytfeafldgohceaaa.patchMoved
open Go Go.ChangeShapes Go.WideShapes Go.ChangeAt Go.RowKit Go.AH Go.Deep Go.Proofs.T Go.Proofs.U
set_option linter.unusedVariables false
set_option linter.unusedSimpArgs false
set_option maxRecDepth 100000 in
set_option maxHeartbeats 1000000 in
theorem contract (H : Type) (enc : TypeId × Value → H) (W : World) (base : Nat) (args : Array Value) (ds gs : List (DataW H)) (before : List MemPlace)
    (hval : ∀ (j : Nat) t v, Try.f11.params[j]? = some t → args[j]? = some v → Value.okWide Try.prog W .any base t v)
    (hW : DataW.Whole enc Try.prog Try.f11.params.toList Rows.patchMovedSpec.vars false W args.toList ds gs before) (hk : Rows.uptoSmall H (ds ++ gs) = true) :
    Calls Try.prog 11 args W fun e W' => ∃ v, e = .returned v ∧ Rows.patchMovedSpec.post enc Try.prog Try.f11 false true false false W args v W' := by
  have hW' := hW
  obtain ⟨p, q, hA0, hV, rfl, hfz, hnd⟩ := hW
  have hA : DataW.TrodAll enc Try.prog W 0 (fun _ => true) true Try.f11.params.toList args.toList ds p := hA0
  rw [Try.params11] at hA hval
  obtain ⟨v0, vs0, d0, ds0, p0, q0, hargs0, rfl, rfl, h0, r0⟩ := trodAll_cons hA
  obtain ⟨v1, vs1, d1, ds1, p1, q1, rfl, rfl, rfl, h1, r1⟩ := trodAll_cons r0
  obtain ⟨rfl, rfl, rfl⟩ := trodAll_nil r1
  obtain rfl : args = #[v0, v1] := by cases args; simp_all
  obtain ⟨rfl, rfl⟩ := trodVars_none hV
  obtain ⟨a0, g0, z0⟩ := arg_agg Try.underlying26 opCage (hval 0 26 v0 rfl rfl) h0
  obtain ⟨a1, g1, z1⟩ := arg_agg Try.underlying42 opV (hval 1 42 v1 rfl rfl) h1
  clear hA0
  simp only [List.append_nil, List.nil_append] at hW'
  have hb := of_decide_eq_true hk
  simp only [List.append_nil, Rows.uptoBulkAll] at hb
  have hlt : ∀ x ∈ p0 ++ p1, x.block < W.heap.size := fun x hx => hW'.lt x (by simpa using hx)
  refine (c_PatchMoved a0.Verts a0.Faces a0.Creases (by have := z0.v; omega) (by have := z0.f; omega) (fun f hf => Nat.le_trans (z0.fs f hf) (by omega)) (by have := z0.cl; omega) (fun c hc => (z0.rc c hc).2.2.2) a1 nH idM W _ (nH_HR globs_none) ⟨rfl, ?_⟩).mono fun e W' ⟨rv, he, μ', H', r', k2, k3, k4, k5, _⟩ => ?_
  · intro j x y hx hy
    match j, hx, hy with
    | 0, hx, hy => cases hx; cases hy; exact g0
    | 1, hx, hy => cases hx; cases hy; exact g1
    | n + 2, hx, _ => simp at hx
  · subst he
    rw [k5] at k3
    cases k3
    have hs := Ext.since0 k4
    refine ⟨_, rfl, ?_⟩
    have hargs : ∀ sp : Nat → Bool, (∀ x ∈ p0 ++ p1, sp x.block = true) → DataW.TrodAll enc Try.prog W' 0 sp true Try.f11.params.toList _ _ (p0 ++ p1) := fun sp hsp => by
      rw [Try.params11]
      have := trodAll_cons_mk (WideElems.Trod_stays laid (by kernel_rfl) (row_lt (by kernel_rfl)) h0 (fun x hx => stays hs (hlt x (by simp [hx]))) (fun x hx => hsp x (by simp [hx]))) (trodAll_cons_mk (WideElems.Trod_stays laid (by kernel_rfl) (row_lt (by kernel_rfl)) h1 (fun x hx => stays hs (hlt x (by simp [hx]))) (fun x hx => hsp x (by simp [hx]))) trodAll_mk0)
      simpa only [List.append_nil, List.nil_append] using this
    refine ⟨_, _, _, [], p0 ++ p1, [], hW', ?_, ?_, ?_, hs.frame _, ?_⟩
    · exact trodAll_cons_mk (shut_bool Try.underlying4 _) trodAll_mk0
    · exact hargs _ (fun x hx => by simpa using hlt x hx)
    · exact rfl
    · exact fun h => by cases h
set_option maxRecDepth 100000 in
theorem lifted (os : Os) (started : os.Started) (H : Type) (enc : TypeId × Value → H) (F : Stop.Interp) :
    ReturnsInHanded {} Try.checked os 11 .any ((Rows.OpenSpec.upto Rows.patchMovedSpec).pre6 enc Try.prog Try.f11 Rows.patchMovedUptoRow.domain false) (((Rows.OpenSpec.upto Rows.patchMovedSpec).at F).post enc Try.prog Try.f11 false true false false) := by
  refine returnsInHanded_of_cond (C := Try.checked) (s := Rows.OpenSpec.upto Rows.patchMovedSpec) (k := Rows.uptoSmall) rfl own started (by kernel_rfl) Try.func11
    (OpenSpec.witness (enc := enc) (C := Try.checked) (s := Rows.OpenSpec.upto Rows.patchMovedSpec) (k := Rows.uptoSmall) rfl false ⟨#[], #[.agg #[.slice none 0 0, .slice none 0 0, .slice none 0 0], .agg #[.int .i64 0, .int .i64 0, .int .i64 0]], []⟩ 8 (by kernel_rfl) (by kernel_rfl) (by kernel_rfl)
      (x := ([.agg [.nil, .nil, .nil], .agg [.lit (.int .i64 0), .lit (.int .i64 0), .lit (.int .i64 0)]], [], [])) (by kernel_rfl) rfl (by kernel_rfl)) ?_
  intro W base args ds gs before hval hW _ hk _
  exact contract H enc W base args ds gs before hval hW hk
theorem over : Rows.patchMovedUptoRow.holds Try.pinned (Rows.OpenSpec.upto Rows.patchMovedSpec) :=
  OpenClaim.holds_of_cond 11 Try.f11 rfl rfl rfl rfl rfl rfl rfl ⟨rfl, rfl, rfl, rfl, rfl⟩ rfl rfl rfl rfl rfl (by kernel_rfl) Try.func11 (by kernel_rfl)
    (of_decide_eq_true (by kernel_rfl)) (by unfold Func.isWrapper; first | (rw [if_pos (by decide +kernel)]; kernel_rfl) | (rw [if_neg (by decide +kernel)]; exact ⟨rfl, rfl⟩))
    (fun os started H enc _ F => lifted os started H enc F)
theorem proved : Rows.PatchMovedUptoSaid := over
end Go.Proofs.Ytfeafldgohceaaa.patchMoved
#print axioms Go.Proofs.Ytfeafldgohceaaa.patchMoved.proved
