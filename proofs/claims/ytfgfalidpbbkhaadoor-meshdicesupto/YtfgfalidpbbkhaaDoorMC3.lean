/- MeshDices returns true and leaves its input as it was, where what it reads is of bulk at most 1048576 and mesh.corners holds what the text of the program lays, which is tied to that text. -/
import Derived.Test.YtfgfalidpbbkhaaDoorB05
import Derived.Test.YtfgfalidpbbkhaaDoorB06
set_option linter.unusedSimpArgs false
set_option linter.unusedVariables false
set_option linter.defProp false
namespace Go.Proofs.YtfgfalidpbbkhaaDoor.meshDices
open Go Go.ChangeShapes Go.WideShapes Go.ChangeAt Go.RowKit Go.AH Go.Deep Go.Proofs.M
set_option linter.unusedVariables false
set_option linter.unusedSimpArgs false
set_option maxRecDepth 100000 in
set_option maxHeartbeats 1000000 in
theorem contract (H : Type) (enc : TypeId × Value → H) (W : World) (base : Nat) (args : Array Value) (ds gs : List (DataW H)) (before : List MemPlace)
    (hval : ∀ (j : Nat) t v, Tryd.f3.params[j]? = some t → args[j]? = some v → Value.okWide Tryd.prog W .any base t v)
    (hW : DataW.Whole enc Tryd.prog Tryd.f3.params.toList Rows.meshDicesSpec.vars false W args.toList ds gs before) (hk : Rows.uptoSmall H (ds ++ gs) = true) (hL : laidMetH Tryd.prog Rows.meshDicesUptoRow.laid W) :
    Calls Tryd.prog 3 args W fun e W' => ∃ v, e = .returned v ∧ Rows.meshDicesSpec.post enc Tryd.prog Tryd.f3 false true false false W args v W' := by
  have hW' := hW
  obtain ⟨p, q, hA0, hV, rfl, hfz, hnd⟩ := hW
  have hA : DataW.TrodAll enc Tryd.prog W 0 (fun _ => true) true Tryd.f3.params.toList args.toList ds p := hA0
  rw [Tryd.params3] at hA hval
  obtain ⟨v0, vs0, d0, ds0, p0, q0, hargs0, rfl, rfl, h0, r0⟩ := trodAll_cons hA
  obtain ⟨v1, vs1, d1, ds1, p1, q1, rfl, rfl, rfl, h1, r1⟩ := trodAll_cons r0
  obtain ⟨v2, vs2, d2, ds2, p2, q2, rfl, rfl, rfl, h2, r2⟩ := trodAll_cons r1
  obtain ⟨v3, vs3, d3, ds3, p3, q3, rfl, rfl, rfl, h3, r3⟩ := trodAll_cons r2
  obtain ⟨v4, vs4, d4, ds4, p4, q4, rfl, rfl, rfl, h4, r4⟩ := trodAll_cons r3
  obtain ⟨rfl, rfl, rfl⟩ := trodAll_nil r4
  obtain rfl : args = #[v0, v1, v2, v3, v4] := by cases args; simp_all
  obtain ⟨rfl, rfl⟩ := trodVars_none hV
  obtain ⟨a0, g0, z0⟩ := arg_agg Tryd.underlying28 opPatch (hval 0 28 v0 rfl rfl) h0
  obtain ⟨a1, rfl, rfl, rfl, w1⟩ := open_int Tryd.underlying3 (hval 1 3 v1 rfl rfl) h1
  have b1 := bounds_i64 w1
  obtain ⟨a2, rfl, rfl, rfl, w2⟩ := open_int Tryd.underlying3 (hval 2 3 v2 rfl rfl) h2
  have b2 := bounds_i64 w2
  obtain ⟨a3, g3, z3⟩ := arg_agg Tryd.underlying30 opSkin (hval 3 30 v3 rfl rfl) h3
  obtain ⟨a4, g4, z4⟩ := arg_sl u_31 opTexs (hval 4 31 v4 rfl rfl) h4
  clear hA0
  simp only [List.append_nil, List.nil_append] at hW'
  have hb := of_decide_eq_true hk
  simp only [List.append_nil, Rows.uptoBulkAll] at hb
  have hlt : ∀ x ∈ p0 ++ (p3 ++ p4), x.block < W.heap.size := fun x hx => hW'.lt x (by simpa using hx)
  refine (c_MeshDices a0 a1 a2 a3 a4 (by have := z4.1; omega) (fun t ht => by have := z4.2 t ht; omega) z0 b1 b2 nH idM W _ (nH_HR (globs_of hL)) ⟨rfl, ?_⟩).mono fun e W' ⟨rv, he, μ', H', r', k2, k3, k4, k5, _⟩ => ?_
  · intro j x y hx hy
    match j, hx, hy with
    | 0, hx, hy => cases hx; cases hy; exact g0
    | 1, hx, hy => cases hx; cases hy; exact .int _ _
    | 2, hx, hy => cases hx; cases hy; exact .int _ _
    | 3, hx, hy => cases hx; cases hy; exact g3
    | 4, hx, hy => cases hx; cases hy; exact g4
    | n + 5, hx, _ => simp at hx
  · subst he
    rw [k5] at k3
    cases k3
    have hs := Ext.since0 k4
    refine ⟨_, rfl, ?_⟩
    have hargs : ∀ sp : Nat → Bool, (∀ x ∈ p0 ++ (p3 ++ p4), sp x.block = true) → DataW.TrodAll enc Tryd.prog W' 0 sp true Tryd.f3.params.toList _ _ (p0 ++ (p3 ++ p4)) := fun sp hsp => by
      rw [Tryd.params3]
      have := trodAll_cons_mk (WideElems.Trod_stays laid (by kernel_rfl) (row_lt (by kernel_rfl)) h0 (fun x hx => stays hs (hlt x (by simp [hx]))) (fun x hx => hsp x (by simp [hx]))) (trodAll_cons_mk (shut_int Tryd.underlying3 w1) (trodAll_cons_mk (shut_int Tryd.underlying3 w2) (trodAll_cons_mk (WideElems.Trod_stays laid (by kernel_rfl) (row_lt (by kernel_rfl)) h3 (fun x hx => stays hs (hlt x (by simp [hx]))) (fun x hx => hsp x (by simp [hx]))) (trodAll_cons_mk (WideElems.Trod_stays laid (by kernel_rfl) (row_lt (by kernel_rfl)) h4 (fun x hx => stays hs (hlt x (by simp [hx]))) (fun x hx => hsp x (by simp [hx]))) trodAll_mk0))))
      simpa only [List.append_nil, List.nil_append] using this
    refine ⟨_, _, _, [], p0 ++ (p3 ++ p4), [], hW', ?_, ?_, ?_, hs.frame _, ?_⟩
    · exact trodAll_cons_mk (shut_bool Tryd.underlying4 _) trodAll_mk0
    · exact hargs _ (fun x hx => by simpa using hlt x hx)
    · exact rfl
    · exact fun h => by cases h
theorem laid_met (os : Os) : laidMet Tryd.prog Rows.meshDicesUptoRow.laid ((laidWorld os).forCall (fun _ _ => 0) ⟨#[], #[.agg (Array.replicate 65 (.int .i64 0)), .int .i64 0, .int .i64 0, .agg #[.string ⟨#[]⟩, .int .i64 0, .int .i64 0, .int .i64 0, .int .i64 0, .int .i64 0], .slice none 0 0], []⟩).memory :=
  laidMet_of_run' 8 (by kernel_rfl) (by kernel_rfl)
theorem reads (os : Os) {H : Type} (enc : TypeId × Value → H) : ∃ places, DataW.whole enc Tryd.prog ((laidWorld os).forCall (fun _ _ => 0) ⟨#[], #[.agg (Array.replicate 65 (.int .i64 0)), .int .i64 0, .int .i64 0, .agg #[.string ⟨#[]⟩, .int .i64 0, .int .i64 0, .int .i64 0, .int .i64 0, .int .i64 0], .slice none 0 0], []⟩).memory Tryd.f3.params.toList Rows.meshDicesSpec.vars false (#[.agg (Array.replicate 65 (.int .i64 0)), .int .i64 0, .int .i64 0, .agg #[.string ⟨#[]⟩, .int .i64 0, .int .i64 0, .int .i64 0, .int .i64 0, .int .i64 0], .slice none 0 0] : Array Value).toList 8 = some ([.agg [.agg [.agg [.lit (.int .i64 0), .lit (.int .i64 0), .lit (.int .i64 0)], .agg [.lit (.int .i64 0), .lit (.int .i64 0), .lit (.int .i64 0)], .agg [.lit (.int .i64 0), .lit (.int .i64 0), .lit (.int .i64 0)], .agg [.lit (.int .i64 0), .lit (.int .i64 0), .lit (.int .i64 0)], .agg [.lit (.int .i64 0), .lit (.int .i64 0), .lit (.int .i64 0)], .agg [.lit (.int .i64 0), .lit (.int .i64 0), .lit (.int .i64 0)], .agg [.lit (.int .i64 0), .lit (.int .i64 0), .lit (.int .i64 0)], .agg [.lit (.int .i64 0), .lit (.int .i64 0), .lit (.int .i64 0)], .agg [.lit (.int .i64 0), .lit (.int .i64 0), .lit (.int .i64 0)], .agg [.lit (.int .i64 0), .lit (.int .i64 0), .lit (.int .i64 0)], .agg [.lit (.int .i64 0), .lit (.int .i64 0), .lit (.int .i64 0)], .agg [.lit (.int .i64 0), .lit (.int .i64 0), .lit (.int .i64 0)], .agg [.lit (.int .i64 0), .lit (.int .i64 0), .lit (.int .i64 0)], .agg [.lit (.int .i64 0), .lit (.int .i64 0), .lit (.int .i64 0)], .agg [.lit (.int .i64 0), .lit (.int .i64 0), .lit (.int .i64 0)], .agg [.lit (.int .i64 0), .lit (.int .i64 0), .lit (.int .i64 0)]], .agg [.lit (.int .i64 0), .lit (.int .i64 0), .lit (.int .i64 0), .lit (.int .i64 0)], .agg [.agg [.lit (.int .i64 0), .lit (.int .i64 0), .lit (.int .i64 0)], .agg [.lit (.int .i64 0), .lit (.int .i64 0), .lit (.int .i64 0)], .agg [.lit (.int .i64 0), .lit (.int .i64 0), .lit (.int .i64 0)], .agg [.lit (.int .i64 0), .lit (.int .i64 0), .lit (.int .i64 0)]], .lit (.int .i64 0)], .lit (.int .i64 0), .lit (.int .i64 0), .agg [.lit (.string []), .lit (.int .i64 0), .lit (.int .i64 0), .lit (.int .i64 0), .lit (.int .i64 0), .lit (.int .i64 0)], .nil], [], places) :=
  ⟨[], by kernel_rfl⟩
set_option maxRecDepth 100000 in
theorem lifted (os : Os) (started : os.Started) (H : Type) (enc : TypeId × Value → H) (F : Stop.Interp) :
    ReturnsInHanded {} Tryd.checked os 3 .any ((Rows.OpenSpec.upto Rows.meshDicesSpec).preRow enc Tryd.prog Tryd.f3 Rows.meshDicesUptoRow.domain false Rows.meshDicesUptoRow.laid) (((Rows.OpenSpec.upto Rows.meshDicesSpec).at F).post enc Tryd.prog Tryd.f3 false true false false) := by
  obtain ⟨places, hx⟩ := reads os enc
  refine returnsInHanded_of_row (C := Tryd.checked) (s := Rows.OpenSpec.upto Rows.meshDicesSpec) own started (by kernel_rfl) Tryd.func3
    (witness_row_at (enc := enc) (C := Tryd.checked) false (laidWorld os) #[.agg (Array.replicate 65 (.int .i64 0)), .int .i64 0, .int .i64 0, .agg #[.string ⟨#[]⟩, .int .i64 0, .int .i64 0, .int .i64 0, .int .i64 0, .int .i64 0], .slice none 0 0] rfl (by kernel_rfl) (by kernel_rfl) (by kernel_rfl)
      (OpenSpec.preRow_of_cond 8 hx (by kernel_rfl) (fun k hk => by cases hk; kernel_rfl) (by kernel_rfl) (laid_met os))) ?_
  intro W base args ds gs before hval hW _ hcond _ hL _ _
  exact contract H enc W base args ds gs before hval hW (hcond _ rfl) hL
theorem said : Rows.MeshDicesUptoSaid :=
  OpenClaim.holds_of_cond 3 Tryd.f3 rfl rfl rfl rfl rfl rfl rfl ⟨rfl, rfl, rfl, rfl, rfl⟩ rfl rfl rfl rfl rfl (by kernel_rfl) Tryd.func3 (by kernel_rfl)
    (of_decide_eq_true (by kernel_rfl)) (by unfold Func.isWrapper; first | (rw [if_pos (by decide +kernel)]; kernel_rfl) | (rw [if_neg (by decide +kernel)]; exact ⟨rfl, rfl⟩))
    (fun os started H enc _ F => by rw [OpenClaim.pre_eq_preRow]; exact lifted os started H enc F)
theorem plain (f : FuncId) (fn : Func) (hf : Tryd.pinned.checked.prog.funcNamed "relievo/relievolaw15.MeshDices" = some f) (hfn : Tryd.pinned.checked.prog.funcs[f]? = some fn) :
    false = Tryd.pinned.checked.prog.looks [] ∧ ∀ (j : Nat) t, fn.params[j]? = some t → Tryd.pinned.checked.prog.wantsStandIn t = false := by
  obtain rfl : f = 3 := Option.some.inj ((show Tryd.prog.funcNamed "relievo/relievolaw15.MeshDices" = some 3 by kernel_rfl).symm.trans hf) |>.symm
  obtain rfl : fn = Tryd.f3 := (Option.some.inj (Tryd.func3.symm.trans hfn)).symm
  refine ⟨by kernel_rfl, fun j t ht => ?_⟩
  rw [Tryd.params3] at ht
  have hm : t ∈ [28, 3, 3, 30, 31] := by simpa using Array.mem_of_getElem? ht
  have hall : ([28, 3, 3, 30, 31].all fun u => !Tryd.prog.wantsStandIn u) = true := by kernel_rfl
  exact (show Tryd.prog.wantsStandIn t = false by simpa using List.all_eq_true.1 hall t hm)
theorem proved : Rows.MeshDicesUptoCardSaid :=
  Claim7.holds_tied_plain_at .later [] _ _ _ _ said (fun _ h => by cases h) (by kernel_rfl) (fun _ h => by cases h) meshDicesUpto_row_tie rfl ⟨rfl, rfl⟩ (by kernel_rfl) rfl plain (by kernel_rfl)
end Go.Proofs.YtfgfalidpbbkhaaDoor.meshDices
#print axioms Go.Proofs.YtfgfalidpbbkhaaDoor.meshDices.proved
