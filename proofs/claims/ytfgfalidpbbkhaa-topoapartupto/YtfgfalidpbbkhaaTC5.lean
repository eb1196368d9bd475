/- The law TopoApart answers true for every input whose bulk is at most the bound of its second form; nothing else is asked. -/
import Derived.Test.YtfgfalidpbbkhaaTGlue
import Derived.Test.YtfgfalidpbbkhaaT10
set_option linter.unusedSimpArgs false
namespace Go.Proofs.Ytfgfalidpbbkhaa.topoApart
open Go Go.ChangeShapes Go.WideShapes Go.ChangeAt Go.RowKit Go.AH Go.Proofs.T
set_option linter.unusedVariables false
theorem own : ownKnob Try.prog.godebug = none := by kernel_rfl
theorem stays {W W' : World} (hs : W.Since W.heap.size W') {x : MemPlace} (h : x.block < W.heap.size) : W.sameAt W' x := by
  cases x with
  | cell b o => exact hs.cell (a := ⟨b, o, none⟩) h
  | map b => exact hs.block b h
set_option maxRecDepth 100000 in
set_option maxHeartbeats 1000000 in
theorem contract (H : Type) (enc : TypeId × Value → H) (W : World) (base : Nat) (args : Array Value) (ds gs : List (DataW H)) (before : List MemPlace)
    (hval : ∀ (j : Nat) t v, Try.f5.params[j]? = some t → args[j]? = some v → Value.okWide Try.prog W .any base t v)
    (hW : DataW.Whole enc Try.prog Try.f5.params.toList Rows.topoApartSpec.vars false W args.toList ds gs before) (hk : Rows.uptoSmall H (ds ++ gs) = true) :
    Calls Try.prog 5 args W fun e W' => ∃ v, e = .returned v ∧ Rows.topoApartSpec.post enc Try.prog Try.f5 false true false false W args v W' := by
  have hW' := hW
  obtain ⟨p, q, hA0, hV, rfl, hfz, hnd⟩ := hW
  have hA : DataW.TrodAll enc Try.prog W 0 (fun _ => true) true Try.f5.params.toList args.toList ds p := hA0
  rw [Try.params5] at hA hval
  obtain ⟨v0, vs0, d0, ds0, p0, q0, hargs0, rfl, rfl, h0, r0⟩ := trodAll_cons hA
  obtain ⟨v1, vs1, d1, ds1, p1, q1, rfl, rfl, rfl, h1, r1⟩ := trodAll_cons r0
  obtain ⟨v2, vs2, d2, ds2, p2, q2, rfl, rfl, rfl, h2, r2⟩ := trodAll_cons r1
  obtain ⟨v3, vs3, d3, ds3, p3, q3, rfl, rfl, rfl, h3, r3⟩ := trodAll_cons r2
  obtain ⟨rfl, rfl, rfl⟩ := trodAll_nil r3
  obtain rfl : args = #[v0, v1, v2, v3] := by cases args; simp_all
  obtain ⟨rfl, rfl⟩ := trodVars_none hV
  obtain ⟨a0, rfl, rfl, rfl, w0⟩ := open_int Try.underlying3 (hval 0 3 v0 rfl rfl) h0
  obtain ⟨b1, ln1, cp1, rfl⟩ := okWide_slice Try.underlying22 (hval 1 22 v1 rfl rfl)
  obtain ⟨a2, rfl, rfl, rfl, w2⟩ := open_int Try.underlying3 (hval 2 3 v2 rfl rfl) h2
  obtain ⟨b3, ln3, cp3, rfl⟩ := okWide_slice Try.underlying22 (hval 3 22 v3 rfl rfl)
  clear hA0
  simp only [List.append_nil, List.nil_append] at hW'
  have hb := of_decide_eq_true hk
  simp only [List.append_nil, Rows.uptoBulkAll] at hb
  obtain ⟨fs1, g1, gl1, gs1⟩ := open_faces (μ := fun i => i) h1 (by omega)
  obtain ⟨fs3, g3, gl3, gs3⟩ := open_faces (μ := fun i => i) h3 (by omega)
  have hlt : ∀ x ∈ p1 ++ p3, x.block < W.heap.size := fun x hx => hW'.lt x (by simpa using hx)
  refine (c5 a0 fs1 gl1 gs1 a2 fs3 gl3 gs3 noHeap (fun i => i) W _ (noHeap_HR _ _) ⟨rfl, ?_⟩).mono fun e W' ⟨rv, he, μ', H', r', h2, h3, h4, h5, _⟩ => ?_
  · intro j x y hx hy
    match j, hx, hy with
    | 0, hx, hy => cases hx; cases hy; exact .int _ _
    | 1, hx, hy => cases hx; cases hy; exact g1
    | 2, hx, hy => cases hx; cases hy; exact .int _ _
    | 3, hx, hy => cases hx; cases hy; exact g3
    | n + 4, hx, _ => simp at hx
  · subst he
    rw [h5] at h3
    cases h3
    have hs := Ext.since h4
    refine ⟨_, rfl, ?_⟩
    have hargs : ∀ sp : Nat → Bool, (∀ x ∈ p1 ++ p3, sp x.block = true) → DataW.TrodAll enc Try.prog W' 0 sp true Try.f5.params.toList _ _ (p1 ++ p3) := fun sp hsp => by
      rw [Try.params5]
      have := trodAll_cons_mk (shut_int Try.underlying3 w0) (trodAll_cons_mk (WideElems.Trod_stays laid (by kernel_rfl) (row_lt (by kernel_rfl)) h1 (fun x hx => stays hs (hlt x (List.mem_append.2 (.inl hx)))) (fun x hx => hsp x (List.mem_append.2 (.inl hx)))) (trodAll_cons_mk (shut_int Try.underlying3 w2) (trodAll_cons_mk (WideElems.Trod_stays laid (by kernel_rfl) (row_lt (by kernel_rfl)) h3 (fun x hx => stays hs (hlt x (List.mem_append.2 (.inr hx)))) (fun x hx => hsp x (List.mem_append.2 (.inr hx)))) trodAll_mk0)))
      simpa only [List.append_nil, List.nil_append] using this
    refine ⟨_, _, _, [], p1 ++ p3, [], hW', ?_, ?_, ?_, hs.frame _, ?_⟩
    · exact trodAll_cons_mk (shut_bool Try.underlying4 _) trodAll_mk0
    · exact hargs _ (fun x hx => by simpa using hlt x hx)
    · exact rfl
    · exact fun h => by cases h
set_option maxRecDepth 100000 in
theorem lifted (os : Os) (started : os.Started) (H : Type) (enc : TypeId × Value → H) (F : Stop.Interp) :
    ReturnsInHanded {} Try.checked os 5 .any ((Rows.OpenSpec.upto Rows.topoApartSpec).pre6 enc Try.prog Try.f5 Rows.topoApartUptoRow.domain false) (((Rows.OpenSpec.upto Rows.topoApartSpec).at F).post enc Try.prog Try.f5 false true false false) := by
  refine returnsInHanded_of_cond (C := Try.checked) (s := Rows.OpenSpec.upto Rows.topoApartSpec) (k := Rows.uptoSmall) rfl own started (by kernel_rfl) Try.func5
    (OpenSpec.witness (enc := enc) (C := Try.checked) (s := Rows.OpenSpec.upto Rows.topoApartSpec) (k := Rows.uptoSmall) rfl false ⟨#[], #[.int .i64 0, .slice none 0 0, .int .i64 0, .slice none 0 0], []⟩ 8 (by kernel_rfl) (by kernel_rfl) (by kernel_rfl)
      (x := ([.lit (.int .i64 0), .nil, .lit (.int .i64 0), .nil], [], [])) (by kernel_rfl) rfl (by kernel_rfl)) ?_
  intro W base args ds gs before hval hW _ hk _
  exact contract H enc W base args ds gs before hval hW hk

theorem over : Rows.topoApartUptoRow.holds Try.pinned (Rows.OpenSpec.upto Rows.topoApartSpec) :=
  OpenClaim.holds_of_cond 5 Try.f5 rfl rfl rfl rfl rfl rfl rfl ⟨rfl, rfl, rfl, rfl, rfl⟩ rfl rfl rfl rfl rfl (by kernel_rfl) Try.func5 (by kernel_rfl)
    (of_decide_eq_true (by kernel_rfl)) (by unfold Func.isWrapper; first | (rw [if_pos (by decide +kernel)]; kernel_rfl) | (rw [if_neg (by decide +kernel)]; exact ⟨rfl, rfl⟩))
    (fun os started H enc _ F => lifted os started H enc F)

theorem proved : Rows.TopoApartUptoSaid := over
end Go.Proofs.Ytfgfalidpbbkhaa.topoApart
#print axioms Go.Proofs.Ytfgfalidpbbkhaa.topoApart.proved
