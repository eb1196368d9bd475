/- A part of the proof that a law answers true for every input of its row: own work, by an AI agent. -/
import Derived.Test.YtfddnapdeihchaaGreatDoorB01
import Derived.Test.YtfddnapdeihchaaGreatDoorB03
set_option linter.unusedSimpArgs false
set_option linter.unusedVariables false
set_option linter.defProp false
namespace Go.Proofs.S
open Go Go.AH Go.Proofs.L
set_option maxRecDepth 4000
set_option maxHeartbeats 4000000
set_option linter.unusedSimpArgs false
set_option linter.unusedVariables false
set_option linter.unusedSectionVars false
variable [LexG]
theorem c_read_rest {ds : List Deferred} {B B4 H0 : Heap} {id ver i4 : Nat} {s : Rd} (hmB : Mono B B4) (hi4 : B4 i4 = some (.row 0 [.int .i64 0])) (hBi : B i4 = none) (hm : Mono B4 H0) (hs : RD B4 H0 id ver s) (ok : RdOk s) (w : List ByteArray) (hw : w.length ≤ 1048576) (hne : 0 < w.length) {f : Nat → AV} (h0 : f 0 = .ptr id ver 0) (h1 : f 1 = .sl w.length (w.map eStr)) (h4 : f 4 = .ptr i4 0 0) : @AWP (withD instG ds) Tryz.prog 57 readRest (QR B i4 id ver s w) f H0 := by
 letI : Globs := withD instG ds
 refine AWP.seq ?_
 refine Sr ?_
 refine V rfl h1 (C rfl (AOp.sliceSD1 (xs := w) (l := 1) (h := (w.length : Int)) rfl rfl  sl_57 (lo_of rfl) rfl (by first | omega | (simp; omega)) (by first | omega | (simp; omega)) (by first | omega | (simp; omega)) rfl (A rfl rfl ?_)))
 refine Sr ?_
 refine V rfl h1 (C rfl (iS_ rfl rfl rfl sl_57 (by omega) (by omega) (L rfl rfl ty_9 (ld1 (by omega) (by omega)) ?_)))
 refine bk_ ?_
 refine Sr ?_
 refine C rfl (AOp.seqD rfl rfl rfl (A rfl rfl ?_))
 refine AOps.nil ?_
 change AWP _ _ _ _ _ _
 by_cases b1 : (at_ w 0) = ⟨#[99, 97, 109, 101, 114, 97]⟩
 refine ct_ rfl (decide_eq_true b1) ?_
 refine AWP.regionX (l := [0, 1, 2]) rfl ?_
 refine AOpsX.cons rfl rfl (Mv _ rfl h0 ?_)
 refine AOpsX.cons rfl rfl (Mv _ rfl rfl ?_)
 refine AOpsX.consX rfl rfl (AOpX.callE (as_ := [.ptr id ver 0, .sl (w.drop 1).length ((w.drop 1).map eStr)] ) (fun _ e => by cases e; rfl) rfl (rfl) tf_32 (ACallsX.toD (c_readCamera (B := B4) hm hs ok (w.drop 1) (by simp; omega))) ?_ (fun _ H5 ⟨k, e, hc, m⟩ => ⟨h4, hmB.trans m, .inr (.inr ⟨k, congrArg Exit.panic hc, (line_Camera b1).trans e, m _ _ hi4⟩)⟩))
 rintro _ H2 ⟨t6, et5, hR4, m3, rfl⟩
 refine AOpsX.nil ?_
 change AWP _ _ _ _ _ _
 refine Sr ?_
 refine C rfl (So (cells' := [.int .i64 0]) (.int .i64 0) h4 rfl ts_36 (m3 _ _ hi4) rfl rfl rfl rfl ?_)
 intro H7 h8 k9
 have m11 := Mono.set (hmB.trans m3) hBi k9
 refine rt_ ?_
 exact ⟨h4, m11, .inl ⟨t6, .inr rfl, (line_Camera b1).trans et5, RD.unB hR4 hmB hi4 k9, h8⟩⟩
 refine cf_ rfl (decide_eq_false b1) ?_
 refine Sr ?_
 refine C rfl (AOp.seqD rfl rfl rfl (A rfl rfl ?_))
 refine AOps.nil ?_
 change AWP _ _ _ _ _ _
 by_cases b12 : (at_ w 0) = ⟨#[115, 107, 121]⟩
 refine ct_ rfl (decide_eq_true b12) ?_
 refine AWP.regionX (l := [0, 1, 2]) rfl ?_
 refine AOpsX.cons rfl rfl (Mv _ rfl h0 ?_)
 refine AOpsX.cons rfl rfl (Mv _ rfl rfl ?_)
 refine AOpsX.consX rfl rfl (AOpX.callE (as_ := [.ptr id ver 0, .sl (w.drop 1).length ((w.drop 1).map eStr)] ) (fun _ e => by cases e; rfl) rfl (rfl) tf_33 (ACallsX.toD (c_readSky (B := B4) hm hs ok (w.drop 1) (by simp; omega))) ?_ (fun _ H5 ⟨k, e, hc, m⟩ => ⟨h4, hmB.trans m, .inr (.inr ⟨k, congrArg Exit.panic hc, (line_Sky b12).trans e, m _ _ hi4⟩)⟩))
 rintro _ H13 ⟨t17, et16, hR15, m14, rfl⟩
 refine AOpsX.nil ?_
 change AWP _ _ _ _ _ _
 refine Sr ?_
 refine C rfl (So (cells' := [.int .i64 0]) (.int .i64 0) h4 rfl ts_36 (m14 _ _ hi4) rfl rfl rfl rfl ?_)
 intro H18 h19 k20
 have m22 := Mono.set (hmB.trans m14) hBi k20
 refine rt_ ?_
 exact ⟨h4, m22, .inl ⟨t17, .inr rfl, (line_Sky b12).trans et16, RD.unB hR15 hmB hi4 k20, h19⟩⟩
 refine cf_ rfl (decide_eq_false b12) ?_
 refine Sr ?_
 refine C rfl (AOp.seqD rfl rfl rfl (A rfl rfl ?_))
 refine AOps.nil ?_
 change AWP _ _ _ _ _ _
 by_cases b23 : (at_ w 0) = ⟨#[108, 105, 103, 104, 116]⟩
 refine ct_ rfl (decide_eq_true b23) ?_
 refine AWP.regionX (l := [0, 1, 2]) rfl ?_
 refine AOpsX.cons rfl rfl (Mv _ rfl h0 ?_)
 refine AOpsX.cons rfl rfl (Mv _ rfl rfl ?_)
 refine AOpsX.consX rfl rfl (AOpX.callE (as_ := [.ptr id ver 0, .sl (w.drop 1).length ((w.drop 1).map eStr)] ) (fun _ e => by cases e; rfl) rfl (rfl) tf_34 (ACallsX.toD (c_readLight (B := B4) hm hs ok (w.drop 1) (by simp; omega))) ?_ (fun _ H5 ⟨k, e, hc, m⟩ => ⟨h4, hmB.trans m, .inr (.inr ⟨k, congrArg Exit.panic hc, (line_Light b23).trans e, m _ _ hi4⟩)⟩))
 rintro _ H24 ⟨t28, et27, hR26, m25, rfl⟩
 refine AOpsX.nil ?_
 change AWP _ _ _ _ _ _
 refine Sr ?_
 refine C rfl (So (cells' := [.int .i64 0]) (.int .i64 0) h4 rfl ts_36 (m25 _ _ hi4) rfl rfl rfl rfl ?_)
 intro H29 h30 k31
 have m33 := Mono.set (hmB.trans m25) hBi k31
 refine rt_ ?_
 exact ⟨h4, m33, .inl ⟨t28, .inr rfl, (line_Light b23).trans et27, RD.unB hR26 hmB hi4 k31, h30⟩⟩
 refine cf_ rfl (decide_eq_false b23) ?_
 refine Sr ?_
 refine C rfl (AOp.seqD rfl rfl rfl (A rfl rfl ?_))
 refine AOps.nil ?_
 change AWP _ _ _ _ _ _
 by_cases b34 : (at_ w 0) = ⟨#[116, 101, 120, 116, 117, 114, 101]⟩
 refine ct_ rfl (decide_eq_true b34) ?_
 refine AWP.regionX (l := [0, 1, 2]) rfl ?_
 refine AOpsX.cons rfl rfl (Mv _ rfl h0 ?_)
 refine AOpsX.cons rfl rfl (Mv _ rfl rfl ?_)
 refine AOpsX.consX rfl rfl (AOpX.callE (as_ := [.ptr id ver 0, .sl (w.drop 1).length ((w.drop 1).map eStr)] ) (fun _ e => by cases e; rfl) rfl (rfl) tf_35 (ACallsX.toD (c_readTexture (B := B4) hm hs ok (w.drop 1) (by simp; omega))) ?_ (fun _ H5 ⟨k, e, hc, m⟩ => ⟨h4, hmB.trans m, .inr (.inr ⟨k, congrArg Exit.panic hc, (line_Texture b34).trans e, m _ _ hi4⟩)⟩))
 rintro _ H35 ⟨t39, et38, hR37, m36, rfl⟩
 refine AOpsX.nil ?_
 change AWP _ _ _ _ _ _
 refine Sr ?_
 refine C rfl (So (cells' := [.int .i64 0]) (.int .i64 0) h4 rfl ts_36 (m36 _ _ hi4) rfl rfl rfl rfl ?_)
 intro H40 h41 k42
 have m44 := Mono.set (hmB.trans m36) hBi k42
 refine rt_ ?_
 exact ⟨h4, m44, .inl ⟨t39, .inr rfl, (line_Texture b34).trans et38, RD.unB hR37 hmB hi4 k42, h41⟩⟩
 refine cf_ rfl (decide_eq_false b34) ?_
 refine Sr ?_
 refine C rfl (AOp.seqD rfl rfl rfl (A rfl rfl ?_))
 refine AOps.nil ?_
 change AWP _ _ _ _ _ _
 by_cases b45 : (at_ w 0) = ⟨#[109, 97, 116, 101, 114, 105, 97, 108]⟩
 refine ct_ rfl (decide_eq_true b45) ?_
 refine AWP.regionX (l := [0, 1, 2]) rfl ?_
 refine AOpsX.cons rfl rfl (Mv _ rfl h0 ?_)
 refine AOpsX.cons rfl rfl (Mv _ rfl rfl ?_)
 refine AOpsX.consX rfl rfl (AOpX.callE (as_ := [.ptr id ver 0, .sl (w.drop 1).length ((w.drop 1).map eStr)] ) (fun _ e => by cases e; rfl) rfl (rfl) tf_36 (ACallsX.toD (c_readMaterial (B := B4) hm hs ok (w.drop 1) (by simp; omega))) ?_ (fun _ H5 ⟨k, e, hc, m⟩ => ⟨h4, hmB.trans m, .inr (.inr ⟨k, congrArg Exit.panic hc, (line_Material b45).trans e, m _ _ hi4⟩)⟩))
 rintro _ H46 ⟨t50, et49, hR48, m47, rfl⟩
 refine AOpsX.nil ?_
 change AWP _ _ _ _ _ _
 refine Sr ?_
 refine C rfl (So (cells' := [.int .i64 0]) (.int .i64 0) h4 rfl ts_36 (m47 _ _ hi4) rfl rfl rfl rfl ?_)
 intro H51 h52 k53
 have m55 := Mono.set (hmB.trans m47) hBi k53
 refine rt_ ?_
 exact ⟨h4, m55, .inl ⟨t50, .inr rfl, (line_Material b45).trans et49, RD.unB hR48 hmB hi4 k53, h52⟩⟩
 refine cf_ rfl (decide_eq_false b45) ?_
 refine Sr ?_
 refine C rfl (AOp.seqD rfl rfl rfl (A rfl rfl ?_))
 refine AOps.nil ?_
 change AWP _ _ _ _ _ _
 by_cases b56 : (at_ w 0) = ⟨#[99, 97, 103, 101]⟩
 refine ct_ rfl (decide_eq_true b56) ?_
 refine AWP.regionX (l := [0, 1, 2]) rfl ?_
 refine AOpsX.cons rfl rfl (Mv _ rfl h0 ?_)
 refine AOpsX.cons rfl rfl (Mv _ rfl rfl ?_)
 refine AOpsX.consX rfl rfl (AOpX.callE (as_ := [.ptr id ver 0, .sl (w.drop 1).length ((w.drop 1).map eStr)] ) (fun _ e => by cases e; rfl) rfl (rfl) tf_37 (ACallsX.toD (c_readCage (B := B4) hm hs ok (w.drop 1) (by simp; omega))) ?_ (fun _ H5 ⟨k, e, hc, m⟩ => ⟨h4, hmB.trans m, .inr (.inr ⟨k, congrArg Exit.panic hc, (line_Cage b56).trans e, m _ _ hi4⟩)⟩))
 rintro _ H57 ⟨t61, et60, hR59, m58, rfl⟩
 refine AOpsX.nil ?_
 change AWP _ _ _ _ _ _
 refine Sr ?_
 refine C rfl (So (cells' := [.int .i64 0]) (.int .i64 0) h4 rfl ts_36 (m58 _ _ hi4) rfl rfl rfl rfl ?_)
 intro H62 h63 k64
 have m66 := Mono.set (hmB.trans m58) hBi k64
 refine rt_ ?_
 exact ⟨h4, m66, .inl ⟨t61, .inr rfl, (line_Cage b56).trans et60, RD.unB hR59 hmB hi4 k64, h63⟩⟩
 refine cf_ rfl (decide_eq_false b56) ?_
 refine Sr ?_
 refine C rfl (AOp.seqD rfl rfl rfl (A rfl rfl ?_))
 refine AOps.nil ?_
 change AWP _ _ _ _ _ _
 by_cases b67 : (at_ w 0) = ⟨#[118]⟩
 refine ct_ rfl (decide_eq_true b67) ?_
 refine AWP.regionX (l := [0, 1, 2]) rfl ?_
 refine AOpsX.cons rfl rfl (Mv _ rfl h0 ?_)
 refine AOpsX.cons rfl rfl (Mv _ rfl rfl ?_)
 refine AOpsX.consX rfl rfl (AOpX.callE (as_ := [.ptr id ver 0, .sl (w.drop 1).length ((w.drop 1).map eStr)] ) (fun _ e => by cases e; rfl) rfl (rfl) tf_38 (ACallsX.toD (c_readVertex (B := B4) hm hs ok (w.drop 1) (by simp; omega))) ?_ (fun _ H5 ⟨k, e, hc, m⟩ => ⟨h4, hmB.trans m, .inr (.inr ⟨k, congrArg Exit.panic hc, (line_Vertex b67).trans e, m _ _ hi4⟩)⟩))
 rintro _ H68 ⟨t72, et71, hR70, m69, rfl⟩
 refine AOpsX.nil ?_
 change AWP _ _ _ _ _ _
 refine Sr ?_
 refine C rfl (So (cells' := [.int .i64 0]) (.int .i64 0) h4 rfl ts_36 (m69 _ _ hi4) rfl rfl rfl rfl ?_)
 intro H73 h74 k75
 have m77 := Mono.set (hmB.trans m69) hBi k75
 refine rt_ ?_
 exact ⟨h4, m77, .inl ⟨t72, .inr rfl, (line_Vertex b67).trans et71, RD.unB hR70 hmB hi4 k75, h74⟩⟩
 refine cf_ rfl (decide_eq_false b67) ?_
 refine Sr ?_
 refine C rfl (AOp.seqD rfl rfl rfl (A rfl rfl ?_))
 refine AOps.nil ?_
 change AWP _ _ _ _ _ _
 by_cases b78 : (at_ w 0) = ⟨#[102]⟩
 refine ct_ rfl (decide_eq_true b78) ?_
 refine AWP.regionX (l := [0, 1, 2]) rfl ?_
 refine AOpsX.cons rfl rfl (Mv _ rfl h0 ?_)
 refine AOpsX.cons rfl rfl (Mv _ rfl rfl ?_)
 refine AOpsX.consX rfl rfl (AOpX.callE (as_ := [.ptr id ver 0, .sl (w.drop 1).length ((w.drop 1).map eStr)] ) (fun _ e => by cases e; rfl) rfl (rfl) tf_39 (ACallsX.toD (c_readFace (B := B4) hm hs ok (w.drop 1) (by simp; omega))) ?_ (fun _ H5 ⟨k, e, hc, m⟩ => ⟨h4, hmB.trans m, .inr (.inr ⟨k, congrArg Exit.panic hc, (line_Face b78).trans e, m _ _ hi4⟩)⟩))
 rintro _ H79 ⟨t83, et82, hR81, m80, rfl⟩
 refine AOpsX.nil ?_
 change AWP _ _ _ _ _ _
 refine Sr ?_
 refine C rfl (So (cells' := [.int .i64 0]) (.int .i64 0) h4 rfl ts_36 (m80 _ _ hi4) rfl rfl rfl rfl ?_)
 intro H84 h85 k86
 have m88 := Mono.set (hmB.trans m80) hBi k86
 refine rt_ ?_
 exact ⟨h4, m88, .inl ⟨t83, .inr rfl, (line_Face b78).trans et82, RD.unB hR81 hmB hi4 k86, h85⟩⟩
 refine cf_ rfl (decide_eq_false b78) ?_
 refine Sr ?_
 refine C rfl (AOp.seqD rfl rfl rfl (A rfl rfl ?_))
 refine AOps.nil ?_
 change AWP _ _ _ _ _ _
 by_cases b89 : (at_ w 0) = ⟨#[99, 114, 101, 97, 115, 101]⟩
 refine ct_ rfl (decide_eq_true b89) ?_
 refine AWP.regionX (l := [0, 1, 2]) rfl ?_
 refine AOpsX.cons rfl rfl (Mv _ rfl h0 ?_)
 refine AOpsX.cons rfl rfl (Mv _ rfl rfl ?_)
 refine AOpsX.consX rfl rfl (AOpX.callE (as_ := [.ptr id ver 0, .sl (w.drop 1).length ((w.drop 1).map eStr)] ) (fun _ e => by cases e; rfl) rfl (rfl) tf_40 (ACallsX.toD (c_readCrease (B := B4) hm hs ok (w.drop 1) (by simp; omega))) ?_ (fun _ H5 ⟨k, e, hc, m⟩ => ⟨h4, hmB.trans m, .inr (.inr ⟨k, congrArg Exit.panic hc, (line_Crease b89).trans e, m _ _ hi4⟩)⟩))
 rintro _ H90 ⟨t94, et93, hR92, m91, rfl⟩
 refine AOpsX.nil ?_
 change AWP _ _ _ _ _ _
 refine Sr ?_
 refine C rfl (So (cells' := [.int .i64 0]) (.int .i64 0) h4 rfl ts_36 (m91 _ _ hi4) rfl rfl rfl rfl ?_)
 intro H95 h96 k97
 have m99 := Mono.set (hmB.trans m91) hBi k97
 refine rt_ ?_
 exact ⟨h4, m99, .inl ⟨t94, .inr rfl, (line_Crease b89).trans et93, RD.unB hR92 hmB hi4 k97, h96⟩⟩
 refine cf_ rfl (decide_eq_false b89) ?_
 refine Sr ?_
 refine C rfl (So (cells' := [.int .i64 10]) (.int .i64 10) h4 rfl ts_36 (hm _ _ hi4) rfl rfl rfl rfl ?_)
 intro H100 h101 k102
 have m104 := Mono.set (hmB.trans hm) hBi k102
 refine rt_ ?_
 exact ⟨h4, m104, .inr (.inl ⟨.inr rfl, line_none b1 b12 b23 b34 b45 b56 b67 b78 b89, h101⟩)⟩
end Go.Proofs.S
namespace Go.Proofs.S
open Go Go.AH Go.Proofs.L
set_option maxRecDepth 4000
set_option maxHeartbeats 4000000
set_option linter.unusedSectionVars false
variable [LexG]
theorem entry_SR {w : World} {μ : Nat → Nat} {H : Heap} {args : List AV} {vs : Array Value} {n : Nat} (hr : HR w μ H) (hv : VRs w μ H args vs.toList) (hle : args.length ≤ n) :
    SR n w μ (entry args) H { tmps := vs ++ Array.replicate (n - vs.size) undef, defers := [] } := by
  have hlen : args.length = vs.size := by simpa using hv.1
  refine ⟨hr, by simp; omega, fun t => ?_, rfl⟩
  unfold entry
  rcases Nat.lt_or_ge t args.length with ht | ht
  · have h1 : args[t]? = some args[t] := List.getElem?_eq_getElem ht
    have h2 : vs.toList[t]? = some vs[t] := by simp [hlen ▸ ht]
    have := hv.2 t _ _ h1 h2
    have e1 : args.getD t .undef = args[t] := by simp [ht]
    have e2 : (vs ++ Array.replicate (n - vs.size) undef).getD t undef = vs[t] := by
      simp [Array.getD_eq_getD_getElem?, Array.getElem?_append, hlen ▸ ht]
    rw [e1, e2]; exact this
  · have e1 : args.getD t .undef = .undef := by simp [ht]
    rw [e1]; exact .undef _
noncomputable def readD : Code := match Tryz.f17.body with | some (.seq _ (.seq r _)) => r | _ => .skip
theorem readD_wp {a : Act} {w : World} {p : Value} {Q : Exit → Act → World → Prop} (hn : 6 < a.tmps.size) (hp : a.eval (.tmp 4) = p) (h : Q .normal { tmps := a.tmps.setIfInBounds 6 (.func (.func 31) #[] #[p]), defers := { target := .fn (.func 31) #[p], args := #[] } :: a.defers } w) : readD.wp Tryz.prog Q a w := by
  refine wp_region ?_
  have e : a.tmps[4]?.getD undef = p := by rw [← hp]; simp [Act.eval, Array.getD_eq_getD_getElem?]
  simp [wpOps, go_sem, hn, e, Oper.upon, Sem.runT]
  exact .inl (.inl h)
theorem c_read {B H0 : Heap} {id ver : Nat} {s : Rd} (hm : Mono B H0) (hs : RD B H0 id ver s) (ok : RdOk s) (w : List ByteArray) (hw : w.length ≤ 1048576) (hne : 0 < w.length) :
    ACalls Tryz.prog 17 [.ptr id ver 0, .sl w.length (w.map eStr)] H0 (fun r H' => (∃ t, lineP s w = .ok t ∧ RD B H' id ver t ∧ Mono B H' ∧ r = .int .i64 0) ∨ ∃ k, lineP s w = .error k ∧ Mono B H' ∧ r = .int .i64 k) := by
  intro μ w0 vs hr hv
  refine calls_of_wp_defers Tryz.func17 rfl ?_
  have hs0 := entry_SR (n := 57) hr hv (by simp)
  have h0 : AWP Tryz.prog 57 (match Tryz.f17.body with | some (.seq r _) => r | _ => .skip) (fun e f H => e = .normal ∧ ∃ i, H0 i = none ∧ H i = some (.row 0 [.int .i64 0]) ∧ (∀ j, j ≠ i → H j = H0 j) ∧ f = upd (entry [.ptr id ver 0, .sl w.length (w.map eStr)]) 4 (.ptr i 0 0)) (entry [.ptr id ver 0, .sl w.length (w.map eStr)]) H0 := by
    refine AWP.region (l := [0]) rfl ?_
    refine AOps.cons rfl rfl (AOp.alloc rfl tz_36 ?_)
    intro i H1 h1 h2 h3
    exact AOps.nil ⟨rfl, i, h1, h2, h3, rfl⟩
  refine wp_seq (wp_mono (h0 μ _ w0 hs0) ?_)
  rintro e a1 w1 ⟨μ1, f1, H1, g1, g2, rfl, i, h1, h2, h3, rfl⟩
  show (Code.seq readD readRest).wp Tryz.prog _ a1 w1
  have h4 := g1.slots 4
  have h4' : VR w1 μ1 H1 (.ptr i 0 0) (a1.tmps.getD 4 undef) := h4
  generalize hz : a1.tmps.getD 4 undef = z at h4'
  have hz' : z = .pointer (some ⟨μ1 i, 0, none⟩) := by
    cases h4' with
    | ptr hk ha => rw [ha ⟨_, h2⟩]
  subst hz'
  have hsz : a1.tmps.size = 57 := g1.size
  refine wp_seq (readD_wp (p := .pointer (some ⟨μ1 i, 0, none⟩)) (by omega) (by simpa [Act.eval] using hz) ?_)
  show readRest.wp Tryz.prog _ _ w1
  have hd : a1.defers = [] := g1.defers
  rw [hd]
  let ds : List Deferred := [{ target := .fn (.func 31) #[.pointer (some ⟨μ1 i, 0, none⟩)], args := #[] }]
  let B4 : Heap := updH B i (.row 0 [.int .i64 0])
  have hBi : B i = none := by
    cases hb : B i with
    | none => rfl
    | some b => have := hm _ _ hb; rw [h1] at this; cases this
  have hm1 : Mono B4 H1 := fun j X hj => by
    by_cases hji : j = i
    · subst hji; rw [show B4 j = some (.row 0 [.int .i64 0]) from updH_same _ _ _] at hj; cases hj; exact h2
    · rw [show B4 j = B j from updH_ne _ _ hji] at hj; rw [h3 j hji]; exact hm _ _ hj
  have hmB : Mono B B4 := fun j X hj => by
    have hji : j ≠ i := fun e => by rw [e, hBi] at hj; cases hj
    exact (updH_ne _ _ hji).trans hj
  have hR4 : RD B4 H1 id ver s := hs.rebase (fun j hj => updH_ne _ _ hj) h1 h3
  have hrest := c_read_rest (ds := ds) (B := B) (B4 := B4) (i4 := i) hmB (updH_same _ _ _) hBi hm1 hR4 ok w hw hne
    (f := upd (upd (entry [.ptr id ver 0, .sl w.length (w.map eStr)]) 4 (.ptr i 0 0)) 6 (.fn 31 [.ptr i 0 0])) rfl rfl rfl
  have g1D : @SR (withD instG ds) 57 w1 μ1 (upd (upd (entry [.ptr id ver 0, .sl w.length (w.map eStr)]) 4 (.ptr i 0 0)) 6 (.fn 31 [.ptr i 0 0])) H1
      { tmps := a1.tmps.setIfInBounds 6 (.func (.func 31) #[] #[.pointer (some ⟨μ1 i, 0, none⟩)]), defers := ds } := by
    refine @SR.mk (withD instG ds) 57 w1 μ1 _ H1 _ g1.hr.toD (by simp [hsz]) (fun t => ?_) rfl
    rw [upd_eq]
    by_cases ht : t = 6
    · subst ht
      rw [if_pos rfl]
      have e : (a1.tmps.setIfInBounds 6 (.func (.func 31) #[] #[.pointer (some ⟨μ1 i, 0, none⟩)])).getD 6 undef = .func (.func 31) #[] #[.pointer (some ⟨μ1 i, 0, none⟩)] := by
        simp [Array.getD_eq_getD_getElem?, hsz]
      simp only [e]
      refine .fn (by simp) fun j x y hx hy => ?_
      match j, hx, hy with
      | 0, hx, hy => cases hx; simp at hy; subst hy; exact hz ▸ h4
      | j + 1, hx, _ => simp at hx
    · rw [if_neg ht]
      have e : (a1.tmps.setIfInBounds 6 (.func (.func 31) #[] #[.pointer (some ⟨μ1 i, 0, none⟩)])).getD t undef = a1.tmps.getD t undef := by
        simp [Array.getD_eq_getD_getElem?, Ne.symm ht]
      simp only [e]; exact g1.slots t
  refine wp_mono (hrest μ1 _ w1 g1D) ?_
  rintro e a2 w2 ⟨μ2, f2, H2, k1, k2, q1, q2, q3⟩
  have kd : a2.defers = ds := @SR.defers (withD instG ds) _ _ _ _ _ _ k1
  have k4 : VR w2 μ2 H2 (f2 4) (a2.tmps.getD 4 undef) := @SR.slots (withD instG ds) _ _ _ _ _ _ k1 4
  have kr : HR w2 μ2 H2 := @HR.ofD instG ds w2 μ2 H2 (@SR.hr (withD instG ds) _ _ _ _ _ _ k1)
  have kext := g2.trans k2
  -- where the result lies has not moved
  have hμ : H2 i = some (.row 0 [.int .i64 0]) ∨ H2 i = some (.row 0 [.int .i64 10]) → μ2 i = μ1 i := fun h => by
    have hk1 : Known H1 i 0 := ⟨_, 0, h2, rfl, Nat.le_refl _⟩
    have ha : Alive H2 i 0 := by rcases h with h | h <;> exact ⟨_, h⟩
    exact (k2.alive i 0 hk1 ha).2.1
  have hp : ∀ {X : AB}, H2 i = some X → (∃ c, X = .row 0 c) → a2.tmps.getD 4 undef = .pointer (some ⟨μ2 i, 0, none⟩) := by
    rintro X hX ⟨c, rfl⟩
    rw [q1] at k4
    generalize a2.tmps.getD 4 undef = z at k4
    cases k4 with
    | ptr hk ha => rw [ha ⟨_, hX⟩]
  have res : ∀ (w' : World) (m : Int), w'.cell? ⟨μ2 i, 0, none⟩ = some (.int .i64 m) → a2.tmps.getD 4 undef = .pointer (some ⟨μ2 i, 0, none⟩) → (results Tryz.f17 a2.tmps).run Tryz.prog w' = .ok (.int .i64 m) w' := fun w' m hc ht => by
    have e : a2.tmps[4]?.getD undef = .pointer (some ⟨μ2 i, 0, none⟩) := by rw [← ht]; simp [Array.getD_eq_getD_getElem?]
    simp [results, Tryz.results17, go_sem, e, hc]
  have inv : ∀ (w' : World), (invoke (.fn (.func 31) #[.pointer (some ⟨μ1 i, 0, none⟩)]) #[]).run Tryz.prog w' = .ok (.enter 31 #[.pointer (some ⟨μ1 i, 0, none⟩)]) w' := fun w' => by
    simp [go_sem]
  have idle : ∀ m : Int, H2 i = some (.row 0 [.int .i64 m]) → μ2 i = μ1 i → ∀ R : Ending → World → Prop, R (.returned (.int .i64 m)) w2 → Leaves Tryz.prog Tryz.f17 a2.tmps R a2.defers .returning w2 := by
    intro m hi hμ R hR
    rw [kd]
    refine leaves_cons (by simp) (inv w2) ((catch_i _ w2).mono ?_)
    rintro e u' w'' ⟨rfl, rfl, rfl⟩
    exact ⟨_, res w'' m (cell_set (k := 0) kr hi).1 (hp hi ⟨_, rfl⟩), hR⟩
  rcases q3 with ⟨t, he, e1, e2, hi⟩ | ⟨he, e1, hi⟩ | ⟨k, rfl, e1, hi⟩
  · have := idle 0 hi (hμ (.inl hi)) (fun e w' => ∃ v, e = .returned v ∧ ∃ μ' H' r, HR w' μ' H' ∧ VR w' μ' H' r v ∧ Ext w0 μ H0 w' μ' H' ∧ ((∃ t, lineP s w = .ok t ∧ RD B H' id ver t ∧ Mono B H' ∧ r = .int .i64 0) ∨ ∃ k, lineP s w = .error k ∧ Mono B H' ∧ r = .int .i64 k))
      ⟨_, rfl, μ2, H2, .int .i64 0, kr, .int _ _, kext, .inl ⟨t, e1, e2, q2, rfl⟩⟩
    rcases he with rfl | rfl <;> exact this
  · have := idle 10 hi (hμ (.inr hi)) (fun e w' => ∃ v, e = .returned v ∧ ∃ μ' H' r, HR w' μ' H' ∧ VR w' μ' H' r v ∧ Ext w0 μ H0 w' μ' H' ∧ ((∃ t, lineP s w = .ok t ∧ RD B H' id ver t ∧ Mono B H' ∧ r = .int .i64 0) ∨ ∃ k, lineP s w = .error k ∧ Mono B H' ∧ r = .int .i64 k))
      ⟨_, rfl, μ2, H2, .int .i64 10, kr, .int _ _, kext, .inr ⟨10, e1, q2, rfl⟩⟩
    rcases he with rfl | rfl <;> exact this
  · show Leaves Tryz.prog Tryz.f17 a2.tmps _ a2.defers (.panicking (pan 36 k)) w2
    rw [kd]
    obtain ⟨c1, c2, c3, c4, c5⟩ := cell_set (k := k) kr hi
    rw [hμ (.inl hi)] at c1 c2 c3 c4 c5
    refine leaves_cons (by simp) (inv w2) ((catch_p _ 0 k w2 c1 c2).mono ?_)
    rintro e u' w'' ⟨rfl, rfl, rfl⟩
    have ht := hp hi ⟨_, rfl⟩
    have hr' := res (w2.setCell ⟨μ1 i, 0, none⟩ (.int .i64 k)) k (by rw [hμ (.inl hi)]; exact c3) ht
    refine ⟨_, hr', _, rfl, μ2, _, .int .i64 k, c5, .int _ _, kext.trans c4, .inr ⟨k, e1, ?_, rfl⟩⟩
    intro j X hj
    have hji : j ≠ i := fun e => by rw [e, hBi] at hj; cases hj
    rw [updH_ne _ _ hji]; exact q2 _ _ hj
end Go.Proofs.S
namespace Go.Proofs.L
open Go Go.AH Go.Lib
set_option maxRecDepth 4000
set_option linter.unusedSectionVars false
variable [LexG]
end Go.Proofs.L
namespace Go.Proofs.S
open Go Go.AH Go.Proofs.L
set_option maxRecDepth 4000
set_option linter.unusedSectionVars false
variable [LexG]
theorem RD.init {B H : Heap} {id : Nat} (h : H id = some (.row 0 (rdC rd0.cam rd0.sky .snil .snil .snil .snil .snil false false))) (hB : B id = none) : RD B H id 0 rd0 := by
  refine ⟨.snil, .snil, .snil, .snil, .snil, .snil, .snil, .snil, h, hB, ⟨fun e he => ?_, ?_⟩, fun e he => ?_⟩
  · simp only [rdL, List.mem_cons, List.not_mem_nil, or_false] at he
    rcases he with rfl | rfl | rfl | rfl | rfl | rfl | rfl | rfl <;> exact .nil _ _ _
  · simp [rdL, Sep.nilL]
  · simp only [rdL, List.mem_cons, List.not_mem_nil, or_false] at he
    rcases he with rfl | rfl | rfl | rfl | rfl | rfl | rfl | rfl <;> exact .nil _
theorem rd0_ok : RdOk rd0 := ⟨by decide, by decide, by decide, by decide, by decide, by simp [rd0]⟩
theorem gd_ok {α : Type} {b : Bool} {k : Int} {x : Except Int α} {y : α} : gd b k x = .ok y ↔ b = true ∧ x = .ok y := by
  unfold gd; split <;> simp_all
theorem gd_err {α : Type} {b : Bool} {k k' : Int} {x : Except Int α} : gd b k x = .error k' ↔ (b = false ∧ k = k') ∨ (b = true ∧ x = .error k') := by
  unfold gd; split <;> simp_all
theorem line_err {s : Rd} {w : List ByteArray} {k : Int} (h : lineP s w = .error k) : ¬ k = 0 := by
  unfold lineP at h
  simp only [cameraP, skyP, lightP, textureP, materialP, cageP, vertexP, faceP, creaseP] at h
  repeat' split at h
  all_goals (simp only [gd_err, reduceCtorEq, and_false, or_false, Except.error.injEq] at h; omega)
theorem putC_ok {cs : List CageT} {c : CageT} (h : ∀ c ∈ cs, c.Verts.length ≤ 64 ∧ c.Faces.length ≤ 64 ∧ c.Creases.length ≤ 128) (hc : c.Verts.length ≤ 64 ∧ c.Faces.length ≤ 64 ∧ c.Creases.length ≤ 128) :
    ∀ x ∈ putC cs c, x.Verts.length ≤ 64 ∧ x.Faces.length ≤ 64 ∧ x.Creases.length ≤ 128 := fun x hx => by
  rcases List.mem_append.1 hx with hx | hx
  · exact h x (List.dropLast_subset _ hx)
  · rw [List.mem_singleton.1 hx]; exact hc
theorem lineP_ok {s t : Rd} {w : List ByteArray} (ok : RdOk s) (h : lineP s w = .ok t) : RdOk t := by
  obtain ⟨a1, a2, a3, a4, a5, a6⟩ := ok
  have lc : s.cages ≠ [] → _ := fun hne => a6 _ (lastC_mem hne)
  unfold lineP at h
  simp only [cameraP, skyP, lightP, textureP, materialP, cageP, vertexP, faceP, creaseP] at h
  repeat' split at h
  all_goals simp only [gd_ok, Except.ok.injEq, decide_eq_true_eq, reduceCtorEq] at h
  · obtain ⟨_, _, _, _, _, _, _, rfl⟩ := h; exact ⟨a1, a2, a3, a4, a5, a6⟩
  · obtain ⟨_, _, _, rfl⟩ := h; exact ⟨a1, a2, a3, a4, a5, a6⟩
  · obtain ⟨_, h1, _, _, rfl⟩ := h; exact ⟨by simp; omega, a2, a3, a4, a5, a6⟩
  · obtain ⟨_, _, _, h1, _, _, _, rfl⟩ := h; exact ⟨a1, a2, by simp; omega, a4, a5, a6⟩
  · obtain ⟨_, _, h1, _, _, _, _, _, _, rfl⟩ := h; exact ⟨a1, by simp; omega, a3, a4, a5, a6⟩
  · obtain ⟨_, _, _, h1, _, _, _, _, rfl⟩ := h
    refine ⟨a1, a2, a3, by simp; omega, by simp [a5], fun c hc => ?_⟩
    rcases List.mem_append.1 hc with hc | hc
    · exact a6 c hc
    · rw [List.mem_singleton.1 hc]; simp
  · obtain ⟨_, h1, h2, _, rfl⟩ := h
    have hne : s.cages ≠ [] := List.length_pos_iff.1 (by omega)
    have := lc hne
    exact ⟨a1, a2, a3, a4, by simp only [putC_len hne]; exact a5, putC_ok a6 ⟨by simp; omega, this.2⟩⟩
  · obtain ⟨_, _, h1, h2, _, rfl⟩ := h
    have hne : s.cages ≠ [] := List.length_pos_iff.1 (by omega)
    have := lc hne
    exact ⟨a1, a2, a3, a4, by simp only [putC_len hne]; exact a5, putC_ok a6 ⟨this.1, by simp; omega, this.2.2⟩⟩
  · obtain ⟨_, h1, h2, _, _, _, rfl⟩ := h
    have hne : s.cages ≠ [] := List.length_pos_iff.1 (by omega)
    have := lc hne
    exact ⟨a1, a2, a3, a4, by simp only [putC_len hne]; exact a5, putC_ok a6 ⟨this.1, this.2.1, by simp; omega⟩⟩
theorem foldP_cons {s : Rd} {l : LineT} {r : List LineT} {t : Rd} (h : lineP s l.Words = .ok t) : foldP s (l :: r) = foldP t r := by simp only [foldP, h]
theorem foldP_err {s : Rd} {l : LineT} {r : List LineT} {k : Int} (h : lineP s l.Words = .error k) : foldP s (l :: r) = .error (l.No, k) := by simp only [foldP, h]
theorem drop_cons {l : List LineT} {i : Int} (h0 : 0 ≤ i) (h1 : i < l.length) : l.drop i.toNat = at_ l i :: l.drop (i + 1).toNat := by
  rw [at_get h0 h1, show (i + 1).toNat = i.toNat + 1 by omega]; exact List.drop_eq_getElem_cons _
theorem fold_step {r t : Rd} {l : List LineT} {i : Int} (h0 : 0 ≤ i) (h1 : i < l.length) (h : lineP r (at_ l i).Words = .ok t) : foldP r (l.drop i.toNat) = foldP t (l.drop (i + 1).toNat) := by
  rw [drop_cons h0 h1]; exact foldP_cons h
theorem scan_ne : ∀ (ps : List ByteArray) (i : Int) (out : List LineT), (∀ x ∈ out, 0 < x.Words.length) → ∀ x ∈ (scanL ps i out).1, 0 < x.Words.length
  | [], _, _, h => h
  | p :: r, i, out, h => by
    unfold scanL
    split
    · simp
    · refine scan_ne r _ _ fun x hx => ?_
      rcases List.mem_append.1 hx with hx | hx
      · exact h x hx
      · unfold lineOf at hx
        split at hx
        · rw [List.mem_singleton.1 hx]; simp only; omega
        · simp at hx
theorem lines_ne (s : ByteArray) : ∀ x ∈ (linesR s).1, 0 < x.Words.length := by
  unfold linesR
  split
  · simp
  · exact scan_ne _ _ _ (by simp)
theorem line_at (s : ByteArray) {i : Int} (h0 : 0 ≤ i) (h1 : i < ((linesR s).1.length : Int)) : (at_ (linesR s).1 i).Words.length ≤ 1048576 ∧ 0 < (at_ (linesR s).1 i).Words.length := by
  have hm : at_ (linesR s).1 i ∈ (linesR s).1 := by rw [at_get h0 h1]; exact List.getElem_mem _
  exact ⟨lines_words s _ hm, lines_ne s _ hm⟩
section
variable {s : ByteArray} {r : Rd} {i : Int}
theorem parse_err {k : Int} (h0 : (linesR s).2.2 = 0) (hf : foldP rd0 (linesR s).1 = foldP r ((linesR s).1.drop i.toNat)) (hi : 0 ≤ i) (h1 : i < ((linesR s).1.length : Int)) (he : lineP r (at_ (linesR s).1 i).Words = .error k) : parseR s = (rd0.scene, (at_ (linesR s).1 i).No, k) := by
  unfold parseR
  rw [if_pos h0, hf, drop_cons hi h1, foldP_err he]; rfl
theorem parse_end (h0 : (linesR s).2.2 = 0) (hf : foldP rd0 (linesR s).1 = foldP r ((linesR s).1.drop i.toNat)) (h1 : ((linesR s).1.length : Int) ≤ i) : parseR s = endP (.ok r) := by
  unfold parseR
  rw [if_pos h0, hf, List.drop_eq_nil_of_le (by omega)]; rfl
theorem parse_ok (h0 : (linesR s).2.2 = 0) (hf : foldP rd0 (linesR s).1 = foldP r ((linesR s).1.drop i.toNat)) (h1 : ((linesR s).1.length : Int) ≤ i) (h : r.hc = true) : parseR s = (r.scene, 0, 0) := by
  rw [parse_end h0 hf h1]; simp [endP, h]
theorem parse_no (h0 : (linesR s).2.2 = 0) (hf : foldP rd0 (linesR s).1 = foldP r ((linesR s).1.drop i.toNat)) (h1 : ((linesR s).1.length : Int) ≤ i) (h : r.hc = false) : parseR s = (rd0.scene, 0, 15) := by
  rw [parse_end h0 hf h1]; simp [endP, h]
end
end Go.Proofs.S
namespace Go.Proofs.S
open Go Go.AH Go.Proofs.L
set_option maxRecDepth 4000
set_option maxHeartbeats 4000000
set_option linter.unusedSimpArgs false
set_option linter.unusedVariables false
set_option linter.unusedSectionVars false
variable [LexG]
theorem c_Parse (s : ByteArray) : PC Tryz.prog 9 [.str s] (.tup [.agg (eScene (parseR s).1), .int .i64 ((parseR s).2.1), .int .i64 ((parseR s).2.2)]) := by
 intro H0
 refine ACalls.of_body' (n := 52) rfl rfl rfl rfl ?_
 have m0 := Mono.refl H0
 refine Sr ?_
 refine C rfl (al_ rfl tz_35 ?_)
 intro i1 H2 n3 h4 k5
 have z6 := Mono.free m0 n3
 have m7 := Mono.new m0 n3 k5
 refine A rfl rfl (A rfl rfl ?_)
 refine Sr ?_
 refine V rfl rfl (C rfl (Pc («as» := [.str s]) rfl rfl (rfl) tf_16 (c_lex_Lines _) ?_))
 intro H8 m9
 have h10 := m9 _ _ h4
 have m11 := m7.trans m9
 refine V rfl rfl (E rfl rfl rfl (E rfl rfl rfl (E rfl rfl rfl (A rfl rfl (A rfl rfl (A rfl rfl ?_))))))
 refine AWP.seq ?_
 refine Sr ?_
 refine V rfl rfl (B rfl rfl rfl ine ?_)
 refine AOps.nil ?_
 change AWP _ _ _ _ _ _
 by_cases b12 : (linesR s).2.2 = 0
 refine cf_ rfl (nb (decide_eq_true b12)) ?_
 refine AWP.skip ?_
 refine Sr ?_
 refine C rfl (Bl (cells := [.int .i64 0, .int .i64 0, .int .i64 0, .int .i64 0, .int .i64 0, .int .i64 0, .int .i64 0, .int .i64 0, .int .i64 0, .int .i64 0, .int .i64 0, .int .i64 0, .int .i64 0, .int .i64 0, .int .i64 0, .int .i64 0, .int .i64 0, .int .i64 0, .int .i64 0, .snil, .snil, .snil, .snil, .snil, .bool false, .bool false]) rfl tz_56 pl_56 rfl rfl (C rfl (bx_ (.agg [.int .i64 0, .int .i64 0, .int .i64 0, .int .i64 0, .int .i64 0, .int .i64 0, .int .i64 0, .int .i64 0, .int .i64 0, .int .i64 0, .int .i64 0, .int .i64 0, .int .i64 0, .int .i64 0, .int .i64 0, .int .i64 0, .int .i64 0, .int .i64 0, .int .i64 0, .snil, .snil, .snil, .snil, .snil, .bool false, .bool false]) rfl rfl rfl ?_)))
 intro i13 H14 n15 h16 k17
 have h20 := keep k17 (ne_new h10 n15) h10
 have m21 := Mono.new m11 n15 k17
 refine A rfl rfl ?_
 refine AWP.seq ?_
 refine AWP.seq ?_
 have hrd0 : RD H8 H14 i13 0 rd0 := RD.init h16 n15
 have hmm0 : Mono H8 H14 := Mono.new (Mono.refl _) n15 k17
 have hl0_ := b12
 have hll_ := lines_len s
 refine AWP.region rfl ?_
 refine V rfl rfl (C rfl (AOp.len (m := ((linesR s).1).length) rfl rfl (.inr (.inl ⟨_, rfl⟩)) u_51 (V rfl rfl ?_)))
 refine bk_ ?_
 refine AWP.loop (fun q22 fq Hq => ∃ (i : Int) (r : Rd), q22 = (((((linesR s).1).length : Int) : Int) - i).toNat ∧ fq 27 = .int .i64 i ∧ fq 2 = .ptr i1 0 0 ∧ fq 8 = .ptr i13 0 0 ∧ fq 25 = .sl ((linesR s).1).length (((linesR s).1).flatMap eLine) ∧ fq 26 = .int .i64 ((((linesR s).1).length) : Int) ∧ Hq i1 = some (.row 0 ([.int .i64 0, .int .i64 0, .int .i64 0, .int .i64 0, .int .i64 0, .int .i64 0, .int .i64 0, .int .i64 0, .int .i64 0, .int .i64 0, .int .i64 0, .int .i64 0, .int .i64 0, .int .i64 0, .int .i64 0, .int .i64 0, .int .i64 0, .int .i64 0, .int .i64 0, .snil, .snil, .snil, .snil, .snil])) ∧ Mono H0 Hq ∧ (RD H8 Hq i13 0 r) ∧ (Mono H8 Hq) ∧ (0 ≤ i) ∧ (i ≤ (((linesR s).1).length : Int)) ∧ (foldP rd0 (linesR s).1 = foldP r ((linesR s).1.drop i.toNat)) ∧ (RdOk r)) (k := (((((linesR s).1).length : Int) : Int) - 0).toNat) ?_ ?_
 exact ⟨0, rd0, rfl, rfl, rfl, rfl, rfl, rfl, h20, m21, hrd0, hmm0, by omega, by omega, by rfl, by exact rd0_ok⟩
 rintro _ f24 H23 ⟨i, r, rfl, s25, s26, s27, s28, s29, h30, m31, hrd, hmm, hi0, hi1, hfd, hok⟩
 refine Sr ?_
 refine B rfl s25 s29 rfl ?_
 refine AWP.seq ?_
 by_cases b32 : i < ((((linesR s).1).length) : Int)
 refine ct_ rfl (decide_eq_true b32) ?_
 refine AWP.skip ?_
 refine AWP.seq ?_
 refine bk_ ?_
 refine Sr ?_
 refine C rfl (iS_ rfl s28 s25 sl_51 (by omega) (by omega) (L rfl rfl ty_59 (ldM eLine_len (by omega) (by omega)) (C rfl (al_ rfl tz_59 ?_))))
 intro i33 H34 n35 h36 k37
 have z39 := Mono.free m31 n35
 have mn43 := Mono.new (Mono.refl H23) n35 k37
 have m44 := Mono.new m31 n35 k37
 refine C rfl (Sw rfl rfl ts_59 h36 rfl rfl rfl ?_)
 intro H45 h46 k47
 have mn50 := Mono.set mn43 n35 k47
 have m53 := Mono.set m44 z39 k47
 refine AWP.seq ?_
 refine fz_ 10 h46 z39 rfl m53 fun H54 m55 k56 => ?_
 have mn58 := Mono.set mn50 n35 k56
 have rd59 := hrd.mono mn58
 have rd60 := Mono.trans hmm mn58
 refine AWP.region rfl ?_
 refine V rfl s27 (F rfl rfl fl_59_1 (L rfl rfl ty_57 rfl ?_))
 have hwd := line_at s hi0 (by omega)
 refine C rfl (AOp.xcall («as» := [.ptr i13 0 0, .sl ((at_ ((linesR s).1) i).Words).length (((at_ ((linesR s).1) i).Words).map eStr)]) rfl rfl (rfl) tf_17 (c_read (B := H8) rd60 rd59 hok ((at_ ((linesR s).1) i).Words) hwd.1 hwd.2) ?_)
 rintro _ H61 (⟨t62, et63, hR64, m65, rfl⟩ | ⟨k66, et63, m65, rfl⟩)
 refine A rfl rfl ?_
 refine Sr ?_
 refine V rfl rfl (B rfl rfl rfl ine ?_)
 refine cf_ rfl (nb (decide_eq_true (by decide))) ?_
 refine AWP.skip ?_
 refine AWP.region rfl ?_
 refine B rfl s25 rfl (iadd (by omega)) (V rfl rfl ?_)
 refine AOps.nil ?_
 exact ⟨_, by omega, i + 1, t62, rfl, rfl, s26, s27, s28, s29, (m65 _ _ h10), (Mono.trans m11 m65), hR64, m65, by omega, by omega, by rw [hfd]; exact fold_step hi0 (by omega) et63, by exact lineP_ok hok et63⟩
 have hk67 := line_err et63
 refine A rfl rfl ?_
 refine Sr ?_
 refine V rfl rfl (B rfl rfl rfl ine ?_)
 refine ct_ rfl (nb (decide_eq_false hk67)) ?_
 refine AWP.seq ?_
 refine AWP.region_str mixed (by kernel_rfl) [(0, none), (1, none), (2, none), (3, none), (4, some [1, 2, 3]), (5, none)] [6] (by kernel_rfl) ?_
 refine STR.op rfl rfl (.inl ⟨rfl, fun H1 f' H' hf hN hM => Bl (cells := [.int .i64 0, .int .i64 0, .int .i64 0, .int .i64 0, .int .i64 0, .int .i64 0, .int .i64 0, .int .i64 0, .int .i64 0, .int .i64 0, .int .i64 0, .int .i64 0, .int .i64 0, .int .i64 0, .int .i64 0, .int .i64 0, .int .i64 0, .int .i64 0, .int .i64 0, .snil, .snil, .snil, .snil, .snil]) rfl tz_35 pl_35 rfl rfl ⟨rfl, hN⟩⟩) ?_
 refine STR.op rfl rfl (.inl ⟨rfl, fun H1 f' H' hf hN hM => Ff rfl ((hf 10 rfl).trans rfl) fl_59_0 ⟨rfl, hN⟩⟩) ?_
 refine STR.op rfl rfl (.inl ⟨rfl, fun H1 f' H' hf hN hM => Lf _ rfl ((hf 38 rfl).trans rfl) ty_3 rfl ⟨rfl, hN⟩⟩) ?_
 refine STR.op rfl rfl (.inl ⟨rfl, fun H1 f' H' hf hN hM => Mv _ rfl ((hf 11 rfl).trans rfl) ⟨rfl, hN⟩⟩) ?_
 refine STR.st rfl rfl rfl fun f68 H69 hf70 m71 => ?_
 have h72 := m71 _ _ (m65 _ _ h10)
 have m73 := (Mono.trans m11 m65).trans m71
 refine So (cells' := [.int .i64 0, .int .i64 0, .int .i64 0, .int .i64 0, .int .i64 0, .int .i64 0, .int .i64 0, .int .i64 0, .int .i64 0, .int .i64 0, .int .i64 0, .int .i64 0, .int .i64 0, .int .i64 0, .int .i64 0, .int .i64 0, .int .i64 0, .int .i64 0, .int .i64 0, .snil, .snil, .snil, .snil, .snil]) (.agg [.int .i64 0, .int .i64 0, .int .i64 0, .int .i64 0, .int .i64 0, .int .i64 0, .int .i64 0, .int .i64 0, .int .i64 0, .int .i64 0, .int .i64 0, .int .i64 0, .int .i64 0, .int .i64 0, .int .i64 0, .int .i64 0, .int .i64 0, .int .i64 0, .int .i64 0, .snil, .snil, .snil, .snil, .snil]) ((hf70 2 rfl).trans s26) ((hf70 37 rfl).trans rfl) ts_35 h72 rfl rfl rfl rfl ?_
 intro H74 h75 k76
 have m78 := Mono.set m73 z6 k76
 refine ⟨rfl, .inr (RevR.cons rfl (.inl ⟨rfl, fun H1 f' H' hf hN hM => Mv _ rfl ((hf 11 rfl).trans rfl) ⟨rfl, hN⟩⟩) (RevR.cons rfl (.inl ⟨rfl, fun H1 f' H' hf hN hM => Lf _ rfl ((hf 38 rfl).trans rfl) ty_3 rfl ⟨rfl, hN⟩⟩) (RevR.cons rfl (.inl ⟨rfl, fun H1 f' H' hf hN hM => Ff rfl ((hf 10 rfl).trans rfl) fl_59_0 ⟨rfl, hN⟩⟩) (RevR.skip rfl RevR.nil)))), ?_⟩
 refine STR.op rfl rfl (.inl ⟨rfl, fun H1 f' H' hf hN hM => As _ rfl ((hf 39 rfl).trans rfl) ⟨rfl, hN⟩⟩) ?_
 refine STR.done fun H79 m80 => ?_
 have h81 := m80 _ _ h75
 have m82 := m78.trans m80
 refine A rfl rfl ?_
 refine rt_ ?_
 refine Fin.frzCell 19 (Own.nil H0 H79 1) h81 z6 rfl (NotId.nil _) m82 fun H83 h84 m85 k86 => ?_
 have h87 : H83 i1 = some (.row 0 ([.int .i64 0, .int .i64 0, .int .i64 0, .int .i64 0, .int .i64 0, .int .i64 0, .int .i64 0, .int .i64 0, .int .i64 0, .int .i64 0, .int .i64 0, .int .i64 0, .int .i64 0, .int .i64 0, .int .i64 0, .int .i64 0, .int .i64 0, .int .i64 0, .int .i64 0, .sl 0 ([]), .snil, .snil, .snil, .snil])) := h84
 refine Fin.frzCell 20 (Own.nil H0 H83 1) h87 z6 rfl (NotId.nil _) m85 fun H88 h89 m90 k91 => ?_
 have h92 : H88 i1 = some (.row 0 ([.int .i64 0, .int .i64 0, .int .i64 0, .int .i64 0, .int .i64 0, .int .i64 0, .int .i64 0, .int .i64 0, .int .i64 0, .int .i64 0, .int .i64 0, .int .i64 0, .int .i64 0, .int .i64 0, .int .i64 0, .int .i64 0, .int .i64 0, .int .i64 0, .int .i64 0, .sl 0 ([]), .sl 0 ([]), .snil, .snil, .snil])) := h89
 refine Fin.frzCell 21 (Own.nil H0 H88 1) h92 z6 rfl (NotId.nil _) m90 fun H93 h94 m95 k96 => ?_
 have h97 : H93 i1 = some (.row 0 ([.int .i64 0, .int .i64 0, .int .i64 0, .int .i64 0, .int .i64 0, .int .i64 0, .int .i64 0, .int .i64 0, .int .i64 0, .int .i64 0, .int .i64 0, .int .i64 0, .int .i64 0, .int .i64 0, .int .i64 0, .int .i64 0, .int .i64 0, .int .i64 0, .int .i64 0, .sl 0 ([]), .sl 0 ([]), .sl 0 ([]), .snil, .snil])) := h94
 refine Fin.frzCell 22 (Own.nil H0 H93 1) h97 z6 rfl (NotId.nil _) m95 fun H98 h99 m100 k101 => ?_
 have h102 : H98 i1 = some (.row 0 ([.int .i64 0, .int .i64 0, .int .i64 0, .int .i64 0, .int .i64 0, .int .i64 0, .int .i64 0, .int .i64 0, .int .i64 0, .int .i64 0, .int .i64 0, .int .i64 0, .int .i64 0, .int .i64 0, .int .i64 0, .int .i64 0, .int .i64 0, .int .i64 0, .int .i64 0, .sl 0 ([]), .sl 0 ([]), .sl 0 ([]), .sl 0 ([]), .snil])) := h99
 refine Fin.frzCell 23 (Own.nil H0 H98 1) h102 z6 rfl (NotId.nil _) m100 fun H103 h104 m105 k106 => ?_
 have h107 : H103 i1 = some (.row 0 ([.int .i64 0, .int .i64 0, .int .i64 0, .int .i64 0, .int .i64 0, .int .i64 0, .int .i64 0, .int .i64 0, .int .i64 0, .int .i64 0, .int .i64 0, .int .i64 0, .int .i64 0, .int .i64 0, .int .i64 0, .int .i64 0, .int .i64 0, .int .i64 0, .int .i64 0, .sl 0 ([]), .sl 0 ([]), .sl 0 ([]), .sl 0 ([]), .sl 0 ([])])) := h104
 refine Rr (Res.list rfl rfl (.cell (v := .agg [.int .i64 0, .int .i64 0, .int .i64 0, .int .i64 0, .int .i64 0, .int .i64 0, .int .i64 0, .int .i64 0, .int .i64 0, .int .i64 0, .int .i64 0, .int .i64 0, .int .i64 0, .int .i64 0, .int .i64 0, .int .i64 0, .int .i64 0, .int .i64 0, .int .i64 0, .sl 0 ([]), .sl 0 ([]), .sl 0 ([]), .sl 0 ([]), .sl 0 ([])]) s26 ty_35 h107 rfl (.tmp rfl (.tmp rfl (.nil))))) ?_ m105
 have hP : parseR s = (rd0.scene, (at_ ((linesR s).1) i).No, k66) := parse_err hl0_ hfd hi0 (by omega) et63
 exact (congrArg (fun r : SceneT × Int × Int => AV.tup [.agg (eScene r.1), .int .i64 r.2.1, .int .i64 r.2.2]) hP).symm
 refine cf_ rfl (decide_eq_false b32) ?_
 refine AWP.exit ?_
 change AWP _ _ _ _ _ _
 refine AWP.seq ?_
 refine AWP.seq ?_
 refine AWP.rdFreeze hrd hmm fun H108 m109 h110 => ?_
 have hBid_ : H0 i13 = none := Mono.free m11 n15
 have e111 : i1 ≠ i13 := ne_new h10 n15
 refine AWP.region rfl ?_
 refine V rfl s27 (C rfl (nc_ (.ptr i13 0 0) rfl rfl rfl ?_))
 refine C rfl (Fa rfl rfl fl_56_1 ?_ (hid := ⟨_, h110⟩))
 refine C rfl (Ld _ rfl rfl ty_4 h110 rfl (C rfl (AOp.not rfl rfl ?_)))
 refine AOps.nil ?_
 change AWP _ _ _ _ _ _
 rcases Bool.eq_false_or_eq_true (r.hc) with b112 | b112
 refine cf_ rfl (nb b112) ?_
 refine AWP.skip ?_
 refine Sr ?_
 refine V rfl s27 (C rfl (nc_ (.ptr i13 0 0) rfl rfl rfl ?_))
 refine C rfl (Fa rfl rfl fl_56_0 ?_ (hid := ⟨_, h110⟩))
 refine C rfl (Ld _ rfl rfl ty_35 h110 rfl (C rfl (So (cells' := [.int .i64 r.scene.Camera.Eye.X, .int .i64 r.scene.Camera.Eye.Y, .int .i64 r.scene.Camera.Eye.Z, .int .i64 r.scene.Camera.First.X, .int .i64 r.scene.Camera.First.Y, .int .i64 r.scene.Camera.First.Z, .int .i64 r.scene.Camera.Right.X, .int .i64 r.scene.Camera.Right.Y, .int .i64 r.scene.Camera.Right.Z, .int .i64 r.scene.Camera.Down.X, .int .i64 r.scene.Camera.Down.Y, .int .i64 r.scene.Camera.Down.Z, .int .i64 r.scene.Camera.W, .int .i64 r.scene.Camera.H, .int .i64 r.scene.Camera.Grid, .int .i64 r.scene.Camera.Depth, .int .i64 r.scene.Sky.R, .int .i64 r.scene.Sky.G, .int .i64 r.scene.Sky.B, .sl r.scene.Lights.length (r.scene.Lights.flatMap eLight), .sl r.scene.Mats.length (r.scene.Mats.flatMap eMat), .sl r.scene.Texs.length (r.scene.Texs.flatMap eTex), .sl r.scene.Skins.length (r.scene.Skins.flatMap eSkin), .sl r.scene.Cages.length (r.scene.Cages.flatMap eCage)]) (.agg [.int .i64 r.scene.Camera.Eye.X, .int .i64 r.scene.Camera.Eye.Y, .int .i64 r.scene.Camera.Eye.Z, .int .i64 r.scene.Camera.First.X, .int .i64 r.scene.Camera.First.Y, .int .i64 r.scene.Camera.First.Z, .int .i64 r.scene.Camera.Right.X, .int .i64 r.scene.Camera.Right.Y, .int .i64 r.scene.Camera.Right.Z, .int .i64 r.scene.Camera.Down.X, .int .i64 r.scene.Camera.Down.Y, .int .i64 r.scene.Camera.Down.Z, .int .i64 r.scene.Camera.W, .int .i64 r.scene.Camera.H, .int .i64 r.scene.Camera.Grid, .int .i64 r.scene.Camera.Depth, .int .i64 r.scene.Sky.R, .int .i64 r.scene.Sky.G, .int .i64 r.scene.Sky.B, .sl r.scene.Lights.length (r.scene.Lights.flatMap eLight), .sl r.scene.Mats.length (r.scene.Mats.flatMap eMat), .sl r.scene.Texs.length (r.scene.Texs.flatMap eTex), .sl r.scene.Skins.length (r.scene.Skins.flatMap eSkin), .sl r.scene.Cages.length (r.scene.Cages.flatMap eCage)]) s26 rfl ts_35 (m109 _ _ h10) rfl rfl rfl rfl ?_)))
 intro H113 h114 k115
 have m118 := Mono.set (Mono.trans m11 m109) z6 k115
 refine A rfl rfl (A rfl rfl ?_)
 refine rt_ ?_
 refine Rr (Res.list rfl rfl (.cell (v := .agg [.int .i64 r.scene.Camera.Eye.X, .int .i64 r.scene.Camera.Eye.Y, .int .i64 r.scene.Camera.Eye.Z, .int .i64 r.scene.Camera.First.X, .int .i64 r.scene.Camera.First.Y, .int .i64 r.scene.Camera.First.Z, .int .i64 r.scene.Camera.Right.X, .int .i64 r.scene.Camera.Right.Y, .int .i64 r.scene.Camera.Right.Z, .int .i64 r.scene.Camera.Down.X, .int .i64 r.scene.Camera.Down.Y, .int .i64 r.scene.Camera.Down.Z, .int .i64 r.scene.Camera.W, .int .i64 r.scene.Camera.H, .int .i64 r.scene.Camera.Grid, .int .i64 r.scene.Camera.Depth, .int .i64 r.scene.Sky.R, .int .i64 r.scene.Sky.G, .int .i64 r.scene.Sky.B, .sl r.scene.Lights.length (r.scene.Lights.flatMap eLight), .sl r.scene.Mats.length (r.scene.Mats.flatMap eMat), .sl r.scene.Texs.length (r.scene.Texs.flatMap eTex), .sl r.scene.Skins.length (r.scene.Skins.flatMap eSkin), .sl r.scene.Cages.length (r.scene.Cages.flatMap eCage)]) s26 ty_35 h114 rfl (.tmp rfl (.tmp rfl (.nil))))) ?_ m118
 have hP : parseR s = (r.scene, 0, 0) := parse_ok hl0_ hfd (by omega) b112
 exact (congrArg (fun r : SceneT × Int × Int => AV.tup [.agg (eScene r.1), .int .i64 r.2.1, .int .i64 r.2.2]) hP).symm
 refine ct_ rfl (nb b112) ?_
 refine Sr ?_
 refine C rfl (Bl (cells := [.int .i64 0, .int .i64 0, .int .i64 0, .int .i64 0, .int .i64 0, .int .i64 0, .int .i64 0, .int .i64 0, .int .i64 0, .int .i64 0, .int .i64 0, .int .i64 0, .int .i64 0, .int .i64 0, .int .i64 0, .int .i64 0, .int .i64 0, .int .i64 0, .int .i64 0, .snil, .snil, .snil, .snil, .snil]) rfl tz_35 pl_35 rfl rfl (C rfl (So (cells' := [.int .i64 0, .int .i64 0, .int .i64 0, .int .i64 0, .int .i64 0, .int .i64 0, .int .i64 0, .int .i64 0, .int .i64 0, .int .i64 0, .int .i64 0, .int .i64 0, .int .i64 0, .int .i64 0, .int .i64 0, .int .i64 0, .int .i64 0, .int .i64 0, .int .i64 0, .snil, .snil, .snil, .snil, .snil]) (.agg [.int .i64 0, .int .i64 0, .int .i64 0, .int .i64 0, .int .i64 0, .int .i64 0, .int .i64 0, .int .i64 0, .int .i64 0, .int .i64 0, .int .i64 0, .int .i64 0, .int .i64 0, .int .i64 0, .int .i64 0, .int .i64 0, .int .i64 0, .int .i64 0, .int .i64 0, .snil, .snil, .snil, .snil, .snil]) s26 rfl ts_35 (m109 _ _ h10) rfl rfl rfl rfl ?_)))
 intro H119 h120 k121
 have m124 := Mono.set (Mono.trans m11 m109) z6 k121
 refine A rfl rfl (A rfl rfl ?_)
 refine rt_ ?_
 refine Fin.frzCell 19 (Own.nil H0 H119 1) h120 z6 rfl (NotId.nil _) m124 fun H125 h126 m127 k128 => ?_
 have h130 : H125 i1 = some (.row 0 ([.int .i64 0, .int .i64 0, .int .i64 0, .int .i64 0, .int .i64 0, .int .i64 0, .int .i64 0, .int .i64 0, .int .i64 0, .int .i64 0, .int .i64 0, .int .i64 0, .int .i64 0, .int .i64 0, .int .i64 0, .int .i64 0, .int .i64 0, .int .i64 0, .int .i64 0, .sl 0 ([]), .snil, .snil, .snil, .snil])) := h126
 refine Fin.frzCell 20 (Own.nil H0 H125 1) h130 z6 rfl (NotId.nil _) m127 fun H131 h132 m133 k134 => ?_
 have h136 : H131 i1 = some (.row 0 ([.int .i64 0, .int .i64 0, .int .i64 0, .int .i64 0, .int .i64 0, .int .i64 0, .int .i64 0, .int .i64 0, .int .i64 0, .int .i64 0, .int .i64 0, .int .i64 0, .int .i64 0, .int .i64 0, .int .i64 0, .int .i64 0, .int .i64 0, .int .i64 0, .int .i64 0, .sl 0 ([]), .sl 0 ([]), .snil, .snil, .snil])) := h132
 refine Fin.frzCell 21 (Own.nil H0 H131 1) h136 z6 rfl (NotId.nil _) m133 fun H137 h138 m139 k140 => ?_
 have h142 : H137 i1 = some (.row 0 ([.int .i64 0, .int .i64 0, .int .i64 0, .int .i64 0, .int .i64 0, .int .i64 0, .int .i64 0, .int .i64 0, .int .i64 0, .int .i64 0, .int .i64 0, .int .i64 0, .int .i64 0, .int .i64 0, .int .i64 0, .int .i64 0, .int .i64 0, .int .i64 0, .int .i64 0, .sl 0 ([]), .sl 0 ([]), .sl 0 ([]), .snil, .snil])) := h138
 refine Fin.frzCell 22 (Own.nil H0 H137 1) h142 z6 rfl (NotId.nil _) m139 fun H143 h144 m145 k146 => ?_
 have h148 : H143 i1 = some (.row 0 ([.int .i64 0, .int .i64 0, .int .i64 0, .int .i64 0, .int .i64 0, .int .i64 0, .int .i64 0, .int .i64 0, .int .i64 0, .int .i64 0, .int .i64 0, .int .i64 0, .int .i64 0, .int .i64 0, .int .i64 0, .int .i64 0, .int .i64 0, .int .i64 0, .int .i64 0, .sl 0 ([]), .sl 0 ([]), .sl 0 ([]), .sl 0 ([]), .snil])) := h144
 refine Fin.frzCell 23 (Own.nil H0 H143 1) h148 z6 rfl (NotId.nil _) m145 fun H149 h150 m151 k152 => ?_
 have h154 : H149 i1 = some (.row 0 ([.int .i64 0, .int .i64 0, .int .i64 0, .int .i64 0, .int .i64 0, .int .i64 0, .int .i64 0, .int .i64 0, .int .i64 0, .int .i64 0, .int .i64 0, .int .i64 0, .int .i64 0, .int .i64 0, .int .i64 0, .int .i64 0, .int .i64 0, .int .i64 0, .int .i64 0, .sl 0 ([]), .sl 0 ([]), .sl 0 ([]), .sl 0 ([]), .sl 0 ([])])) := h150
 refine Rr (Res.list rfl rfl (.cell (v := .agg [.int .i64 0, .int .i64 0, .int .i64 0, .int .i64 0, .int .i64 0, .int .i64 0, .int .i64 0, .int .i64 0, .int .i64 0, .int .i64 0, .int .i64 0, .int .i64 0, .int .i64 0, .int .i64 0, .int .i64 0, .int .i64 0, .int .i64 0, .int .i64 0, .int .i64 0, .sl 0 ([]), .sl 0 ([]), .sl 0 ([]), .sl 0 ([]), .sl 0 ([])]) s26 ty_35 h154 rfl (.tmp rfl (.tmp rfl (.nil))))) ?_ m151
 have hP : parseR s = (rd0.scene, 0, 15) := parse_no hl0_ hfd (by omega) b112
 exact (congrArg (fun r : SceneT × Int × Int => AV.tup [.agg (eScene r.1), .int .i64 r.2.1, .int .i64 r.2.2]) hP).symm
 refine ct_ rfl (nb (decide_eq_false b12)) ?_
 refine Sr ?_
 refine C rfl (Bl (cells := [.int .i64 0, .int .i64 0, .int .i64 0, .int .i64 0, .int .i64 0, .int .i64 0, .int .i64 0, .int .i64 0, .int .i64 0, .int .i64 0, .int .i64 0, .int .i64 0, .int .i64 0, .int .i64 0, .int .i64 0, .int .i64 0, .int .i64 0, .int .i64 0, .int .i64 0, .snil, .snil, .snil, .snil, .snil]) rfl tz_35 pl_35 rfl rfl (V rfl rfl (V rfl rfl (C rfl (Sw rfl rfl ts_35 h10 rfl rfl rfl ?_)))))
 intro H155 h156 k157
 have m159 := Mono.set m11 z6 k157
 refine A rfl rfl (A rfl rfl ?_)
 refine rt_ ?_
 refine Fin.frzCell 19 (Own.nil H0 H155 1) h156 z6 rfl (NotId.nil _) m159 fun H160 h161 m162 k163 => ?_
 have h164 : H160 i1 = some (.row 0 ([.int .i64 0, .int .i64 0, .int .i64 0, .int .i64 0, .int .i64 0, .int .i64 0, .int .i64 0, .int .i64 0, .int .i64 0, .int .i64 0, .int .i64 0, .int .i64 0, .int .i64 0, .int .i64 0, .int .i64 0, .int .i64 0, .int .i64 0, .int .i64 0, .int .i64 0, .sl 0 ([]), .snil, .snil, .snil, .snil])) := h161
 refine Fin.frzCell 20 (Own.nil H0 H160 1) h164 z6 rfl (NotId.nil _) m162 fun H165 h166 m167 k168 => ?_
 have h169 : H165 i1 = some (.row 0 ([.int .i64 0, .int .i64 0, .int .i64 0, .int .i64 0, .int .i64 0, .int .i64 0, .int .i64 0, .int .i64 0, .int .i64 0, .int .i64 0, .int .i64 0, .int .i64 0, .int .i64 0, .int .i64 0, .int .i64 0, .int .i64 0, .int .i64 0, .int .i64 0, .int .i64 0, .sl 0 ([]), .sl 0 ([]), .snil, .snil, .snil])) := h166
 refine Fin.frzCell 21 (Own.nil H0 H165 1) h169 z6 rfl (NotId.nil _) m167 fun H170 h171 m172 k173 => ?_
 have h174 : H170 i1 = some (.row 0 ([.int .i64 0, .int .i64 0, .int .i64 0, .int .i64 0, .int .i64 0, .int .i64 0, .int .i64 0, .int .i64 0, .int .i64 0, .int .i64 0, .int .i64 0, .int .i64 0, .int .i64 0, .int .i64 0, .int .i64 0, .int .i64 0, .int .i64 0, .int .i64 0, .int .i64 0, .sl 0 ([]), .sl 0 ([]), .sl 0 ([]), .snil, .snil])) := h171
 refine Fin.frzCell 22 (Own.nil H0 H170 1) h174 z6 rfl (NotId.nil _) m172 fun H175 h176 m177 k178 => ?_
 have h179 : H175 i1 = some (.row 0 ([.int .i64 0, .int .i64 0, .int .i64 0, .int .i64 0, .int .i64 0, .int .i64 0, .int .i64 0, .int .i64 0, .int .i64 0, .int .i64 0, .int .i64 0, .int .i64 0, .int .i64 0, .int .i64 0, .int .i64 0, .int .i64 0, .int .i64 0, .int .i64 0, .int .i64 0, .sl 0 ([]), .sl 0 ([]), .sl 0 ([]), .sl 0 ([]), .snil])) := h176
 refine Fin.frzCell 23 (Own.nil H0 H175 1) h179 z6 rfl (NotId.nil _) m177 fun H180 h181 m182 k183 => ?_
 have h184 : H180 i1 = some (.row 0 ([.int .i64 0, .int .i64 0, .int .i64 0, .int .i64 0, .int .i64 0, .int .i64 0, .int .i64 0, .int .i64 0, .int .i64 0, .int .i64 0, .int .i64 0, .int .i64 0, .int .i64 0, .int .i64 0, .int .i64 0, .int .i64 0, .int .i64 0, .int .i64 0, .int .i64 0, .sl 0 ([]), .sl 0 ([]), .sl 0 ([]), .sl 0 ([]), .sl 0 ([])])) := h181
 refine Rr (Res.list rfl rfl (.cell (v := .agg [.int .i64 0, .int .i64 0, .int .i64 0, .int .i64 0, .int .i64 0, .int .i64 0, .int .i64 0, .int .i64 0, .int .i64 0, .int .i64 0, .int .i64 0, .int .i64 0, .int .i64 0, .int .i64 0, .int .i64 0, .int .i64 0, .int .i64 0, .int .i64 0, .int .i64 0, .sl 0 ([]), .sl 0 ([]), .sl 0 ([]), .sl 0 ([]), .sl 0 ([])]) rfl ty_35 h184 rfl (.tmp rfl (.tmp rfl (.nil))))) ?_ m182
 have hP : parseR s = (rd0.scene, (linesR s).2.1, (linesR s).2.2) := if_neg b12
 exact (congrArg (fun r : SceneT × Int × Int => AV.tup [.agg (eScene r.1), .int .i64 r.2.1, .int .i64 r.2.2]) hP).symm
end Go.Proofs.S
namespace Go.Proofs.S
open Go Go.AH Go.Proofs.L
set_option linter.unusedSectionVars false
variable [LexG]
theorem num14_T2 {x : ByteArray} (h : (num14 x).2 = true) : (R_lex_Number x).2 = true := by rw [← num_same]; exact h
theorem num14_F2 {x : ByteArray} (h : (num14 x).2 = false) : (R_lex_Number x).2 = false := by rw [← num_same]; exact h
theorem seg_at {n : List Int} {a b j : Int} (h0 : 0 ≤ a) (hj : a ≤ j) (h1 : j < b) (hb : b ≤ (n.length : Int)) : at_ ((n.drop a.toNat).take (b.toNat - a.toNat)) (j - a) = at_ n j := by
  rw [at_get (by omega) (by simp; omega), at_get (by omega) (by omega)]
  simp only [List.getElem_take, List.getElem_drop]
  congr 1; omega
theorem seg_step {n : List Int} {a j : Int} (h0 : 0 ≤ a) (hj : a ≤ j) (hb : j < (n.length : Int)) : (n.drop a.toNat).take ((j + 1).toNat - a.toNat) = (n.drop a.toNat).take (j.toNat - a.toNat) ++ [at_ n j] := by
  rw [show (j + 1).toNat - a.toNat = (j.toNat - a.toNat) + 1 by omega, List.take_succ_eq_append_getElem (by simp; omega), at_get (by omega) hb]
  congr 2
  simp only [List.getElem_drop]
  congr 1; omega
theorem seg_T {n : List Int} {a j lo hi : Int} (h0 : 0 ≤ a) (hj : a ≤ j) (hb : j < (n.length : Int)) (pre : inB lo hi ((n.drop a.toNat).take (j.toNat - a.toNat)) = true) (h1 : lo ≤ at_ n j) (h2 : at_ n j ≤ hi) : inB lo hi ((n.drop a.toNat).take ((j + 1).toNat - a.toNat)) = true := by
  rw [seg_step h0 hj hb]
  unfold inB at pre ⊢
  rw [List.all_append, pre]
  simp [h1, h2]
theorem seg_F {n : List Int} {a b j lo hi : Int} (h0 : 0 ≤ a) (hj : a ≤ j) (h1 : j < b) (hb : b ≤ (n.length : Int)) (h : at_ n j < lo ∨ hi < at_ n j) : inB lo hi ((n.drop a.toNat).take (b.toNat - a.toNat)) = false := by
  refine in_F2 (i := j - a) (by omega) (by simp; omega) ?_
  rw [seg_at h0 hj h1 hb]; exact h
theorem seg_end {n : List Int} {a b j lo hi : Int} (pre : inB lo hi ((n.drop a.toNat).take (j.toNat - a.toNat)) = true) (h : b = j) : inB lo hi ((n.drop a.toNat).take (b.toNat - a.toNat)) = true := by rw [h]; exact pre
theorem at_drop {α : Type} [Inhabited α] {n : List α} {a i : Int} (h0 : 0 ≤ a) (hi : 0 ≤ i) (h : a + i < (n.length : Int)) : at_ (n.drop a.toNat) i = at_ n (a + i) := by
  rw [at_get hi (by simp; omega), at_get (by omega) h]
  simp only [List.getElem_drop]
  congr 1; omega
theorem at_drop3 {n : List Int} {a : Int} (h0 : 0 ≤ a) (h : a + 3 ≤ (n.length : Int)) : at_ (n.drop a.toNat) 0 = at_ n a ∧ at_ (n.drop a.toNat) 1 = at_ n (a + 1) ∧ at_ (n.drop a.toNat) 2 = at_ n (a + 2) := by
  refine ⟨?_, at_drop h0 (by omega) (by omega), at_drop h0 (by omega) (by omega)⟩
  rw [at_drop h0 (by omega) (by omega)]; congr 1; omega
end Go.Proofs.S
namespace Go.Proofs.S
open Go Go.AH Go.Proofs.L
set_option maxRecDepth 4000
set_option maxHeartbeats 4000000
set_option linter.unusedSimpArgs false
set_option linter.unusedVariables false
set_option linter.unusedSectionVars false
variable [LexG]
theorem c_rnumbers (w : List ByteArray) (hw : w.length ≤ 1048576) : PC Tryz.prog 88 [.sl w.length (w.map eStr)] (.tup [.sl (if numsB w = true then numsL w else []).length ((if numsB w = true then numsL w else []).map eI), .bool (numsB w)]) := by
 intro H0
 refine ACalls.of_body' (n := 30) rfl rfl rfl rfl ?_
 have m0 := Mono.refl H0
 refine Sr ?_
 refine A rfl rfl (A rfl rfl ?_)
 refine Sr ?_
 refine C rfl (AOp.buildSlice (cells := []) rfl u_68 ts_3 tz_3 rfl rfl rfl ?_)
 intro i1 H2 n3 h4 k5
 have z6 := Mono.free m0 n3
 have m7 := Mono.new m0 n3 k5
 obtain ⟨v8, e9⟩ : ∃ v : AV, v = .slm i1 0 1 0 0 := ⟨_, rfl⟩
 have o10 : Own H0 H2 1 v8 0 [] := .inr ⟨_, _, e9, h4, z6, rfl⟩
 refine A rfl e9.symm ?_
 refine AWP.seq ?_
 refine Sr ?_
 refine A rfl rfl ?_
 refine bk_ ?_
 refine AWP.loop (fun q11 fq Hq => ∃ (i : Int) (w4 : AV), q11 = (((w.length : Int) : Int) - i).toNat ∧ fq 5 = .int .i64 i ∧ fq 0 = .sl w.length (w.map eStr) ∧ fq 4 = w4 ∧ Own H0 Hq 1 w4 (numsL (w.take i.toNat)).length ((numsL (w.take i.toNat)).map eI) ∧ Mono H0 Hq ∧ (0 ≤ i) ∧ (i ≤ (w.length : Int)) ∧ (numsB (w.take i.toNat) = true)) (k := (((w.length : Int) : Int) - 0).toNat) ?_ ?_
 exact ⟨0, v8, rfl, rfl, rfl, rfl, (Own.re o10 rfl rfl), m7, by omega, by omega, by rfl⟩
 rintro _ f13 H12 ⟨i, w4, rfl, s14, s15, s16, o17, m18, hi0, hi1, pre⟩
 have hq := nums_take hi0 hi1
 refine AWP.seq ?_
 refine Sr ?_
 refine V rfl s14 (V rfl s15 (C rfl (AOp.len (m := w.length) rfl rfl (.inr (.inl ⟨_, rfl⟩)) u_57 (B rfl rfl rfl rfl ?_))))
 refine AOps.nil ?_
 change AWP _ _ _ _ _ _
 by_cases b19 : i < (w.length : Int)
 refine ct_ rfl (decide_eq_true b19) ?_
 refine AWP.skip ?_
 refine AWP.seq ?_
 refine bk_ ?_
 refine Sr ?_
 refine V rfl s15 (V rfl s14 (C rfl (iS_ rfl rfl rfl sl_57 (by omega) (by omega) (L rfl rfl ty_9 (ld1 (by omega) (by omega)) (C rfl (Pc («as» := [.str (at_ w i)]) rfl rfl (rfl) tf_111 (c_ref_Number _) ?_))))))
 intro H20 m21
 have o22 := Own.mono o17 m21
 have m23 := m18.trans m21
 refine V rfl rfl (E rfl rfl rfl (E rfl rfl rfl (A rfl rfl (A rfl rfl ?_))))
 refine AWP.seq ?_
 refine Sr ?_
 refine V rfl rfl (C rfl (AOp.not rfl rfl ?_))
 refine AOps.nil ?_
 change AWP _ _ _ _ _ _
 rcases Bool.eq_false_or_eq_true ((num14 (at_ w i)).2) with b24 | b24
 refine cf_ rfl (nb b24) ?_
 refine AWP.skip ?_
 refine AWP.region rfl ?_
 refine V rfl s16 (V rfl rfl (C rfl (AOp.buildSlice (cells := [.int .i64 ((num14 (at_ w i)).1)]) rfl u_68 ts_3 tz_3 rfl rfl rfl ?_)))
 intro i25 H26 n27 h28 k29
 have o31 := Own.keep o22 k29 (Own.notnew o22 n27)
 have m33 := Mono.new m23 n27 k29
 refine C rfl (AOp.append_own (es := 1) (m := 1) (len := ((numsL (w.take i.toNat)).length)) (old := (numsL (w.take i.toNat)).map eI) (cells := [.int .i64 ((num14 (at_ w i)).1)]) rfl u_68 ts_3 tzn_3 tb_3 (by decide) ni_68 rfl o31 m33 rfl (.slm h28 rfl) (one_of rfl) (by decide) (by first | omega | (simp; omega)) ?_)
 intro v34 H35 o36 m37 k38 j39
 have o40 := Own.snoc1 (xs := ((numsL (w.take i.toNat)) : List Int)) (y := (num14 (at_ w i)).1) (e := eI) (by simp) o36
 refine A rfl rfl ?_
 refine AWP.region rfl ?_
 refine V rfl s14 (B rfl rfl rfl (iadd (by omega)) (A rfl rfl ?_))
 refine AOps.nil ?_
 exact ⟨_, by omega, i + 1, v34, rfl, rfl, s15, rfl, (have hx : (((numsL (w.take i.toNat)) ++ [(num14 (at_ w i)).1]) : List Int) = numsL (w.take (i + 1).toNat) := (by rw [num_same]; exact nums_step hi0 (by omega)); Own.re o40 (congrArg List.length hx) (congrArg (fun l : List Int => l.map eI) hx)), m37, by omega, by omega, by exact nums_T hi0 (by omega) pre (num14_T2 b24)⟩
 refine ct_ rfl (nb b24) ?_
 refine Sr ?_
 refine A rfl rfl (A rfl rfl ?_)
 refine rt_ ?_
 refine Fin.frz 2 (Own.nil H0 H20 1) rfl m23 fun H41 m42 k43 => ?_
 refine Rr (Res.two rfl rfl rfl) ?_ m42
 exact congrArg AV.tup (lc (congrArg (fun l : List Int => AV.sl l.length (l.map eI)) (show ([] : List Int) = (if numsB w = true then numsL w else []) from by rw [if_neg (by rw [nums_F hi0 (by omega) (num14_F2 b24)]; exact Bool.false_ne_true)])) (lc (congrArg AV.bool (show (false : Bool) = numsB w from by exact (nums_F hi0 (by omega) (num14_F2 b24)).symm)) rfl))
 refine cf_ rfl (decide_eq_false b19) ?_
 refine AWP.exit ?_
 change AWP _ _ _ _ _ _
 refine Sr ?_
 refine V rfl s16 (A rfl rfl (A rfl rfl ?_))
 refine rt_ ?_
 refine Fin.frz 2 o17 rfl m18 fun H45 m46 k47 => ?_
 refine Rr (Res.two rfl rfl rfl) ?_ m46
 exact congrArg AV.tup (lc (congrArg (fun l : List Int => AV.sl l.length (l.map eI)) (show ((numsL (w.take i.toNat)) : List Int) = (if numsB w = true then numsL w else []) from by rw [if_pos (nums_end pre (by omega)), nums_all (by omega)])) (lc (congrArg AV.bool (show (true : Bool) = numsB w from by exact (nums_end pre (by omega)).symm)) rfl))
theorem c_rwithin (n : List Int) (a b lo hi : Int) (h0 : 0 ≤ a) (hab : a ≤ b) (hb : b ≤ (n.length : Int)) (hl : n.length ≤ 1048576) : PC Tryz.prog 89 [.sl n.length (n.map eI), .int .i64 a, .int .i64 b, .int .i64 lo, .int .i64 hi] (.bool (inB lo hi ((n.drop a.toNat).take (b.toNat - a.toNat)))) := by
 intro H0
 refine ACalls.of_body' (n := 32) rfl rfl rfl rfl ?_
 have m0 := Mono.refl H0
 refine Sr ?_
 refine A rfl rfl ?_
 refine AWP.seq ?_
 refine Sr ?_
 refine V rfl rfl (A rfl rfl ?_)
 refine bk_ ?_
 refine AWP.loop (fun q1 fq Hq => ∃ (j : Int), q1 = (b - j).toNat ∧ fq 11 = .int .i64 j ∧ fq 0 = .sl n.length (n.map eI) ∧ fq 2 = .int .i64 b ∧ fq 3 = .int .i64 lo ∧ fq 4 = .int .i64 hi ∧ Mono H0 Hq ∧ (a ≤ j) ∧ (j ≤ b) ∧ (inB lo hi ((n.drop a.toNat).take (j.toNat - a.toNat)) = true)) (k := (b - a).toNat) ?_ ?_
 exact ⟨a, rfl, rfl, rfl, rfl, rfl, rfl, m0, by omega, by omega, by rw [Nat.sub_self]; rfl⟩
 rintro _ f3 H2 ⟨j, rfl, s4, s5, s6, s7, s8, m9, hj0, hj1, pre⟩
 refine AWP.seq ?_
 refine Sr ?_
 refine V rfl s4 (V rfl s6 (B rfl rfl rfl rfl ?_))
 refine AOps.nil ?_
 change AWP _ _ _ _ _ _
 by_cases b10 : j < b
 refine ct_ rfl (decide_eq_true b10) ?_
 refine AWP.skip ?_
 refine AWP.seq ?_
 refine bk_ ?_
 refine Sr ?_
 refine V rfl s5 (V rfl s4 (C rfl (iS_ rfl rfl rfl sl_68 (by omega) (by omega) (L rfl rfl ty_3 (ld1 (by omega) (by omega)) (V rfl s7 (B rfl rfl rfl rfl (V rfl rfl ?_)))))))
 by_cases b11 : at_ n j < lo
 refine N rfl rfl (decide_eq_true b11) (N rfl rfl (decide_eq_true b11) (N rfl rfl (decide_eq_true b11) (N rfl rfl (decide_eq_true b11) (N rfl rfl (decide_eq_true b11) (N rfl rfl (decide_eq_true b11) (C rfl (Pt _ rfl rfl (decide_eq_true b11) rfl ?_)))))))
 refine ct_ rfl rfl ?_
 refine Sr ?_
 refine A rfl rfl ?_
 refine rt_ ?_
 refine Rr (Res.one rfl rfl) ?_ m9
 exact (congrArg AV.bool (show (false : Bool) = inB lo hi ((n.drop a.toNat).take (b.toNat - a.toNat)) from by exact (seg_F (by omega) (by omega) (by omega) (by omega) (by omega)).symm))
 refine Y rfl rfl rfl (decide_eq_false b11) (Mv _ rfl s5 (Y rfl rfl rfl (decide_eq_false b11) (Mv _ rfl s4 (Y rfl rfl rfl (decide_eq_false b11) (iS_ rfl rfl rfl sl_68 (by omega) (by omega) (Y rfl rfl rfl (decide_eq_false b11) (Lf _ rfl rfl ty_3 (ld1 (by omega) (by omega)) (Y rfl rfl rfl (decide_eq_false b11) (Mv _ rfl s8 (Y rfl rfl rfl (decide_eq_false b11) (Bi _ rfl rfl rfl rfl (C rfl (Pf _ rfl rfl (decide_eq_false b11) rfl ?_)))))))))))))
 refine AOps.nil ?_
 change AWP _ _ _ _ _ _
 by_cases b12 : at_ n j > hi
 refine ct_ rfl (decide_eq_true b12) ?_
 refine Sr ?_
 refine A rfl rfl ?_
 refine rt_ ?_
 refine Rr (Res.one rfl rfl) ?_ m9
 exact (congrArg AV.bool (show (false : Bool) = inB lo hi ((n.drop a.toNat).take (b.toNat - a.toNat)) from by exact (seg_F (by omega) (by omega) (by omega) (by omega) (by omega)).symm))
 refine cf_ rfl (decide_eq_false b12) ?_
 refine AWP.skip ?_
 refine AWP.region rfl ?_
 refine V rfl s4 (B rfl rfl rfl (iadd (by omega)) (A rfl rfl ?_))
 refine AOps.nil ?_
 exact ⟨_, by omega, j + 1, rfl, rfl, s5, s6, s7, s8, m9, by omega, by omega, by exact seg_T (by omega) (by omega) (by omega) pre (by omega) (by omega)⟩
 refine cf_ rfl (decide_eq_false b10) ?_
 refine AWP.exit ?_
 change AWP _ _ _ _ _ _
 refine Sr ?_
 refine A rfl rfl ?_
 refine rt_ ?_
 refine Rr (Res.one rfl rfl) ?_ m9
 exact (congrArg AV.bool (show (true : Bool) = inB lo hi ((n.drop a.toNat).take (b.toNat - a.toNat)) from by exact (seg_end pre (by omega)).symm))
theorem c_rcolor (n : List Int) (a : Int) (h0 : 0 ≤ a) (hn : a + 3 ≤ (n.length : Int)) (hl : n.length ≤ 1048576) : PC Tryz.prog 91 [.sl n.length (n.map eI), .int .i64 a] (.agg [.int .i64 ((colR (n.drop a.toNat)).R), .int .i64 ((colR (n.drop a.toNat)).G), .int .i64 ((colR (n.drop a.toNat)).B)]) := by
 intro H0
 refine ACalls.of_body' (n := 20) rfl rfl rfl rfl ?_
 have m0 := Mono.refl H0
 refine Sr ?_
 refine C rfl (al_ rfl tz_28 ?_)
 intro i1 H2 n3 h4 k5
 have z6 := Mono.free m0 n3
 have m7 := Mono.new m0 n3 k5
 refine AWP.seq ?_
 refine AWP.region_quiet mixed (by kernel_rfl) 15 [15] rfl (by kernel_rfl) (Mono H2) (Mono.refl _) ?_
 refine QV rfl rfl (QV rfl rfl (Q rfl (fun _ _ φ ψ => iS_ rfl (φ 5 rfl) (φ 6 rfl) sl_68 (by omega) (by omega) ⟨rfl, ψ⟩) (QL rfl rfl ty_3 (ld1 (by omega) (by omega)) (QV rfl rfl (QV rfl rfl (QB rfl rfl rfl (iadd (by omega)) (Q rfl (fun _ _ φ ψ => iS_ rfl (φ 9 rfl) (φ 11 rfl) sl_68 (by omega) (by omega) ⟨rfl, ψ⟩) (QL rfl rfl ty_3 (ld1 (by omega) (by omega)) (QV rfl rfl (QV rfl rfl (QB rfl rfl rfl (iadd (by omega)) (Q rfl (fun _ _ φ ψ => iS_ rfl (φ 14 rfl) (φ 16 rfl) sl_68 (by omega) (by omega) ⟨rfl, ψ⟩) (QL rfl rfl ty_3 (ld1 (by omega) (by omega)) ?_)))))))))))))
 refine Q rfl (fun _ _ φ ψ => Bl (cells := [.int .i64 (at_ n a), .int .i64 (at_ n (a + 1)), .int .i64 (at_ n (a + 2))]) rfl tz_28 pl_28 (lconsP (φ 8 rfl) (lconsP (φ 13 rfl) (lconsP (φ 18 rfl) rfl))) rfl ⟨rfl, ψ⟩) ?_
 refine QE.done fun H8 m9 => ?_
 have h10 := m9 _ _ h4
 have m11 := m7.trans m9
 refine C rfl (Sw rfl rfl ts_28 h10 rfl rfl rfl ?_)
 intro H12 h13 k14
 have m16 := Mono.set m11 z6 k14
 refine rt_ ?_
 refine Rr (Res.list1 rfl (.cell (v := .agg [.int .i64 (at_ n a), .int .i64 (at_ n (a + 1)), .int .i64 (at_ n (a + 2))]) rfl ty_28 h13 rfl (.nil))) ?_ m16
 exact (congrArg AV.agg (lc (congrArg (AV.int .i64) (show (at_ n a : Int) = (colR (n.drop a.toNat)).R from by simp only [colR, at_drop3 h0 hn])) (lc (congrArg (AV.int .i64) (show (at_ n (a + 1) : Int) = (colR (n.drop a.toNat)).G from by simp only [colR, at_drop3 h0 hn])) (lc (congrArg (AV.int .i64) (show (at_ n (a + 2) : Int) = (colR (n.drop a.toNat)).B from by simp only [colR, at_drop3 h0 hn])) rfl))))
theorem c_rpoint (n : List Int) (a : Int) (h0 : 0 ≤ a) (hn : a + 3 ≤ (n.length : Int)) (hl : n.length ≤ 1048576) : PC Tryz.prog 90 [.sl n.length (n.map eI), .int .i64 a] (.agg [.int .i64 ((ptR (n.drop a.toNat)).X), .int .i64 ((ptR (n.drop a.toNat)).Y), .int .i64 ((ptR (n.drop a.toNat)).Z)]) := by
 intro H0
 refine ACalls.of_body' (n := 20) rfl rfl rfl rfl ?_
 have m0 := Mono.refl H0
 refine Sr ?_
 refine C rfl (al_ rfl tz_24 ?_)
 intro i1 H2 n3 h4 k5
 have z6 := Mono.free m0 n3
 have m7 := Mono.new m0 n3 k5
 refine AWP.seq ?_
 refine AWP.region_quiet mixed (by kernel_rfl) 15 [15] rfl (by kernel_rfl) (Mono H2) (Mono.refl _) ?_
 refine QV rfl rfl (QV rfl rfl (Q rfl (fun _ _ φ ψ => iS_ rfl (φ 5 rfl) (φ 6 rfl) sl_68 (by omega) (by omega) ⟨rfl, ψ⟩) (QL rfl rfl ty_3 (ld1 (by omega) (by omega)) (QV rfl rfl (QV rfl rfl (QB rfl rfl rfl (iadd (by omega)) (Q rfl (fun _ _ φ ψ => iS_ rfl (φ 9 rfl) (φ 11 rfl) sl_68 (by omega) (by omega) ⟨rfl, ψ⟩) (QL rfl rfl ty_3 (ld1 (by omega) (by omega)) (QV rfl rfl (QV rfl rfl (QB rfl rfl rfl (iadd (by omega)) (Q rfl (fun _ _ φ ψ => iS_ rfl (φ 14 rfl) (φ 16 rfl) sl_68 (by omega) (by omega) ⟨rfl, ψ⟩) (QL rfl rfl ty_3 (ld1 (by omega) (by omega)) ?_)))))))))))))
 refine Q rfl (fun _ _ φ ψ => Bl (cells := [.int .i64 (at_ n a), .int .i64 (at_ n (a + 1)), .int .i64 (at_ n (a + 2))]) rfl tz_24 pl_24 (lconsP (φ 8 rfl) (lconsP (φ 13 rfl) (lconsP (φ 18 rfl) rfl))) rfl ⟨rfl, ψ⟩) ?_
 refine QE.done fun H8 m9 => ?_
 have h10 := m9 _ _ h4
 have m11 := m7.trans m9
 refine C rfl (Sw rfl rfl ts_24 h10 rfl rfl rfl ?_)
 intro H12 h13 k14
 have m16 := Mono.set m11 z6 k14
 refine rt_ ?_
 refine Rr (Res.list1 rfl (.cell (v := .agg [.int .i64 (at_ n a), .int .i64 (at_ n (a + 1)), .int .i64 (at_ n (a + 2))]) rfl ty_24 h13 rfl (.nil))) ?_ m16
 exact (congrArg AV.agg (lc (congrArg (AV.int .i64) (show (at_ n a : Int) = (ptR (n.drop a.toNat)).X from by simp only [ptR, at_drop3 h0 hn])) (lc (congrArg (AV.int .i64) (show (at_ n (a + 1) : Int) = (ptR (n.drop a.toNat)).Y from by simp only [ptR, at_drop3 h0 hn])) (lc (congrArg (AV.int .i64) (show (at_ n (a + 2) : Int) = (ptR (n.drop a.toNat)).Z from by simp only [ptR, at_drop3 h0 hn])) rfl))))
end Go.Proofs.S
namespace Go.Proofs.S
open Go Go.AH Go.Proofs.L
set_option linter.unusedSectionVars false
variable [LexG]
theorem c_rnumbers_T {w : List ByteArray} (h : numsB w = true) (w' : List ByteArray) (hw : w'.length ≤ 1048576) (e : w' = w := by rfl) : PC Tryz.prog 88 [.sl w'.length (w'.map eStr)] (.tup [.sl (numsL w).length ((numsL w).map eI), .bool true]) := by
  subst e; have := c_rnumbers w' hw; rwa [if_pos h, h] at this
theorem c_rnumbers_F {w : List ByteArray} (h : numsB w = false) (w' : List ByteArray) (hw : w'.length ≤ 1048576) (e : w' = w := by rfl) : PC Tryz.prog 88 [.sl w'.length (w'.map eStr)] (.tup [.sl ([] : List Int).length (([] : List Int).map eI), .bool false]) := by
  subst e; have := c_rnumbers w' hw; rwa [if_neg (by rw [h]; exact Bool.false_ne_true), h] at this
theorem c_rwithin1 (n : List Int) (a b lo hi : Int) (h0 : 0 ≤ a) (hb : b = a + 1) (h1 : b ≤ (n.length : Int)) (hl : n.length ≤ 1048576) : PC Tryz.prog 89 [.sl n.length (n.map eI), .int .i64 a, .int .i64 b, .int .i64 lo, .int .i64 hi] (.bool (inB lo hi [at_ n a])) := by
  have := c_rwithin n a b lo hi h0 (by omega) h1 hl
  rwa [show (n.drop a.toNat).take (b.toNat - a.toNat) = [at_ n a] by
    subst hb
    rw [show (a + 1).toNat - a.toNat = 1 by omega, at_get h0 (by omega), List.drop_eq_getElem_cons (by omega)]; rfl] at this
theorem c_rwithinA (n : List Int) (b lo hi : Int) (hb : b = (n.length : Int)) (hl : n.length ≤ 1048576) : PC Tryz.prog 89 [.sl n.length (n.map eI), .int .i64 0, .int .i64 b, .int .i64 lo, .int .i64 hi] (.bool (inB lo hi n)) := by
  subst hb
  have := c_rwithin n 0 _ lo hi (by omega) (by omega) (Int.le_refl _) hl
  simpa using this
theorem c_rwithinD (n : List Int) (a b lo hi : Int) (hb : b = (n.length : Int)) (h0 : 0 ≤ a) (h1 : a ≤ (n.length : Int)) (hl : n.length ≤ 1048576) : PC Tryz.prog 89 [.sl n.length (n.map eI), .int .i64 a, .int .i64 b, .int .i64 lo, .int .i64 hi] (.bool (inB lo hi (n.drop a.toNat))) := by
  subst hb
  have := c_rwithin n a _ lo hi h0 h1 (Int.le_refl _) hl
  rwa [List.take_of_length_le (by simp)] at this
end Go.Proofs.S
namespace Go.Proofs.S
open Go Go.AH Go.Proofs.L
set_option maxRecDepth 4000
set_option maxHeartbeats 4000000
set_option linter.unusedSimpArgs false
set_option linter.unusedVariables false
set_option linter.unusedSectionVars false
variable [LexG]
theorem c_rTex {B H0 : Heap} {id ver : Nat} {cam : CamT} {sky : ColT} {vL vM vT vS vC : AV} {hc hs : Bool} {l : List TexT} (hm : Mono B H0) (hB : B id = none) (hrow : H0 id = some (.row ver (rdC cam sky vL vM vT vS vC hc hs))) (ho : Own B H0 4 vT l.length (l.flatMap eTex)) (hn : NotId vT id) (hl : l.length ≤ 1048576) (x : ByteArray) : ACalls Tryz.prog 93 [.ptr id ver 0, .str x] H0 fun r H' => r = .int .i64 (idxN (l.map TexT.Name) x) ∧ Mono H0 H' := by
 refine ACalls.of_body' (n := 28) rfl rfl rfl rfl ?_
 have m0 := hm
 refine AWP.seq (AWP.region rfl ?_)
 refine AOps.cons rfl rfl (AOp.assign _ rfl rfl ?_)
 refine AWP.seq ?_
 refine AWP.seq (AWP.region rfl ?_)
 refine AOps.cons rfl rfl (AOp.assign _ rfl rfl ?_)
 refine AWP.block ?_
 refine AWP.loop (fun q1 fq Hq => ∃ (i : Int), q1 = (((l.length : Int) : Int) - i).toNat ∧ fq 5 = .int .i64 i ∧ fq 0 = .ptr id ver 0 ∧ fq 1 = .str x ∧ Own B Hq 4 vT l.length (l.flatMap eTex) ∧ NotId vT id ∧ Hq id = some (.row ver ([.int .i64 cam.Eye.X, .int .i64 cam.Eye.Y, .int .i64 cam.Eye.Z, .int .i64 cam.First.X, .int .i64 cam.First.Y, .int .i64 cam.First.Z, .int .i64 cam.Right.X, .int .i64 cam.Right.Y, .int .i64 cam.Right.Z, .int .i64 cam.Down.X, .int .i64 cam.Down.Y, .int .i64 cam.Down.Z, .int .i64 cam.W, .int .i64 cam.H, .int .i64 cam.Grid, .int .i64 cam.Depth, .int .i64 sky.R, .int .i64 sky.G, .int .i64 sky.B, vL, vM, vT, vS, vC, .bool hc, .bool hs])) ∧ Mono B Hq ∧ (Mono H0 Hq) ∧ (0 ≤ i) ∧ (i ≤ (l.length : Int)) ∧ (∀ j : Int, 0 ≤ j → j < i → (at_ l j).Name ≠ x)) (k := (((l.length : Int) : Int) - 0).toNat) ?_ ?_
 exact ⟨0, rfl, rfl, rfl, rfl, ho, hn, hrow, m0, (Mono.refl H0), by omega, by omega, by intro j; omega⟩
 rintro _ f3 H2 ⟨i, rfl, s4, s5, s6, o7, no8, h9, m10, hmm, hi0, hi1, pre⟩
 refine AWP.seq ?_
 refine AWP.seq (AWP.region rfl ?_)
 refine AOps.cons rfl rfl (AOp.move _ rfl s4 (AOps.cons rfl rfl (AOp.move _ rfl s5 (AOps.cons rfl rfl (AOp.nilCheck (.ptr id ver 0) rfl rfl rfl ?_)))))
 refine AOps.cons rfl rfl (AOp.fieldAddr rfl rfl fl_63_0 ?_ (hid := ⟨_, h9⟩))
 refine AOps.cons rfl rfl (AOp.fieldAddr rfl rfl fl_35_4 ?_ (hid := ⟨_, h9⟩))
 refine AOps.cons rfl rfl (AOp.load _ rfl rfl ty_31 h9 rfl (AOps.cons rfl rfl (AOp.len_own (m := l.length) rfl rfl o7 u_31 (AOps.cons rfl rfl (AOp.bin _ rfl rfl rfl rfl ?_)))))
 refine AOps.nil ?_
 change AWP _ _ _ _ _ _
 by_cases b11 : i < (l.length : Int)
 refine AWP.condT rfl (decide_eq_true b11) ?_
 refine AWP.skip ?_
 refine AWP.seq ?_
 refine AWP.block ?_
 refine AWP.seq (AWP.region rfl ?_)
 refine AOps.cons rfl rfl (AOp.move _ rfl s5 (AOps.cons rfl rfl (AOp.nilCheck (.ptr id ver 0) rfl rfl rfl ?_)))
 refine AOps.cons rfl rfl (AOp.fieldAddr rfl rfl fl_63_0 ?_ (hid := ⟨_, h9⟩))
 refine AOps.cons rfl rfl (AOp.fieldAddr rfl rfl fl_35_4 ?_ (hid := ⟨_, h9⟩))
 refine AOps.cons rfl rfl (AOp.load _ rfl rfl ty_31 h9 rfl (AOps.cons rfl rfl (AOp.move _ rfl s4 ?_)))
 obtain ⟨i12, ver13, e14, h15, _, _⟩ := Own.pos o7 (by omega)
 refine AOps.cons rfl rfl (AOp.indexAddrO rfl (Eq.trans rfl e14) rfl sl_31 (by omega) (by omega) h15 ?_)
 refine AOps.cons rfl rfl (AOp.fieldAddr rfl rfl fl_70_0 ?_ (hid := ⟨_, h15⟩))
 refine AOps.cons rfl rfl (AOp.load _ rfl rfl ty_9 h15 (ldF eTex_len (by omega) (by omega) rfl (by decide)) (AOps.cons rfl rfl (AOp.move _ rfl s6 (AOps.cons rfl rfl (AOp.seqD rfl rfl rfl ?_)))))
 refine AOps.nil ?_
 change AWP _ _ _ _ _ _
 by_cases b16 : ((at_ l i).Name) = x
 refine AWP.condT rfl (decide_eq_true b16) ?_
 refine AWP.seq (AWP.region rfl ?_)
 refine AOps.cons rfl rfl (AOp.move _ rfl s4 (AOps.cons rfl rfl (AOp.assign _ rfl rfl ?_)))
 refine AWP.ret ?_
 exact ⟨_, _, Ghost.refl, .inr rfl, _, Res.one rfl rfl, congrArg (AV.int .i64) (idxN_hit (f := TexT.Name) hi0 (by omega) pre b16).symm, hmm⟩
 refine AWP.condF rfl (decide_eq_false b16) ?_
 refine AWP.skip ?_
 refine AWP.region rfl ?_
 refine AOps.cons rfl rfl (AOp.move _ rfl s4 (AOps.cons rfl rfl (AOp.bin _ rfl rfl rfl (iadd (by omega)) (AOps.cons rfl rfl (AOp.assign _ rfl rfl ?_)))))
 refine AOps.nil ?_
 exact ⟨_, by omega, i + 1, rfl, rfl, s5, s6, o7, no8, h9, m10, hmm, by omega, by omega, by exact nm_step (f := TexT.Name) pre b16⟩
 refine AWP.condF rfl (decide_eq_false b11) ?_
 refine AWP.exit ?_
 change AWP _ _ _ _ _ _
 refine AWP.seq (AWP.region rfl ?_)
 refine AOps.cons rfl rfl (AOp.assign _ rfl rfl ?_)
 refine AWP.ret ?_
 exact ⟨_, _, Ghost.refl, .inr rfl, _, Res.one rfl rfl, congrArg (AV.int .i64) (idxN_none (f := TexT.Name) (by omega) pre).symm, hmm⟩
theorem c_rMat {B H0 : Heap} {id ver : Nat} {cam : CamT} {sky : ColT} {vL vM vT vS vC : AV} {hc hs : Bool} {l : List MatT} (hm : Mono B H0) (hB : B id = none) (hrow : H0 id = some (.row ver (rdC cam sky vL vM vT vS vC hc hs))) (ho : Own B H0 9 vM l.length (l.flatMap eMat)) (hn : NotId vM id) (hl : l.length ≤ 1048576) (x : ByteArray) : ACalls Tryz.prog 94 [.ptr id ver 0, .str x] H0 fun r H' => r = .int .i64 (idxN (l.map MatT.Name) x) ∧ Mono H0 H' := by
 refine ACalls.of_body' (n := 28) rfl rfl rfl rfl ?_
 have m0 := hm
 refine AWP.seq (AWP.region rfl ?_)
 refine AOps.cons rfl rfl (AOp.assign _ rfl rfl ?_)
 refine AWP.seq ?_
 refine AWP.seq (AWP.region rfl ?_)
 refine AOps.cons rfl rfl (AOp.assign _ rfl rfl ?_)
 refine AWP.block ?_
 refine AWP.loop (fun q1 fq Hq => ∃ (i : Int), q1 = (((l.length : Int) : Int) - i).toNat ∧ fq 5 = .int .i64 i ∧ fq 0 = .ptr id ver 0 ∧ fq 1 = .str x ∧ Own B Hq 9 vM l.length (l.flatMap eMat) ∧ NotId vM id ∧ Hq id = some (.row ver ([.int .i64 cam.Eye.X, .int .i64 cam.Eye.Y, .int .i64 cam.Eye.Z, .int .i64 cam.First.X, .int .i64 cam.First.Y, .int .i64 cam.First.Z, .int .i64 cam.Right.X, .int .i64 cam.Right.Y, .int .i64 cam.Right.Z, .int .i64 cam.Down.X, .int .i64 cam.Down.Y, .int .i64 cam.Down.Z, .int .i64 cam.W, .int .i64 cam.H, .int .i64 cam.Grid, .int .i64 cam.Depth, .int .i64 sky.R, .int .i64 sky.G, .int .i64 sky.B, vL, vM, vT, vS, vC, .bool hc, .bool hs])) ∧ Mono B Hq ∧ (Mono H0 Hq) ∧ (0 ≤ i) ∧ (i ≤ (l.length : Int)) ∧ (∀ j : Int, 0 ≤ j → j < i → (at_ l j).Name ≠ x)) (k := (((l.length : Int) : Int) - 0).toNat) ?_ ?_
 exact ⟨0, rfl, rfl, rfl, rfl, ho, hn, hrow, m0, (Mono.refl H0), by omega, by omega, by intro j; omega⟩
 rintro _ f3 H2 ⟨i, rfl, s4, s5, s6, o7, no8, h9, m10, hmm, hi0, hi1, pre⟩
 refine AWP.seq ?_
 refine AWP.seq (AWP.region rfl ?_)
 refine AOps.cons rfl rfl (AOp.move _ rfl s4 (AOps.cons rfl rfl (AOp.move _ rfl s5 (AOps.cons rfl rfl (AOp.nilCheck (.ptr id ver 0) rfl rfl rfl ?_)))))
 refine AOps.cons rfl rfl (AOp.fieldAddr rfl rfl fl_63_0 ?_ (hid := ⟨_, h9⟩))
 refine AOps.cons rfl rfl (AOp.fieldAddr rfl rfl fl_35_3 ?_ (hid := ⟨_, h9⟩))
 refine AOps.cons rfl rfl (AOp.load _ rfl rfl ty_30 h9 rfl (AOps.cons rfl rfl (AOp.len_own (m := l.length) rfl rfl o7 u_30 (AOps.cons rfl rfl (AOp.bin _ rfl rfl rfl rfl ?_)))))
 refine AOps.nil ?_
 change AWP _ _ _ _ _ _
 by_cases b11 : i < (l.length : Int)
 refine AWP.condT rfl (decide_eq_true b11) ?_
 refine AWP.skip ?_
 refine AWP.seq ?_
 refine AWP.block ?_
 refine AWP.seq (AWP.region rfl ?_)
 refine AOps.cons rfl rfl (AOp.move _ rfl s5 (AOps.cons rfl rfl (AOp.nilCheck (.ptr id ver 0) rfl rfl rfl ?_)))
 refine AOps.cons rfl rfl (AOp.fieldAddr rfl rfl fl_63_0 ?_ (hid := ⟨_, h9⟩))
 refine AOps.cons rfl rfl (AOp.fieldAddr rfl rfl fl_35_3 ?_ (hid := ⟨_, h9⟩))
 refine AOps.cons rfl rfl (AOp.load _ rfl rfl ty_30 h9 rfl (AOps.cons rfl rfl (AOp.move _ rfl s4 ?_)))
 obtain ⟨i12, ver13, e14, h15, _, _⟩ := Own.pos o7 (by omega)
 refine AOps.cons rfl rfl (AOp.indexAddrO rfl (Eq.trans rfl e14) rfl sl_30 (by omega) (by omega) h15 ?_)
 refine AOps.cons rfl rfl (AOp.fieldAddr rfl rfl fl_67_0 ?_ (hid := ⟨_, h15⟩))
 refine AOps.cons rfl rfl (AOp.load _ rfl rfl ty_9 h15 (ldF eMat_len (by omega) (by omega) rfl (by decide)) (AOps.cons rfl rfl (AOp.move _ rfl s6 (AOps.cons rfl rfl (AOp.seqD rfl rfl rfl ?_)))))
 refine AOps.nil ?_
 change AWP _ _ _ _ _ _
 by_cases b16 : ((at_ l i).Name) = x
 refine AWP.condT rfl (decide_eq_true b16) ?_
 refine AWP.seq (AWP.region rfl ?_)
 refine AOps.cons rfl rfl (AOp.move _ rfl s4 (AOps.cons rfl rfl (AOp.assign _ rfl rfl ?_)))
 refine AWP.ret ?_
 exact ⟨_, _, Ghost.refl, .inr rfl, _, Res.one rfl rfl, congrArg (AV.int .i64) (idxN_hit (f := MatT.Name) hi0 (by omega) pre b16).symm, hmm⟩
 refine AWP.condF rfl (decide_eq_false b16) ?_
 refine AWP.skip ?_
 refine AWP.region rfl ?_
 refine AOps.cons rfl rfl (AOp.move _ rfl s4 (AOps.cons rfl rfl (AOp.bin _ rfl rfl rfl (iadd (by omega)) (AOps.cons rfl rfl (AOp.assign _ rfl rfl ?_)))))
 refine AOps.nil ?_
 exact ⟨_, by omega, i + 1, rfl, rfl, s5, s6, o7, no8, h9, m10, hmm, by omega, by omega, by exact nm_step (f := MatT.Name) pre b16⟩
 refine AWP.condF rfl (decide_eq_false b11) ?_
 refine AWP.exit ?_
 change AWP _ _ _ _ _ _
 refine AWP.seq (AWP.region rfl ?_)
 refine AOps.cons rfl rfl (AOp.assign _ rfl rfl ?_)
 refine AWP.ret ?_
 exact ⟨_, _, Ghost.refl, .inr rfl, _, Res.one rfl rfl, congrArg (AV.int .i64) (idxN_none (f := MatT.Name) (by omega) pre).symm, hmm⟩
theorem c_rSkin {B H0 : Heap} {id ver : Nat} {cam : CamT} {sky : ColT} {vL vM vT vS vC : AV} {hc hs : Bool} {l : List SkinT} (hm : Mono B H0) (hB : B id = none) (hrow : H0 id = some (.row ver (rdC cam sky vL vM vT vS vC hc hs))) (ho : Own B H0 6 vS l.length (l.flatMap eSkin)) (hn : NotId vS id) (hl : l.length ≤ 1048576) (x : ByteArray) : ACalls Tryz.prog 95 [.ptr id ver 0, .str x] H0 fun r H' => r = .int .i64 (idxN (l.map SkinT.Name) x) ∧ Mono H0 H' := by
 refine ACalls.of_body' (n := 28) rfl rfl rfl rfl ?_
 have m0 := hm
 refine AWP.seq (AWP.region rfl ?_)
 refine AOps.cons rfl rfl (AOp.assign _ rfl rfl ?_)
 refine AWP.seq ?_
 refine AWP.seq (AWP.region rfl ?_)
 refine AOps.cons rfl rfl (AOp.assign _ rfl rfl ?_)
 refine AWP.block ?_
 refine AWP.loop (fun q1 fq Hq => ∃ (i : Int), q1 = (((l.length : Int) : Int) - i).toNat ∧ fq 5 = .int .i64 i ∧ fq 0 = .ptr id ver 0 ∧ fq 1 = .str x ∧ Own B Hq 6 vS l.length (l.flatMap eSkin) ∧ NotId vS id ∧ Hq id = some (.row ver ([.int .i64 cam.Eye.X, .int .i64 cam.Eye.Y, .int .i64 cam.Eye.Z, .int .i64 cam.First.X, .int .i64 cam.First.Y, .int .i64 cam.First.Z, .int .i64 cam.Right.X, .int .i64 cam.Right.Y, .int .i64 cam.Right.Z, .int .i64 cam.Down.X, .int .i64 cam.Down.Y, .int .i64 cam.Down.Z, .int .i64 cam.W, .int .i64 cam.H, .int .i64 cam.Grid, .int .i64 cam.Depth, .int .i64 sky.R, .int .i64 sky.G, .int .i64 sky.B, vL, vM, vT, vS, vC, .bool hc, .bool hs])) ∧ Mono B Hq ∧ (Mono H0 Hq) ∧ (0 ≤ i) ∧ (i ≤ (l.length : Int)) ∧ (∀ j : Int, 0 ≤ j → j < i → (at_ l j).Name ≠ x)) (k := (((l.length : Int) : Int) - 0).toNat) ?_ ?_
 exact ⟨0, rfl, rfl, rfl, rfl, ho, hn, hrow, m0, (Mono.refl H0), by omega, by omega, by intro j; omega⟩
 rintro _ f3 H2 ⟨i, rfl, s4, s5, s6, o7, no8, h9, m10, hmm, hi0, hi1, pre⟩
 refine AWP.seq ?_
 refine AWP.seq (AWP.region rfl ?_)
 refine AOps.cons rfl rfl (AOp.move _ rfl s4 (AOps.cons rfl rfl (AOp.move _ rfl s5 (AOps.cons rfl rfl (AOp.nilCheck (.ptr id ver 0) rfl rfl rfl ?_)))))
 refine AOps.cons rfl rfl (AOp.fieldAddr rfl rfl fl_63_0 ?_ (hid := ⟨_, h9⟩))
 refine AOps.cons rfl rfl (AOp.fieldAddr rfl rfl fl_35_5 ?_ (hid := ⟨_, h9⟩))
 refine AOps.cons rfl rfl (AOp.load _ rfl rfl ty_32 h9 rfl (AOps.cons rfl rfl (AOp.len_own (m := l.length) rfl rfl o7 u_32 (AOps.cons rfl rfl (AOp.bin _ rfl rfl rfl rfl ?_)))))
 refine AOps.nil ?_
 change AWP _ _ _ _ _ _
 by_cases b11 : i < (l.length : Int)
 refine AWP.condT rfl (decide_eq_true b11) ?_
 refine AWP.skip ?_
 refine AWP.seq ?_
 refine AWP.block ?_
 refine AWP.seq (AWP.region rfl ?_)
 refine AOps.cons rfl rfl (AOp.move _ rfl s5 (AOps.cons rfl rfl (AOp.nilCheck (.ptr id ver 0) rfl rfl rfl ?_)))
 refine AOps.cons rfl rfl (AOp.fieldAddr rfl rfl fl_63_0 ?_ (hid := ⟨_, h9⟩))
 refine AOps.cons rfl rfl (AOp.fieldAddr rfl rfl fl_35_5 ?_ (hid := ⟨_, h9⟩))
 refine AOps.cons rfl rfl (AOp.load _ rfl rfl ty_32 h9 rfl (AOps.cons rfl rfl (AOp.move _ rfl s4 ?_)))
 obtain ⟨i12, ver13, e14, h15, _, _⟩ := Own.pos o7 (by omega)
 refine AOps.cons rfl rfl (AOp.indexAddrO rfl (Eq.trans rfl e14) rfl sl_32 (by omega) (by omega) h15 ?_)
 refine AOps.cons rfl rfl (AOp.fieldAddr rfl rfl fl_50_0 ?_ (hid := ⟨_, h15⟩))
 refine AOps.cons rfl rfl (AOp.load _ rfl rfl ty_9 h15 (ldF eSkin_len (by omega) (by omega) rfl (by decide)) (AOps.cons rfl rfl (AOp.move _ rfl s6 (AOps.cons rfl rfl (AOp.seqD rfl rfl rfl ?_)))))
 refine AOps.nil ?_
 change AWP _ _ _ _ _ _
 by_cases b16 : ((at_ l i).Name) = x
 refine AWP.condT rfl (decide_eq_true b16) ?_
 refine AWP.seq (AWP.region rfl ?_)
 refine AOps.cons rfl rfl (AOp.move _ rfl s4 (AOps.cons rfl rfl (AOp.assign _ rfl rfl ?_)))
 refine AWP.ret ?_
 exact ⟨_, _, Ghost.refl, .inr rfl, _, Res.one rfl rfl, congrArg (AV.int .i64) (idxN_hit (f := SkinT.Name) hi0 (by omega) pre b16).symm, hmm⟩
 refine AWP.condF rfl (decide_eq_false b16) ?_
 refine AWP.skip ?_
 refine AWP.region rfl ?_
 refine AOps.cons rfl rfl (AOp.move _ rfl s4 (AOps.cons rfl rfl (AOp.bin _ rfl rfl rfl (iadd (by omega)) (AOps.cons rfl rfl (AOp.assign _ rfl rfl ?_)))))
 refine AOps.nil ?_
 exact ⟨_, by omega, i + 1, rfl, rfl, s5, s6, o7, no8, h9, m10, hmm, by omega, by omega, by exact nm_step (f := SkinT.Name) pre b16⟩
 refine AWP.condF rfl (decide_eq_false b11) ?_
 refine AWP.exit ?_
 change AWP _ _ _ _ _ _
 refine AWP.seq (AWP.region rfl ?_)
 refine AOps.cons rfl rfl (AOp.assign _ rfl rfl ?_)
 refine AWP.ret ?_
 exact ⟨_, _, Ghost.refl, .inr rfl, _, Res.one rfl rfl, congrArg (AV.int .i64) (idxN_none (f := SkinT.Name) (by omega) pre).symm, hmm⟩
end Go.Proofs.S
namespace Go.Proofs.S
open Go Go.AH Go.Proofs.L
set_option linter.unusedSectionVars false
variable [LexG]
theorem at_drop1 {w : List ByteArray} {i : Int} (hi : 0 ≤ i) : at_ (w.drop 1) i = at_ w (i + 1) := by
  simp only [at_, List.getD_eq_getElem?_getD, List.getElem?_drop, show (i + 1).toNat = 1 + i.toNat by omega]
theorem in_take {lo hi : Int} {n : List Int} {k : Nat} {b : Bool} (h : n.length ≤ k) (e : inB lo hi (n.take k) = b) : inB lo hi n = b := by rwa [List.take_of_length_le h] at e
theorem in_dtake {lo hi : Int} {n : List Int} {a k : Nat} {b : Bool} (h : n.length ≤ a + k) (e : inB lo hi ((n.drop a).take k) = b) : inB lo hi (n.drop a) = b := in_take (by simp; omega) e
theorem take1 {w : List ByteArray} (h : 1 ≤ w.length) : w.take 1 = [at_ w 0] := by
  match w, h with
  | a :: r, _ => simp [at_]
theorem take2 {w : List ByteArray} (h : 2 ≤ w.length) : w.take 2 = [at_ w 0, at_ w 1] := by
  match w, h with
  | a :: b :: r, _ => simp [at_]
theorem named1_T {w : List ByteArray} {l : Int} (h : l + 1 ≤ (w.length : Int)) (hl : 1 ≤ l) (hn : nameB (at_ w 1) = true) : namedB (w.drop 1) 1 l = true := by
  refine named_T (by simp; omega) ?_
  rw [show (1 : Int).toNat = 1 from rfl, take1 (by simp; omega), at_drop1 (by omega)]
  simp [hn]
theorem named1_F {w : List ByteArray} {l : Int} (h : 2 ≤ (w.length : Int)) (hn : nameB (at_ w 1) = false) : namedB (w.drop 1) 1 l = false := by
  unfold namedB
  rw [show (1 : Int).toNat = 1 from rfl, take1 (by simp; omega), at_drop1 (by omega)]
  simp [hn]
theorem not_T {b : Bool} (h : b = false) : (!b) = true := by rw [h]; rfl
theorem not_F {b : Bool} (h : b = true) : (!b) = false := by rw [h]; rfl
def textureG (s : Rd) (nm : Bool) (x : ByteArray) (ws : List ByteArray) : Except Int Rd :=
  let n := numsL ws
  gd nm 10 (gd (numsB ws) 10 (gd (decide (at_ n 0 * at_ n 1 = (n.length : Int) - 2)) 10 (gd (decide ((s.texs.length : Int) < 4)) 13 (gd (decide (texX s x < 0)) 12
    (gd (inB 1 16 (n.take 2)) 11 (gd (inB 0 255 (n.drop 2)) 11 (.ok { s with texs := s.texs ++ [⟨x, at_ n 0, at_ n 1, n.drop 2⟩] })))))))
theorem tex_eq (s : Rd) (w : List ByteArray) : textureP s (w.drop 1) = textureG s (namedB (w.drop 1) 1 3) (at_ w 1) (w.drop 2) := by
  simp only [textureP, textureG, List.drop_drop, at_drop1 (show (0 : Int) ≤ 0 by omega)]; rfl
def materialG (s : Rd) (nm : Bool) (x : ByteArray) (ws : List ByteArray) : Except Int Rd :=
  let n := numsL ws
  gd nm 10 (gd (cntB ws 8) 10 (gd (decide ((s.mats.length : Int) < 8)) 13 (gd (decide (matX s x < 0)) 12
    (gd (inB 0 255 (n.take 3)) 11 (gd (inB 0 256 [at_ n 3, at_ n 5, at_ n 6]) 11 (gd (inB 1 64 [at_ n 4]) 11 (gd (inB 0 256 [at_ n 5 + at_ n 6]) 11 (gd (inB 64 1024 [at_ n 7]) 11
      (.ok { s with mats := s.mats ++ [⟨x, colR n, at_ n 3, at_ n 4, at_ n 5, at_ n 6, at_ n 7⟩] })))))))))
theorem mat_eq (s : Rd) (w : List ByteArray) : materialP s (w.drop 1) = materialG s (namedB (w.drop 1) 1 9) (at_ w 1) (w.drop 2) := by
  simp only [materialP, materialG, List.drop_drop, at_drop1 (show (0 : Int) ≤ 0 by omega)]; rfl
theorem mat_bad {s : Rd} {w : List ByteArray} (h : ¬ (w.length : Int) = 10) : materialP s (w.drop 1) = .error 10 := by
  rw [mat_eq]
  by_cases h1 : namedB (w.drop 1) 1 9 = true
  · refine gT h1 (gF ?_)
    have := named_len h1
    simp [cntB] at this ⊢; intro _; omega
  · exact gF (by simpa using h1)
theorem seg2 {n : List Int} (h : (n.length : Int) = 8) : (n.drop 5).take 2 = [at_ n 5, at_ n 6] := by
  match n, h with
  | [a, b, c, d, e, f, g, i], _ => rfl
theorem mat_in {s : Rd} {x : ByteArray} {ws : List ByteArray} {nm : Bool} {k : Int} {t : Rd} (h1 : nm = true) (h2 : cntB ws 8 = true) (h3 : (s.mats.length : Int) < 8) (h4 : matX s x < 0) :
    (inB 0 255 ((numsL ws).take 3) = true ∧ inB 0 256 [at_ (numsL ws) 3] = true ∧ inB 1 64 [at_ (numsL ws) 4] = true ∧ inB 0 256 (((numsL ws).drop 5).take 2) = true ∧ ¬ at_ (numsL ws) 5 + at_ (numsL ws) 6 > 256 ∧ inB 64 1024 [at_ (numsL ws) 7] = true →
      materialG s nm x ws = .ok { s with mats := s.mats ++ [⟨x, colR (numsL ws), at_ (numsL ws) 3, at_ (numsL ws) 4, at_ (numsL ws) 5, at_ (numsL ws) 6, at_ (numsL ws) 7⟩] }) ∧
    (¬ (inB 0 255 ((numsL ws).take 3) = true ∧ inB 0 256 [at_ (numsL ws) 3] = true ∧ inB 1 64 [at_ (numsL ws) 4] = true ∧ inB 0 256 (((numsL ws).drop 5).take 2) = true ∧ ¬ at_ (numsL ws) 5 + at_ (numsL ws) 6 > 256 ∧ inB 64 1024 [at_ (numsL ws) 7] = true) →
      materialG s nm x ws = .error 11) := by
  have hl := (cnt_len h2).1
  have key : materialG s nm x ws = if inB 0 255 ((numsL ws).take 3) = true ∧ inB 0 256 [at_ (numsL ws) 3] = true ∧ inB 1 64 [at_ (numsL ws) 4] = true ∧ inB 0 256 (((numsL ws).drop 5).take 2) = true ∧ ¬ at_ (numsL ws) 5 + at_ (numsL ws) 6 > 256 ∧ inB 64 1024 [at_ (numsL ws) 7] = true then .ok { s with mats := s.mats ++ [⟨x, colR (numsL ws), at_ (numsL ws) 3, at_ (numsL ws) 4, at_ (numsL ws) 5, at_ (numsL ws) 6, at_ (numsL ws) 7⟩] } else .error 11 := by
    unfold materialG
    simp only
    refine gT h1 (gT h2 (gT (decide_eq_true h3) (gT (decide_eq_true h4) ?_)))
    rw [seg2 hl]
    simp only [inB, List.all_cons, List.all_nil, Bool.and_true, Bool.and_eq_true, decide_eq_true_eq]
    unfold gd
    repeat' split
    all_goals first | rfl | (exfalso; simp_all; omega) | (exfalso; simp_all)
  exact ⟨fun h => by rw [key, if_pos h], fun h => by rw [key, if_neg h]⟩
def skinOk (w : List ByteArray) : Bool := namedB (w.drop 1) 2 6 && cageOk (w.drop 1)
theorem skinOk_eq (w : List ByteArray) : skinOk w = (decide ((w.length : Int) = 7) && (nameB (at_ w 1) && (nameB (at_ w 2) && (decide (at_ w 5 = dash) || nameB (at_ w 5))))) := by
  unfold skinOk namedB cageOk
  rw [at_drop1 (show (0 : Int) ≤ 4 by omega)]
  by_cases h : (w.length : Int) = 7
  · rw [show (2 : Int).toNat = 2 from rfl, take2 (by simp; omega), at_drop1 (by omega), at_drop1 (by omega)]
    have h6 : (((w.drop 1).length : Nat) : Int) = 6 := by simp; omega
    rw [h6]
    simp [h, Bool.and_assoc]
  · have h6 : ¬ (((w.drop 1).length : Nat) : Int) = 6 := by simp; omega
    simp only [h, h6, decide_false, Bool.false_and, Bool.and_false]
theorem skinOk_len {w : List ByteArray} (h : skinOk w = true) : (w.length : Int) = 7 := by
  rw [skinOk_eq] at h; simp only [Bool.and_eq_true, decide_eq_true_eq] at h; exact h.1
theorem skinHas_eq (s : Rd) (w : List ByteArray) : cageHas s (w.drop 1) = (decide (skinX s (at_ w 1) < 0) && (decide (matX s (at_ w 2) ≥ 0) && (decide (at_ w 5 = dash) || decide (texX s (at_ w 5) ≥ 0)))) := by
  unfold cageHas
  rw [at_drop1 (by omega), at_drop1 (by omega), at_drop1 (by omega)]; rfl
def cageG (s : Rd) (ok has : Bool) (x m t : ByteArray) (ws : List ByteArray) : Except Int Rd :=
  let n := numsL ws
  gd ok 10 (gd (numsB ws) 10 (gd (decide ((s.skins.length : Int) < 8)) 13 (gd has 12
    (gd (inB 0 2 [at_ n 0]) 11 (gd (inB 1 65536 [at_ n 1]) 11 (gd (inB 0 255 [at_ n 2]) 11
      (.ok { s with skins := s.skins ++ [⟨x, matX s m, at_ n 0, at_ n 1, texX s t, at_ n 2⟩], cages := s.cages ++ [⟨[], [], []⟩] })))))))
theorem gd_and {α : Type} {a b : Bool} {k : Int} {x : Except Int α} : gd a k (gd b k x) = gd (a && b) k x := by cases a <;> cases b <;> rfl
theorem cage_eq (s : Rd) (w : List ByteArray) : cageP s (w.drop 1) = cageG s (skinOk w) (cageHas s (w.drop 1)) (at_ w 1) (at_ w 2) (at_ w 5) [at_ w 3, at_ w 4, at_ w 6] := by
  unfold cageP cageG
  simp only
  rw [gd_and]
  simp only [cageW, skinOk, at_drop1 (show (0 : Int) ≤ 0 by omega), at_drop1 (show (0 : Int) ≤ 1 by omega), at_drop1 (show (0 : Int) ≤ 2 by omega), at_drop1 (show (0 : Int) ≤ 3 by omega), at_drop1 (show (0 : Int) ≤ 4 by omega), at_drop1 (show (0 : Int) ≤ 5 by omega)]
  rfl
end Go.Proofs.S
