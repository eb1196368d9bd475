/- A part of the proof that a law answers true for every input of its row: own work, by an AI agent. -/
import Derived.Test.YtfeafldgohceaaaB01
import Derived.Test.YtfeafldgohceaaaB04
import Derived.KernelRfl
set_option linter.unusedSimpArgs false
set_option linter.unusedVariables false
set_option linter.defProp false
namespace Go.Proofs.U
open Go Go.AH Go.Proofs.T
set_option maxRecDepth 4000
set_option linter.unusedSimpArgs false
set_option linter.unusedVariables false
set_option maxHeartbeats 4000000
theorem c_inner1 {H0 : Heap} {fid : Nat} (vs : List VT) (fs : List (List Int)) (cr : List CrT) (t : Tp) (sh : List Int) (hd : List (List VT)) (face : List Int) (k b : Int) (hk : 0 ≤ k ∧ k < 4) (hb : 0 ≤ b ∧ b < 4) (hl : face.length = 4) (hf : ∀ x ∈ face, 0 ≤ x ∧ x < (vs.length : Int)) (hvl : vs.length ≤ 1000) (hr : H0 fid = some (.row 0 [.sl vs.length (vs.flatMap eV), .sl fs.length (fs.map eF), .sl cr.length (cr.flatMap eCr), .sl t.ed.length (t.ed.flatMap eE), .sl t.fan.length (t.fan.map eF), .sl t.rnd.length (t.rnd.map eBo), .sl sh.length (sh.map eI), .sl hd.length (hd.map eVs)])) : ACalls Try.prog 82 [.int .i64 b, .fptr [.ptr fid 0 0] 0, .fptr [.sl face.length (face.map eI)] 0, .fptr [.int .i64 k] 0] H0 fun r H' => r = (.agg [.int .i64 ((atP vs face k b).X), .int .i64 ((atP vs face k b).Y), .int .i64 ((atP vs face k b).Z)]) ∧ Mono H0 H' := by
 refine ACalls.of_body' (n := 20) rfl rfl rfl rfl ?_
 have m0 := Mono.refl H0
 refine Sr ?_
 refine C rfl (al_ rfl tz_42 ?_)
 intro i1 H2 n3 h4 k5
 have z7 := Mono.free m0 n3
 have h8 := keep k5 (ne_new hr n3) hr
 have m9 := Mono.new m0 n3 k5
 refine AWP.seq ?_
 have hm := mod_in (x := k + b) (y := 4) (by decide)
 have hq := hf _ (at_mem (l := face) hm.1 (by omega))
 refine AWP.region_quiet mixed (by kernel_rfl) 14 [14] rfl (by kernel_rfl) (Mono H2) (Mono.refl _) ?_
 refine QL rfl rfl ty_101 rfl (Q rfl (fun _ _ φ ψ => nc_ (.ptr fid 0 0) rfl (φ 6 rfl) rfl ⟨rfl, ψ⟩) (Q rfl (fun _ _ φ ψ => Fa rfl (φ 7 rfl) fl_104_0 ⟨rfl, ψ⟩ (hid := ⟨_, (ψ _ _ h8)⟩)) (Q rfl (fun _ _ φ ψ => Fa rfl (φ 8 rfl) fl_26_0 ⟨rfl, ψ⟩ (hid := ⟨_, (ψ _ _ h8)⟩)) (Q rfl (fun _ _ φ ψ => Ld _ rfl (φ 9 rfl) ty_22 (ψ _ _ h8) rfl ⟨rfl, ψ⟩) (QL rfl rfl ty_38 rfl (QL rfl rfl ty_3 rfl (QV rfl rfl (QB rfl rfl rfl (iadd (by omega)) (Q rfl (fun _ _ φ ψ => AOp.remP rfl (φ 14 rfl) rfl (by omega) (by omega) ⟨rfl, ψ⟩) (Q rfl (fun _ _ φ ψ => iS_ rfl (φ 11 rfl) (φ 15 rfl) sl_38 (by omega) (by omega) ⟨rfl, ψ⟩) (QL rfl rfl ty_3 (ld1 (by omega) (by omega)) (Q rfl (fun _ _ φ ψ => iS_ rfl (φ 10 rfl) (φ 17 rfl) sl_22 (by omega) (by omega) ⟨rfl, ψ⟩) (QL rfl rfl ty_42 (ldM eV_len (by omega) (by omega)) ?_)))))))))))))
 refine QE.done fun H10 m11 => ?_
 have h12 := m11 _ _ h8
 have h13 := m11 _ _ h4
 have m14 := m9.trans m11
 refine C rfl (Sw rfl rfl ts_42 h13 rfl rfl rfl ?_)
 intro H15 h16 k17
 have m20 := Mono.set m14 z7 k17
 refine rt_ ?_
 refine Rr (Res.list1 rfl (.cell (v := .agg (eV (at_ vs (at_ face ((k + b) % 4))))) rfl ty_42 h16 rfl (.nil))) ?_ m20
 exact (congrArg (fun x : VT => AV.agg (eV x)) (show (at_ vs (at_ face ((k + b) % 4)) : VT) = atP vs face k b from by rfl))
theorem c_inner {H0 : Heap} {fid : Nat} (vs : List VT) (fs : List (List Int)) (cr : List CrT) (t : Tp) (sh : List Int) (hd : List (List VT)) (S : ShpF vs fs t sh hd) (f v : Int) (hf : InF fs v f) (hv0 : 0 ≤ v) (hv1 : v < vs.length) (hr : H0 fid = some (.row 0 [.sl vs.length (vs.flatMap eV), .sl fs.length (fs.map eF), .sl cr.length (cr.flatMap eCr), .sl t.ed.length (t.ed.flatMap eE), .sl t.fan.length (t.fan.map eF), .sl t.rnd.length (t.rnd.map eBo), .sl sh.length (sh.map eI), .sl hd.length (hd.map eVs)])) : ACalls Try.prog 71 [.ptr fid 0 0, .int .i64 f, .int .i64 v] H0 fun r H' => r = (.agg [.int .i64 ((innerP vs fs t hd f v).X), .int .i64 ((innerP vs fs t hd f v).Y), .int .i64 ((innerP vs fs t hd f v).Z)]) ∧ Mono H0 H' := by
 have hn := S.n hv0 hv1
 have hk := S.k hf
 have hf0 := hf.1
 have hf1 := hf.2.1
 have hq := S.q f hf0 hf1
 have hvl := S.v1
 have hfl := S.f1
 have hrl := S.rl
 have hhl := S.hl
 have hfan := S.tf.fl
 have hfv := S.tf.fan v hv0 hv1
 have hfr := S.r _ (at_mem (l := fs) hf0 hf1)
 have hhv := (S.hv v hv0 hv1).1
 refine ACalls.of_body' (n := 69) rfl rfl rfl rfl ?_
 have m0 := Mono.refl H0
 refine Sr ?_
 refine C rfl (bx_ (.ptr fid 0 0) rfl rfl rfl ?_)
 intro i1 H2 n3 h4 k5
 have e6 := ne_new hr n3
 have z7 := Mono.free m0 n3
 have h8 := keep k5 (ne_new hr n3) hr
 have m9 := Mono.new m0 n3 k5
 refine C rfl (al_ rfl tz_42 ?_)
 intro i10 H11 n12 h13 k14
 have e16 := ne_new h4 n12
 have z17 := Mono.free m9 n12
 have h18 := keep k14 (ne_new h8 n12) h8
 have h19 := keep k14 (ne_new h4 n12) h4
 have m20 := Mono.new m9 n12 k14
 refine AWP.seq ?_
 refine fz_ 3 h19 z7 rfl m20 fun H21 m22 k23 => ?_
 have h24 := (k23 _ e6).trans h18
 have h25 := (k23 _ (Ne.symm e16)).trans h13
 refine AWP.region rfl ?_
 refine L rfl rfl ty_101 rfl (C rfl (nc_ (.ptr fid 0 0) rfl rfl rfl ?_))
 refine C rfl (Fa rfl rfl fl_104_0 ?_ (hid := ⟨_, h24⟩))
 refine C rfl (Fa rfl rfl fl_26_1 ?_ (hid := ⟨_, h24⟩))
 refine C rfl (Ld _ rfl rfl ty_23 h24 rfl (V rfl rfl (C rfl (iS_ rfl rfl rfl sl_23 (by omega) (by omega) (L rfl rfl ty_38 (ld1 (by omega) (by omega)) (C rfl (al_ rfl tz_38 ?_)))))))
 intro i26 H27 n28 h29 k30
 have e31 := ne_new h24 n28
 have e32 := ne_new h25 n28
 have z33 := Mono.free m22 n28
 have h34 := keep k30 (ne_new h24 n28) h24
 have h35 := keep k30 (ne_new h25 n28) h25
 have m36 := Mono.new m22 n28 k30
 refine C rfl (So (cells' := [.sl (at_ fs f).length ((at_ fs f).map eI)]) (.sl (at_ fs f).length ((at_ fs f).map eI)) rfl rfl ts_38 h29 rfl rfl rfl rfl ?_)
 intro H37 h38 k39
 have h40 := keep k39 e31 h34
 have h41 := keep k39 e32 h35
 have m43 := Mono.set m36 z33 k39
 refine AWP.seq ?_
 refine fz_ 7 h38 z33 rfl m43 fun H44 m45 k46 => ?_
 have h47 := (k46 _ e31).trans h40
 have h48 := (k46 _ e32).trans h41
 refine AWP.region rfl ?_
 refine L rfl rfl ty_38 rfl (V rfl rfl (C rfl (Pc («as» := [.sl (at_ fs f).length ((at_ fs f).map eI), .int .i64 v]) rfl rfl (rfl) tf_76 (c_Index _ _ (by omega)) ?_)))
 intro H49 m50
 have h51 := m50 _ _ h47
 have h52 := m50 _ _ h48
 have m53 := m45.trans m50
 refine C rfl (al_ rfl tz_3 ?_)
 intro i54 H55 n56 h57 k58
 have e59 := ne_new h51 n56
 have e60 := ne_new h52 n56
 have z61 := Mono.free m53 n56
 have h62 := keep k58 (ne_new h51 n56) h51
 have h63 := keep k58 (ne_new h52 n56) h52
 have m64 := Mono.new m53 n56 k58
 refine C rfl (So (cells' := [.int .i64 (idxI (at_ fs f) v)]) (.int .i64 (idxI (at_ fs f) v)) rfl rfl ts_3 h57 rfl rfl rfl rfl ?_)
 intro H65 h66 k67
 have h68 := keep k67 e59 h62
 have h69 := keep k67 e60 h63
 have m71 := Mono.set m64 z61 k67
 refine AWP.seq ?_
 refine fz_ 8 h66 z61 rfl m71 fun H72 m73 k74 => ?_
 have h75 := (k74 _ e59).trans h68
 have h76 := (k74 _ e60).trans h69
 refine AWP.region rfl ?_
 refine C rfl (AOp.makeFunc (cs := [.fptr [.ptr fid 0 0] 0, .fptr [.sl (at_ fs f).length ((at_ fs f).map eI)] 0, .fptr [.int .i64 (idxI (at_ fs f) v)] 0]) rfl rfl (A rfl rfl ?_))
 refine Sr ?_
 refine A rfl rfl ?_
 refine AWP.seq ?_
 refine Sr ?_
 refine L rfl rfl ty_101 rfl (C rfl (nc_ (.ptr fid 0 0) rfl rfl rfl ?_))
 refine C rfl (Fa rfl rfl fl_104_1 ?_ (hid := ⟨_, h75⟩))
 refine C rfl (Fa rfl rfl fl_35_2 ?_ (hid := ⟨_, h75⟩))
 refine C rfl (Ld _ rfl rfl ty_33 h75 rfl (V rfl rfl (C rfl (iS_ rfl rfl rfl sl_33 (by omega) (by omega) (L rfl rfl ty_4 (ld1 (by omega) (by omega)) (V rfl rfl ?_))))))
 rcases Bool.eq_false_or_eq_true (at_ t.rnd v) with b77 | b77
 refine Y rfl rfl rfl b77 (Lf _ rfl rfl ty_101 rfl (Y rfl rfl rfl b77 (nc_ (.ptr fid 0 0) rfl rfl rfl ?_)))
 refine Y rfl rfl rfl b77 (Fa rfl rfl fl_104_3 ?_ (hid := ⟨_, h75⟩))
 refine Y rfl rfl rfl b77 (Ld _ rfl rfl ty_102 h75 rfl (Y rfl rfl rfl b77 (Mv _ rfl rfl (Y rfl rfl rfl b77 (iS_ rfl rfl rfl sl_102 (by omega) (by omega) (Y rfl rfl rfl b77 (Lf _ rfl rfl ty_22 (ld1 (by omega) (by omega)) (Y rfl rfl rfl b77 (AOp.len (m := (at_ hd v).length) rfl rfl (.inr (.inl ⟨_, rfl⟩)) u_22 (Y rfl rfl rfl b77 (Bi _ rfl rfl rfl rfl (C rfl (Pt _ rfl rfl b77 rfl ?_)))))))))))))
 refine AOps.nil ?_
 change AWP _ _ _ _ _ _
 by_cases b78 : (((at_ hd v).length) : Int) < 2
 refine ct_ rfl (decide_eq_true b78) ?_
 refine AWP.region rfl ?_
 refine L rfl rfl ty_101 rfl (C rfl (nc_ (.ptr fid 0 0) rfl rfl rfl ?_))
 refine C rfl (Fa rfl rfl fl_104_1 ?_ (hid := ⟨_, h75⟩))
 refine C rfl (Fa rfl rfl fl_35_1 ?_ (hid := ⟨_, h75⟩))
 refine C rfl (Ld _ rfl rfl ty_23 h75 rfl (V rfl rfl (C rfl (iS_ rfl rfl rfl sl_23 (by omega) (by omega) (L rfl rfl ty_38 (ld1 (by omega) (by omega)) (C rfl (AOp.len (m := (at_ t.fan v).length) rfl rfl (.inr (.inl ⟨_, rfl⟩)) u_38 (A rfl rfl ?_))))))))
 refine Sr ?_
 refine V rfl rfl (V rfl rfl (C rfl (AOp.pcallH («as» := [.int .i64 0, .fptr [.ptr fid 0 0] 0, .fptr [.sl (at_ fs f).length ((at_ fs f).map eI)] 0, .fptr [.int .i64 (idxI (at_ fs f) v)] 0]) rfl rfl (rfl) tf_82 (c_inner1 vs fs cr t sh hd (at_ fs f) (idxI (at_ fs f) v) 0 hk (by decide) hq hfr hvl h75) ?_)))
 intro H79 m80
 have h81 := m80 _ _ h75
 have h82 := m80 _ _ h76
 have m83 := m73.trans m80
 refine C rfl (Bl (cells := [.int .i64 (((at_ t.fan v).length) : Int), .int .i64 ((atP vs (at_ fs f) (idxI (at_ fs f) v) 0).X), .int .i64 ((atP vs (at_ fs f) (idxI (at_ fs f) v) 0).Y), .int .i64 ((atP vs (at_ fs f) (idxI (at_ fs f) v) 0).Z)]) rfl tz_134 pl_134 rfl rfl (V rfl rfl (C rfl (AOp.pcallH («as» := [.int .i64 1, .fptr [.ptr fid 0 0] 0, .fptr [.sl (at_ fs f).length ((at_ fs f).map eI)] 0, .fptr [.int .i64 (idxI (at_ fs f) v)] 0]) rfl rfl (rfl) tf_82 (c_inner1 vs fs cr t sh hd (at_ fs f) (idxI (at_ fs f) v) 1 hk (by decide) hq hfr hvl h81) ?_))))
 intro H84 m85
 have h86 := m85 _ _ h81
 have h87 := m85 _ _ h82
 have m88 := m83.trans m85
 refine C rfl (Bl (cells := [.int .i64 2, .int .i64 ((atP vs (at_ fs f) (idxI (at_ fs f) v) 1).X), .int .i64 ((atP vs (at_ fs f) (idxI (at_ fs f) v) 1).Y), .int .i64 ((atP vs (at_ fs f) (idxI (at_ fs f) v) 1).Z)]) rfl tz_134 pl_134 rfl rfl (V rfl rfl (C rfl (AOp.pcallH («as» := [.int .i64 3, .fptr [.ptr fid 0 0] 0, .fptr [.sl (at_ fs f).length ((at_ fs f).map eI)] 0, .fptr [.int .i64 (idxI (at_ fs f) v)] 0]) rfl rfl (rfl) tf_82 (c_inner1 vs fs cr t sh hd (at_ fs f) (idxI (at_ fs f) v) 3 hk (by decide) hq hfr hvl h86) ?_))))
 intro H89 m90
 have h91 := m90 _ _ h86
 have h92 := m90 _ _ h87
 have m93 := m88.trans m90
 refine C rfl (Bl (cells := [.int .i64 2, .int .i64 ((atP vs (at_ fs f) (idxI (at_ fs f) v) 3).X), .int .i64 ((atP vs (at_ fs f) (idxI (at_ fs f) v) 3).Y), .int .i64 ((atP vs (at_ fs f) (idxI (at_ fs f) v) 3).Z)]) rfl tz_134 pl_134 rfl rfl (V rfl rfl (C rfl (AOp.pcallH («as» := [.int .i64 2, .fptr [.ptr fid 0 0] 0, .fptr [.sl (at_ fs f).length ((at_ fs f).map eI)] 0, .fptr [.int .i64 (idxI (at_ fs f) v)] 0]) rfl rfl (rfl) tf_82 (c_inner1 vs fs cr t sh hd (at_ fs f) (idxI (at_ fs f) v) 2 hk (by decide) hq hfr hvl h91) ?_))))
 intro H94 m95
 have h96 := m95 _ _ h91
 have h97 := m95 _ _ h92
 have m98 := m93.trans m95
 refine C rfl (Bl (cells := [.int .i64 1, .int .i64 ((atP vs (at_ fs f) (idxI (at_ fs f) v) 2).X), .int .i64 ((atP vs (at_ fs f) (idxI (at_ fs f) v) 2).Y), .int .i64 ((atP vs (at_ fs f) (idxI (at_ fs f) v) 2).Z)]) rfl tz_134 pl_134 rfl rfl (C rfl (AOp.buildSlice (cells := [.int .i64 (((at_ t.fan v).length) : Int), .int .i64 ((atP vs (at_ fs f) (idxI (at_ fs f) v) 0).X), .int .i64 ((atP vs (at_ fs f) (idxI (at_ fs f) v) 0).Y), .int .i64 ((atP vs (at_ fs f) (idxI (at_ fs f) v) 0).Z), .int .i64 2, .int .i64 ((atP vs (at_ fs f) (idxI (at_ fs f) v) 1).X), .int .i64 ((atP vs (at_ fs f) (idxI (at_ fs f) v) 1).Y), .int .i64 ((atP vs (at_ fs f) (idxI (at_ fs f) v) 1).Z), .int .i64 2, .int .i64 ((atP vs (at_ fs f) (idxI (at_ fs f) v) 3).X), .int .i64 ((atP vs (at_ fs f) (idxI (at_ fs f) v) 3).Y), .int .i64 ((atP vs (at_ fs f) (idxI (at_ fs f) v) 3).Z), .int .i64 1, .int .i64 ((atP vs (at_ fs f) (idxI (at_ fs f) v) 2).X), .int .i64 ((atP vs (at_ fs f) (idxI (at_ fs f) v) 2).Y), .int .i64 ((atP vs (at_ fs f) (idxI (at_ fs f) v) 2).Z)]) rfl u_146 ts_134 tz_134 rfl rfl rfl ?_)))
 intro i99 H100 n101 h102 k103
 have e104 := ne_new h96 n101
 have e105 := ne_new h97 n101
 have z106 := Mono.free m98 n101
 have h107 := keep k103 (ne_new h96 n101) h96
 have h108 := keep k103 (ne_new h97 n101) h97
 have m109 := Mono.new m98 n101 k103
 obtain ⟨v110, e111⟩ : ∃ v : AV, v = .slm i99 0 4 0 4 := ⟨_, rfl⟩
 have o112 : Own H0 H100 4 v110 4 [.int .i64 (((at_ t.fan v).length) : Int), .int .i64 ((atP vs (at_ fs f) (idxI (at_ fs f) v) 0).X), .int .i64 ((atP vs (at_ fs f) (idxI (at_ fs f) v) 0).Y), .int .i64 ((atP vs (at_ fs f) (idxI (at_ fs f) v) 0).Z), .int .i64 2, .int .i64 ((atP vs (at_ fs f) (idxI (at_ fs f) v) 1).X), .int .i64 ((atP vs (at_ fs f) (idxI (at_ fs f) v) 1).Y), .int .i64 ((atP vs (at_ fs f) (idxI (at_ fs f) v) 1).Z), .int .i64 2, .int .i64 ((atP vs (at_ fs f) (idxI (at_ fs f) v) 3).X), .int .i64 ((atP vs (at_ fs f) (idxI (at_ fs f) v) 3).Y), .int .i64 ((atP vs (at_ fs f) (idxI (at_ fs f) v) 3).Z), .int .i64 1, .int .i64 ((atP vs (at_ fs f) (idxI (at_ fs f) v) 2).X), .int .i64 ((atP vs (at_ fs f) (idxI (at_ fs f) v) 2).Y), .int .i64 ((atP vs (at_ fs f) (idxI (at_ fs f) v) 2).Z)] := .inr ⟨_, _, e111, h102, z106, rfl⟩
 have no113 : NotId v110 fid := by rw [e111]; exact NotId.slm e104
 have no114 : NotId v110 i10 := by rw [e111]; exact NotId.slm e105
 refine C rfl ?_
 refine AOp.frz 64 (o112) e111.symm m109 fun H115 m116 k117 => ?_
 have h118 := (k117 _ no113).trans h107
 have h119 := (k117 _ no114).trans h108
 refine Pc («as» := [.sl ([(WgT.mk (((at_ t.fan v).length) : Int) (atP vs (at_ fs f) (idxI (at_ fs f) v) 0)), (WgT.mk 2 (atP vs (at_ fs f) (idxI (at_ fs f) v) 1)), (WgT.mk 2 (atP vs (at_ fs f) (idxI (at_ fs f) v) 3)), (WgT.mk 1 (atP vs (at_ fs f) (idxI (at_ fs f) v) 2))] : List WgT).length (([(WgT.mk (((at_ t.fan v).length) : Int) (atP vs (at_ fs f) (idxI (at_ fs f) v) 0)), (WgT.mk 2 (atP vs (at_ fs f) (idxI (at_ fs f) v) 1)), (WgT.mk 2 (atP vs (at_ fs f) (idxI (at_ fs f) v) 3)), (WgT.mk 1 (atP vs (at_ fs f) (idxI (at_ fs f) v) 2))] : List WgT).flatMap eWg)]) rfl rfl (rfl) tf_81 (c_psum ([(WgT.mk (((at_ t.fan v).length) : Int) (atP vs (at_ fs f) (idxI (at_ fs f) v) 0)), (WgT.mk 2 (atP vs (at_ fs f) (idxI (at_ fs f) v) 1)), (WgT.mk 2 (atP vs (at_ fs f) (idxI (at_ fs f) v) 3)), (WgT.mk 1 (atP vs (at_ fs f) (idxI (at_ fs f) v) 2))] : List WgT) (by simp) (w4_in (by omega) (by decide) (by decide) (by decide) (S.atI hf0 hf1) (S.atI hf0 hf1) (S.atI hf0 hf1) (S.atI hf0 hf1))) ?_
 intro H120 m121
 have h122 := m121 _ _ h118
 have h123 := m121 _ _ h119
 have m124 := m116.trans m121
 refine V rfl rfl (B rfl rfl rfl (iadd (by omega)) (C rfl (Pc («as» := [.agg (eV (wsum ([(WgT.mk (((at_ t.fan v).length) : Int) (atP vs (at_ fs f) (idxI (at_ fs f) v) 0)), (WgT.mk 2 (atP vs (at_ fs f) (idxI (at_ fs f) v) 1)), (WgT.mk 2 (atP vs (at_ fs f) (idxI (at_ fs f) v) 3)), (WgT.mk 1 (atP vs (at_ fs f) (idxI (at_ fs f) v) 2))] : List WgT))), .int .i64 ((((at_ t.fan v).length) : Int) + 5)]) rfl rfl (rfl) tf_80 (c_of2 (wsum ([(WgT.mk (((at_ t.fan v).length) : Int) (atP vs (at_ fs f) (idxI (at_ fs f) v) 0)), (WgT.mk 2 (atP vs (at_ fs f) (idxI (at_ fs f) v) 1)), (WgT.mk 2 (atP vs (at_ fs f) (idxI (at_ fs f) v) 3)), (WgT.mk 1 (atP vs (at_ fs f) (idxI (at_ fs f) v) 2))] : List WgT)) ((((at_ t.fan v).length) : Int) + 5) (inV_le (wsum_le (w4_in (by omega) (by decide) (by decide) (by decide) (S.atI hf0 hf1) (S.atI hf0 hf1) (S.atI hf0 hf1) (S.atI hf0 hf1))) (by simp)) (by omega)) ?_)))
 intro H125 m126
 have h127 := m126 _ _ h122
 have h128 := m126 _ _ h123
 have m129 := m124.trans m126
 refine C rfl (Sw rfl rfl ts_42 h128 rfl rfl rfl ?_)
 intro H130 h131 k132
 have m135 := Mono.set m129 z17 k132
 refine rt_ ?_
 refine Rr (Res.list1 rfl (.cell (v := .agg (eV (ofV (wsum ([(WgT.mk (((at_ t.fan v).length) : Int) (atP vs (at_ fs f) (idxI (at_ fs f) v) 0)), (WgT.mk 2 (atP vs (at_ fs f) (idxI (at_ fs f) v) 1)), (WgT.mk 2 (atP vs (at_ fs f) (idxI (at_ fs f) v) 3)), (WgT.mk 1 (atP vs (at_ fs f) (idxI (at_ fs f) v) 2))] : List WgT)) ((((at_ t.fan v).length) : Int) + 5)))) rfl ty_42 h131 rfl (.nil))) ?_ m135
 exact (congrArg (fun x : VT => AV.agg (eV x)) (show (ofV (wsum ([(WgT.mk (((at_ t.fan v).length) : Int) (atP vs (at_ fs f) (idxI (at_ fs f) v) 0)), (WgT.mk 2 (atP vs (at_ fs f) (idxI (at_ fs f) v) 1)), (WgT.mk 2 (atP vs (at_ fs f) (idxI (at_ fs f) v) 3)), (WgT.mk 1 (atP vs (at_ fs f) (idxI (at_ fs f) v) 2))] : List WgT)) ((((at_ t.fan v).length) : Int) + 5) : VT) = innerP vs fs t hd f v from by rw [innerP_n ⟨b77, b78⟩]))
 refine cf_ rfl (decide_eq_false b78) ?_
 refine AWP.skip ?_
 refine Sr ?_
 refine V rfl rfl (V rfl rfl (C rfl (AOp.pcallH («as» := [.int .i64 0, .fptr [.ptr fid 0 0] 0, .fptr [.sl (at_ fs f).length ((at_ fs f).map eI)] 0, .fptr [.int .i64 (idxI (at_ fs f) v)] 0]) rfl rfl (rfl) tf_82 (c_inner1 vs fs cr t sh hd (at_ fs f) (idxI (at_ fs f) v) 0 hk (by decide) hq hfr hvl h75) ?_)))
 intro H136 m137
 have h138 := m137 _ _ h75
 have h139 := m137 _ _ h76
 have m140 := m73.trans m137
 refine C rfl (Bl (cells := [.int .i64 4, .int .i64 ((atP vs (at_ fs f) (idxI (at_ fs f) v) 0).X), .int .i64 ((atP vs (at_ fs f) (idxI (at_ fs f) v) 0).Y), .int .i64 ((atP vs (at_ fs f) (idxI (at_ fs f) v) 0).Z)]) rfl tz_134 pl_134 rfl rfl (V rfl rfl (C rfl (AOp.pcallH («as» := [.int .i64 1, .fptr [.ptr fid 0 0] 0, .fptr [.sl (at_ fs f).length ((at_ fs f).map eI)] 0, .fptr [.int .i64 (idxI (at_ fs f) v)] 0]) rfl rfl (rfl) tf_82 (c_inner1 vs fs cr t sh hd (at_ fs f) (idxI (at_ fs f) v) 1 hk (by decide) hq hfr hvl h138) ?_))))
 intro H141 m142
 have h143 := m142 _ _ h138
 have h144 := m142 _ _ h139
 have m145 := m140.trans m142
 refine C rfl (Bl (cells := [.int .i64 2, .int .i64 ((atP vs (at_ fs f) (idxI (at_ fs f) v) 1).X), .int .i64 ((atP vs (at_ fs f) (idxI (at_ fs f) v) 1).Y), .int .i64 ((atP vs (at_ fs f) (idxI (at_ fs f) v) 1).Z)]) rfl tz_134 pl_134 rfl rfl (V rfl rfl (C rfl (AOp.pcallH («as» := [.int .i64 3, .fptr [.ptr fid 0 0] 0, .fptr [.sl (at_ fs f).length ((at_ fs f).map eI)] 0, .fptr [.int .i64 (idxI (at_ fs f) v)] 0]) rfl rfl (rfl) tf_82 (c_inner1 vs fs cr t sh hd (at_ fs f) (idxI (at_ fs f) v) 3 hk (by decide) hq hfr hvl h143) ?_))))
 intro H146 m147
 have h148 := m147 _ _ h143
 have h149 := m147 _ _ h144
 have m150 := m145.trans m147
 refine C rfl (Bl (cells := [.int .i64 2, .int .i64 ((atP vs (at_ fs f) (idxI (at_ fs f) v) 3).X), .int .i64 ((atP vs (at_ fs f) (idxI (at_ fs f) v) 3).Y), .int .i64 ((atP vs (at_ fs f) (idxI (at_ fs f) v) 3).Z)]) rfl tz_134 pl_134 rfl rfl (V rfl rfl (C rfl (AOp.pcallH («as» := [.int .i64 2, .fptr [.ptr fid 0 0] 0, .fptr [.sl (at_ fs f).length ((at_ fs f).map eI)] 0, .fptr [.int .i64 (idxI (at_ fs f) v)] 0]) rfl rfl (rfl) tf_82 (c_inner1 vs fs cr t sh hd (at_ fs f) (idxI (at_ fs f) v) 2 hk (by decide) hq hfr hvl h148) ?_))))
 intro H151 m152
 have h153 := m152 _ _ h148
 have h154 := m152 _ _ h149
 have m155 := m150.trans m152
 refine C rfl (Bl (cells := [.int .i64 1, .int .i64 ((atP vs (at_ fs f) (idxI (at_ fs f) v) 2).X), .int .i64 ((atP vs (at_ fs f) (idxI (at_ fs f) v) 2).Y), .int .i64 ((atP vs (at_ fs f) (idxI (at_ fs f) v) 2).Z)]) rfl tz_134 pl_134 rfl rfl (C rfl (AOp.buildSlice (cells := [.int .i64 4, .int .i64 ((atP vs (at_ fs f) (idxI (at_ fs f) v) 0).X), .int .i64 ((atP vs (at_ fs f) (idxI (at_ fs f) v) 0).Y), .int .i64 ((atP vs (at_ fs f) (idxI (at_ fs f) v) 0).Z), .int .i64 2, .int .i64 ((atP vs (at_ fs f) (idxI (at_ fs f) v) 1).X), .int .i64 ((atP vs (at_ fs f) (idxI (at_ fs f) v) 1).Y), .int .i64 ((atP vs (at_ fs f) (idxI (at_ fs f) v) 1).Z), .int .i64 2, .int .i64 ((atP vs (at_ fs f) (idxI (at_ fs f) v) 3).X), .int .i64 ((atP vs (at_ fs f) (idxI (at_ fs f) v) 3).Y), .int .i64 ((atP vs (at_ fs f) (idxI (at_ fs f) v) 3).Z), .int .i64 1, .int .i64 ((atP vs (at_ fs f) (idxI (at_ fs f) v) 2).X), .int .i64 ((atP vs (at_ fs f) (idxI (at_ fs f) v) 2).Y), .int .i64 ((atP vs (at_ fs f) (idxI (at_ fs f) v) 2).Z)]) rfl u_146 ts_134 tz_134 rfl rfl rfl ?_)))
 intro i156 H157 n158 h159 k160
 have e161 := ne_new h153 n158
 have e162 := ne_new h154 n158
 have z163 := Mono.free m155 n158
 have h164 := keep k160 (ne_new h153 n158) h153
 have h165 := keep k160 (ne_new h154 n158) h154
 have m166 := Mono.new m155 n158 k160
 obtain ⟨v167, e168⟩ : ∃ v : AV, v = .slm i156 0 4 0 4 := ⟨_, rfl⟩
 have o169 : Own H0 H157 4 v167 4 [.int .i64 4, .int .i64 ((atP vs (at_ fs f) (idxI (at_ fs f) v) 0).X), .int .i64 ((atP vs (at_ fs f) (idxI (at_ fs f) v) 0).Y), .int .i64 ((atP vs (at_ fs f) (idxI (at_ fs f) v) 0).Z), .int .i64 2, .int .i64 ((atP vs (at_ fs f) (idxI (at_ fs f) v) 1).X), .int .i64 ((atP vs (at_ fs f) (idxI (at_ fs f) v) 1).Y), .int .i64 ((atP vs (at_ fs f) (idxI (at_ fs f) v) 1).Z), .int .i64 2, .int .i64 ((atP vs (at_ fs f) (idxI (at_ fs f) v) 3).X), .int .i64 ((atP vs (at_ fs f) (idxI (at_ fs f) v) 3).Y), .int .i64 ((atP vs (at_ fs f) (idxI (at_ fs f) v) 3).Z), .int .i64 1, .int .i64 ((atP vs (at_ fs f) (idxI (at_ fs f) v) 2).X), .int .i64 ((atP vs (at_ fs f) (idxI (at_ fs f) v) 2).Y), .int .i64 ((atP vs (at_ fs f) (idxI (at_ fs f) v) 2).Z)] := .inr ⟨_, _, e168, h159, z163, rfl⟩
 have no170 : NotId v167 fid := by rw [e168]; exact NotId.slm e161
 have no171 : NotId v167 i10 := by rw [e168]; exact NotId.slm e162
 refine C rfl ?_
 refine AOp.frz 64 (o169) e168.symm m166 fun H172 m173 k174 => ?_
 have h175 := (k174 _ no170).trans h164
 have h176 := (k174 _ no171).trans h165
 refine Pc («as» := [.sl ([(WgT.mk 4 (atP vs (at_ fs f) (idxI (at_ fs f) v) 0)), (WgT.mk 2 (atP vs (at_ fs f) (idxI (at_ fs f) v) 1)), (WgT.mk 2 (atP vs (at_ fs f) (idxI (at_ fs f) v) 3)), (WgT.mk 1 (atP vs (at_ fs f) (idxI (at_ fs f) v) 2))] : List WgT).length (([(WgT.mk 4 (atP vs (at_ fs f) (idxI (at_ fs f) v) 0)), (WgT.mk 2 (atP vs (at_ fs f) (idxI (at_ fs f) v) 1)), (WgT.mk 2 (atP vs (at_ fs f) (idxI (at_ fs f) v) 3)), (WgT.mk 1 (atP vs (at_ fs f) (idxI (at_ fs f) v) 2))] : List WgT).flatMap eWg)]) rfl rfl (rfl) tf_81 (c_psum ([(WgT.mk 4 (atP vs (at_ fs f) (idxI (at_ fs f) v) 0)), (WgT.mk 2 (atP vs (at_ fs f) (idxI (at_ fs f) v) 1)), (WgT.mk 2 (atP vs (at_ fs f) (idxI (at_ fs f) v) 3)), (WgT.mk 1 (atP vs (at_ fs f) (idxI (at_ fs f) v) 2))] : List WgT) (by simp) (w4_in (by omega) (by decide) (by decide) (by decide) (S.atI hf0 hf1) (S.atI hf0 hf1) (S.atI hf0 hf1) (S.atI hf0 hf1))) ?_
 intro H177 m178
 have h179 := m178 _ _ h175
 have h180 := m178 _ _ h176
 have m181 := m173.trans m178
 refine V rfl rfl (B rfl rfl rfl (iadd (by omega)) (C rfl (Pc («as» := [.agg (eV (wsum ([(WgT.mk 4 (atP vs (at_ fs f) (idxI (at_ fs f) v) 0)), (WgT.mk 2 (atP vs (at_ fs f) (idxI (at_ fs f) v) 1)), (WgT.mk 2 (atP vs (at_ fs f) (idxI (at_ fs f) v) 3)), (WgT.mk 1 (atP vs (at_ fs f) (idxI (at_ fs f) v) 2))] : List WgT))), .int .i64 9]) rfl rfl (rfl) tf_80 (c_of2 (wsum ([(WgT.mk 4 (atP vs (at_ fs f) (idxI (at_ fs f) v) 0)), (WgT.mk 2 (atP vs (at_ fs f) (idxI (at_ fs f) v) 1)), (WgT.mk 2 (atP vs (at_ fs f) (idxI (at_ fs f) v) 3)), (WgT.mk 1 (atP vs (at_ fs f) (idxI (at_ fs f) v) 2))] : List WgT)) 9 (inV_le (wsum_le (w4_in (by omega) (by decide) (by decide) (by decide) (S.atI hf0 hf1) (S.atI hf0 hf1) (S.atI hf0 hf1) (S.atI hf0 hf1))) (by simp)) (by omega)) ?_)))
 intro H182 m183
 have h184 := m183 _ _ h179
 have h185 := m183 _ _ h180
 have m186 := m181.trans m183
 refine C rfl (Sw rfl rfl ts_42 h185 rfl rfl rfl ?_)
 intro H187 h188 k189
 have m192 := Mono.set m186 z17 k189
 refine rt_ ?_
 refine Rr (Res.list1 rfl (.cell (v := .agg (eV (ofV (wsum ([(WgT.mk 4 (atP vs (at_ fs f) (idxI (at_ fs f) v) 0)), (WgT.mk 2 (atP vs (at_ fs f) (idxI (at_ fs f) v) 1)), (WgT.mk 2 (atP vs (at_ fs f) (idxI (at_ fs f) v) 3)), (WgT.mk 1 (atP vs (at_ fs f) (idxI (at_ fs f) v) 2))] : List WgT)) 9))) rfl ty_42 h188 rfl (.nil))) ?_ m192
 exact (congrArg (fun x : VT => AV.agg (eV x)) (show (ofV (wsum ([(WgT.mk 4 (atP vs (at_ fs f) (idxI (at_ fs f) v) 0)), (WgT.mk 2 (atP vs (at_ fs f) (idxI (at_ fs f) v) 1)), (WgT.mk 2 (atP vs (at_ fs f) (idxI (at_ fs f) v) 3)), (WgT.mk 1 (atP vs (at_ fs f) (idxI (at_ fs f) v) 2))] : List WgT)) 9 : VT) = innerP vs fs t hd f v from by rw [innerP_4 (fun g => absurd g.2 b78)]))
 refine N rfl rfl b77 (N rfl rfl b77 (N rfl rfl b77 (N rfl rfl b77 (N rfl rfl b77 (N rfl rfl b77 (N rfl rfl b77 (N rfl rfl b77 (N rfl rfl b77 (C rfl (Pf _ rfl rfl b77 rfl ?_))))))))))
 refine cf_ rfl rfl ?_
 refine AWP.skip ?_
 refine Sr ?_
 refine V rfl rfl (V rfl rfl (C rfl (AOp.pcallH («as» := [.int .i64 0, .fptr [.ptr fid 0 0] 0, .fptr [.sl (at_ fs f).length ((at_ fs f).map eI)] 0, .fptr [.int .i64 (idxI (at_ fs f) v)] 0]) rfl rfl (rfl) tf_82 (c_inner1 vs fs cr t sh hd (at_ fs f) (idxI (at_ fs f) v) 0 hk (by decide) hq hfr hvl h75) ?_)))
 intro H193 m194
 have h195 := m194 _ _ h75
 have h196 := m194 _ _ h76
 have m197 := m73.trans m194
 refine C rfl (Bl (cells := [.int .i64 4, .int .i64 ((atP vs (at_ fs f) (idxI (at_ fs f) v) 0).X), .int .i64 ((atP vs (at_ fs f) (idxI (at_ fs f) v) 0).Y), .int .i64 ((atP vs (at_ fs f) (idxI (at_ fs f) v) 0).Z)]) rfl tz_134 pl_134 rfl rfl (V rfl rfl (C rfl (AOp.pcallH («as» := [.int .i64 1, .fptr [.ptr fid 0 0] 0, .fptr [.sl (at_ fs f).length ((at_ fs f).map eI)] 0, .fptr [.int .i64 (idxI (at_ fs f) v)] 0]) rfl rfl (rfl) tf_82 (c_inner1 vs fs cr t sh hd (at_ fs f) (idxI (at_ fs f) v) 1 hk (by decide) hq hfr hvl h195) ?_))))
 intro H198 m199
 have h200 := m199 _ _ h195
 have h201 := m199 _ _ h196
 have m202 := m197.trans m199
 refine C rfl (Bl (cells := [.int .i64 2, .int .i64 ((atP vs (at_ fs f) (idxI (at_ fs f) v) 1).X), .int .i64 ((atP vs (at_ fs f) (idxI (at_ fs f) v) 1).Y), .int .i64 ((atP vs (at_ fs f) (idxI (at_ fs f) v) 1).Z)]) rfl tz_134 pl_134 rfl rfl (V rfl rfl (C rfl (AOp.pcallH («as» := [.int .i64 3, .fptr [.ptr fid 0 0] 0, .fptr [.sl (at_ fs f).length ((at_ fs f).map eI)] 0, .fptr [.int .i64 (idxI (at_ fs f) v)] 0]) rfl rfl (rfl) tf_82 (c_inner1 vs fs cr t sh hd (at_ fs f) (idxI (at_ fs f) v) 3 hk (by decide) hq hfr hvl h200) ?_))))
 intro H203 m204
 have h205 := m204 _ _ h200
 have h206 := m204 _ _ h201
 have m207 := m202.trans m204
 refine C rfl (Bl (cells := [.int .i64 2, .int .i64 ((atP vs (at_ fs f) (idxI (at_ fs f) v) 3).X), .int .i64 ((atP vs (at_ fs f) (idxI (at_ fs f) v) 3).Y), .int .i64 ((atP vs (at_ fs f) (idxI (at_ fs f) v) 3).Z)]) rfl tz_134 pl_134 rfl rfl (V rfl rfl (C rfl (AOp.pcallH («as» := [.int .i64 2, .fptr [.ptr fid 0 0] 0, .fptr [.sl (at_ fs f).length ((at_ fs f).map eI)] 0, .fptr [.int .i64 (idxI (at_ fs f) v)] 0]) rfl rfl (rfl) tf_82 (c_inner1 vs fs cr t sh hd (at_ fs f) (idxI (at_ fs f) v) 2 hk (by decide) hq hfr hvl h205) ?_))))
 intro H208 m209
 have h210 := m209 _ _ h205
 have h211 := m209 _ _ h206
 have m212 := m207.trans m209
 refine C rfl (Bl (cells := [.int .i64 1, .int .i64 ((atP vs (at_ fs f) (idxI (at_ fs f) v) 2).X), .int .i64 ((atP vs (at_ fs f) (idxI (at_ fs f) v) 2).Y), .int .i64 ((atP vs (at_ fs f) (idxI (at_ fs f) v) 2).Z)]) rfl tz_134 pl_134 rfl rfl (C rfl (AOp.buildSlice (cells := [.int .i64 4, .int .i64 ((atP vs (at_ fs f) (idxI (at_ fs f) v) 0).X), .int .i64 ((atP vs (at_ fs f) (idxI (at_ fs f) v) 0).Y), .int .i64 ((atP vs (at_ fs f) (idxI (at_ fs f) v) 0).Z), .int .i64 2, .int .i64 ((atP vs (at_ fs f) (idxI (at_ fs f) v) 1).X), .int .i64 ((atP vs (at_ fs f) (idxI (at_ fs f) v) 1).Y), .int .i64 ((atP vs (at_ fs f) (idxI (at_ fs f) v) 1).Z), .int .i64 2, .int .i64 ((atP vs (at_ fs f) (idxI (at_ fs f) v) 3).X), .int .i64 ((atP vs (at_ fs f) (idxI (at_ fs f) v) 3).Y), .int .i64 ((atP vs (at_ fs f) (idxI (at_ fs f) v) 3).Z), .int .i64 1, .int .i64 ((atP vs (at_ fs f) (idxI (at_ fs f) v) 2).X), .int .i64 ((atP vs (at_ fs f) (idxI (at_ fs f) v) 2).Y), .int .i64 ((atP vs (at_ fs f) (idxI (at_ fs f) v) 2).Z)]) rfl u_146 ts_134 tz_134 rfl rfl rfl ?_)))
 intro i213 H214 n215 h216 k217
 have e218 := ne_new h210 n215
 have e219 := ne_new h211 n215
 have z220 := Mono.free m212 n215
 have h221 := keep k217 (ne_new h210 n215) h210
 have h222 := keep k217 (ne_new h211 n215) h211
 have m223 := Mono.new m212 n215 k217
 obtain ⟨v224, e225⟩ : ∃ v : AV, v = .slm i213 0 4 0 4 := ⟨_, rfl⟩
 have o226 : Own H0 H214 4 v224 4 [.int .i64 4, .int .i64 ((atP vs (at_ fs f) (idxI (at_ fs f) v) 0).X), .int .i64 ((atP vs (at_ fs f) (idxI (at_ fs f) v) 0).Y), .int .i64 ((atP vs (at_ fs f) (idxI (at_ fs f) v) 0).Z), .int .i64 2, .int .i64 ((atP vs (at_ fs f) (idxI (at_ fs f) v) 1).X), .int .i64 ((atP vs (at_ fs f) (idxI (at_ fs f) v) 1).Y), .int .i64 ((atP vs (at_ fs f) (idxI (at_ fs f) v) 1).Z), .int .i64 2, .int .i64 ((atP vs (at_ fs f) (idxI (at_ fs f) v) 3).X), .int .i64 ((atP vs (at_ fs f) (idxI (at_ fs f) v) 3).Y), .int .i64 ((atP vs (at_ fs f) (idxI (at_ fs f) v) 3).Z), .int .i64 1, .int .i64 ((atP vs (at_ fs f) (idxI (at_ fs f) v) 2).X), .int .i64 ((atP vs (at_ fs f) (idxI (at_ fs f) v) 2).Y), .int .i64 ((atP vs (at_ fs f) (idxI (at_ fs f) v) 2).Z)] := .inr ⟨_, _, e225, h216, z220, rfl⟩
 have no227 : NotId v224 fid := by rw [e225]; exact NotId.slm e218
 have no228 : NotId v224 i10 := by rw [e225]; exact NotId.slm e219
 refine C rfl ?_
 refine AOp.frz 64 (o226) e225.symm m223 fun H229 m230 k231 => ?_
 have h232 := (k231 _ no227).trans h221
 have h233 := (k231 _ no228).trans h222
 refine Pc («as» := [.sl ([(WgT.mk 4 (atP vs (at_ fs f) (idxI (at_ fs f) v) 0)), (WgT.mk 2 (atP vs (at_ fs f) (idxI (at_ fs f) v) 1)), (WgT.mk 2 (atP vs (at_ fs f) (idxI (at_ fs f) v) 3)), (WgT.mk 1 (atP vs (at_ fs f) (idxI (at_ fs f) v) 2))] : List WgT).length (([(WgT.mk 4 (atP vs (at_ fs f) (idxI (at_ fs f) v) 0)), (WgT.mk 2 (atP vs (at_ fs f) (idxI (at_ fs f) v) 1)), (WgT.mk 2 (atP vs (at_ fs f) (idxI (at_ fs f) v) 3)), (WgT.mk 1 (atP vs (at_ fs f) (idxI (at_ fs f) v) 2))] : List WgT).flatMap eWg)]) rfl rfl (rfl) tf_81 (c_psum ([(WgT.mk 4 (atP vs (at_ fs f) (idxI (at_ fs f) v) 0)), (WgT.mk 2 (atP vs (at_ fs f) (idxI (at_ fs f) v) 1)), (WgT.mk 2 (atP vs (at_ fs f) (idxI (at_ fs f) v) 3)), (WgT.mk 1 (atP vs (at_ fs f) (idxI (at_ fs f) v) 2))] : List WgT) (by simp) (w4_in (by omega) (by decide) (by decide) (by decide) (S.atI hf0 hf1) (S.atI hf0 hf1) (S.atI hf0 hf1) (S.atI hf0 hf1))) ?_
 intro H234 m235
 have h236 := m235 _ _ h232
 have h237 := m235 _ _ h233
 have m238 := m230.trans m235
 refine V rfl rfl (B rfl rfl rfl (iadd (by omega)) (C rfl (Pc («as» := [.agg (eV (wsum ([(WgT.mk 4 (atP vs (at_ fs f) (idxI (at_ fs f) v) 0)), (WgT.mk 2 (atP vs (at_ fs f) (idxI (at_ fs f) v) 1)), (WgT.mk 2 (atP vs (at_ fs f) (idxI (at_ fs f) v) 3)), (WgT.mk 1 (atP vs (at_ fs f) (idxI (at_ fs f) v) 2))] : List WgT))), .int .i64 9]) rfl rfl (rfl) tf_80 (c_of2 (wsum ([(WgT.mk 4 (atP vs (at_ fs f) (idxI (at_ fs f) v) 0)), (WgT.mk 2 (atP vs (at_ fs f) (idxI (at_ fs f) v) 1)), (WgT.mk 2 (atP vs (at_ fs f) (idxI (at_ fs f) v) 3)), (WgT.mk 1 (atP vs (at_ fs f) (idxI (at_ fs f) v) 2))] : List WgT)) 9 (inV_le (wsum_le (w4_in (by omega) (by decide) (by decide) (by decide) (S.atI hf0 hf1) (S.atI hf0 hf1) (S.atI hf0 hf1) (S.atI hf0 hf1))) (by simp)) (by omega)) ?_)))
 intro H239 m240
 have h241 := m240 _ _ h236
 have h242 := m240 _ _ h237
 have m243 := m238.trans m240
 refine C rfl (Sw rfl rfl ts_42 h242 rfl rfl rfl ?_)
 intro H244 h245 k246
 have m249 := Mono.set m243 z17 k246
 refine rt_ ?_
 refine Rr (Res.list1 rfl (.cell (v := .agg (eV (ofV (wsum ([(WgT.mk 4 (atP vs (at_ fs f) (idxI (at_ fs f) v) 0)), (WgT.mk 2 (atP vs (at_ fs f) (idxI (at_ fs f) v) 1)), (WgT.mk 2 (atP vs (at_ fs f) (idxI (at_ fs f) v) 3)), (WgT.mk 1 (atP vs (at_ fs f) (idxI (at_ fs f) v) 2))] : List WgT)) 9))) rfl ty_42 h245 rfl (.nil))) ?_ m249
 exact (congrArg (fun x : VT => AV.agg (eV x)) (show (ofV (wsum ([(WgT.mk 4 (atP vs (at_ fs f) (idxI (at_ fs f) v) 0)), (WgT.mk 2 (atP vs (at_ fs f) (idxI (at_ fs f) v) 1)), (WgT.mk 2 (atP vs (at_ fs f) (idxI (at_ fs f) v) 3)), (WgT.mk 1 (atP vs (at_ fs f) (idxI (at_ fs f) v) 2))] : List WgT)) 9 : VT) = innerP vs fs t hd f v from by rw [innerP_4 (fun g => by rw [b77] at g; exact absurd g.1 (by decide))]))
abbrev Zpedge_0 (t : Tp) (v : Int) (w : Int) := at_ t.ed (optI (findS t v w))
theorem c_pedge {H0 : Heap} {fid : Nat} (vs : List VT) (fs : List (List Int)) (cr : List CrT) (t : Tp) (sh : List Int) (hd : List (List VT)) (S : ShpF vs fs t sh hd) (v w : Int) (hs : 0 ≤ alongS fs v w ∨ 0 ≤ alongS fs w v) (hv : 0 ≤ v ∧ v < vs.length) (hw : 0 ≤ w ∧ w < vs.length) (hr : H0 fid = some (.row 0 [.sl vs.length (vs.flatMap eV), .sl fs.length (fs.map eF), .sl cr.length (cr.flatMap eCr), .sl t.ed.length (t.ed.flatMap eE), .sl t.fan.length (t.fan.map eF), .sl t.rnd.length (t.rnd.map eBo), .sl sh.length (sh.map eI), .sl hd.length (hd.map eVs)])) : ACalls Try.prog 70 [.ptr fid 0 0, .int .i64 v, .int .i64 w] H0 fun r H' => r = (.agg [.int .i64 ((edgeQ vs fs t sh hd v w).X), .int .i64 ((edgeQ vs fs t sh hd v w).Y), .int .i64 ((edgeQ vs fs t sh hd v w).Z)]) ∧ Mono H0 H' := by
 have hvl := S.v1
 have hfl := S.f1
 have hrl := S.rl
 have hhl := S.hl
 have hfan := S.tf.fl
 have hel := S.tf.el
 have hse := S.tf.se
 have hsl := S.sl
 obtain ⟨hd1, hd2, hd3⟩ := S.fd v w hs
 have hvv := S.v _ (at_mem hv.1 hv.2)
 have hww := S.v _ (at_mem hw.1 hw.2)
 refine ACalls.of_body' (n := 69) rfl rfl rfl rfl ?_
 have m0 := Mono.refl H0
 refine Sr ?_
 refine C rfl (al_ rfl tz_42 ?_)
 intro i1 H2 n3 h4 k5
 have z7 := Mono.free m0 n3
 have h8 := keep k5 (ne_new hr n3) hr
 have m9 := Mono.new m0 n3 k5
 refine Sr ?_
 refine V rfl rfl (C rfl (nc_ (.ptr fid 0 0) rfl rfl rfl ?_))
 refine C rfl (Fa rfl rfl fl_104_1 ?_ (hid := ⟨_, h8⟩))
 refine C rfl (Ld _ rfl rfl ty_35 h8 rfl (V rfl rfl (V rfl rfl (C rfl (Pc («as» := [.agg [.sl t.ed.length (t.ed.flatMap eE), .sl t.fan.length (t.fan.map eF), .sl t.rnd.length (t.rnd.map eBo)], .int .i64 v, .int .i64 w]) rfl rfl (rfl) tf_44 (c19 _ _ _ (by omega) (by assumption)) ?_)))))
 intro H10 m11
 have h12 := m11 _ _ h8
 have h13 := m11 _ _ h4
 have m14 := m9.trans m11
 refine V rfl rfl (E rfl rfl rfl (E rfl rfl rfl (A rfl rfl (A rfl rfl ?_))))
 refine AWP.seq ?_
 refine Sr ?_
 refine V rfl rfl (C rfl (nc_ (.ptr fid 0 0) rfl rfl rfl ?_))
 refine C rfl (Fa rfl rfl fl_104_2 ?_ (hid := ⟨_, h12⟩))
 refine C rfl (Ld _ rfl rfl ty_38 h12 rfl (V rfl rfl (C rfl (iS_ rfl rfl rfl sl_38 (by omega) (by omega) (L rfl rfl ty_3 (ld1 (by omega) (by omega)) (B rfl rfl rfl ine ?_))))))
 refine AOps.nil ?_
 change AWP _ _ _ _ _ _
 by_cases b15 : at_ sh (optI (findS t v w)) = 0
 refine cf_ rfl (nb (decide_eq_true b15)) ?_
 refine AWP.skip ?_
 refine Sr ?_
 refine V rfl rfl (C rfl (nc_ (.ptr fid 0 0) rfl rfl rfl ?_))
 refine C rfl (Fa rfl rfl fl_104_1 ?_ (hid := ⟨_, h12⟩))
 refine C rfl (Fa rfl rfl fl_35_0 ?_ (hid := ⟨_, h12⟩))
 refine C rfl (Ld _ rfl rfl ty_32 h12 rfl (V rfl rfl (C rfl (iS_ rfl rfl rfl sl_32 (by omega) (by omega) (L rfl rfl ty_47 (ldM eE_len (by omega) (by omega)) (C rfl (al_ rfl tz_47 ?_)))))))
 intro i16 H17 n18 h19 k20
 have e21 := ne_new h12 n18
 have e22 := ne_new h13 n18
 have z23 := Mono.free m14 n18
 have h24 := keep k20 (ne_new h12 n18) h12
 have h25 := keep k20 (ne_new h13 n18) h13
 have m26 := Mono.new m14 n18 k20
 refine C rfl (Sw rfl rfl ts_47 h19 rfl rfl rfl ?_)
 intro H27 h28 k29
 have h30 := keep k29 e21 h24
 have h31 := keep k29 e22 h25
 have m33 := Mono.set m26 z23 k29
 refine AWP.seq ?_
 refine fz_ 9 h28 z23 rfl m33 fun H34 m35 k36 => ?_
 have h37 := (k36 _ e21).trans h30
 have h38 := (k36 _ e22).trans h31
 have hfg := S.fg _ hd2.1 hd2.2 b15 v hd3
 have hi1 := S.innerI hv.1 hv.2 hfg.1.1 hfg.1.2.1
 have hi2 := S.innerI hv.1 hv.2 hfg.2.1 hfg.2.2.1
 have hj1 := inV_le (b := 2305843009213693952) hi1 (by decide)
 have hj2 := inV_le (b := 2305843009213693952) hi2 (by decide)
 refine AWP.region_quiet mixed (by kernel_rfl) 12 [12] rfl (by kernel_rfl) (Mono H34) (Mono.refl _) ?_
 refine QV rfl rfl (QF rfl rfl fl_47_2 (QL rfl rfl ty_3 rfl (QV rfl rfl (Q rfl (fun _ _ φ ψ => AOp.pcallH («as» := [.ptr fid 0 0, .int .i64 ((Zpedge_0 t v w).F), .int .i64 v]) rfl rfl (lapp (lcons (φ 57 rfl) (lcons (φ 59 rfl) (lcons (φ 60 rfl) rfl))) rfl) tf_71 (c_inner vs fs cr t sh hd S ((Zpedge_0 t v w).F) v hfg.1 hv.1 hv.2 (ψ _ _ h37)) fun H2 m2 => ⟨rfl, ψ.trans m2⟩) (QV rfl rfl (QF rfl rfl fl_47_3 (QL rfl rfl ty_3 rfl (QV rfl rfl (Q rfl (fun _ _ φ ψ => AOp.pcallH («as» := [.ptr fid 0 0, .int .i64 ((Zpedge_0 t v w).G), .int .i64 v]) rfl rfl (lapp (lcons (φ 62 rfl) (lcons (φ 64 rfl) (lcons (φ 65 rfl) rfl))) rfl) tf_71 (c_inner vs fs cr t sh hd S ((Zpedge_0 t v w).G) v hfg.2 hv.1 hv.2 (ψ _ _ h37)) fun H2 m2 => ⟨rfl, ψ.trans m2⟩) (Q rfl (fun _ _ φ ψ => Pc («as» := [.agg (eV (innerP vs fs t hd ((Zpedge_0 t v w).F) v)), .agg (eV (innerP vs fs t hd ((Zpedge_0 t v w).G) v))]) rfl rfl (lapp (lcons (φ 61 rfl) (lcons (φ 66 rfl) rfl)) rfl) tf_73 (c_vAdd (innerP vs fs t hd ((Zpedge_0 t v w).F) v) (innerP vs fs t hd ((Zpedge_0 t v w).G) v) (by assumption) (by assumption)) fun H2 m2 => ⟨rfl, ψ.trans m2⟩) (Q rfl (fun _ _ φ ψ => Pc («as» := [.agg (eV (addV (innerP vs fs t hd ((Zpedge_0 t v w).F) v) (innerP vs fs t hd ((Zpedge_0 t v w).G) v))), .int .i64 2]) rfl rfl (lapp (lcons (φ 67 rfl) (lcons rfl rfl)) rfl) tf_80 (c_of2 (addV (innerP vs fs t hd ((Zpedge_0 t v w).F) v) (innerP vs fs t hd ((Zpedge_0 t v w).G) v)) 2 (inV_le (inV_add hi1 hi2) (by decide)) (by decide)) fun H2 m2 => ⟨rfl, ψ.trans m2⟩) ?_)))))))))))
 refine QE.done fun H39 m40 => ?_
 have h41 := m40 _ _ h37
 have h42 := m40 _ _ h38
 have m43 := m35.trans m40
 refine C rfl (Sw rfl rfl ts_42 h42 rfl rfl rfl ?_)
 intro H44 h45 k46
 have m49 := Mono.set m43 z7 k46
 refine rt_ ?_
 refine Rr (Res.list1 rfl (.cell (v := .agg (eV (ofV (addV (innerP vs fs t hd ((Zpedge_0 t v w).F) v) (innerP vs fs t hd ((Zpedge_0 t v w).G) v)) 2))) rfl ty_42 h45 rfl (.nil))) ?_ m49
 exact (congrArg (fun x : VT => AV.agg (eV x)) (show (ofV (addV (innerP vs fs t hd ((Zpedge_0 t v w).F) v) (innerP vs fs t hd ((Zpedge_0 t v w).G) v)) 2 : VT) = edgeQ vs fs t sh hd v w from by unfold edgeQ; rw [if_pos b15]))
 refine ct_ rfl (nb (decide_eq_false b15)) ?_
 refine AWP.seq ?_
 refine AWP.region_quiet mixed (by kernel_rfl) 18 [18, 19, 20, 21] rfl (by kernel_rfl) (Mono H10) (Mono.refl _) ?_
 refine QV rfl rfl (Q rfl (fun _ _ φ ψ => nc_ (.ptr fid 0 0) rfl (φ 28 rfl) rfl ⟨rfl, ψ⟩) (Q rfl (fun _ _ φ ψ => Fa rfl (φ 29 rfl) fl_104_0 ⟨rfl, ψ⟩ (hid := ⟨_, (ψ _ _ h12)⟩)) (Q rfl (fun _ _ φ ψ => Fa rfl (φ 30 rfl) fl_26_0 ⟨rfl, ψ⟩ (hid := ⟨_, (ψ _ _ h12)⟩)) (Q rfl (fun _ _ φ ψ => Ld _ rfl (φ 31 rfl) ty_22 (ψ _ _ h12) rfl ⟨rfl, ψ⟩) (QV rfl rfl (Q rfl (fun _ _ φ ψ => iS_ rfl (φ 32 rfl) (φ 33 rfl) sl_22 (by omega) (by omega) ⟨rfl, ψ⟩) (QL rfl rfl ty_42 (ldM eV_len (by omega) (by omega)) (Q rfl (fun _ _ φ ψ => Bl (cells := [.int .i64 2, .int .i64 ((at_ vs v).X), .int .i64 ((at_ vs v).Y), .int .i64 ((at_ vs v).Z)]) rfl tz_134 pl_134 (lconsP rfl (lconsP (φ 35 rfl) rfl)) rfl ⟨rfl, ψ⟩) (QV rfl rfl (Q rfl (fun _ _ φ ψ => nc_ (.ptr fid 0 0) rfl (φ 37 rfl) rfl ⟨rfl, ψ⟩) (Q rfl (fun _ _ φ ψ => Fa rfl (φ 38 rfl) fl_104_0 ⟨rfl, ψ⟩ (hid := ⟨_, (ψ _ _ h12)⟩)) (Q rfl (fun _ _ φ ψ => Fa rfl (φ 39 rfl) fl_26_0 ⟨rfl, ψ⟩ (hid := ⟨_, (ψ _ _ h12)⟩)) (Q rfl (fun _ _ φ ψ => Ld _ rfl (φ 40 rfl) ty_22 (ψ _ _ h12) rfl ⟨rfl, ψ⟩) ?_)))))))))))))
 refine QV rfl rfl (Q rfl (fun _ _ φ ψ => iS_ rfl (φ 41 rfl) (φ 42 rfl) sl_22 (by omega) (by omega) ⟨rfl, ψ⟩) (QL rfl rfl ty_42 (ldM eV_len (by omega) (by omega)) (Q rfl (fun _ _ φ ψ => Bl (cells := [.int .i64 1, .int .i64 ((at_ vs w).X), .int .i64 ((at_ vs w).Y), .int .i64 ((at_ vs w).Z)]) rfl tz_134 pl_134 (lconsP rfl (lconsP (φ 44 rfl) rfl)) rfl ⟨rfl, ψ⟩) ?_)))
 refine QE.done fun H50 m51 => ?_
 have h52 := m51 _ _ h12
 have h53 := m51 _ _ h13
 have m54 := m14.trans m51
 refine C rfl (AOp.buildSlice (cells := [.int .i64 2, .int .i64 ((at_ vs v).X), .int .i64 ((at_ vs v).Y), .int .i64 ((at_ vs v).Z), .int .i64 1, .int .i64 ((at_ vs w).X), .int .i64 ((at_ vs w).Y), .int .i64 ((at_ vs w).Z)]) rfl u_146 ts_134 tz_134 rfl rfl rfl ?_)
 intro i55 H56 n57 h58 k59
 have e60 := ne_new h52 n57
 have e61 := ne_new h53 n57
 have z62 := Mono.free m54 n57
 have h63 := keep k59 (ne_new h52 n57) h52
 have h64 := keep k59 (ne_new h53 n57) h53
 have m65 := Mono.new m54 n57 k59
 obtain ⟨v66, e67⟩ : ∃ v : AV, v = .slm i55 0 4 0 2 := ⟨_, rfl⟩
 have o68 : Own H0 H56 4 v66 2 [.int .i64 2, .int .i64 ((at_ vs v).X), .int .i64 ((at_ vs v).Y), .int .i64 ((at_ vs v).Z), .int .i64 1, .int .i64 ((at_ vs w).X), .int .i64 ((at_ vs w).Y), .int .i64 ((at_ vs w).Z)] := .inr ⟨_, _, e67, h58, z62, rfl⟩
 have no69 : NotId v66 fid := by rw [e67]; exact NotId.slm e60
 have no70 : NotId v66 i1 := by rw [e67]; exact NotId.slm e61
 refine C rfl ?_
 refine AOp.frz 46 (o68) e67.symm m65 fun H71 m72 k73 => ?_
 have h74 := (k73 _ no69).trans h63
 have h75 := (k73 _ no70).trans h64
 refine Pc («as» := [.sl ([(WgT.mk 2 (at_ vs v)), (WgT.mk 1 (at_ vs w))] : List WgT).length (([(WgT.mk 2 (at_ vs v)), (WgT.mk 1 (at_ vs w))] : List WgT).flatMap eWg)]) rfl rfl (rfl) tf_81 (c_psum ([(WgT.mk 2 (at_ vs v)), (WgT.mk 1 (at_ vs w))] : List WgT) (by simp) (w2_in (by decide) (by decide) hvv hww)) ?_
 intro H76 m77
 have h78 := m77 _ _ h74
 have h79 := m77 _ _ h75
 have m80 := m72.trans m77
 refine C rfl (Pc («as» := [.agg (eV (wsum ([(WgT.mk 2 (at_ vs v)), (WgT.mk 1 (at_ vs w))] : List WgT))), .int .i64 3]) rfl rfl (rfl) tf_80 (c_of2 (wsum ([(WgT.mk 2 (at_ vs v)), (WgT.mk 1 (at_ vs w))] : List WgT)) 3 (inV_le (wsum_le (w2_in (by decide) (by decide) hvv hww)) (by simp)) (by decide)) ?_)
 intro H81 m82
 have h83 := m82 _ _ h78
 have h84 := m82 _ _ h79
 have m85 := m80.trans m82
 refine C rfl (Sw rfl rfl ts_42 h84 rfl rfl rfl ?_)
 intro H86 h87 k88
 have m91 := Mono.set m85 z7 k88
 refine rt_ ?_
 refine Rr (Res.list1 rfl (.cell (v := .agg (eV (ofV (wsum ([(WgT.mk 2 (at_ vs v)), (WgT.mk 1 (at_ vs w))] : List WgT)) 3))) rfl ty_42 h87 rfl (.nil))) ?_ m91
 exact (congrArg (fun x : VT => AV.agg (eV x)) (show (ofV (wsum ([(WgT.mk 2 (at_ vs v)), (WgT.mk 1 (at_ vs w))] : List WgT)) 3 : VT) = edgeQ vs fs t sh hd v w from by unfold edgeQ; rw [if_neg b15]))
theorem c_corner {H0 : Heap} {fid : Nat} (vs : List VT) (fs : List (List Int)) (cr : List CrT) (t : Tp) (sh : List Int) (hd : List (List VT)) (S : ShpF vs fs t sh hd) (v : Int) (hv : 0 ≤ v ∧ v < vs.length) (hr : H0 fid = some (.row 0 [.sl vs.length (vs.flatMap eV), .sl fs.length (fs.map eF), .sl cr.length (cr.flatMap eCr), .sl t.ed.length (t.ed.flatMap eE), .sl t.fan.length (t.fan.map eF), .sl t.rnd.length (t.rnd.map eBo), .sl sh.length (sh.map eI), .sl hd.length (hd.map eVs)])) : ACalls Try.prog 69 [.ptr fid 0 0, .int .i64 v] H0 fun r H' => r = (.agg [.int .i64 ((cornerQ vs fs t hd v).X), .int .i64 ((cornerQ vs fs t hd v).Y), .int .i64 ((cornerQ vs fs t hd v).Z)]) ∧ Mono H0 H' := by
 have hvl := S.v1
 have hfl := S.f1
 have hrl := S.rl
 have hhl := S.hl
 have hfan := S.tf.fl
 have hel := S.tf.el
 have hse := S.tf.se
 have hsl := S.sl
 have hvv := S.v _ (at_mem hv.1 hv.2)
 have hhv := S.hv v hv.1 hv.2
 have hh1 := hhv.1
 have hfv := S.tf.fan v hv.1 hv.2
 refine ACalls.of_body' (n := 83) rfl rfl rfl rfl ?_
 have m0 := Mono.refl H0
 refine Sr ?_
 refine C rfl (al_ rfl tz_42 ?_)
 intro i1 H2 n3 h4 k5
 have z7 := Mono.free m0 n3
 have h8 := keep k5 (ne_new hr n3) hr
 have m9 := Mono.new m0 n3 k5
 refine AWP.seq ?_
 refine Sr ?_
 refine V rfl rfl (C rfl (nc_ (.ptr fid 0 0) rfl rfl rfl ?_))
 refine C rfl (Fa rfl rfl fl_104_3 ?_ (hid := ⟨_, h8⟩))
 refine C rfl (Ld _ rfl rfl ty_102 h8 rfl (V rfl rfl (C rfl (iS_ rfl rfl rfl sl_102 (by omega) (by omega) (L rfl rfl ty_22 (ld1 (by omega) (by omega)) (A rfl rfl ?_))))))
 refine bk_ ?_
 refine Sr ?_
 refine V rfl rfl (C rfl (AOp.len (m := (at_ hd v).length) rfl rfl (.inr (.inl ⟨_, rfl⟩)) u_22 (B rfl rfl rfl rfl (A rfl rfl ?_))))
 refine AOps.nil ?_
 change AWP _ _ _ _ _ _
 by_cases b10 : (((at_ hd v).length) : Int) > 2
 refine ct_ rfl (decide_eq_true b10) ?_
 refine Sr ?_
 refine V rfl rfl (C rfl (nc_ (.ptr fid 0 0) rfl rfl rfl ?_))
 refine C rfl (Fa rfl rfl fl_104_0 ?_ (hid := ⟨_, h8⟩))
 refine C rfl (Fa rfl rfl fl_26_0 ?_ (hid := ⟨_, h8⟩))
 refine C rfl (Ld _ rfl rfl ty_22 h8 rfl (V rfl rfl (C rfl (iS_ rfl rfl rfl sl_22 (by omega) (by omega) (L rfl rfl ty_42 (ldM eV_len (by omega) (by omega)) (C rfl (Sw rfl rfl ts_42 h4 rfl rfl rfl ?_)))))))
 intro H11 h12 k13
 have m16 := Mono.set m9 z7 k13
 refine rt_ ?_
 refine Rr (Res.list1 rfl (.cell (v := .agg (eV (at_ vs v))) rfl ty_42 h12 rfl (.nil))) ?_ m16
 exact (congrArg (fun x : VT => AV.agg (eV x)) (show (at_ vs v : VT) = cornerQ vs fs t hd v from by unfold cornerQ; rw [if_pos b10]))
 refine cf_ rfl (decide_eq_false b10) ?_
 refine Sr ?_
 refine V rfl rfl (C rfl (AOp.len (m := (at_ hd v).length) rfl rfl (.inr (.inl ⟨_, rfl⟩)) u_22 (B rfl rfl rfl ieq (A rfl rfl ?_))))
 refine AOps.nil ?_
 change AWP _ _ _ _ _ _
 by_cases b17 : (((at_ hd v).length) : Int) = 2
 refine ct_ rfl (decide_eq_true b17) ?_
 refine AWP.seq ?_
 refine AWP.region_quiet mixed (by kernel_rfl) 17 [17, 18, 19, 20] rfl (by kernel_rfl) (Mono H2) (Mono.refl _) ?_
 refine QV rfl rfl (Q rfl (fun _ _ φ ψ => nc_ (.ptr fid 0 0) rfl (φ 32 rfl) rfl ⟨rfl, ψ⟩) (Q rfl (fun _ _ φ ψ => Fa rfl (φ 33 rfl) fl_104_0 ⟨rfl, ψ⟩ (hid := ⟨_, (ψ _ _ h8)⟩)) (Q rfl (fun _ _ φ ψ => Fa rfl (φ 34 rfl) fl_26_0 ⟨rfl, ψ⟩ (hid := ⟨_, (ψ _ _ h8)⟩)) (Q rfl (fun _ _ φ ψ => Ld _ rfl (φ 35 rfl) ty_22 (ψ _ _ h8) rfl ⟨rfl, ψ⟩) (QV rfl rfl (Q rfl (fun _ _ φ ψ => iS_ rfl (φ 36 rfl) (φ 37 rfl) sl_22 (by omega) (by omega) ⟨rfl, ψ⟩) (QL rfl rfl ty_42 (ldM eV_len (by omega) (by omega)) (Q rfl (fun _ _ φ ψ => Bl (cells := [.int .i64 4, .int .i64 ((at_ vs v).X), .int .i64 ((at_ vs v).Y), .int .i64 ((at_ vs v).Z)]) rfl tz_134 pl_134 (lconsP rfl (lconsP (φ 39 rfl) rfl)) rfl ⟨rfl, ψ⟩) (QV rfl rfl (Q rfl (fun _ _ φ ψ => iS_ rfl (φ 41 rfl) rfl sl_22 (by omega) (by omega) ⟨rfl, ψ⟩) (QL rfl rfl ty_42 (ldM eV_len (by omega) (by omega)) (Q rfl (fun _ _ φ ψ => Bl (cells := [.int .i64 1, .int .i64 ((at_ (at_ hd v) 0).X), .int .i64 ((at_ (at_ hd v) 0).Y), .int .i64 ((at_ (at_ hd v) 0).Z)]) rfl tz_134 pl_134 (lconsP rfl (lconsP (φ 43 rfl) rfl)) rfl ⟨rfl, ψ⟩) (QV rfl rfl ?_)))))))))))))
 refine Q rfl (fun _ _ φ ψ => iS_ rfl (φ 45 rfl) rfl sl_22 (by omega) (by omega) ⟨rfl, ψ⟩) (QL rfl rfl ty_42 (ldM eV_len (by omega) (by omega)) (Q rfl (fun _ _ φ ψ => Bl (cells := [.int .i64 1, .int .i64 ((at_ (at_ hd v) 1).X), .int .i64 ((at_ (at_ hd v) 1).Y), .int .i64 ((at_ (at_ hd v) 1).Z)]) rfl tz_134 pl_134 (lconsP rfl (lconsP (φ 47 rfl) rfl)) rfl ⟨rfl, ψ⟩) ?_))
 refine QE.done fun H18 m19 => ?_
 have h20 := m19 _ _ h8
 have h21 := m19 _ _ h4
 have m22 := m9.trans m19
 refine C rfl (AOp.buildSlice (cells := [.int .i64 4, .int .i64 ((at_ vs v).X), .int .i64 ((at_ vs v).Y), .int .i64 ((at_ vs v).Z), .int .i64 1, .int .i64 ((at_ (at_ hd v) 0).X), .int .i64 ((at_ (at_ hd v) 0).Y), .int .i64 ((at_ (at_ hd v) 0).Z), .int .i64 1, .int .i64 ((at_ (at_ hd v) 1).X), .int .i64 ((at_ (at_ hd v) 1).Y), .int .i64 ((at_ (at_ hd v) 1).Z)]) rfl u_146 ts_134 tz_134 rfl rfl rfl ?_)
 intro i23 H24 n25 h26 k27
 have e28 := ne_new h20 n25
 have e29 := ne_new h21 n25
 have z30 := Mono.free m22 n25
 have h31 := keep k27 (ne_new h20 n25) h20
 have h32 := keep k27 (ne_new h21 n25) h21
 have m33 := Mono.new m22 n25 k27
 obtain ⟨v34, e35⟩ : ∃ v : AV, v = .slm i23 0 4 0 3 := ⟨_, rfl⟩
 have o36 : Own H0 H24 4 v34 3 [.int .i64 4, .int .i64 ((at_ vs v).X), .int .i64 ((at_ vs v).Y), .int .i64 ((at_ vs v).Z), .int .i64 1, .int .i64 ((at_ (at_ hd v) 0).X), .int .i64 ((at_ (at_ hd v) 0).Y), .int .i64 ((at_ (at_ hd v) 0).Z), .int .i64 1, .int .i64 ((at_ (at_ hd v) 1).X), .int .i64 ((at_ (at_ hd v) 1).Y), .int .i64 ((at_ (at_ hd v) 1).Z)] := .inr ⟨_, _, e35, h26, z30, rfl⟩
 have no37 : NotId v34 fid := by rw [e35]; exact NotId.slm e28
 have no38 : NotId v34 i1 := by rw [e35]; exact NotId.slm e29
 refine C rfl ?_
 refine AOp.frz 49 (o36) e35.symm m33 fun H39 m40 k41 => ?_
 have h42 := (k41 _ no37).trans h31
 have h43 := (k41 _ no38).trans h32
 refine Pc («as» := [.sl ([(WgT.mk 4 (at_ vs v)), (WgT.mk 1 (at_ (at_ hd v) 0)), (WgT.mk 1 (at_ (at_ hd v) 1))] : List WgT).length (([(WgT.mk 4 (at_ vs v)), (WgT.mk 1 (at_ (at_ hd v) 0)), (WgT.mk 1 (at_ (at_ hd v) 1))] : List WgT).flatMap eWg)]) rfl rfl (rfl) tf_81 (c_psum ([(WgT.mk 4 (at_ vs v)), (WgT.mk 1 (at_ (at_ hd v) 0)), (WgT.mk 1 (at_ (at_ hd v) 1))] : List WgT) (by simp) (w3_in (by decide) (by decide) (by decide) hvv (hhv.2 _ (at_mem (by decide) (by omega))) (hhv.2 _ (at_mem (by decide) (by omega))))) ?_
 intro H44 m45
 have h46 := m45 _ _ h42
 have h47 := m45 _ _ h43
 have m48 := m40.trans m45
 refine C rfl (Pc («as» := [.agg (eV (wsum ([(WgT.mk 4 (at_ vs v)), (WgT.mk 1 (at_ (at_ hd v) 0)), (WgT.mk 1 (at_ (at_ hd v) 1))] : List WgT))), .int .i64 6]) rfl rfl (rfl) tf_80 (c_of2 (wsum ([(WgT.mk 4 (at_ vs v)), (WgT.mk 1 (at_ (at_ hd v) 0)), (WgT.mk 1 (at_ (at_ hd v) 1))] : List WgT)) 6 (inV_le (wsum_le (w3_in (by decide) (by decide) (by decide) hvv (hhv.2 _ (at_mem (by decide) (by omega))) (hhv.2 _ (at_mem (by decide) (by omega))))) (by simp)) (by decide)) ?_)
 intro H49 m50
 have h51 := m50 _ _ h46
 have h52 := m50 _ _ h47
 have m53 := m48.trans m50
 refine C rfl (Sw rfl rfl ts_42 h52 rfl rfl rfl ?_)
 intro H54 h55 k56
 have m59 := Mono.set m53 z7 k56
 refine rt_ ?_
 refine Rr (Res.list1 rfl (.cell (v := .agg (eV (ofV (wsum ([(WgT.mk 4 (at_ vs v)), (WgT.mk 1 (at_ (at_ hd v) 0)), (WgT.mk 1 (at_ (at_ hd v) 1))] : List WgT)) 6))) rfl ty_42 h55 rfl (.nil))) ?_ m59
 exact (congrArg (fun x : VT => AV.agg (eV x)) (show (ofV (wsum ([(WgT.mk 4 (at_ vs v)), (WgT.mk 1 (at_ (at_ hd v) 0)), (WgT.mk 1 (at_ (at_ hd v) 1))] : List WgT)) 6 : VT) = cornerQ vs fs t hd v from by unfold cornerQ; rw [if_neg b10, if_pos b17]))
 refine cf_ rfl (decide_eq_false b17) ?_
 refine AWP.skip ?_
 refine Sr ?_
 refine C rfl (al_ rfl tz_42 ?_)
 intro i60 H61 n62 h63 k64
 have e65 := ne_new h8 n62
 have e66 := ne_new h4 n62
 have z67 := Mono.free m9 n62
 have h68 := keep k64 (ne_new h8 n62) h8
 have h69 := keep k64 (ne_new h4 n62) h4
 have m70 := Mono.new m9 n62 k64
 refine AWP.seq ?_
 refine Sr ?_
 refine V rfl rfl (C rfl (nc_ (.ptr fid 0 0) rfl rfl rfl ?_))
 refine C rfl (Fa rfl rfl fl_104_1 ?_ (hid := ⟨_, h68⟩))
 refine C rfl (Fa rfl rfl fl_35_1 ?_ (hid := ⟨_, h68⟩))
 refine C rfl (Ld _ rfl rfl ty_23 h68 rfl (V rfl rfl (C rfl (iS_ rfl rfl rfl sl_23 (by omega) (by omega) (L rfl rfl ty_38 (ld1 (by omega) (by omega)) (C rfl (AOp.len (m := (at_ t.fan v).length) rfl rfl (.inr (.inl ⟨_, rfl⟩)) u_38 (V rfl rfl ?_))))))))
 refine bk_ ?_
 refine AWP.loop (fun q71 fq Hq => ∃ (i : Int), q71 = ((((at_ t.fan v).length : Int) : Int) - i).toNat ∧ fq 61 = .int .i64 i ∧ fq 0 = .ptr fid 0 0 ∧ fq 1 = .int .i64 v ∧ fq 4 = .ptr i1 0 0 ∧ fq 6 = .ptr i60 0 0 ∧ fq 59 = .sl (at_ t.fan v).length ((at_ t.fan v).map eI) ∧ fq 60 = .int .i64 (((at_ t.fan v).length) : Int) ∧ Hq fid = some (.row 0 ([.sl vs.length (vs.flatMap eV), .sl fs.length (fs.map eF), .sl cr.length (cr.flatMap eCr), .sl t.ed.length (t.ed.flatMap eE), .sl t.fan.length (t.fan.map eF), .sl t.rnd.length (t.rnd.map eBo), .sl sh.length (sh.map eI), .sl hd.length (hd.map eVs)])) ∧ Hq i1 = some (.row 0 ([.int .i64 0, .int .i64 0, .int .i64 0])) ∧ Hq i60 = some (.row 0 ((eV (sumL (((at_ t.fan v).take i.toNat).map fun q => innerP vs fs t hd q v))))) ∧ Mono H0 Hq ∧ (0 ≤ i) ∧ (i ≤ ((at_ t.fan v).length : Int)) ∧ (inV (65536 * i) (sumL (((at_ t.fan v).take i.toNat).map fun q => innerP vs fs t hd q v)))) (k := ((((at_ t.fan v).length : Int) : Int) - 0).toNat) ?_ ?_
 exact ⟨0, rfl, rfl, rfl, rfl, rfl, rfl, rfl, rfl, h68, h69, (h63.trans (congrArg (fun c => some (AB.row 0 c)) (show ([.int .i64 0, .int .i64 0, .int .i64 0] : List AV) = (eV (sumL (((at_ t.fan v).take (0 : Int).toNat).map fun q => innerP vs fs t hd q v))) from by first | rfl | (rw [sum_stepQ hi0 (by omega)])))), m70, by omega, by omega, by exact z_in (by omega)⟩
 rintro _ f73 H72 ⟨i, rfl, s74, s75, s76, s77, s78, s79, s80, h81, h82, h83, m84, hi0, hi1, hin⟩
 refine Sr ?_
 refine B rfl s74 s80 rfl ?_
 refine AWP.seq ?_
 by_cases b85 : i < (((at_ t.fan v).length) : Int)
 refine ct_ rfl (decide_eq_true b85) ?_
 refine AWP.skip ?_
 refine AWP.seq ?_
 refine bk_ ?_
 refine Sr ?_
 refine C rfl (iS_ rfl s79 s74 sl_38 (by omega) (by omega) (L rfl rfl ty_3 (ld1 (by omega) (by omega)) (A rfl rfl ?_)))
 refine AOps.nil ?_
 change AWP _ _ _ _ _ _
 have hif := S.fin v hv.1 hv.2 _ (at_mem (l := (at_ t.fan v)) hi0 (by omega))
 have hii := S.innerI hv.1 hv.2 hif.1 hif.2.1
 have hij := inV_le (b := 2305843009213693952) hii (by decide)
 have hA10 : inV 2305843009213693952 (sumL (((at_ t.fan v).take i.toNat).map fun q => innerP vs fs t hd q v)) := inV_le hin (by omega)
 refine AWP.region_quiet mixed (by kernel_rfl) 6 [6] rfl (by kernel_rfl) (Mono H72) (Mono.refl _) ?_
 refine Q rfl (fun _ _ φ ψ => Ld _ rfl ((φ 6 rfl).trans s78) ty_42 (ψ _ _ h83) rfl ⟨rfl, ψ⟩) (QV rfl s75 (QV rfl rfl (QV rfl s76 (Q rfl (fun _ _ φ ψ => AOp.pcallH («as» := [.ptr fid 0 0, .int .i64 (at_ (at_ t.fan v) i), .int .i64 v]) rfl rfl (lapp (lcons (φ 66 rfl) (lcons (φ 67 rfl) (lcons (φ 68 rfl) rfl))) rfl) tf_71 (c_inner vs fs cr t sh hd S (at_ (at_ t.fan v) i) v hif hv.1 hv.2 (ψ _ _ h81)) fun H2 m2 => ⟨rfl, ψ.trans m2⟩) (Q rfl (fun _ _ φ ψ => Pc («as» := [.agg (eV (sumL (((at_ t.fan v).take i.toNat).map fun q => innerP vs fs t hd q v))), .agg (eV (innerP vs fs t hd (at_ (at_ t.fan v) i) v))]) rfl rfl (lapp (lcons (φ 65 rfl) (lcons (φ 69 rfl) rfl)) rfl) tf_73 (c_vAdd (sumL (((at_ t.fan v).take i.toNat).map fun q => innerP vs fs t hd q v)) (innerP vs fs t hd (at_ (at_ t.fan v) i) v) (by assumption) (by assumption)) fun H2 m2 => ⟨rfl, ψ.trans m2⟩) ?_)))))
 refine QE.done fun H86 m87 => ?_
 have h88 := m87 _ _ h81
 have h89 := m87 _ _ h82
 have h90 := m87 _ _ h83
 have m91 := m84.trans m87
 refine C rfl (Sw s78 rfl ts_42 h90 rfl rfl rfl ?_)
 intro H92 h93 k94
 have h95 := keep k94 e65 h88
 have h96 := keep k94 e66 h89
 have m98 := Mono.set m91 z67 k94
 refine AWP.region rfl ?_
 refine B rfl s74 rfl (iadd (by omega)) (V rfl rfl ?_)
 refine AOps.nil ?_
 exact ⟨_, by omega, i + 1, rfl, rfl, s75, s76, s77, s78, s79, s80, h95, h96, (h93.trans (congrArg (fun c => some (AB.row 0 c)) (show ((eV (addV (sumL (((at_ t.fan v).take i.toNat).map fun q => innerP vs fs t hd q v)) (innerP vs fs t hd (at_ (at_ t.fan v) i) v))) : List AV) = (eV (sumL (((at_ t.fan v).take (i + 1).toNat).map fun q => innerP vs fs t hd q v))) from by first | rfl | (rw [sum_stepQ hi0 (by omega)])))), m98, by omega, by omega, by exact sum_inQ hi0 (by omega) hin hii⟩
 refine cf_ rfl (decide_eq_false b85) ?_
 refine AWP.exit ?_
 change AWP _ _ _ _ _ _
 refine AWP.seq ?_
 refine AWP.region_quiet mixed (by kernel_rfl) 11 [11] rfl (by kernel_rfl) (Mono H72) (Mono.refl _) ?_
 refine Q rfl (fun _ _ φ ψ => Ld _ rfl ((φ 6 rfl).trans s78) ty_42 (ψ _ _ h83) rfl ⟨rfl, ψ⟩) (QV rfl s75 (Q rfl (fun _ _ φ ψ => nc_ (.ptr fid 0 0) rfl (φ 73 rfl) rfl ⟨rfl, ψ⟩) (Q rfl (fun _ _ φ ψ => Fa rfl (φ 74 rfl) fl_104_1 ⟨rfl, ψ⟩ (hid := ⟨_, (ψ _ _ h81)⟩)) (Q rfl (fun _ _ φ ψ => Fa rfl (φ 75 rfl) fl_35_1 ⟨rfl, ψ⟩ (hid := ⟨_, (ψ _ _ h81)⟩)) (Q rfl (fun _ _ φ ψ => Ld _ rfl (φ 76 rfl) ty_23 (ψ _ _ h81) rfl ⟨rfl, ψ⟩) (QV rfl s76 (Q rfl (fun _ _ φ ψ => iS_ rfl (φ 77 rfl) (φ 78 rfl) sl_23 (by omega) (by omega) ⟨rfl, ψ⟩) (QL rfl rfl ty_38 (ld1 (by omega) (by omega)) (Q rfl (fun _ _ φ ψ => AOp.len (m := (at_ t.fan v).length) rfl (φ 80 rfl) (.inr (.inl ⟨_, rfl⟩)) u_38 ⟨rfl, ψ⟩) (Q rfl (fun _ _ φ ψ => Pc («as» := [.agg (eV (sumL (((at_ t.fan v).take i.toNat).map fun q => innerP vs fs t hd q v))), .int .i64 (((at_ t.fan v).length) : Int)]) rfl rfl (lapp (lcons (φ 72 rfl) (lcons (φ 81 rfl) rfl)) rfl) tf_80 (c_of2 (sumL (((at_ t.fan v).take i.toNat).map fun q => innerP vs fs t hd q v)) (((at_ t.fan v).length) : Int) (inV_le hin (by omega)) (by omega)) fun H2 m2 => ⟨rfl, ψ.trans m2⟩) ?_))))))))))
 refine QE.done fun H99 m100 => ?_
 have h101 := m100 _ _ h81
 have h102 := m100 _ _ h82
 have h103 := m100 _ _ h83
 have m104 := m84.trans m100
 refine C rfl (Sw s77 rfl ts_42 h102 rfl rfl rfl ?_)
 intro H105 h106 k107
 have m111 := Mono.set m104 z7 k107
 refine rt_ ?_
 refine Rr (Res.list1 rfl (.cell (v := .agg (eV (ofV (sumL (((at_ t.fan v).take i.toNat).map fun q => innerP vs fs t hd q v)) (((at_ t.fan v).length) : Int)))) s77 ty_42 h106 rfl (.nil))) ?_ m111
 exact (congrArg (fun x : VT => AV.agg (eV x)) (show (ofV (sumL (((at_ t.fan v).take i.toNat).map fun q => innerP vs fs t hd q v)) (((at_ t.fan v).length) : Int) : VT) = cornerQ vs fs t hd v from by unfold cornerQ; rw [if_neg b10, if_neg b17, take_all (by omega)]))
theorem c_normal {H0 : Heap} {fid : Nat} (vs : List VT) (fs : List (List Int)) (cr : List CrT) (t : Tp) (sh : List Int) (hd : List (List VT)) (S : ShpF vs fs t sh hd) (v : Int) (hv : 0 ≤ v ∧ v < vs.length) (hr : H0 fid = some (.row 0 [.sl vs.length (vs.flatMap eV), .sl fs.length (fs.map eF), .sl cr.length (cr.flatMap eCr), .sl t.ed.length (t.ed.flatMap eE), .sl t.fan.length (t.fan.map eF), .sl t.rnd.length (t.rnd.map eBo), .sl sh.length (sh.map eI), .sl hd.length (hd.map eVs)])) : ACalls Try.prog 72 [.ptr fid 0 0, .int .i64 v] H0 fun r H' => r = (.agg [.int .i64 ((normalQ vs fs t v).X), .int .i64 ((normalQ vs fs t v).Y), .int .i64 ((normalQ vs fs t v).Z)]) ∧ Mono H0 H' := by
 have hvl := S.v1
 have hfl := S.f1
 have hrl := S.rl
 have hhl := S.hl
 have hfan := S.tf.fl
 have hel := S.tf.el
 have hse := S.tf.se
 have hsl := S.sl
 have hfv := S.tf.fan v hv.1 hv.2
 refine ACalls.of_body' (n := 78) rfl rfl rfl rfl ?_
 have m0 := Mono.refl H0
 refine Sr ?_
 refine C rfl (al_ rfl tz_42 ?_)
 intro i1 H2 n3 h4 k5
 have z7 := Mono.free m0 n3
 have h8 := keep k5 (ne_new hr n3) hr
 have m9 := Mono.new m0 n3 k5
 refine Sr ?_
 refine C rfl (al_ rfl tz_42 ?_)
 intro i10 H11 n12 h13 k14
 have e15 := ne_new h8 n12
 have e16 := ne_new h4 n12
 have z17 := Mono.free m9 n12
 have h18 := keep k14 (ne_new h8 n12) h8
 have h19 := keep k14 (ne_new h4 n12) h4
 have m20 := Mono.new m9 n12 k14
 refine AWP.seq ?_
 refine Sr ?_
 refine V rfl rfl (C rfl (nc_ (.ptr fid 0 0) rfl rfl rfl ?_))
 refine C rfl (Fa rfl rfl fl_104_1 ?_ (hid := ⟨_, h18⟩))
 refine C rfl (Fa rfl rfl fl_35_1 ?_ (hid := ⟨_, h18⟩))
 refine C rfl (Ld _ rfl rfl ty_23 h18 rfl (V rfl rfl (C rfl (iS_ rfl rfl rfl sl_23 (by omega) (by omega) (L rfl rfl ty_38 (ld1 (by omega) (by omega)) (C rfl (AOp.len (m := (at_ t.fan v).length) rfl rfl (.inr (.inl ⟨_, rfl⟩)) u_38 (V rfl rfl ?_))))))))
 refine bk_ ?_
 refine AWP.loop (fun q21 fq Hq => ∃ (i : Int), q21 = ((((at_ t.fan v).length : Int) : Int) - i).toNat ∧ fq 18 = .int .i64 i ∧ fq 0 = .ptr fid 0 0 ∧ fq 4 = .ptr i1 0 0 ∧ fq 5 = .ptr i10 0 0 ∧ fq 16 = .sl (at_ t.fan v).length ((at_ t.fan v).map eI) ∧ fq 17 = .int .i64 (((at_ t.fan v).length) : Int) ∧ Hq fid = some (.row 0 ([.sl vs.length (vs.flatMap eV), .sl fs.length (fs.map eF), .sl cr.length (cr.flatMap eCr), .sl t.ed.length (t.ed.flatMap eE), .sl t.fan.length (t.fan.map eF), .sl t.rnd.length (t.rnd.map eBo), .sl sh.length (sh.map eI), .sl hd.length (hd.map eVs)])) ∧ Hq i1 = some (.row 0 ([.int .i64 0, .int .i64 0, .int .i64 0])) ∧ Hq i10 = some (.row 0 ((eV (sumL (((at_ t.fan v).take i.toNat).map fun q => crossF vs (at_ fs q)))))) ∧ Mono H0 Hq ∧ (0 ≤ i) ∧ (i ≤ ((at_ t.fan v).length : Int)) ∧ (inV (34359738368 * i) (sumL (((at_ t.fan v).take i.toNat).map fun q => crossF vs (at_ fs q))))) (k := ((((at_ t.fan v).length : Int) : Int) - 0).toNat) ?_ ?_
 exact ⟨0, rfl, rfl, rfl, rfl, rfl, rfl, rfl, h18, h19, (h13.trans (congrArg (fun c => some (AB.row 0 c)) (show ([.int .i64 0, .int .i64 0, .int .i64 0] : List AV) = (eV (sumL (((at_ t.fan v).take (0 : Int).toNat).map fun q => crossF vs (at_ fs q)))) from by first | rfl | exact congrArg (fun x : VT => [AV.int .i64 x.X, AV.int .i64 x.Y, AV.int .i64 x.Z]) (sum_stepQ (F := fun q => crossF vs (at_ fs q)) hi0 (by omega))))), m20, by omega, by omega, by exact z_in (by omega)⟩
 rintro _ f23 H22 ⟨i, rfl, s24, s25, s26, s27, s28, s29, h30, h31, h32, m33, hi0, hi1, hin⟩
 refine Sr ?_
 refine B rfl s24 s29 rfl ?_
 refine AWP.seq ?_
 by_cases b34 : i < (((at_ t.fan v).length) : Int)
 refine ct_ rfl (decide_eq_true b34) ?_
 refine AWP.skip ?_
 refine AWP.seq ?_
 refine bk_ ?_
 refine Sr ?_
 refine C rfl (iS_ rfl s28 s24 sl_38 (by omega) (by omega) (L rfl rfl ty_3 (ld1 (by omega) (by omega)) (A rfl rfl ?_)))
 refine AWP.seq ?_
 have hif := S.fin v hv.1 hv.2 _ (at_mem (l := (at_ t.fan v)) hi0 (by omega))
 have hif0 := hif.1
 have hif1 := hif.2.1
 have hcr := S.cross hif0 hif1
 have hfq := S.q _ hif0 hif1
 have hx0 := S.r _ (at_mem (l := fs) hif0 hif1) _ (at_mem (l := (at_ fs (at_ (at_ t.fan v) i))) (i := 0) (by decide) (by omega))
 have hy0 := inV_le (b := 2305843009213693952) (S.v _ (at_mem hx0.1 hx0.2)) (by decide)
 have hx1 := S.r _ (at_mem (l := fs) hif0 hif1) _ (at_mem (l := (at_ fs (at_ (at_ t.fan v) i))) (i := 1) (by decide) (by omega))
 have hy1 := inV_le (b := 2305843009213693952) (S.v _ (at_mem hx1.1 hx1.2)) (by decide)
 have hx2 := S.r _ (at_mem (l := fs) hif0 hif1) _ (at_mem (l := (at_ fs (at_ (at_ t.fan v) i))) (i := 2) (by decide) (by omega))
 have hy2 := inV_le (b := 2305843009213693952) (S.v _ (at_mem hx2.1 hx2.2)) (by decide)
 have hx3 := S.r _ (at_mem (l := fs) hif0 hif1) _ (at_mem (l := (at_ fs (at_ (at_ t.fan v) i))) (i := 3) (by decide) (by omega))
 have hy3 := inV_le (b := 2305843009213693952) (S.v _ (at_mem hx3.1 hx3.2)) (by decide)
 have hA6 : inV 2305843009213693952 (sumL (((at_ t.fan v).take i.toNat).map fun q => crossF vs (at_ fs q))) := inV_le hin (by omega)
 have hB6 := inV_le (b := 2305843009213693952) hcr.2 (by decide)
 unfold crossF at hB6
 refine AWP.region rfl ?_
 refine V rfl s25 (C rfl (nc_ (.ptr fid 0 0) rfl rfl rfl ?_))
 refine C rfl (Fa rfl rfl fl_104_0 ?_ (hid := ⟨_, h30⟩))
 refine C rfl (Fa rfl rfl fl_26_1 ?_ (hid := ⟨_, h30⟩))
 refine C rfl (Ld _ rfl rfl ty_23 h30 rfl (V rfl rfl (C rfl (iS_ rfl rfl rfl sl_23 (by omega) (by omega) (L rfl rfl ty_38 (ld1 (by omega) (by omega)) (A rfl rfl ?_))))))
 refine AWP.region_quiet mixed (by kernel_rfl) 45 [45] rfl (by kernel_rfl) (Mono H22) (Mono.refl _) ?_
 refine Q rfl (fun _ _ φ ψ => Ld _ rfl ((φ 5 rfl).trans s27) ty_42 (ψ _ _ h32) rfl ⟨rfl, ψ⟩) (QV rfl s25 (Q rfl (fun _ _ φ ψ => nc_ (.ptr fid 0 0) rfl (φ 31 rfl) rfl ⟨rfl, ψ⟩) (Q rfl (fun _ _ φ ψ => Fa rfl (φ 32 rfl) fl_104_0 ⟨rfl, ψ⟩ (hid := ⟨_, (ψ _ _ h30)⟩)) (Q rfl (fun _ _ φ ψ => Fa rfl (φ 33 rfl) fl_26_0 ⟨rfl, ψ⟩ (hid := ⟨_, (ψ _ _ h30)⟩)) (Q rfl (fun _ _ φ ψ => Ld _ rfl (φ 34 rfl) ty_22 (ψ _ _ h30) rfl ⟨rfl, ψ⟩) (QV rfl rfl (Q rfl (fun _ _ φ ψ => iS_ rfl (φ 36 rfl) rfl sl_38 (by omega) (by omega) ⟨rfl, ψ⟩) (QL rfl rfl ty_3 (ld1 (by omega) (by omega)) (Q rfl (fun _ _ φ ψ => iS_ rfl (φ 35 rfl) (φ 38 rfl) sl_22 (by omega) (by omega) ⟨rfl, ψ⟩) (QL rfl rfl ty_42 (ldM eV_len (by omega) (by omega)) (QV rfl s25 (Q rfl (fun _ _ φ ψ => nc_ (.ptr fid 0 0) rfl (φ 41 rfl) rfl ⟨rfl, ψ⟩) (Q rfl (fun _ _ φ ψ => Fa rfl (φ 42 rfl) fl_104_0 ⟨rfl, ψ⟩ (hid := ⟨_, (ψ _ _ h30)⟩)) ?_)))))))))))))
 refine Q rfl (fun _ _ φ ψ => Fa rfl (φ 43 rfl) fl_26_0 ⟨rfl, ψ⟩ (hid := ⟨_, (ψ _ _ h30)⟩)) (Q rfl (fun _ _ φ ψ => Ld _ rfl (φ 44 rfl) ty_22 (ψ _ _ h30) rfl ⟨rfl, ψ⟩) (QV rfl rfl (Q rfl (fun _ _ φ ψ => iS_ rfl (φ 46 rfl) rfl sl_38 (by omega) (by omega) ⟨rfl, ψ⟩) (QL rfl rfl ty_3 (ld1 (by omega) (by omega)) (Q rfl (fun _ _ φ ψ => iS_ rfl (φ 45 rfl) (φ 48 rfl) sl_22 (by omega) (by omega) ⟨rfl, ψ⟩) (QL rfl rfl ty_42 (ldM eV_len (by omega) (by omega)) (Q rfl (fun _ _ φ ψ => Pc («as» := [.agg (eV (at_ vs (at_ (at_ fs (at_ (at_ t.fan v) i)) 2))), .agg (eV (at_ vs (at_ (at_ fs (at_ (at_ t.fan v) i)) 0)))]) rfl rfl (lapp (lcons (φ 40 rfl) (lcons (φ 50 rfl) rfl)) rfl) tf_84 (c_vSub (at_ vs (at_ (at_ fs (at_ (at_ t.fan v) i)) 2)) (at_ vs (at_ (at_ fs (at_ (at_ t.fan v) i)) 0)) (by assumption) (by assumption)) fun H2 m2 => ⟨rfl, ψ.trans m2⟩) (QV rfl s25 (Q rfl (fun _ _ φ ψ => nc_ (.ptr fid 0 0) rfl (φ 52 rfl) rfl ⟨rfl, ψ⟩) (Q rfl (fun _ _ φ ψ => Fa rfl (φ 53 rfl) fl_104_0 ⟨rfl, ψ⟩ (hid := ⟨_, (ψ _ _ h30)⟩)) (Q rfl (fun _ _ φ ψ => Fa rfl (φ 54 rfl) fl_26_0 ⟨rfl, ψ⟩ (hid := ⟨_, (ψ _ _ h30)⟩)) (Q rfl (fun _ _ φ ψ => Ld _ rfl (φ 55 rfl) ty_22 (ψ _ _ h30) rfl ⟨rfl, ψ⟩) (QV rfl rfl ?_)))))))))))))
 refine Q rfl (fun _ _ φ ψ => iS_ rfl (φ 57 rfl) rfl sl_38 (by omega) (by omega) ⟨rfl, ψ⟩) (QL rfl rfl ty_3 (ld1 (by omega) (by omega)) (Q rfl (fun _ _ φ ψ => iS_ rfl (φ 56 rfl) (φ 59 rfl) sl_22 (by omega) (by omega) ⟨rfl, ψ⟩) (QL rfl rfl ty_42 (ldM eV_len (by omega) (by omega)) (QV rfl s25 (Q rfl (fun _ _ φ ψ => nc_ (.ptr fid 0 0) rfl (φ 62 rfl) rfl ⟨rfl, ψ⟩) (Q rfl (fun _ _ φ ψ => Fa rfl (φ 63 rfl) fl_104_0 ⟨rfl, ψ⟩ (hid := ⟨_, (ψ _ _ h30)⟩)) (Q rfl (fun _ _ φ ψ => Fa rfl (φ 64 rfl) fl_26_0 ⟨rfl, ψ⟩ (hid := ⟨_, (ψ _ _ h30)⟩)) (Q rfl (fun _ _ φ ψ => Ld _ rfl (φ 65 rfl) ty_22 (ψ _ _ h30) rfl ⟨rfl, ψ⟩) (QV rfl rfl (Q rfl (fun _ _ φ ψ => iS_ rfl (φ 67 rfl) rfl sl_38 (by omega) (by omega) ⟨rfl, ψ⟩) (QL rfl rfl ty_3 (ld1 (by omega) (by omega)) (Q rfl (fun _ _ φ ψ => iS_ rfl (φ 66 rfl) (φ 69 rfl) sl_22 (by omega) (by omega) ⟨rfl, ψ⟩) (QL rfl rfl ty_42 (ldM eV_len (by omega) (by omega)) ?_)))))))))))))
 refine Q rfl (fun _ _ φ ψ => Pc («as» := [.agg (eV (at_ vs (at_ (at_ fs (at_ (at_ t.fan v) i)) 3))), .agg (eV (at_ vs (at_ (at_ fs (at_ (at_ t.fan v) i)) 1)))]) rfl rfl (lapp (lcons (φ 61 rfl) (lcons (φ 71 rfl) rfl)) rfl) tf_84 (c_vSub (at_ vs (at_ (at_ fs (at_ (at_ t.fan v) i)) 3)) (at_ vs (at_ (at_ fs (at_ (at_ t.fan v) i)) 1)) (by assumption) (by assumption)) fun H2 m2 => ⟨rfl, ψ.trans m2⟩) (Q rfl (fun _ _ φ ψ => Pc («as» := [.agg (eV (subV (at_ vs (at_ (at_ fs (at_ (at_ t.fan v) i)) 2)) (at_ vs (at_ (at_ fs (at_ (at_ t.fan v) i)) 0)))), .agg (eV (subV (at_ vs (at_ (at_ fs (at_ (at_ t.fan v) i)) 3)) (at_ vs (at_ (at_ fs (at_ (at_ t.fan v) i)) 1))))]) rfl rfl (lapp (lcons (φ 51 rfl) (lcons (φ 72 rfl) rfl)) rfl) tf_83 (c_vCross (subV (at_ vs (at_ (at_ fs (at_ (at_ t.fan v) i)) 2)) (at_ vs (at_ (at_ fs (at_ (at_ t.fan v) i)) 0))) (subV (at_ vs (at_ (at_ fs (at_ (at_ t.fan v) i)) 3)) (at_ vs (at_ (at_ fs (at_ (at_ t.fan v) i)) 1))) hcr.1.1 hcr.1.2) fun H2 m2 => ⟨rfl, ψ.trans m2⟩) (Q rfl (fun _ _ φ ψ => Pc («as» := [.agg (eV (sumL (((at_ t.fan v).take i.toNat).map fun q => crossF vs (at_ fs q)))), .agg (eV (crossV (subV (at_ vs (at_ (at_ fs (at_ (at_ t.fan v) i)) 2)) (at_ vs (at_ (at_ fs (at_ (at_ t.fan v) i)) 0))) (subV (at_ vs (at_ (at_ fs (at_ (at_ t.fan v) i)) 3)) (at_ vs (at_ (at_ fs (at_ (at_ t.fan v) i)) 1)))))]) rfl rfl (lapp (lcons (φ 30 rfl) (lcons (φ 73 rfl) rfl)) rfl) tf_73 (c_vAdd (sumL (((at_ t.fan v).take i.toNat).map fun q => crossF vs (at_ fs q))) (crossV (subV (at_ vs (at_ (at_ fs (at_ (at_ t.fan v) i)) 2)) (at_ vs (at_ (at_ fs (at_ (at_ t.fan v) i)) 0))) (subV (at_ vs (at_ (at_ fs (at_ (at_ t.fan v) i)) 3)) (at_ vs (at_ (at_ fs (at_ (at_ t.fan v) i)) 1)))) (by assumption) (by assumption)) fun H2 m2 => ⟨rfl, ψ.trans m2⟩) ?_))
 refine QE.done fun H35 m36 => ?_
 have h37 := m36 _ _ h30
 have h38 := m36 _ _ h31
 have h39 := m36 _ _ h32
 have m40 := m33.trans m36
 refine C rfl (Sw s27 rfl ts_42 h39 rfl rfl rfl ?_)
 intro H41 h42 k43
 have h44 := keep k43 e15 h37
 have h45 := keep k43 e16 h38
 have m47 := Mono.set m40 z17 k43
 refine AWP.region rfl ?_
 refine B rfl s24 rfl (iadd (by omega)) (V rfl rfl ?_)
 refine AOps.nil ?_
 exact ⟨_, by omega, i + 1, rfl, rfl, s25, s26, s27, s28, s29, h44, h45, (h42.trans (congrArg (fun c => some (AB.row 0 c)) (show ((eV (addV (sumL (((at_ t.fan v).take i.toNat).map fun q => crossF vs (at_ fs q))) (crossV (subV (at_ vs (at_ (at_ fs (at_ (at_ t.fan v) i)) 2)) (at_ vs (at_ (at_ fs (at_ (at_ t.fan v) i)) 0))) (subV (at_ vs (at_ (at_ fs (at_ (at_ t.fan v) i)) 3)) (at_ vs (at_ (at_ fs (at_ (at_ t.fan v) i)) 1)))))) : List AV) = (eV (sumL (((at_ t.fan v).take (i + 1).toNat).map fun q => crossF vs (at_ fs q)))) from by first | rfl | exact congrArg (fun x : VT => [AV.int .i64 x.X, AV.int .i64 x.Y, AV.int .i64 x.Z]) (sum_stepQ (F := fun q => crossF vs (at_ fs q)) hi0 (by omega))))), m47, by omega, by omega, by exact sum_inQ (F := fun q => crossF vs (at_ fs q)) hi0 (by omega) hin hcr.2⟩
 refine cf_ rfl (decide_eq_false b34) ?_
 refine AWP.exit ?_
 change AWP _ _ _ _ _ _
 refine Sr ?_
 refine C rfl (Ld _ rfl s27 ty_42 h32 rfl (C rfl (Pc («as» := [.agg (eV (sumL (((at_ t.fan v).take i.toNat).map fun q => crossF vs (at_ fs q)))), .int .i64 1023]) rfl rfl (rfl) tf_85 (c_vCut (sumL (((at_ t.fan v).take i.toNat).map fun q => crossF vs (at_ fs q))) 1023 (by omega) (inV_le hin (by omega))) ?_)))
 intro H48 m49
 have h50 := m49 _ _ h30
 have h51 := m49 _ _ h31
 have h52 := m49 _ _ h32
 have m53 := m33.trans m49
 refine C rfl (Sw s26 rfl ts_42 h51 rfl rfl rfl ?_)
 intro H54 h55 k56
 have m60 := Mono.set m53 z7 k56
 refine rt_ ?_
 refine Rr (Res.list1 rfl (.cell (v := .agg (eV (cutF 1023 62 (sumL (((at_ t.fan v).take i.toNat).map fun q => crossF vs (at_ fs q)))))) s26 ty_42 h55 rfl (.nil))) ?_ m60
 exact (congrArg (fun x : VT => AV.agg (eV x)) (show (cutF 1023 62 (sumL (((at_ t.fan v).take i.toNat).map fun q => crossF vs (at_ fs q))) : VT) = normalQ vs fs t v from by unfold normalQ; rw [take_all (by omega)]))
end Go.Proofs.U
namespace Go.Proofs.U
open Go Go.AH Go.Proofs.T
set_option maxRecDepth 4000
abbrev v3 (p : VT) (l : List AV) : List AV := .int .i64 p.X :: .int .i64 p.Y :: .int .i64 p.Z :: l
abbrev z3 (l : List AV) : List AV := .int .i64 0 :: .int .i64 0 :: .int .i64 0 :: l
def patchQ (vs : List VT) (fs : List (List Int)) (t : Tp) (sh : List Int) (hd : List (List VT)) (f skin : Int) : PatchT :=
  PatchT.mk [cornerQ vs fs t hd (at_ (at_ fs f) 0), edgeQ vs fs t sh hd (at_ (at_ fs f) 0) (at_ (at_ fs f) 1), edgeQ vs fs t sh hd (at_ (at_ fs f) 1) (at_ (at_ fs f) 0), cornerQ vs fs t hd (at_ (at_ fs f) 1),
    edgeQ vs fs t sh hd (at_ (at_ fs f) 0) (at_ (at_ fs f) 3), innerP vs fs t hd f (at_ (at_ fs f) 0), innerP vs fs t hd f (at_ (at_ fs f) 1), edgeQ vs fs t sh hd (at_ (at_ fs f) 1) (at_ (at_ fs f) 2),
    edgeQ vs fs t sh hd (at_ (at_ fs f) 3) (at_ (at_ fs f) 0), innerP vs fs t hd f (at_ (at_ fs f) 3), innerP vs fs t hd f (at_ (at_ fs f) 2), edgeQ vs fs t sh hd (at_ (at_ fs f) 2) (at_ (at_ fs f) 1),
    cornerQ vs fs t hd (at_ (at_ fs f) 3), edgeQ vs fs t sh hd (at_ (at_ fs f) 3) (at_ (at_ fs f) 2), edgeQ vs fs t sh hd (at_ (at_ fs f) 2) (at_ (at_ fs f) 3), cornerQ vs fs t hd (at_ (at_ fs f) 2)]
    [at_ (at_ fs f) 0, at_ (at_ fs f) 1, at_ (at_ fs f) 2, at_ (at_ fs f) 3] [normalQ vs fs t (at_ (at_ fs f) 0), normalQ vs fs t (at_ (at_ fs f) 1), normalQ vs fs t (at_ (at_ fs f) 2), normalQ vs fs t (at_ (at_ fs f) 3)] skin
theorem ld4 {xs : List Int} (h : xs.length = 4) : loadv true 4 0 (xs.map eI) = some (.agg [.int .i64 (at_ xs 0), .int .i64 (at_ xs 1), .int .i64 (at_ xs 2), .int .i64 (at_ xs 3)]) := by
  match xs, h with
  | [a, b, c, d], _ => rfl
theorem re_val {g : Nat} {as_ : List AV} {H : Heap} {v w : AV} (e : w = v) (h : ACalls Try.prog g as_ H fun r H' => r = v ∧ Mono H H') : ACalls Try.prog g as_ H fun r H' => r = w ∧ Mono H H' := e ▸ h
section
variable {vs : List VT} {fs : List (List Int)} {t : Tp} {sh : List Int} {hd : List (List VT)} (S : ShpF vs fs t sh hd)
include S
theorem ShpF.side {f i j : Int} (f0 : 0 ≤ f) (f1 : f < fs.length) (i0 : 0 ≤ i) (i1 : i < 4) (hj : j = (i + 1) % 4) : 0 ≤ alongS fs (AH.at_ (AH.at_ fs f) i) (AH.at_ (AH.at_ fs f) j) := by
  have h2 := S.q f f0 f1
  have hw : (AH.at_ (AH.at_ fs f) i, AH.at_ (AH.at_ fs f) j) ∈ wayF (AH.at_ fs f) := mem_wayF.2 ⟨i, i0, by omega, rfl, by rw [h2, hj]; rfl⟩
  rw [along_good S.g f0 f1 hw]; exact f0
theorem ShpF.cin {f i : Int} (f0 : 0 ≤ f) (f1 : f < fs.length) (i0 : 0 ≤ i) (i1 : i < 4) : InF fs (AH.at_ (AH.at_ fs f) i) f ∧ 0 ≤ AH.at_ (AH.at_ fs f) i ∧ AH.at_ (AH.at_ fs f) i < vs.length := by
  have h2 := S.q f f0 f1
  have hm := at_mem (l := AH.at_ fs f) i0 (by omega)
  exact ⟨⟨f0, f1, hm⟩, S.r _ (at_mem f0 f1) _ hm⟩
end
end Go.Proofs.U
namespace Go.Proofs.U
open Go Go.AH Go.Proofs.T
set_option maxRecDepth 4000
set_option linter.unusedSimpArgs false
set_option linter.unusedVariables false
set_option maxHeartbeats 800000
theorem c_patch {H0 : Heap} {fid : Nat} (vs : List VT) (fs : List (List Int)) (cr : List CrT) (t : Tp) (sh : List Int) (hd : List (List VT)) (S : ShpF vs fs t sh hd) (f skin : Int) (hf0 : 0 ≤ f) (hf1 : f < fs.length) (hr : H0 fid = some (.row 0 [.sl vs.length (vs.flatMap eV), .sl fs.length (fs.map eF), .sl cr.length (cr.flatMap eCr), .sl t.ed.length (t.ed.flatMap eE), .sl t.fan.length (t.fan.map eF), .sl t.rnd.length (t.rnd.map eBo), .sl sh.length (sh.map eI), .sl hd.length (hd.map eVs)])) : ACalls Try.prog 52 [.ptr fid 0 0, .int .i64 f, .int .i64 skin] H0 fun r H' => r = (.agg (((patchQ vs fs t sh hd f skin).aP).flatMap eV ++ (((patchQ vs fs t sh hd f skin).aCorners).map eI ++ (((patchQ vs fs t sh hd f skin).aNormals).flatMap eV ++ [.int .i64 ((patchQ vs fs t sh hd f skin).Skin)])))) ∧ Mono H0 H' := by
 have hvl := S.v1
 have hfl := S.f1
 have hrl := S.rl
 have hhl := S.hl
 have hfan := S.tf.fl
 have hel := S.tf.el
 have hse := S.tf.se
 have hsl := S.sl
 have hq := S.q f hf0 hf1
 have hc0 := S.cin (i := 0) hf0 hf1 (by decide) (by decide)
 have hc1 := S.cin (i := 1) hf0 hf1 (by decide) (by decide)
 have hc2 := S.cin (i := 2) hf0 hf1 (by decide) (by decide)
 have hc3 := S.cin (i := 3) hf0 hf1 (by decide) (by decide)
 have sd0 := S.side (i := 0) (j := 1) hf0 hf1 (by decide) (by decide) (by decide)
 have sd1 := S.side (i := 1) (j := 2) hf0 hf1 (by decide) (by decide) (by decide)
 have sd2 := S.side (i := 2) (j := 3) hf0 hf1 (by decide) (by decide) (by decide)
 have sd3 := S.side (i := 3) (j := 0) hf0 hf1 (by decide) (by decide) (by decide)
 refine ACalls.of_body' (n := 123) rfl rfl rfl rfl ?_
 have m0 := Mono.refl H0
 refine AWP.seq (AWP.region rfl ?_)
 refine AOps.cons rfl rfl (AOp.alloc rfl tz_70 ?_)
 intro i1 H2 n3 h4 k5
 have z7 := Mono.free m0 n3
 have h8 := keep k5 (ne_new hr n3) hr
 have m9 := Mono.new m0 n3 k5
 refine AWP.seq (AWP.region rfl ?_)
 refine AOps.cons rfl rfl (AOp.move (.ptr fid 0 0) rfl rfl (AOps.cons rfl rfl (AOp.nilCheck (.ptr fid 0 0) rfl rfl rfl ?_)))
 refine AOps.cons rfl rfl (AOp.fieldAddr rfl rfl fl_104_0 ?_ (hid := ⟨_, h8⟩))
 refine AOps.cons rfl rfl (AOp.fieldAddr rfl rfl fl_26_1 ?_ (hid := ⟨_, h8⟩))
 refine AOps.cons rfl rfl (AOp.load (.sl fs.length (fs.map eF)) rfl rfl ty_23 h8 rfl (AOps.cons rfl rfl (AOp.move (.int .i64 f) rfl rfl (AOps.cons rfl rfl (AOp.indexAddrS rfl rfl rfl sl_23 (by omega) (by omega) (AOps.cons rfl rfl (AOp.loadF (.sl (at_ fs f).length ((at_ fs f).map eI)) rfl rfl ty_38 (ld1 (by omega) (by omega)) (AOps.cons rfl rfl (AOp.arrPtrS rfl rfl u_67 (by decide) (by omega) (AOps.cons rfl rfl (AOp.loadF (.agg [.int .i64 (at_ (at_ fs f) 0), .int .i64 (at_ (at_ fs f) 1), .int .i64 (at_ (at_ fs f) 2), .int .i64 (at_ (at_ fs f) 3)]) rfl rfl ty_67 (ld4 hq) ?_)))))))))))
 refine AOps.cons rfl rfl (AOp.alloc rfl tz_67 ?_)
 intro i10 H11 n12 h13 k14
 have e15 := ne_new h8 n12
 have e16 := ne_new h4 n12
 have z17 := Mono.free m9 n12
 have h18 := keep k14 (ne_new h8 n12) h8
 have h19 := keep k14 (ne_new h4 n12) h4
 have m20 := Mono.new m9 n12 k14
 refine AOps.cons rfl rfl (AOp.store' (cells' := [.int .i64 (at_ (at_ fs f) 0), .int .i64 (at_ (at_ fs f) 1), .int .i64 (at_ (at_ fs f) 2), .int .i64 (at_ (at_ fs f) 3)]) (.agg [.int .i64 (at_ (at_ fs f) 0), .int .i64 (at_ (at_ fs f) 1), .int .i64 (at_ (at_ fs f) 2), .int .i64 (at_ (at_ fs f) 3)]) rfl rfl ts_67 h13 rfl rfl rfl rfl ?_)
 intro H21 h22 k23
 have h24 := keep k23 e15 h18
 have h25 := keep k23 e16 h19
 have m27 := Mono.set m20 z17 k23
 refine AWP.seq ?_
 refine AWP.frzP 7 h22 z17 rfl m27 fun H28 m29 k30 => ?_
 have h31 := (k30 _ e15).trans h24
 have h32 := (k30 _ e16).trans h25
 refine AWP.region rfl ?_
 refine AOps.cons rfl rfl (AOp.loadF (.agg [.int .i64 (at_ (at_ fs f) 0), .int .i64 (at_ (at_ fs f) 1), .int .i64 (at_ (at_ fs f) 2), .int .i64 (at_ (at_ fs f) 3)]) rfl rfl ty_67 rfl (AOps.cons rfl rfl (AOp.move (.int .i64 skin) rfl rfl (AOps.cons rfl rfl (AOp.build (cells := (z3 (z3 (z3 (z3 (z3 (z3 (z3 (z3 (z3 (z3 (z3 (z3 (z3 (z3 (z3 (z3 ([.int .i64 (at_ (at_ fs f) 0), .int .i64 (at_ (at_ fs f) 1), .int .i64 (at_ (at_ fs f) 2), .int .i64 (at_ (at_ fs f) 3), .int .i64 0, .int .i64 0, .int .i64 0, .int .i64 0, .int .i64 0, .int .i64 0, .int .i64 0, .int .i64 0, .int .i64 0, .int .i64 0, .int .i64 0, .int .i64 0, .int .i64 skin])))))))))))))))))) rfl tz_70 pl_70 rfl rfl (AOps.cons rfl rfl (AOp.alloc rfl tz_70 ?_)))))))
 intro i33 H34 n35 h36 k37
 have e38 := ne_new h31 n35
 have e39 := ne_new h32 n35
 have z40 := Mono.free m29 n35
 have h41 := keep k37 (ne_new h31 n35) h31
 have h42 := keep k37 (ne_new h32 n35) h32
 have m43 := Mono.new m29 n35 k37
 refine AOps.cons rfl rfl (AOp.store' (cells' := (z3 (z3 (z3 (z3 (z3 (z3 (z3 (z3 (z3 (z3 (z3 (z3 (z3 (z3 (z3 (z3 ([.int .i64 (at_ (at_ fs f) 0), .int .i64 (at_ (at_ fs f) 1), .int .i64 (at_ (at_ fs f) 2), .int .i64 (at_ (at_ fs f) 3), .int .i64 0, .int .i64 0, .int .i64 0, .int .i64 0, .int .i64 0, .int .i64 0, .int .i64 0, .int .i64 0, .int .i64 0, .int .i64 0, .int .i64 0, .int .i64 0, .int .i64 skin])))))))))))))))))) (.agg (z3 (z3 (z3 (z3 (z3 (z3 (z3 (z3 (z3 (z3 (z3 (z3 (z3 (z3 (z3 (z3 ([.int .i64 (at_ (at_ fs f) 0), .int .i64 (at_ (at_ fs f) 1), .int .i64 (at_ (at_ fs f) 2), .int .i64 (at_ (at_ fs f) 3), .int .i64 0, .int .i64 0, .int .i64 0, .int .i64 0, .int .i64 0, .int .i64 0, .int .i64 0, .int .i64 0, .int .i64 0, .int .i64 0, .int .i64 0, .int .i64 0, .int .i64 skin])))))))))))))))))) rfl rfl ts_70 h36 rfl rfl rfl rfl ?_)
 intro H44 h45 k46
 have h47 := keep k46 e38 h41
 have h48 := keep k46 e39 h42
 have m50 := Mono.set m43 z40 k46
 refine AWP.seq ?_
 refine AWP.region_quiet mixed (by kernel_rfl) 86 [86] rfl (by kernel_rfl) (Mono H44) (Mono.refl _) ?_
 refine QE.op rfl rfl (.inl ⟨rfl, fun f' H' hf hM => AOp.move (.ptr fid 0 0) rfl ((hf 0 rfl).trans rfl) ⟨rfl, hM⟩⟩) ?_
 refine QE.op rfl rfl (.inl ⟨rfl, fun f' H' hf hM => AOp.indexAddrFA rfl ((hf 7 rfl).trans rfl) rfl ar_67 (by omega) (by omega) ⟨rfl, hM⟩⟩) ?_
 refine QE.op rfl rfl (.inl ⟨rfl, fun f' H' hf hM => AOp.loadF (.int .i64 (at_ (at_ fs f) 0)) rfl ((hf 25 rfl).trans rfl) ty_3 rfl ⟨rfl, hM⟩⟩) ?_
 obtain ⟨p51, e52⟩ : ∃ p : VT, p = (cornerQ vs fs t hd (at_ (at_ fs f) 0)) := ⟨_, rfl⟩
 refine QE.op rfl rfl (.inl ⟨rfl, fun f' H' hf hM => AOp.pcallH («as» := [.ptr fid 0 0, .int .i64 (at_ (at_ fs f) 0)]) rfl rfl (lapp (lcons ((hf 24 rfl).trans rfl) (lcons ((hf 26 rfl).trans rfl) rfl)) rfl) tf_69 (re_val (w := .agg [.int .i64 p51.X, .int .i64 p51.Y, .int .i64 p51.Z]) (by rw [e52]) (c_corner vs fs cr t sh hd S (at_ (at_ fs f) 0) hc0.2 (hM _ _ h47))) fun H2 m2 => ⟨rfl, hM.trans m2⟩⟩) ?_
 refine QE.op rfl rfl (.inl ⟨rfl, fun f' H' hf hM => AOp.move (.ptr fid 0 0) rfl ((hf 0 rfl).trans rfl) ⟨rfl, hM⟩⟩) ?_
 refine QE.op rfl rfl (.inl ⟨rfl, fun f' H' hf hM => AOp.indexAddrFA rfl ((hf 7 rfl).trans rfl) rfl ar_67 (by omega) (by omega) ⟨rfl, hM⟩⟩) ?_
 refine QE.op rfl rfl (.inl ⟨rfl, fun f' H' hf hM => AOp.loadF (.int .i64 (at_ (at_ fs f) 0)) rfl ((hf 29 rfl).trans rfl) ty_3 rfl ⟨rfl, hM⟩⟩) ?_
 refine QE.op rfl rfl (.inl ⟨rfl, fun f' H' hf hM => AOp.indexAddrFA rfl ((hf 7 rfl).trans rfl) rfl ar_67 (by omega) (by omega) ⟨rfl, hM⟩⟩) ?_
 refine QE.op rfl rfl (.inl ⟨rfl, fun f' H' hf hM => AOp.loadF (.int .i64 (at_ (at_ fs f) 1)) rfl ((hf 31 rfl).trans rfl) ty_3 rfl ⟨rfl, hM⟩⟩) ?_
 obtain ⟨p53, e54⟩ : ∃ p : VT, p = (edgeQ vs fs t sh hd (at_ (at_ fs f) 0) (at_ (at_ fs f) 1)) := ⟨_, rfl⟩
 refine QE.op rfl rfl (.inl ⟨rfl, fun f' H' hf hM => AOp.pcallH («as» := [.ptr fid 0 0, .int .i64 (at_ (at_ fs f) 0), .int .i64 (at_ (at_ fs f) 1)]) rfl rfl (lapp (lcons ((hf 28 rfl).trans rfl) (lcons ((hf 30 rfl).trans rfl) (lcons ((hf 32 rfl).trans rfl) rfl))) rfl) tf_70 (re_val (w := .agg [.int .i64 p53.X, .int .i64 p53.Y, .int .i64 p53.Z]) (by rw [e54]) (c_pedge vs fs cr t sh hd S (at_ (at_ fs f) 0) (at_ (at_ fs f) 1) (.inl sd0) hc0.2 hc1.2 (hM _ _ h47))) fun H2 m2 => ⟨rfl, hM.trans m2⟩⟩) ?_
 refine QE.op rfl rfl (.inl ⟨rfl, fun f' H' hf hM => AOp.move (.ptr fid 0 0) rfl ((hf 0 rfl).trans rfl) ⟨rfl, hM⟩⟩) ?_
 refine QE.op rfl rfl (.inl ⟨rfl, fun f' H' hf hM => AOp.indexAddrFA rfl ((hf 7 rfl).trans rfl) rfl ar_67 (by omega) (by omega) ⟨rfl, hM⟩⟩) ?_
 refine QE.op rfl rfl (.inl ⟨rfl, fun f' H' hf hM => AOp.loadF (.int .i64 (at_ (at_ fs f) 1)) rfl ((hf 35 rfl).trans rfl) ty_3 rfl ⟨rfl, hM⟩⟩) ?_
 refine QE.op rfl rfl (.inl ⟨rfl, fun f' H' hf hM => AOp.indexAddrFA rfl ((hf 7 rfl).trans rfl) rfl ar_67 (by omega) (by omega) ⟨rfl, hM⟩⟩) ?_
 refine QE.op rfl rfl (.inl ⟨rfl, fun f' H' hf hM => AOp.loadF (.int .i64 (at_ (at_ fs f) 0)) rfl ((hf 37 rfl).trans rfl) ty_3 rfl ⟨rfl, hM⟩⟩) ?_
 obtain ⟨p55, e56⟩ : ∃ p : VT, p = (edgeQ vs fs t sh hd (at_ (at_ fs f) 1) (at_ (at_ fs f) 0)) := ⟨_, rfl⟩
 refine QE.op rfl rfl (.inl ⟨rfl, fun f' H' hf hM => AOp.pcallH («as» := [.ptr fid 0 0, .int .i64 (at_ (at_ fs f) 1), .int .i64 (at_ (at_ fs f) 0)]) rfl rfl (lapp (lcons ((hf 34 rfl).trans rfl) (lcons ((hf 36 rfl).trans rfl) (lcons ((hf 38 rfl).trans rfl) rfl))) rfl) tf_70 (re_val (w := .agg [.int .i64 p55.X, .int .i64 p55.Y, .int .i64 p55.Z]) (by rw [e56]) (c_pedge vs fs cr t sh hd S (at_ (at_ fs f) 1) (at_ (at_ fs f) 0) (.inr sd0) hc1.2 hc0.2 (hM _ _ h47))) fun H2 m2 => ⟨rfl, hM.trans m2⟩⟩) ?_
 refine QE.op rfl rfl (.inl ⟨rfl, fun f' H' hf hM => AOp.move (.ptr fid 0 0) rfl ((hf 0 rfl).trans rfl) ⟨rfl, hM⟩⟩) ?_
 refine QE.op rfl rfl (.inl ⟨rfl, fun f' H' hf hM => AOp.indexAddrFA rfl ((hf 7 rfl).trans rfl) rfl ar_67 (by omega) (by omega) ⟨rfl, hM⟩⟩) ?_
 refine QE.op rfl rfl (.inl ⟨rfl, fun f' H' hf hM => AOp.loadF (.int .i64 (at_ (at_ fs f) 1)) rfl ((hf 41 rfl).trans rfl) ty_3 rfl ⟨rfl, hM⟩⟩) ?_
 obtain ⟨p57, e58⟩ : ∃ p : VT, p = (cornerQ vs fs t hd (at_ (at_ fs f) 1)) := ⟨_, rfl⟩
 refine QE.op rfl rfl (.inl ⟨rfl, fun f' H' hf hM => AOp.pcallH («as» := [.ptr fid 0 0, .int .i64 (at_ (at_ fs f) 1)]) rfl rfl (lapp (lcons ((hf 40 rfl).trans rfl) (lcons ((hf 42 rfl).trans rfl) rfl)) rfl) tf_69 (re_val (w := .agg [.int .i64 p57.X, .int .i64 p57.Y, .int .i64 p57.Z]) (by rw [e58]) (c_corner vs fs cr t sh hd S (at_ (at_ fs f) 1) hc1.2 (hM _ _ h47))) fun H2 m2 => ⟨rfl, hM.trans m2⟩⟩) ?_
 refine QE.op rfl rfl (.inl ⟨rfl, fun f' H' hf hM => AOp.move (.ptr fid 0 0) rfl ((hf 0 rfl).trans rfl) ⟨rfl, hM⟩⟩) ?_
 refine QE.op rfl rfl (.inl ⟨rfl, fun f' H' hf hM => AOp.indexAddrFA rfl ((hf 7 rfl).trans rfl) rfl ar_67 (by omega) (by omega) ⟨rfl, hM⟩⟩) ?_
 refine QE.op rfl rfl (.inl ⟨rfl, fun f' H' hf hM => AOp.loadF (.int .i64 (at_ (at_ fs f) 0)) rfl ((hf 45 rfl).trans rfl) ty_3 rfl ⟨rfl, hM⟩⟩) ?_
 refine QE.op rfl rfl (.inl ⟨rfl, fun f' H' hf hM => AOp.indexAddrFA rfl ((hf 7 rfl).trans rfl) rfl ar_67 (by omega) (by omega) ⟨rfl, hM⟩⟩) ?_
 refine QE.op rfl rfl (.inl ⟨rfl, fun f' H' hf hM => AOp.loadF (.int .i64 (at_ (at_ fs f) 3)) rfl ((hf 47 rfl).trans rfl) ty_3 rfl ⟨rfl, hM⟩⟩) ?_
 obtain ⟨p59, e60⟩ : ∃ p : VT, p = (edgeQ vs fs t sh hd (at_ (at_ fs f) 0) (at_ (at_ fs f) 3)) := ⟨_, rfl⟩
 refine QE.op rfl rfl (.inl ⟨rfl, fun f' H' hf hM => AOp.pcallH («as» := [.ptr fid 0 0, .int .i64 (at_ (at_ fs f) 0), .int .i64 (at_ (at_ fs f) 3)]) rfl rfl (lapp (lcons ((hf 44 rfl).trans rfl) (lcons ((hf 46 rfl).trans rfl) (lcons ((hf 48 rfl).trans rfl) rfl))) rfl) tf_70 (re_val (w := .agg [.int .i64 p59.X, .int .i64 p59.Y, .int .i64 p59.Z]) (by rw [e60]) (c_pedge vs fs cr t sh hd S (at_ (at_ fs f) 0) (at_ (at_ fs f) 3) (.inr sd3) hc0.2 hc3.2 (hM _ _ h47))) fun H2 m2 => ⟨rfl, hM.trans m2⟩⟩) ?_
 refine QE.op rfl rfl (.inl ⟨rfl, fun f' H' hf hM => AOp.move (.ptr fid 0 0) rfl ((hf 0 rfl).trans rfl) ⟨rfl, hM⟩⟩) ?_
 refine QE.op rfl rfl (.inl ⟨rfl, fun f' H' hf hM => AOp.move (.int .i64 f) rfl ((hf 1 rfl).trans rfl) ⟨rfl, hM⟩⟩) ?_
 refine QE.op rfl rfl (.inl ⟨rfl, fun f' H' hf hM => AOp.indexAddrFA rfl ((hf 7 rfl).trans rfl) rfl ar_67 (by omega) (by omega) ⟨rfl, hM⟩⟩) ?_
 refine QE.op rfl rfl (.inl ⟨rfl, fun f' H' hf hM => AOp.loadF (.int .i64 (at_ (at_ fs f) 0)) rfl ((hf 52 rfl).trans rfl) ty_3 rfl ⟨rfl, hM⟩⟩) ?_
 obtain ⟨p61, e62⟩ : ∃ p : VT, p = (innerP vs fs t hd f (at_ (at_ fs f) 0)) := ⟨_, rfl⟩
 refine QE.op rfl rfl (.inl ⟨rfl, fun f' H' hf hM => AOp.pcallH («as» := [.ptr fid 0 0, .int .i64 f, .int .i64 (at_ (at_ fs f) 0)]) rfl rfl (lapp (lcons ((hf 50 rfl).trans rfl) (lcons ((hf 51 rfl).trans rfl) (lcons ((hf 53 rfl).trans rfl) rfl))) rfl) tf_71 (re_val (w := .agg [.int .i64 p61.X, .int .i64 p61.Y, .int .i64 p61.Z]) (by rw [e62]) (c_inner vs fs cr t sh hd S f (at_ (at_ fs f) 0) hc0.1 hc0.2.1 hc0.2.2 (hM _ _ h47))) fun H2 m2 => ⟨rfl, hM.trans m2⟩⟩) ?_
 refine QE.op rfl rfl (.inl ⟨rfl, fun f' H' hf hM => AOp.move (.ptr fid 0 0) rfl ((hf 0 rfl).trans rfl) ⟨rfl, hM⟩⟩) ?_
 refine QE.op rfl rfl (.inl ⟨rfl, fun f' H' hf hM => AOp.move (.int .i64 f) rfl ((hf 1 rfl).trans rfl) ⟨rfl, hM⟩⟩) ?_
 refine QE.op rfl rfl (.inl ⟨rfl, fun f' H' hf hM => AOp.indexAddrFA rfl ((hf 7 rfl).trans rfl) rfl ar_67 (by omega) (by omega) ⟨rfl, hM⟩⟩) ?_
 refine QE.op rfl rfl (.inl ⟨rfl, fun f' H' hf hM => AOp.loadF (.int .i64 (at_ (at_ fs f) 1)) rfl ((hf 57 rfl).trans rfl) ty_3 rfl ⟨rfl, hM⟩⟩) ?_
 obtain ⟨p63, e64⟩ : ∃ p : VT, p = (innerP vs fs t hd f (at_ (at_ fs f) 1)) := ⟨_, rfl⟩
 refine QE.op rfl rfl (.inl ⟨rfl, fun f' H' hf hM => AOp.pcallH («as» := [.ptr fid 0 0, .int .i64 f, .int .i64 (at_ (at_ fs f) 1)]) rfl rfl (lapp (lcons ((hf 55 rfl).trans rfl) (lcons ((hf 56 rfl).trans rfl) (lcons ((hf 58 rfl).trans rfl) rfl))) rfl) tf_71 (re_val (w := .agg [.int .i64 p63.X, .int .i64 p63.Y, .int .i64 p63.Z]) (by rw [e64]) (c_inner vs fs cr t sh hd S f (at_ (at_ fs f) 1) hc1.1 hc1.2.1 hc1.2.2 (hM _ _ h47))) fun H2 m2 => ⟨rfl, hM.trans m2⟩⟩) ?_
 refine QE.op rfl rfl (.inl ⟨rfl, fun f' H' hf hM => AOp.move (.ptr fid 0 0) rfl ((hf 0 rfl).trans rfl) ⟨rfl, hM⟩⟩) ?_
 refine QE.op rfl rfl (.inl ⟨rfl, fun f' H' hf hM => AOp.indexAddrFA rfl ((hf 7 rfl).trans rfl) rfl ar_67 (by omega) (by omega) ⟨rfl, hM⟩⟩) ?_
 refine QE.op rfl rfl (.inl ⟨rfl, fun f' H' hf hM => AOp.loadF (.int .i64 (at_ (at_ fs f) 1)) rfl ((hf 61 rfl).trans rfl) ty_3 rfl ⟨rfl, hM⟩⟩) ?_
 refine QE.op rfl rfl (.inl ⟨rfl, fun f' H' hf hM => AOp.indexAddrFA rfl ((hf 7 rfl).trans rfl) rfl ar_67 (by omega) (by omega) ⟨rfl, hM⟩⟩) ?_
 refine QE.op rfl rfl (.inl ⟨rfl, fun f' H' hf hM => AOp.loadF (.int .i64 (at_ (at_ fs f) 2)) rfl ((hf 63 rfl).trans rfl) ty_3 rfl ⟨rfl, hM⟩⟩) ?_
 obtain ⟨p65, e66⟩ : ∃ p : VT, p = (edgeQ vs fs t sh hd (at_ (at_ fs f) 1) (at_ (at_ fs f) 2)) := ⟨_, rfl⟩
 refine QE.op rfl rfl (.inl ⟨rfl, fun f' H' hf hM => AOp.pcallH («as» := [.ptr fid 0 0, .int .i64 (at_ (at_ fs f) 1), .int .i64 (at_ (at_ fs f) 2)]) rfl rfl (lapp (lcons ((hf 60 rfl).trans rfl) (lcons ((hf 62 rfl).trans rfl) (lcons ((hf 64 rfl).trans rfl) rfl))) rfl) tf_70 (re_val (w := .agg [.int .i64 p65.X, .int .i64 p65.Y, .int .i64 p65.Z]) (by rw [e66]) (c_pedge vs fs cr t sh hd S (at_ (at_ fs f) 1) (at_ (at_ fs f) 2) (.inl sd1) hc1.2 hc2.2 (hM _ _ h47))) fun H2 m2 => ⟨rfl, hM.trans m2⟩⟩) ?_
 refine QE.op rfl rfl (.inl ⟨rfl, fun f' H' hf hM => AOp.move (.ptr fid 0 0) rfl ((hf 0 rfl).trans rfl) ⟨rfl, hM⟩⟩) ?_
 refine QE.op rfl rfl (.inl ⟨rfl, fun f' H' hf hM => AOp.indexAddrFA rfl ((hf 7 rfl).trans rfl) rfl ar_67 (by omega) (by omega) ⟨rfl, hM⟩⟩) ?_
 refine QE.op rfl rfl (.inl ⟨rfl, fun f' H' hf hM => AOp.loadF (.int .i64 (at_ (at_ fs f) 3)) rfl ((hf 67 rfl).trans rfl) ty_3 rfl ⟨rfl, hM⟩⟩) ?_
 refine QE.op rfl rfl (.inl ⟨rfl, fun f' H' hf hM => AOp.indexAddrFA rfl ((hf 7 rfl).trans rfl) rfl ar_67 (by omega) (by omega) ⟨rfl, hM⟩⟩) ?_
 refine QE.op rfl rfl (.inl ⟨rfl, fun f' H' hf hM => AOp.loadF (.int .i64 (at_ (at_ fs f) 0)) rfl ((hf 69 rfl).trans rfl) ty_3 rfl ⟨rfl, hM⟩⟩) ?_
 obtain ⟨p67, e68⟩ : ∃ p : VT, p = (edgeQ vs fs t sh hd (at_ (at_ fs f) 3) (at_ (at_ fs f) 0)) := ⟨_, rfl⟩
 refine QE.op rfl rfl (.inl ⟨rfl, fun f' H' hf hM => AOp.pcallH («as» := [.ptr fid 0 0, .int .i64 (at_ (at_ fs f) 3), .int .i64 (at_ (at_ fs f) 0)]) rfl rfl (lapp (lcons ((hf 66 rfl).trans rfl) (lcons ((hf 68 rfl).trans rfl) (lcons ((hf 70 rfl).trans rfl) rfl))) rfl) tf_70 (re_val (w := .agg [.int .i64 p67.X, .int .i64 p67.Y, .int .i64 p67.Z]) (by rw [e68]) (c_pedge vs fs cr t sh hd S (at_ (at_ fs f) 3) (at_ (at_ fs f) 0) (.inl sd3) hc3.2 hc0.2 (hM _ _ h47))) fun H2 m2 => ⟨rfl, hM.trans m2⟩⟩) ?_
 refine QE.op rfl rfl (.inl ⟨rfl, fun f' H' hf hM => AOp.move (.ptr fid 0 0) rfl ((hf 0 rfl).trans rfl) ⟨rfl, hM⟩⟩) ?_
 refine QE.op rfl rfl (.inl ⟨rfl, fun f' H' hf hM => AOp.move (.int .i64 f) rfl ((hf 1 rfl).trans rfl) ⟨rfl, hM⟩⟩) ?_
 refine QE.op rfl rfl (.inl ⟨rfl, fun f' H' hf hM => AOp.indexAddrFA rfl ((hf 7 rfl).trans rfl) rfl ar_67 (by omega) (by omega) ⟨rfl, hM⟩⟩) ?_
 refine QE.op rfl rfl (.inl ⟨rfl, fun f' H' hf hM => AOp.loadF (.int .i64 (at_ (at_ fs f) 3)) rfl ((hf 74 rfl).trans rfl) ty_3 rfl ⟨rfl, hM⟩⟩) ?_
 obtain ⟨p69, e70⟩ : ∃ p : VT, p = (innerP vs fs t hd f (at_ (at_ fs f) 3)) := ⟨_, rfl⟩
 refine QE.op rfl rfl (.inl ⟨rfl, fun f' H' hf hM => AOp.pcallH («as» := [.ptr fid 0 0, .int .i64 f, .int .i64 (at_ (at_ fs f) 3)]) rfl rfl (lapp (lcons ((hf 72 rfl).trans rfl) (lcons ((hf 73 rfl).trans rfl) (lcons ((hf 75 rfl).trans rfl) rfl))) rfl) tf_71 (re_val (w := .agg [.int .i64 p69.X, .int .i64 p69.Y, .int .i64 p69.Z]) (by rw [e70]) (c_inner vs fs cr t sh hd S f (at_ (at_ fs f) 3) hc3.1 hc3.2.1 hc3.2.2 (hM _ _ h47))) fun H2 m2 => ⟨rfl, hM.trans m2⟩⟩) ?_
 refine QE.op rfl rfl (.inl ⟨rfl, fun f' H' hf hM => AOp.move (.ptr fid 0 0) rfl ((hf 0 rfl).trans rfl) ⟨rfl, hM⟩⟩) ?_
 refine QE.op rfl rfl (.inl ⟨rfl, fun f' H' hf hM => AOp.move (.int .i64 f) rfl ((hf 1 rfl).trans rfl) ⟨rfl, hM⟩⟩) ?_
 refine QE.op rfl rfl (.inl ⟨rfl, fun f' H' hf hM => AOp.indexAddrFA rfl ((hf 7 rfl).trans rfl) rfl ar_67 (by omega) (by omega) ⟨rfl, hM⟩⟩) ?_
 refine QE.op rfl rfl (.inl ⟨rfl, fun f' H' hf hM => AOp.loadF (.int .i64 (at_ (at_ fs f) 2)) rfl ((hf 79 rfl).trans rfl) ty_3 rfl ⟨rfl, hM⟩⟩) ?_
 obtain ⟨p71, e72⟩ : ∃ p : VT, p = (innerP vs fs t hd f (at_ (at_ fs f) 2)) := ⟨_, rfl⟩
 refine QE.op rfl rfl (.inl ⟨rfl, fun f' H' hf hM => AOp.pcallH («as» := [.ptr fid 0 0, .int .i64 f, .int .i64 (at_ (at_ fs f) 2)]) rfl rfl (lapp (lcons ((hf 77 rfl).trans rfl) (lcons ((hf 78 rfl).trans rfl) (lcons ((hf 80 rfl).trans rfl) rfl))) rfl) tf_71 (re_val (w := .agg [.int .i64 p71.X, .int .i64 p71.Y, .int .i64 p71.Z]) (by rw [e72]) (c_inner vs fs cr t sh hd S f (at_ (at_ fs f) 2) hc2.1 hc2.2.1 hc2.2.2 (hM _ _ h47))) fun H2 m2 => ⟨rfl, hM.trans m2⟩⟩) ?_
 refine QE.op rfl rfl (.inl ⟨rfl, fun f' H' hf hM => AOp.move (.ptr fid 0 0) rfl ((hf 0 rfl).trans rfl) ⟨rfl, hM⟩⟩) ?_
 refine QE.op rfl rfl (.inl ⟨rfl, fun f' H' hf hM => AOp.indexAddrFA rfl ((hf 7 rfl).trans rfl) rfl ar_67 (by omega) (by omega) ⟨rfl, hM⟩⟩) ?_
 refine QE.op rfl rfl (.inl ⟨rfl, fun f' H' hf hM => AOp.loadF (.int .i64 (at_ (at_ fs f) 2)) rfl ((hf 83 rfl).trans rfl) ty_3 rfl ⟨rfl, hM⟩⟩) ?_
 refine QE.op rfl rfl (.inl ⟨rfl, fun f' H' hf hM => AOp.indexAddrFA rfl ((hf 7 rfl).trans rfl) rfl ar_67 (by omega) (by omega) ⟨rfl, hM⟩⟩) ?_
 refine QE.op rfl rfl (.inl ⟨rfl, fun f' H' hf hM => AOp.loadF (.int .i64 (at_ (at_ fs f) 1)) rfl ((hf 85 rfl).trans rfl) ty_3 rfl ⟨rfl, hM⟩⟩) ?_
 obtain ⟨p73, e74⟩ : ∃ p : VT, p = (edgeQ vs fs t sh hd (at_ (at_ fs f) 2) (at_ (at_ fs f) 1)) := ⟨_, rfl⟩
 refine QE.op rfl rfl (.inl ⟨rfl, fun f' H' hf hM => AOp.pcallH («as» := [.ptr fid 0 0, .int .i64 (at_ (at_ fs f) 2), .int .i64 (at_ (at_ fs f) 1)]) rfl rfl (lapp (lcons ((hf 82 rfl).trans rfl) (lcons ((hf 84 rfl).trans rfl) (lcons ((hf 86 rfl).trans rfl) rfl))) rfl) tf_70 (re_val (w := .agg [.int .i64 p73.X, .int .i64 p73.Y, .int .i64 p73.Z]) (by rw [e74]) (c_pedge vs fs cr t sh hd S (at_ (at_ fs f) 2) (at_ (at_ fs f) 1) (.inr sd1) hc2.2 hc1.2 (hM _ _ h47))) fun H2 m2 => ⟨rfl, hM.trans m2⟩⟩) ?_
 refine QE.op rfl rfl (.inl ⟨rfl, fun f' H' hf hM => AOp.move (.ptr fid 0 0) rfl ((hf 0 rfl).trans rfl) ⟨rfl, hM⟩⟩) ?_
 refine QE.op rfl rfl (.inl ⟨rfl, fun f' H' hf hM => AOp.indexAddrFA rfl ((hf 7 rfl).trans rfl) rfl ar_67 (by omega) (by omega) ⟨rfl, hM⟩⟩) ?_
 refine QE.op rfl rfl (.inl ⟨rfl, fun f' H' hf hM => AOp.loadF (.int .i64 (at_ (at_ fs f) 3)) rfl ((hf 89 rfl).trans rfl) ty_3 rfl ⟨rfl, hM⟩⟩) ?_
 obtain ⟨p75, e76⟩ : ∃ p : VT, p = (cornerQ vs fs t hd (at_ (at_ fs f) 3)) := ⟨_, rfl⟩
 refine QE.op rfl rfl (.inl ⟨rfl, fun f' H' hf hM => AOp.pcallH («as» := [.ptr fid 0 0, .int .i64 (at_ (at_ fs f) 3)]) rfl rfl (lapp (lcons ((hf 88 rfl).trans rfl) (lcons ((hf 90 rfl).trans rfl) rfl)) rfl) tf_69 (re_val (w := .agg [.int .i64 p75.X, .int .i64 p75.Y, .int .i64 p75.Z]) (by rw [e76]) (c_corner vs fs cr t sh hd S (at_ (at_ fs f) 3) hc3.2 (hM _ _ h47))) fun H2 m2 => ⟨rfl, hM.trans m2⟩⟩) ?_
 refine QE.op rfl rfl (.inl ⟨rfl, fun f' H' hf hM => AOp.move (.ptr fid 0 0) rfl ((hf 0 rfl).trans rfl) ⟨rfl, hM⟩⟩) ?_
 refine QE.op rfl rfl (.inl ⟨rfl, fun f' H' hf hM => AOp.indexAddrFA rfl ((hf 7 rfl).trans rfl) rfl ar_67 (by omega) (by omega) ⟨rfl, hM⟩⟩) ?_
 refine QE.op rfl rfl (.inl ⟨rfl, fun f' H' hf hM => AOp.loadF (.int .i64 (at_ (at_ fs f) 3)) rfl ((hf 93 rfl).trans rfl) ty_3 rfl ⟨rfl, hM⟩⟩) ?_
 refine QE.op rfl rfl (.inl ⟨rfl, fun f' H' hf hM => AOp.indexAddrFA rfl ((hf 7 rfl).trans rfl) rfl ar_67 (by omega) (by omega) ⟨rfl, hM⟩⟩) ?_
 refine QE.op rfl rfl (.inl ⟨rfl, fun f' H' hf hM => AOp.loadF (.int .i64 (at_ (at_ fs f) 2)) rfl ((hf 95 rfl).trans rfl) ty_3 rfl ⟨rfl, hM⟩⟩) ?_
 obtain ⟨p77, e78⟩ : ∃ p : VT, p = (edgeQ vs fs t sh hd (at_ (at_ fs f) 3) (at_ (at_ fs f) 2)) := ⟨_, rfl⟩
 refine QE.op rfl rfl (.inl ⟨rfl, fun f' H' hf hM => AOp.pcallH («as» := [.ptr fid 0 0, .int .i64 (at_ (at_ fs f) 3), .int .i64 (at_ (at_ fs f) 2)]) rfl rfl (lapp (lcons ((hf 92 rfl).trans rfl) (lcons ((hf 94 rfl).trans rfl) (lcons ((hf 96 rfl).trans rfl) rfl))) rfl) tf_70 (re_val (w := .agg [.int .i64 p77.X, .int .i64 p77.Y, .int .i64 p77.Z]) (by rw [e78]) (c_pedge vs fs cr t sh hd S (at_ (at_ fs f) 3) (at_ (at_ fs f) 2) (.inr sd2) hc3.2 hc2.2 (hM _ _ h47))) fun H2 m2 => ⟨rfl, hM.trans m2⟩⟩) ?_
 refine QE.op rfl rfl (.inl ⟨rfl, fun f' H' hf hM => AOp.move (.ptr fid 0 0) rfl ((hf 0 rfl).trans rfl) ⟨rfl, hM⟩⟩) ?_
 refine QE.op rfl rfl (.inl ⟨rfl, fun f' H' hf hM => AOp.indexAddrFA rfl ((hf 7 rfl).trans rfl) rfl ar_67 (by omega) (by omega) ⟨rfl, hM⟩⟩) ?_
 refine QE.op rfl rfl (.inl ⟨rfl, fun f' H' hf hM => AOp.loadF (.int .i64 (at_ (at_ fs f) 2)) rfl ((hf 99 rfl).trans rfl) ty_3 rfl ⟨rfl, hM⟩⟩) ?_
 refine QE.op rfl rfl (.inl ⟨rfl, fun f' H' hf hM => AOp.indexAddrFA rfl ((hf 7 rfl).trans rfl) rfl ar_67 (by omega) (by omega) ⟨rfl, hM⟩⟩) ?_
 refine QE.op rfl rfl (.inl ⟨rfl, fun f' H' hf hM => AOp.loadF (.int .i64 (at_ (at_ fs f) 3)) rfl ((hf 101 rfl).trans rfl) ty_3 rfl ⟨rfl, hM⟩⟩) ?_
 obtain ⟨p79, e80⟩ : ∃ p : VT, p = (edgeQ vs fs t sh hd (at_ (at_ fs f) 2) (at_ (at_ fs f) 3)) := ⟨_, rfl⟩
 refine QE.op rfl rfl (.inl ⟨rfl, fun f' H' hf hM => AOp.pcallH («as» := [.ptr fid 0 0, .int .i64 (at_ (at_ fs f) 2), .int .i64 (at_ (at_ fs f) 3)]) rfl rfl (lapp (lcons ((hf 98 rfl).trans rfl) (lcons ((hf 100 rfl).trans rfl) (lcons ((hf 102 rfl).trans rfl) rfl))) rfl) tf_70 (re_val (w := .agg [.int .i64 p79.X, .int .i64 p79.Y, .int .i64 p79.Z]) (by rw [e80]) (c_pedge vs fs cr t sh hd S (at_ (at_ fs f) 2) (at_ (at_ fs f) 3) (.inl sd2) hc2.2 hc3.2 (hM _ _ h47))) fun H2 m2 => ⟨rfl, hM.trans m2⟩⟩) ?_
 refine QE.op rfl rfl (.inl ⟨rfl, fun f' H' hf hM => AOp.move (.ptr fid 0 0) rfl ((hf 0 rfl).trans rfl) ⟨rfl, hM⟩⟩) ?_
 refine QE.op rfl rfl (.inl ⟨rfl, fun f' H' hf hM => AOp.indexAddrFA rfl ((hf 7 rfl).trans rfl) rfl ar_67 (by omega) (by omega) ⟨rfl, hM⟩⟩) ?_
 refine QE.op rfl rfl (.inl ⟨rfl, fun f' H' hf hM => AOp.loadF (.int .i64 (at_ (at_ fs f) 2)) rfl ((hf 105 rfl).trans rfl) ty_3 rfl ⟨rfl, hM⟩⟩) ?_
 obtain ⟨p81, e82⟩ : ∃ p : VT, p = (cornerQ vs fs t hd (at_ (at_ fs f) 2)) := ⟨_, rfl⟩
 refine QE.op rfl rfl (.inl ⟨rfl, fun f' H' hf hM => AOp.pcallH («as» := [.ptr fid 0 0, .int .i64 (at_ (at_ fs f) 2)]) rfl rfl (lapp (lcons ((hf 104 rfl).trans rfl) (lcons ((hf 106 rfl).trans rfl) rfl)) rfl) tf_69 (re_val (w := .agg [.int .i64 p81.X, .int .i64 p81.Y, .int .i64 p81.Z]) (by rw [e82]) (c_corner vs fs cr t sh hd S (at_ (at_ fs f) 2) hc2.2 (hM _ _ h47))) fun H2 m2 => ⟨rfl, hM.trans m2⟩⟩) ?_
 refine QE.op rfl rfl (.inl ⟨rfl, fun f' H' hf hM => AOp.build (cells := (v3 p51 (v3 p53 (v3 p55 (v3 p57 (v3 p59 (v3 p61 (v3 p63 (v3 p65 (v3 p67 (v3 p69 (v3 p71 (v3 p73 (v3 p75 (v3 p77 (v3 p79 (v3 p81 ([])))))))))))))))))) rfl tz_66 pl_66 (lconsP ((hf 27 rfl).trans rfl) (lconsP ((hf 33 rfl).trans rfl) (lconsP ((hf 39 rfl).trans rfl) (lconsP ((hf 43 rfl).trans rfl) (lconsP ((hf 49 rfl).trans rfl) (lconsP ((hf 54 rfl).trans rfl) (lconsP ((hf 59 rfl).trans rfl) (lconsP ((hf 65 rfl).trans rfl) (lconsP ((hf 71 rfl).trans rfl) (lconsP ((hf 76 rfl).trans rfl) (lconsP ((hf 81 rfl).trans rfl) (lconsP ((hf 87 rfl).trans rfl) (lconsP ((hf 91 rfl).trans rfl) (lconsP ((hf 97 rfl).trans rfl) (lconsP ((hf 103 rfl).trans rfl) (lconsP ((hf 107 rfl).trans rfl) rfl)))))))))))))))) (fill_step (c' := (v3 p51 (z3 (z3 (z3 (z3 (z3 (z3 (z3 (z3 (z3 (z3 (z3 (z3 (z3 (z3 (z3 ([])))))))))))))))))) rfl rfl rfl rfl rfl (fill_step (c' := (v3 p51 (v3 p53 (z3 (z3 (z3 (z3 (z3 (z3 (z3 (z3 (z3 (z3 (z3 (z3 (z3 (z3 ([])))))))))))))))))) rfl rfl rfl rfl rfl (fill_step (c' := (v3 p51 (v3 p53 (v3 p55 (z3 (z3 (z3 (z3 (z3 (z3 (z3 (z3 (z3 (z3 (z3 (z3 (z3 ([])))))))))))))))))) rfl rfl rfl rfl rfl (fill_step (c' := (v3 p51 (v3 p53 (v3 p55 (v3 p57 (z3 (z3 (z3 (z3 (z3 (z3 (z3 (z3 (z3 (z3 (z3 (z3 ([])))))))))))))))))) rfl rfl rfl rfl rfl (fill_step (c' := (v3 p51 (v3 p53 (v3 p55 (v3 p57 (v3 p59 (z3 (z3 (z3 (z3 (z3 (z3 (z3 (z3 (z3 (z3 (z3 ([])))))))))))))))))) rfl rfl rfl rfl rfl (fill_step (c' := (v3 p51 (v3 p53 (v3 p55 (v3 p57 (v3 p59 (v3 p61 (z3 (z3 (z3 (z3 (z3 (z3 (z3 (z3 (z3 (z3 ([])))))))))))))))))) rfl rfl rfl rfl rfl (fill_step (c' := (v3 p51 (v3 p53 (v3 p55 (v3 p57 (v3 p59 (v3 p61 (v3 p63 (z3 (z3 (z3 (z3 (z3 (z3 (z3 (z3 (z3 ([])))))))))))))))))) rfl rfl rfl rfl rfl (fill_step (c' := (v3 p51 (v3 p53 (v3 p55 (v3 p57 (v3 p59 (v3 p61 (v3 p63 (v3 p65 (z3 (z3 (z3 (z3 (z3 (z3 (z3 (z3 ([])))))))))))))))))) rfl rfl rfl rfl rfl (fill_step (c' := (v3 p51 (v3 p53 (v3 p55 (v3 p57 (v3 p59 (v3 p61 (v3 p63 (v3 p65 (v3 p67 (z3 (z3 (z3 (z3 (z3 (z3 (z3 ([])))))))))))))))))) rfl rfl rfl rfl rfl (fill_step (c' := (v3 p51 (v3 p53 (v3 p55 (v3 p57 (v3 p59 (v3 p61 (v3 p63 (v3 p65 (v3 p67 (v3 p69 (z3 (z3 (z3 (z3 (z3 (z3 ([])))))))))))))))))) rfl rfl rfl rfl rfl (fill_step (c' := (v3 p51 (v3 p53 (v3 p55 (v3 p57 (v3 p59 (v3 p61 (v3 p63 (v3 p65 (v3 p67 (v3 p69 (v3 p71 (z3 (z3 (z3 (z3 (z3 ([])))))))))))))))))) rfl rfl rfl rfl rfl (fill_step (c' := (v3 p51 (v3 p53 (v3 p55 (v3 p57 (v3 p59 (v3 p61 (v3 p63 (v3 p65 (v3 p67 (v3 p69 (v3 p71 (v3 p73 (z3 (z3 (z3 (z3 ([])))))))))))))))))) rfl rfl rfl rfl rfl (fill_step (c' := (v3 p51 (v3 p53 (v3 p55 (v3 p57 (v3 p59 (v3 p61 (v3 p63 (v3 p65 (v3 p67 (v3 p69 (v3 p71 (v3 p73 (v3 p75 (z3 (z3 (z3 ([])))))))))))))))))) rfl rfl rfl rfl rfl (fill_step (c' := (v3 p51 (v3 p53 (v3 p55 (v3 p57 (v3 p59 (v3 p61 (v3 p63 (v3 p65 (v3 p67 (v3 p69 (v3 p71 (v3 p73 (v3 p75 (v3 p77 (z3 (z3 ([])))))))))))))))))) rfl rfl rfl rfl rfl (fill_step (c' := (v3 p51 (v3 p53 (v3 p55 (v3 p57 (v3 p59 (v3 p61 (v3 p63 (v3 p65 (v3 p67 (v3 p69 (v3 p71 (v3 p73 (v3 p75 (v3 p77 (v3 p79 (z3 ([])))))))))))))))))) rfl rfl rfl rfl rfl (fill_step (c' := (v3 p51 (v3 p53 (v3 p55 (v3 p57 (v3 p59 (v3 p61 (v3 p63 (v3 p65 (v3 p67 (v3 p69 (v3 p71 (v3 p73 (v3 p75 (v3 p77 (v3 p79 (v3 p81 ([])))))))))))))))))) rfl rfl rfl rfl rfl rfl)))))))))))))))) ⟨rfl, hM⟩⟩) ?_
 refine QE.op rfl rfl (.inl ⟨rfl, fun f' H' hf hM => AOp.fieldAddr rfl ((hf 8 rfl).trans rfl) fl_70_0 ⟨rfl, hM⟩ (hid := ⟨_, (hM _ _ h45)⟩)⟩) ?_
 refine QE.done fun H83 m84 => ?_
 have h85 := m84 _ _ h47
 have h86 := m84 _ _ h48
 have h87 := m84 _ _ h45
 have m88 := m50.trans m84
 refine AOps.cons rfl rfl (AOp.store' (cells' := (v3 p51 (v3 p53 (v3 p55 (v3 p57 (v3 p59 (v3 p61 (v3 p63 (v3 p65 (v3 p67 (v3 p69 (v3 p71 (v3 p73 (v3 p75 (v3 p77 (v3 p79 (v3 p81 ([.int .i64 (at_ (at_ fs f) 0), .int .i64 (at_ (at_ fs f) 1), .int .i64 (at_ (at_ fs f) 2), .int .i64 (at_ (at_ fs f) 3), .int .i64 0, .int .i64 0, .int .i64 0, .int .i64 0, .int .i64 0, .int .i64 0, .int .i64 0, .int .i64 0, .int .i64 0, .int .i64 0, .int .i64 0, .int .i64 0, .int .i64 skin])))))))))))))))))) (.agg (v3 p51 (v3 p53 (v3 p55 (v3 p57 (v3 p59 (v3 p61 (v3 p63 (v3 p65 (v3 p67 (v3 p69 (v3 p71 (v3 p73 (v3 p75 (v3 p77 (v3 p79 (v3 p81 ([])))))))))))))))))) rfl rfl ts_66 h87 rfl rfl rfl rfl ?_)
 intro H89 h90 k91
 have h92 := keep k91 e38 h85
 have h93 := keep k91 e39 h86
 have m95 := Mono.set m88 z40 k91
 refine AWP.seq ?_
 refine AWP.seq (AWP.region rfl ?_)
 refine AOps.cons rfl rfl (AOp.loadF (.agg [.int .i64 (at_ (at_ fs f) 0), .int .i64 (at_ (at_ fs f) 1), .int .i64 (at_ (at_ fs f) 2), .int .i64 (at_ (at_ fs f) 3)]) rfl rfl ty_67 rfl (AOps.cons rfl rfl (AOp.move (.int .i64 0) rfl rfl ?_)))
 refine AWP.block ?_
 refine AWP.unroll 20 ?_
 refine UN.step ?_
 refine AWP.seq (AWP.region rfl ?_)
 refine AOps.cons rfl rfl (AOp.bin (.bool (decide (0 < 4))) rfl rfl rfl rfl ?_)
 refine AWP.seq ?_
 refine AWP.condT rfl (decide_eq_true (by decide)) ?_
 refine AWP.skip ?_
 refine AWP.seq ?_
 refine AWP.block ?_
 refine AWP.seq (AWP.region rfl ?_)
 refine AOps.cons rfl rfl (AOp.move (.int .i64 0) rfl rfl (AOps.cons rfl rfl (AOp.indexArr (.int .i64 (at_ (at_ fs f) 0)) rfl rfl rfl ar_67 (by omega) (by omega) rfl (AOps.cons rfl rfl (AOp.assign (.int .i64 0) rfl rfl (AOps.cons rfl rfl (AOp.assign (.int .i64 (at_ (at_ fs f) 0)) rfl rfl ?_)))))))
 refine AWP.region rfl ?_
 refine AOps.cons rfl rfl (AOp.move (.int .i64 0) rfl rfl (AOps.cons rfl rfl (AOp.move (.ptr fid 0 0) rfl rfl (AOps.cons rfl rfl (AOp.move (.int .i64 (at_ (at_ fs f) 0)) rfl rfl ?_)))))
 obtain ⟨p96, e97⟩ : ∃ p : VT, p = (normalQ vs fs t (at_ (at_ fs f) 0)) := ⟨_, rfl⟩
 refine AOps.cons rfl rfl (AOp.pcallH («as» := [.ptr fid 0 0, .int .i64 (at_ (at_ fs f) 0)]) rfl rfl (rfl) tf_72 (re_val (w := .agg [.int .i64 p96.X, .int .i64 p96.Y, .int .i64 p96.Z]) (by rw [e97]) (c_normal vs fs cr t sh hd S (at_ (at_ fs f) 0) hc0.2 h92)) ?_)
 intro H98 m99
 have h100 := m99 _ _ h92
 have h101 := m99 _ _ h93
 have h102 := m99 _ _ h90
 have m103 := m95.trans m99
 refine AOps.cons rfl rfl (AOp.fieldAddr rfl rfl fl_70_2 ?_ (hid := ⟨_, h102⟩))
 refine AOps.cons rfl rfl (AOp.indexAddrA rfl rfl rfl ar_68 (by omega) (by omega) ⟨_, h102⟩ (AOps.cons rfl rfl (AOp.store' (cells' := (v3 p51 (v3 p53 (v3 p55 (v3 p57 (v3 p59 (v3 p61 (v3 p63 (v3 p65 (v3 p67 (v3 p69 (v3 p71 (v3 p73 (v3 p75 (v3 p77 (v3 p79 (v3 p81 ([.int .i64 (at_ (at_ fs f) 0), .int .i64 (at_ (at_ fs f) 1), .int .i64 (at_ (at_ fs f) 2), .int .i64 (at_ (at_ fs f) 3), .int .i64 p96.X, .int .i64 p96.Y, .int .i64 p96.Z, .int .i64 0, .int .i64 0, .int .i64 0, .int .i64 0, .int .i64 0, .int .i64 0, .int .i64 0, .int .i64 0, .int .i64 0, .int .i64 skin])))))))))))))))))) (.agg [.int .i64 p96.X, .int .i64 p96.Y, .int .i64 p96.Z]) rfl rfl ts_42 h102 rfl rfl rfl rfl ?_)))
 intro H104 h105 k106
 have h107 := keep k106 e38 h100
 have h108 := keep k106 e39 h101
 have m110 := Mono.set m103 z40 k106
 refine AWP.region rfl ?_
 refine AOps.cons rfl rfl (AOp.bin (.int .i64 1) rfl rfl rfl (iadd (by omega)) (AOps.cons rfl rfl (AOp.move (.int .i64 1) rfl rfl ?_)))
 refine AOps.nil ?_
 refine UN.step ?_
 refine AWP.seq (AWP.region rfl ?_)
 refine AOps.cons rfl rfl (AOp.bin (.bool (decide (1 < 4))) rfl rfl rfl rfl ?_)
 refine AWP.seq ?_
 refine AWP.condT rfl (decide_eq_true (by decide)) ?_
 refine AWP.skip ?_
 refine AWP.seq ?_
 refine AWP.block ?_
 refine AWP.seq (AWP.region rfl ?_)
 refine AOps.cons rfl rfl (AOp.move (.int .i64 1) rfl rfl (AOps.cons rfl rfl (AOp.indexArr (.int .i64 (at_ (at_ fs f) 1)) rfl rfl rfl ar_67 (by omega) (by omega) rfl (AOps.cons rfl rfl (AOp.assign (.int .i64 1) rfl rfl (AOps.cons rfl rfl (AOp.assign (.int .i64 (at_ (at_ fs f) 1)) rfl rfl ?_)))))))
 refine AWP.region rfl ?_
 refine AOps.cons rfl rfl (AOp.move (.int .i64 1) rfl rfl (AOps.cons rfl rfl (AOp.move (.ptr fid 0 0) rfl rfl (AOps.cons rfl rfl (AOp.move (.int .i64 (at_ (at_ fs f) 1)) rfl rfl ?_)))))
 obtain ⟨p111, e112⟩ : ∃ p : VT, p = (normalQ vs fs t (at_ (at_ fs f) 1)) := ⟨_, rfl⟩
 refine AOps.cons rfl rfl (AOp.pcallH («as» := [.ptr fid 0 0, .int .i64 (at_ (at_ fs f) 1)]) rfl rfl (rfl) tf_72 (re_val (w := .agg [.int .i64 p111.X, .int .i64 p111.Y, .int .i64 p111.Z]) (by rw [e112]) (c_normal vs fs cr t sh hd S (at_ (at_ fs f) 1) hc1.2 h107)) ?_)
 intro H113 m114
 have h115 := m114 _ _ h107
 have h116 := m114 _ _ h108
 have h117 := m114 _ _ h105
 have m118 := m110.trans m114
 refine AOps.cons rfl rfl (AOp.fieldAddr rfl rfl fl_70_2 ?_ (hid := ⟨_, h117⟩))
 refine AOps.cons rfl rfl (AOp.indexAddrA rfl rfl rfl ar_68 (by omega) (by omega) ⟨_, h117⟩ (AOps.cons rfl rfl (AOp.store' (cells' := (v3 p51 (v3 p53 (v3 p55 (v3 p57 (v3 p59 (v3 p61 (v3 p63 (v3 p65 (v3 p67 (v3 p69 (v3 p71 (v3 p73 (v3 p75 (v3 p77 (v3 p79 (v3 p81 ([.int .i64 (at_ (at_ fs f) 0), .int .i64 (at_ (at_ fs f) 1), .int .i64 (at_ (at_ fs f) 2), .int .i64 (at_ (at_ fs f) 3), .int .i64 p96.X, .int .i64 p96.Y, .int .i64 p96.Z, .int .i64 p111.X, .int .i64 p111.Y, .int .i64 p111.Z, .int .i64 0, .int .i64 0, .int .i64 0, .int .i64 0, .int .i64 0, .int .i64 0, .int .i64 skin])))))))))))))))))) (.agg [.int .i64 p111.X, .int .i64 p111.Y, .int .i64 p111.Z]) rfl rfl ts_42 h117 rfl rfl rfl rfl ?_)))
 intro H119 h120 k121
 have h122 := keep k121 e38 h115
 have h123 := keep k121 e39 h116
 have m125 := Mono.set m118 z40 k121
 refine AWP.region rfl ?_
 refine AOps.cons rfl rfl (AOp.bin (.int .i64 2) rfl rfl rfl (iadd (by omega)) (AOps.cons rfl rfl (AOp.move (.int .i64 2) rfl rfl ?_)))
 refine AOps.nil ?_
 refine UN.step ?_
 refine AWP.seq (AWP.region rfl ?_)
 refine AOps.cons rfl rfl (AOp.bin (.bool (decide (2 < 4))) rfl rfl rfl rfl ?_)
 refine AWP.seq ?_
 refine AWP.condT rfl (decide_eq_true (by decide)) ?_
 refine AWP.skip ?_
 refine AWP.seq ?_
 refine AWP.block ?_
 refine AWP.seq (AWP.region rfl ?_)
 refine AOps.cons rfl rfl (AOp.move (.int .i64 2) rfl rfl (AOps.cons rfl rfl (AOp.indexArr (.int .i64 (at_ (at_ fs f) 2)) rfl rfl rfl ar_67 (by omega) (by omega) rfl (AOps.cons rfl rfl (AOp.assign (.int .i64 2) rfl rfl (AOps.cons rfl rfl (AOp.assign (.int .i64 (at_ (at_ fs f) 2)) rfl rfl ?_)))))))
 refine AWP.region rfl ?_
 refine AOps.cons rfl rfl (AOp.move (.int .i64 2) rfl rfl (AOps.cons rfl rfl (AOp.move (.ptr fid 0 0) rfl rfl (AOps.cons rfl rfl (AOp.move (.int .i64 (at_ (at_ fs f) 2)) rfl rfl ?_)))))
 obtain ⟨p126, e127⟩ : ∃ p : VT, p = (normalQ vs fs t (at_ (at_ fs f) 2)) := ⟨_, rfl⟩
 refine AOps.cons rfl rfl (AOp.pcallH («as» := [.ptr fid 0 0, .int .i64 (at_ (at_ fs f) 2)]) rfl rfl (rfl) tf_72 (re_val (w := .agg [.int .i64 p126.X, .int .i64 p126.Y, .int .i64 p126.Z]) (by rw [e127]) (c_normal vs fs cr t sh hd S (at_ (at_ fs f) 2) hc2.2 h122)) ?_)
 intro H128 m129
 have h130 := m129 _ _ h122
 have h131 := m129 _ _ h123
 have h132 := m129 _ _ h120
 have m133 := m125.trans m129
 refine AOps.cons rfl rfl (AOp.fieldAddr rfl rfl fl_70_2 ?_ (hid := ⟨_, h132⟩))
 refine AOps.cons rfl rfl (AOp.indexAddrA rfl rfl rfl ar_68 (by omega) (by omega) ⟨_, h132⟩ (AOps.cons rfl rfl (AOp.store' (cells' := (v3 p51 (v3 p53 (v3 p55 (v3 p57 (v3 p59 (v3 p61 (v3 p63 (v3 p65 (v3 p67 (v3 p69 (v3 p71 (v3 p73 (v3 p75 (v3 p77 (v3 p79 (v3 p81 ([.int .i64 (at_ (at_ fs f) 0), .int .i64 (at_ (at_ fs f) 1), .int .i64 (at_ (at_ fs f) 2), .int .i64 (at_ (at_ fs f) 3), .int .i64 p96.X, .int .i64 p96.Y, .int .i64 p96.Z, .int .i64 p111.X, .int .i64 p111.Y, .int .i64 p111.Z, .int .i64 p126.X, .int .i64 p126.Y, .int .i64 p126.Z, .int .i64 0, .int .i64 0, .int .i64 0, .int .i64 skin])))))))))))))))))) (.agg [.int .i64 p126.X, .int .i64 p126.Y, .int .i64 p126.Z]) rfl rfl ts_42 h132 rfl rfl rfl rfl ?_)))
 intro H134 h135 k136
 have h137 := keep k136 e38 h130
 have h138 := keep k136 e39 h131
 have m140 := Mono.set m133 z40 k136
 refine AWP.region rfl ?_
 refine AOps.cons rfl rfl (AOp.bin (.int .i64 3) rfl rfl rfl (iadd (by omega)) (AOps.cons rfl rfl (AOp.move (.int .i64 3) rfl rfl ?_)))
 refine AOps.nil ?_
 refine UN.step ?_
 refine AWP.seq (AWP.region rfl ?_)
 refine AOps.cons rfl rfl (AOp.bin (.bool (decide (3 < 4))) rfl rfl rfl rfl ?_)
 refine AWP.seq ?_
 refine AWP.condT rfl (decide_eq_true (by decide)) ?_
 refine AWP.skip ?_
 refine AWP.seq ?_
 refine AWP.block ?_
 refine AWP.seq (AWP.region rfl ?_)
 refine AOps.cons rfl rfl (AOp.move (.int .i64 3) rfl rfl (AOps.cons rfl rfl (AOp.indexArr (.int .i64 (at_ (at_ fs f) 3)) rfl rfl rfl ar_67 (by omega) (by omega) rfl (AOps.cons rfl rfl (AOp.assign (.int .i64 3) rfl rfl (AOps.cons rfl rfl (AOp.assign (.int .i64 (at_ (at_ fs f) 3)) rfl rfl ?_)))))))
 refine AWP.region rfl ?_
 refine AOps.cons rfl rfl (AOp.move (.int .i64 3) rfl rfl (AOps.cons rfl rfl (AOp.move (.ptr fid 0 0) rfl rfl (AOps.cons rfl rfl (AOp.move (.int .i64 (at_ (at_ fs f) 3)) rfl rfl ?_)))))
 obtain ⟨p141, e142⟩ : ∃ p : VT, p = (normalQ vs fs t (at_ (at_ fs f) 3)) := ⟨_, rfl⟩
 refine AOps.cons rfl rfl (AOp.pcallH («as» := [.ptr fid 0 0, .int .i64 (at_ (at_ fs f) 3)]) rfl rfl (rfl) tf_72 (re_val (w := .agg [.int .i64 p141.X, .int .i64 p141.Y, .int .i64 p141.Z]) (by rw [e142]) (c_normal vs fs cr t sh hd S (at_ (at_ fs f) 3) hc3.2 h137)) ?_)
 intro H143 m144
 have h145 := m144 _ _ h137
 have h146 := m144 _ _ h138
 have h147 := m144 _ _ h135
 have m148 := m140.trans m144
 refine AOps.cons rfl rfl (AOp.fieldAddr rfl rfl fl_70_2 ?_ (hid := ⟨_, h147⟩))
 refine AOps.cons rfl rfl (AOp.indexAddrA rfl rfl rfl ar_68 (by omega) (by omega) ⟨_, h147⟩ (AOps.cons rfl rfl (AOp.store' (cells' := (v3 p51 (v3 p53 (v3 p55 (v3 p57 (v3 p59 (v3 p61 (v3 p63 (v3 p65 (v3 p67 (v3 p69 (v3 p71 (v3 p73 (v3 p75 (v3 p77 (v3 p79 (v3 p81 ([.int .i64 (at_ (at_ fs f) 0), .int .i64 (at_ (at_ fs f) 1), .int .i64 (at_ (at_ fs f) 2), .int .i64 (at_ (at_ fs f) 3), .int .i64 p96.X, .int .i64 p96.Y, .int .i64 p96.Z, .int .i64 p111.X, .int .i64 p111.Y, .int .i64 p111.Z, .int .i64 p126.X, .int .i64 p126.Y, .int .i64 p126.Z, .int .i64 p141.X, .int .i64 p141.Y, .int .i64 p141.Z, .int .i64 skin])))))))))))))))))) (.agg [.int .i64 p141.X, .int .i64 p141.Y, .int .i64 p141.Z]) rfl rfl ts_42 h147 rfl rfl rfl rfl ?_)))
 intro H149 h150 k151
 have h153 := keep k151 e39 h146
 have m155 := Mono.set m148 z40 k151
 refine AWP.region rfl ?_
 refine AOps.cons rfl rfl (AOp.bin (.int .i64 4) rfl rfl rfl (iadd (by omega)) (AOps.cons rfl rfl (AOp.move (.int .i64 4) rfl rfl ?_)))
 refine AOps.nil ?_
 refine UN.step ?_
 refine AWP.seq (AWP.region rfl ?_)
 refine AOps.cons rfl rfl (AOp.bin (.bool (decide (4 < 4))) rfl rfl rfl rfl ?_)
 refine AWP.seq ?_
 refine AWP.condF rfl (decide_eq_false (by decide)) ?_
 refine AWP.exit ?_
 change AWP _ _ _ _ _ _
 refine AWP.seq (AWP.region rfl ?_)
 refine AOps.cons rfl rfl (AOp.load (.agg (v3 p51 (v3 p53 (v3 p55 (v3 p57 (v3 p59 (v3 p61 (v3 p63 (v3 p65 (v3 p67 (v3 p69 (v3 p71 (v3 p73 (v3 p75 (v3 p77 (v3 p79 (v3 p81 ([.int .i64 (at_ (at_ fs f) 0), .int .i64 (at_ (at_ fs f) 1), .int .i64 (at_ (at_ fs f) 2), .int .i64 (at_ (at_ fs f) 3), .int .i64 p96.X, .int .i64 p96.Y, .int .i64 p96.Z, .int .i64 p111.X, .int .i64 p111.Y, .int .i64 p111.Z, .int .i64 p126.X, .int .i64 p126.Y, .int .i64 p126.Z, .int .i64 p141.X, .int .i64 p141.Y, .int .i64 p141.Z, .int .i64 skin])))))))))))))))))) rfl rfl ty_70 h150 rfl (AOps.cons rfl rfl (AOp.store' (cells' := (v3 p51 (v3 p53 (v3 p55 (v3 p57 (v3 p59 (v3 p61 (v3 p63 (v3 p65 (v3 p67 (v3 p69 (v3 p71 (v3 p73 (v3 p75 (v3 p77 (v3 p79 (v3 p81 ([.int .i64 (at_ (at_ fs f) 0), .int .i64 (at_ (at_ fs f) 1), .int .i64 (at_ (at_ fs f) 2), .int .i64 (at_ (at_ fs f) 3), .int .i64 p96.X, .int .i64 p96.Y, .int .i64 p96.Z, .int .i64 p111.X, .int .i64 p111.Y, .int .i64 p111.Z, .int .i64 p126.X, .int .i64 p126.Y, .int .i64 p126.Z, .int .i64 p141.X, .int .i64 p141.Y, .int .i64 p141.Z, .int .i64 skin])))))))))))))))))) (.agg (v3 p51 (v3 p53 (v3 p55 (v3 p57 (v3 p59 (v3 p61 (v3 p63 (v3 p65 (v3 p67 (v3 p69 (v3 p71 (v3 p73 (v3 p75 (v3 p77 (v3 p79 (v3 p81 ([.int .i64 (at_ (at_ fs f) 0), .int .i64 (at_ (at_ fs f) 1), .int .i64 (at_ (at_ fs f) 2), .int .i64 (at_ (at_ fs f) 3), .int .i64 p96.X, .int .i64 p96.Y, .int .i64 p96.Z, .int .i64 p111.X, .int .i64 p111.Y, .int .i64 p111.Z, .int .i64 p126.X, .int .i64 p126.Y, .int .i64 p126.Z, .int .i64 p141.X, .int .i64 p141.Y, .int .i64 p141.Z, .int .i64 skin])))))))))))))))))) rfl rfl ts_70 h153 rfl rfl rfl rfl ?_)))
 intro H156 h157 k158
 have m162 := Mono.set m155 z7 k158
 refine AWP.ret ?_
 refine ⟨_, _, Ghost.refl, .inr rfl, _, Res.list1 rfl (.cell (v := .agg (v3 p51 (v3 p53 (v3 p55 (v3 p57 (v3 p59 (v3 p61 (v3 p63 (v3 p65 (v3 p67 (v3 p69 (v3 p71 (v3 p73 (v3 p75 (v3 p77 (v3 p79 (v3 p81 ([.int .i64 (at_ (at_ fs f) 0), .int .i64 (at_ (at_ fs f) 1), .int .i64 (at_ (at_ fs f) 2), .int .i64 (at_ (at_ fs f) 3), .int .i64 p96.X, .int .i64 p96.Y, .int .i64 p96.Z, .int .i64 p111.X, .int .i64 p111.Y, .int .i64 p111.Z, .int .i64 p126.X, .int .i64 p126.Y, .int .i64 p126.Z, .int .i64 p141.X, .int .i64 p141.Y, .int .i64 p141.Z, .int .i64 skin])))))))))))))))))) rfl ty_70 h157 rfl (.nil)), ?_, m162⟩
 exact (show (.agg (v3 p51 (v3 p53 (v3 p55 (v3 p57 (v3 p59 (v3 p61 (v3 p63 (v3 p65 (v3 p67 (v3 p69 (v3 p71 (v3 p73 (v3 p75 (v3 p77 (v3 p79 (v3 p81 ([.int .i64 (at_ (at_ fs f) 0), .int .i64 (at_ (at_ fs f) 1), .int .i64 (at_ (at_ fs f) 2), .int .i64 (at_ (at_ fs f) 3), .int .i64 p96.X, .int .i64 p96.Y, .int .i64 p96.Z, .int .i64 p111.X, .int .i64 p111.Y, .int .i64 p111.Z, .int .i64 p126.X, .int .i64 p126.Y, .int .i64 p126.Z, .int .i64 p141.X, .int .i64 p141.Y, .int .i64 p141.Z, .int .i64 skin]))))))))))))))))) : AV) = .agg (((patchQ vs fs t sh hd f skin).aP).flatMap eV ++ (((patchQ vs fs t sh hd f skin).aCorners).map eI ++ (((patchQ vs fs t sh hd f skin).aNormals).flatMap eV ++ [.int .i64 ((patchQ vs fs t sh hd f skin).Skin)]))) from by subst e52 e54 e56 e58 e60 e62 e64 e66 e68 e70 e72 e74 e76 e78 e80 e82 e97 e112 e127 e142; rfl)
end Go.Proofs.U
namespace Go.Proofs.U
open Go Go.AH Go.Proofs.T
set_option maxRecDepth 20000
set_option linter.unusedSectionVars false
abbrev MEv := Int × AV × List VT
def MOv (H0 H : Heap) (L : List MEv) : Prop := (∀ e ∈ L, Own H0 H 3 e.2.1 e.2.2.length (e.2.2.flatMap eV)) ∧ (∀ a ∈ L, ∀ b ∈ L, a.1 ≠ b.1 → Sep a.2.1 b.2.1) ∧ ∀ a ∈ L, ∀ b ∈ L, a.1 = b.1 → a = b
def NotIdMv (L : List MEv) (i : Nat) : Prop := ∀ e ∈ L, NotId e.2.1 i
def SepMv (L : List MEv) (v : AV) : Prop := ∀ e ∈ L, Sep e.2.1 v
section
variable {H0 H H' : Heap} {L : List MEv} {v v' : AV} {i : Nat}
theorem MOv.nil (H0 H : Heap) : MOv H0 H [] := ⟨fun _ h => (by cases h), fun _ h => (by cases h), fun _ h => (by cases h)⟩
theorem NotIdMv.nil (i : Nat) : NotIdMv [] i := fun _ h => by cases h
theorem SepMv.nil (v : AV) : SepMv [] v := fun _ h => by cases h
theorem MOv.mono (h : MOv H0 H L) (m : Mono H H') : MOv H0 H' L := ⟨fun e he => (h.1 e he).mono m, h.2⟩
theorem MOv.keep (h : MOv H0 H L) (ho : ∀ j, j ≠ i → H' j = H j) (hn : NotIdMv L i) : MOv H0 H' L := ⟨fun e he => (h.1 e he).keep ho (hn e he), h.2⟩
theorem MOv.notnew (h : MOv H0 H L) (hi : H i = none) : NotIdMv L i := fun e he => (h.1 e he).notnew hi
theorem MOv.stay (h : MOv H0 H L) (hs : SepMv L v) (hk : ∀ i, NotId v i → H i ≠ none → H' i = H i) : MOv H0 H' L := ⟨fun e he => (h.1 e he).stay (hs e he) hk, h.2⟩
theorem MOv.stay2 {rid : Nat} (h : MOv H0 H L) (hs : SepMv L v) (hr : NotIdMv L rid) (hk : ∀ i, i ≠ rid → NotId v i → H' i = H i) : MOv H0 H' L := ⟨fun e he => (h.1 e he).stay2 (hs e he) (hr e he) hk, h.2⟩
theorem MOv.sep (h : MOv H0 H L) (hs : SepMv L v) (hk : ∀ i, NotId v i → H i ≠ none → NotId v' i) : SepMv L v' := fun e he => (h.1 e he).sep (hs e he) hk
theorem SepMv.nilR (L : List MEv) : SepMv L .snil := fun _ _ => .nilR _
theorem SepMv.new (h : MOv H0 H L) (hi : H i = none) {a b c d : Nat} : SepMv L (.slm i a b c d) := fun e he => Sep.ofNotId' ((h.1 e he).notnew hi)
theorem MOv.sub {K : List MEv} (h : MOv H0 H L) (hk : ∀ e ∈ K, e ∈ L) : MOv H0 H K := ⟨fun e he => h.1 e (hk e he), fun a ha b hb => h.2.1 a (hk a ha) b (hk b hb), fun a ha b hb => h.2.2 a (hk a ha) b (hk b hb)⟩
end
def getMv (L : List MEv) (x : Int) : AV × List VT := ((L.find? fun e => decide (e.1 = x)).map (·.2)).getD (.snil, [])
def restMv (L : List MEv) (x : Int) : List MEv := L.filter fun e => decide (e.1 ≠ x)
def putMv (L : List MEv) (x : Int) (w : AV) (xs : List VT) : List MEv := if (L.find? fun e => decide (e.1 = x)).isSome then L.map fun e => if e.1 = x then (x, w, xs) else e else L ++ [(x, w, xs)]
theorem getMv_cases (L : List MEv) (x : Int) : (∃ e ∈ L, e.1 = x ∧ getMv L x = e.2 ∧ (L.find? fun e => decide (e.1 = x)).isSome = true) ∨ ((∀ e ∈ L, e.1 ≠ x) ∧ getMv L x = (.snil, []) ∧ (L.find? fun e => decide (e.1 = x)).isSome = false) := by
  unfold getMv
  cases h : L.find? (fun e => decide (e.1 = x)) with
  | none =>
    right
    rw [List.find?_eq_none] at h
    exact ⟨fun e he => by simpa using h e he, rfl, rfl⟩
  | some e =>
    left
    have h1 := List.find?_some h
    exact ⟨e, List.mem_of_find?_eq_some h, by simpa using h1, rfl, rfl⟩
theorem MOv.take {H0 H : Heap} {L : List MEv} (h : MOv H0 H L) (x : Int) : Own H0 H 3 (getMv L x).1 (getMv L x).2.length ((getMv L x).2.flatMap eV) ∧ MOv H0 H (restMv L x) ∧ SepMv (restMv L x) (getMv L x).1 := by
  refine ⟨?_, h.sub fun e he => (List.mem_filter.1 he).1, ?_⟩
  · rcases getMv_cases L x with ⟨e, he, _, h2, _⟩ | ⟨_, h2, _⟩
    · rw [h2]; exact h.1 e he
    · rw [h2]; exact .nil _ _ _
  · intro a ha
    obtain ⟨h1, h2⟩ := List.mem_filter.1 ha
    rcases getMv_cases L x with ⟨e, he, h3, h4, _⟩ | ⟨_, h4, _⟩
    · rw [h4]; exact h.2.1 a h1 e he (by rw [h3]; simpa using h2)
    · rw [h4]; exact .nilR _
theorem mem_putMv {L : List MEv} {x : Int} {w : AV} {xs : List VT} {e : MEv} (h : e ∈ putMv L x w xs) : e = (x, w, xs) ∨ (e ∈ L ∧ e.1 ≠ x) := by
  unfold putMv at h
  split at h
  · obtain ⟨a, ha, rfl⟩ := List.mem_map.1 h
    by_cases c : a.1 = x
    · rw [if_pos c]; exact .inl rfl
    · rw [if_neg c]; exact .inr ⟨ha, c⟩
  · rename_i hn
    rcases List.mem_append.1 h with h | h
    · refine .inr ⟨h, fun c => hn ?_⟩
      rw [List.find?_isSome]
      exact ⟨e, h, by simpa using c⟩
    · simp at h; exact .inl h
theorem MOv.put {H0 H : Heap} {L : List MEv} {x : Int} {w : AV} {xs : List VT} (h : MOv H0 H (restMv L x)) (ho : Own H0 H 3 w xs.length (xs.flatMap eV)) (hs : SepMv (restMv L x) w) : MOv H0 H (putMv L x w xs) := by
  have hr : ∀ e ∈ L, e.1 ≠ x → e ∈ restMv L x := fun e he hx => List.mem_filter.2 ⟨he, by simpa using hx⟩
  refine ⟨fun e he => ?_, fun a ha b hb hab => ?_, fun a ha b hb hab => ?_⟩
  · rcases mem_putMv he with rfl | ⟨h1, h2⟩
    · exact ho
    · exact h.1 e (hr e h1 h2)
  · rcases mem_putMv ha with rfl | ⟨h1, h2⟩
    · rcases mem_putMv hb with rfl | ⟨h3, h4⟩
      · exact absurd rfl hab
      · exact (hs b (hr b h3 h4)).symm
    · rcases mem_putMv hb with rfl | ⟨h3, h4⟩
      · exact hs a (hr a h1 h2)
      · exact h.2.1 a (hr a h1 h2) b (hr b h3 h4) hab
  · rcases mem_putMv ha with rfl | ⟨h1, h2⟩
    · rcases mem_putMv hb with rfl | ⟨h3, h4⟩
      · rfl
      · exact absurd hab.symm h4
    · rcases mem_putMv hb with rfl | ⟨h3, h4⟩
      · exact absurd hab h2
      · exact h.2.2 a (hr a h1 h2) b (hr b h3 h4) hab
theorem SepMv.ofNotId {L : List MEv} {i a b c d : Nat} (h : NotIdMv L i) : SepMv L (.slm i a b c d) := fun e he => Sep.ofNotId' (h e he)
theorem NotIdMv.get {L : List MEv} {j : Nat} (h : NotIdMv L j) (x : Int) : NotId (getMv L x).1 j := by
  rcases getMv_cases L x with ⟨e, he, _, h2, _⟩ | ⟨_, h2, _⟩
  · rw [h2]; exact h e he
  · rw [h2]; exact .nil _
theorem NotIdMv.rest {L : List MEv} {j : Nat} (h : NotIdMv L j) (x : Int) : NotIdMv (restMv L x) j := fun e he => h e (List.mem_filter.1 he).1
theorem NotIdMv.put {L : List MEv} {j : Nat} {x : Int} {w : AV} {xs : List VT} (h : NotIdMv (restMv L x) j) (hw : NotId w j) : NotIdMv (putMv L x w xs) j := fun e he => by
  rcases mem_putMv he with rfl | ⟨h1, h2⟩
  · exact hw
  · exact h e (List.mem_filter.2 ⟨h1, by simpa using h2⟩)
theorem SepMv.get {L : List MEv} {v : AV} (h : SepMv L v) (x : Int) : Sep (getMv L x).1 v := by
  rcases getMv_cases L x with ⟨e, he, _, h2, _⟩ | ⟨_, h2, _⟩
  · rw [h2]; exact h e he
  · rw [h2]; exact .nilL _
theorem SepMv.rest {L : List MEv} {v : AV} (h : SepMv L v) (x : Int) : SepMv (restMv L x) v := fun e he => h e (List.mem_filter.1 he).1
theorem SepMv.put_ {L : List MEv} {x : Int} {w v : AV} {xs : List VT} (h : SepMv (restMv L x) v) (hw : Sep w v) : SepMv (putMv L x w xs) v := fun e he => by
  rcases mem_putMv he with rfl | ⟨h1, h2⟩
  · exact hw
  · exact h e (List.mem_filter.2 ⟨h1, by simpa using h2⟩)
def gvalsv (L : List MEv) (n : Nat) : List AV := (List.range n).map fun (j : Nat) => (getMv L (j : Int)).1
theorem gvalsv_len (L : List MEv) (n : Nat) : (gvalsv L n).length = n := by simp [gvalsv]
theorem gvalsv_at {L : List MEv} {n : Nat} {x : Int} (h0 : 0 ≤ x) (h1 : x < n) : at_ (gvalsv L n) x = (getMv L x).1 := by
  have h : x.toNat < n := by omega
  have e : ((x.toNat : Nat) : Int) = x := by omega
  simp [at_, gvalsv, h, e]
theorem gvalsv_nil (n : Nat) : gvalsv [] n = List.replicate n .snil := by
  refine List.ext_getElem? fun j => ?_
  simp only [gvalsv, List.getElem?_map, List.getElem?_replicate, List.getElem?_range]
  by_cases h : j < n
  · simp [h, getMv]
  · simp [h]
theorem getMv_put (L : List MEv) (x : Int) (w : AV) (xs : List VT) (y : Int) : getMv (putMv L x w xs) y = if y = x then (w, xs) else getMv L y := by
  unfold putMv
  split
  · rename_i hs
    unfold getMv
    by_cases e : y = x
    · subst e; rw [if_pos rfl]
      rw [List.find?_map]
      have : ((fun e : MEv => decide (e.1 = y)) ∘ fun e : MEv => if e.1 = y then (y, w, xs) else e) = fun e : MEv => decide (e.1 = y) := by
        funext e; simp only [Function.comp]; split
        · rename_i h; simp [h]
        · rfl
      rw [this]
      cases hf : L.find? (fun e => decide (e.1 = y)) with
      | none => rw [hf] at hs; cases hs
      | some a =>
        have := List.find?_some hf
        simp only [decide_eq_true_eq] at this
        simp [this]
    · rw [if_neg e, List.find?_map]
      have : ((fun e : MEv => decide (e.1 = y)) ∘ fun e : MEv => if e.1 = x then (x, w, xs) else e) = fun e : MEv => decide (e.1 = y) := by
        funext a; simp only [Function.comp]; split
        · rename_i h; simp only [h]
        · rfl
      rw [this]
      cases hf : L.find? (fun e => decide (e.1 = y)) with
      | none => rfl
      | some a =>
        have := List.find?_some hf
        simp only [decide_eq_true_eq] at this
        have hne : a.1 ≠ x := fun h => e (this.symm.trans h)
        simp [hne]
  · rename_i hs
    have hn : L.find? (fun e => decide (e.1 = x)) = none := by
      cases h : L.find? (fun e => decide (e.1 = x)) with
      | none => rfl
      | some a => rw [h] at hs; exact absurd rfl hs
    unfold getMv
    rw [List.find?_append]
    by_cases e : y = x
    · subst e; rw [if_pos rfl, hn]; simp
    · rw [if_neg e]
      have : ([(x, w, xs)] : List MEv).find? (fun e => decide (e.1 = y)) = none := by simp; exact fun h => e h.symm
      rw [this]; cases L.find? (fun e => decide (e.1 = y)) <;> rfl
theorem gvalsv_set {L : List MEv} {n : Nat} {x : Int} {w : AV} {xs : List VT} (h0 : 0 ≤ x) (h1 : x < n) : (gvalsv L n).set x.toNat w = gvalsv (putMv L x w xs) n := by
  refine List.ext_getElem? fun j => ?_
  rw [List.getElem?_set]
  simp only [gvalsv, List.getElem?_map, List.getElem?_range, List.length_map, List.length_range]
  by_cases hj : x.toNat = j
  · subst hj
    have h : x.toNat < n := by omega
    have e : ((x.toNat : Nat) : Int) = x := by omega
    rw [if_pos rfl, if_pos h]
    simp [h, e, getMv_put]
  · rw [if_neg hj]
    by_cases h : j < n
    · have e : (j : Int) ≠ x := by omega
      simp [h, getMv_put, e]
    · simp [h]
def gFv (L : List MEv) (n : Nat) : List (List VT) := (List.range n).map fun (j : Nat) => (getMv L (j : Int)).2
def gMixv (L : List MEv) (n k : Nat) : List AV := (List.range n).map fun (j : Nat) => if j < k then eVs (getMv L (j : Int)).2 else (getMv L (j : Int)).1
theorem gMixv_0 (L : List MEv) (n : Nat) : gMixv L n 0 = (gvalsv L n).map eA := by simp [gMixv, gvalsv, eA, Function.comp]
theorem gMixv_n (L : List MEv) (n : Nat) : gMixv L n n = (gFv L n).map eVs := by
  unfold gMixv gFv; rw [List.map_map]
  refine List.map_congr_left fun j hj => ?_
  rw [List.mem_range] at hj; simp [hj]
theorem gMixv_set (L : List MEv) (n k : Nat) (h : k < n) : (gMixv L n k).set k (eVs (getMv L (k : Int)).2) = gMixv L n (k + 1) := by
  refine List.ext_getElem? fun j => ?_
  rw [List.getElem?_set]
  simp only [gMixv, List.getElem?_map, List.getElem?_range, List.length_map, List.length_range]
  by_cases hj : k = j
  · subst hj; rw [if_pos rfl, if_pos h]; simp [h]
  · rw [if_neg hj]
    by_cases g : j < n
    · have e : (j < k + 1) ↔ j < k := by omega
      simp [g, e]
    · simp [g]
theorem Ghost.groupv {H0 H : Heap} {n : Nat} {f : Nat → AV} {L : List MEv} {v : AV} {N : Nat} (hM : MOv H0 H L) (ho : Own H0 H 1 v N ((gvalsv L N).map eA)) (hs : SepMv L v) (hm : Mono H0 H) :
    ∃ H', Ghost n f H f H' ∧ Own H0 H' 1 v N ((gFv L N).map eVs) ∧ Mono H0 H' ∧ (∀ i, NotId v i → NotIdMv L i → H' i = H i) := by
  by_cases hN : N = 0
  · subst hN
    exact ⟨H, Ghost.refl, Own.re ho rfl (by simp [gvalsv, gFv]), hm, fun _ _ _ => rfl⟩
  obtain ⟨id, ver, rfl, hrow, hfree, hlen⟩ := Own.pos ho (by omega)
  have hsv : ∀ x : Int, NotId (getMv L x).1 id := fun x => by
    obtain ⟨_, _, hsx⟩ := hM.take x
    rcases getMv_cases L x with ⟨e, he, _, h2, _⟩ | ⟨_, h2, _⟩
    · rw [h2]; exact Sep.notId (hs e he).symm rfl
    · rw [h2]; exact NotId.nil _
  have main : ∀ k, k ≤ N → ∃ Hk, Ghost n f H f Hk ∧ Hk id = some (.row ver (gMixv L N k)) ∧ Mono H0 Hk ∧ ∀ i, i ≠ id → (∀ j : Nat, j < k → NotId (getMv L (j : Int)).1 i) → Hk i = H i := by
    intro k
    induction k with
    | zero => intro _; exact ⟨H, Ghost.refl, by rw [gMixv_0]; exact hrow, hm, fun _ _ _ => rfl⟩
    | succ k ih =>
      intro hk
      obtain ⟨Hk, g1, g2, g3, g4⟩ := ih (by omega)
      obtain ⟨oA, _, oC⟩ := hM.take (k : Int)
      have oK : Own H0 Hk 3 (getMv L (k : Int)).1 (getMv L (k : Int)).2.length ((getMv L (k : Int)).2.flatMap eV) := by
        rcases oA with h | ⟨id', ver', h1, h2, h3⟩
        · exact .inl h
        · refine .inr ⟨id', ver', h1, (g4 id' ?_ fun j hj => ?_).trans h2, h3⟩
          · intro e; subst e; exact hsv (k : Int) _ _ _ _ _ h1 rfl
          · rcases getMv_cases L (j : Int) with ⟨e, he, h5, h6, _⟩ | ⟨_, h6, _⟩
            · rw [h6]
              have : e ∈ restMv L (k : Int) := List.mem_filter.2 ⟨he, by simp; omega⟩
              exact Sep.notId (oC e this).symm h1
            · rw [h6]; exact NotId.nil _
      obtain ⟨H', a1, a2, a3, a4⟩ := Ghost.ownCell (n := n) (f := f) (k := k) oK g2 hfree (by simp [gMixv, show k < N from by omega]) (hsv _) g3
      refine ⟨H', g1.trans a1, ?_, a3, fun i h1 h2 => (a4 i h1 (h2 k (by omega))).trans (g4 i h1 fun j hj => h2 j (by omega))⟩
      rw [a2, ← gMixv_set L N k (by omega)]; rfl
  obtain ⟨H', b1, b2, b3, b4⟩ := main N (Nat.le_refl _)
  refine ⟨H', b1, .inr ⟨id, ver, rfl, by rw [← gMixv_n]; exact b2, hfree, by simp [gFv]⟩, b3, fun i h1 h2 => b4 i (fun e => ?_) fun j _ => h2.get _⟩
  exact h1 _ _ _ _ _ rfl e
theorem AWP.frzGroupv {P : Program} {c : Code} {Q : Exit → (Nat → AV) → Heap → Prop} {H0 H : Heap} {n : Nat} {f : Nat → AV} {L : List MEv} {v : AV} {N : Nat} (hM : MOv H0 H L) (ho : Own H0 H 1 v N ((gvalsv L N).map eA)) (hs : SepMv L v) (hm : Mono H0 H)
    (hK : ∀ H', Own H0 H' 1 v N ((gFv L N).map eVs) → Mono H0 H' → (∀ i, NotId v i → NotIdMv L i → H' i = H i) → AWP P n c Q f H') : AWP P n c Q f H :=
  let ⟨H', g, o, m, k⟩ := Ghost.groupv (n := n) (f := f) hM ho hs hm
  .ghost g (hK H' o m k)
theorem MOv.fresh {H0 H H' : Heap} {L : List MEv} {es len : Nat} {v : AV} {cells : List AV} (h : MOv H0 H L) (o : Own H H' es v len cells) : SepMv L v := fun e he => Sep.fresh (h.1 e he) o
theorem MOv.base {Hb H0 H : Heap} {L : List MEv} (h : MOv H0 H L) (m : Mono Hb H0) : MOv Hb H L := ⟨fun e he => Own.base (h.1 e he) m, h.2⟩
theorem MOv.free {H0 H : Heap} {L : List MEv} {j : Nat} {b : AB} (h : MOv H0 H L) (hb : H0 j = some b) : NotIdMv L j := fun e he => Own.free (h.1 e he) hb
end Go.Proofs.U
namespace Go.Proofs.U
open Go Go.AH Go.Proofs.T
set_option maxRecDepth 4000
theorem gldv {L : List MEv} {n : Nat} {x : Int} (h0 : 0 ≤ x) (h1 : x < n) : loadv false 1 (x.toNat * 1) ((gvalsv L n).map eA) = some (getMv L x).1 := by
  have := ld1 (xs := gvalsv L n) (e := eA) h0 (by rw [gvalsv_len]; exact h1)
  rw [gvalsv_at h0 h1] at this; exact this
def hdJ (vs : List VT) (ed : List Ed) (sh : List Int) (x j : Int) : List VT := if at_ sh j = 0 then [] else (if (at_ ed j).A = x then [at_ vs (at_ ed j).B] else []) ++ (if (at_ ed j).B = x then [at_ vs (at_ ed j).A] else [])
def hdU (vs : List VT) (ed : List Ed) (sh : List Int) (k : Int) (x : Int) : List VT := F_ (fun j => hdJ vs ed sh x j) k
def hdM (vs : List VT) (ed : List Ed) (sh : List Int) (k : Int) (x : Int) : List VT := hdU vs ed sh k x ++ if (at_ ed k).A = x then [at_ vs (at_ ed k).B] else []
section
variable {vs : List VT} {ed : List Ed} {sh : List Int} {k : Int} {L : List MEv} {w : AV} {xs : List VT}
theorem hd_Z (h0 : 0 ≤ k) (hz : at_ sh k = 0) (h : ∀ x, (getMv L x).2 = hdU vs ed sh k x) : ∀ x, (getMv L x).2 = hdU vs ed sh (k + 1) x := fun x => by
  have := F_step (f := fun j => hdJ vs ed sh x j) h0
  have e : hdJ vs ed sh x k = [] := by unfold hdJ; rw [if_pos hz]
  rw [e, List.append_nil] at this
  rw [h x]; exact this
theorem hd_A (h : ∀ x, (getMv L x).2 = hdU vs ed sh k x) (hx : xs = (getMv L (at_ ed k).A).2 ++ [at_ vs (at_ ed k).B]) : ∀ x, (getMv (putMv L (at_ ed k).A w xs) x).2 = hdM vs ed sh k x := fun x => by
  rw [getMv_put]; unfold hdM
  by_cases e : x = (at_ ed k).A
  · subst e; rw [if_pos rfl, if_pos rfl, hx, h]
  · rw [if_neg e, if_neg (fun g => e g.symm), List.append_nil, h]
theorem hd_B (h0 : 0 ≤ k) (hz : ¬ at_ sh k = 0) (h : ∀ x, (getMv L x).2 = hdM vs ed sh k x) (hx : xs = (getMv L (at_ ed k).B).2 ++ [at_ vs (at_ ed k).A]) : ∀ x, (getMv (putMv L (at_ ed k).B w xs) x).2 = hdU vs ed sh (k + 1) x := fun x => by
  have e2 := F_step (f := fun j => hdJ vs ed sh x j) h0
  have e3 : hdJ vs ed sh x k = (if (at_ ed k).A = x then [at_ vs (at_ ed k).B] else []) ++ (if (at_ ed k).B = x then [at_ vs (at_ ed k).A] else []) := by unfold hdJ; rw [if_neg hz]
  have e4 : hdM vs ed sh k x ++ (if (at_ ed k).B = x then [at_ vs (at_ ed k).A] else []) = F_ (fun j => hdJ vs ed sh x j) (k + 1) := by
    unfold hdM hdU; rw [List.append_assoc, ← e3]; exact e2
  rw [getMv_put]
  unfold hdU; rw [← e4]
  by_cases e : x = (at_ ed k).B
  · subst e; rw [if_pos rfl, if_pos rfl, hx, h]
  · rw [if_neg e, if_neg (fun g => e g.symm), List.append_nil, h]
theorem hdU_len (x : Int) : (hdU vs ed sh k x).length ≤ 2 * k.toNat := F_len fun j _ _ => by unfold hdJ; split <;> (try split) <;> (try split) <;> simp
theorem hdM_len (x : Int) : (hdM vs ed sh k x).length ≤ 2 * k.toNat + 1 := by
  unfold hdM; rw [List.length_append]
  have := hdU_len (vs := vs) (ed := ed) (sh := sh) (k := k) x
  split <;> simp <;> omega
end
def hdR (vs : List VT) (ed : List Ed) (sh : List Int) : List (List VT) := (List.range vs.length).map fun (x : Nat) => hdU vs ed sh ed.length (x : Int)
theorem hdR_len (vs : List VT) (ed : List Ed) (sh : List Int) : (hdR vs ed sh).length = vs.length := by simp [hdR]
theorem hdR_at {vs : List VT} {ed : List Ed} {sh : List Int} {x : Int} (h0 : 0 ≤ x) (h1 : x < vs.length) : at_ (hdR vs ed sh) x = hdU vs ed sh ed.length x := by
  have h : x.toNat < vs.length := by omega
  have e : ((x.toNat : Nat) : Int) = x := by omega
  simp [at_, hdR, h, e]
theorem gF_hd {vs : List VT} {ed : List Ed} {sh : List Int} {L : List MEv} {k : Int} (h : ∀ x, (getMv L x).2 = hdU vs ed sh k x) (hk : k = ed.length) : gFv L vs.length = hdR vs ed sh := by
  subst hk; unfold gFv hdR; exact List.map_congr_left fun j _ => h _
def notF (l : List Int) : Bool := decide (¬ (l.length : Int) = 4)
def idxF (l : List (List Int)) : Int := match l.findIdx? notF with | some k => k | none => -1
theorem idxF_hit {l : List (List Int)} {i : Int} (h0 : 0 ≤ i) (h1 : i < l.length) (hp : ∀ j : Int, 0 ≤ j → j < i → notF (at_ l j) = false) (h : notF (at_ l i) = true) : i = idxF l := by
  have hl : i.toNat < l.length := by omega
  have e : l.findIdx? notF = some i.toNat := by
    rw [List.findIdx?_eq_some_iff_getElem]
    refine ⟨hl, ?_, fun j hj => ?_⟩
    · have : at_ l i = l[i.toNat] := by simp [at_, hl]
      rw [← this]; exact h
    · have := hp j (by omega) (by omega)
      have hj' : j < l.length := by omega
      have e2 : at_ l (j : Int) = l[j] := by simp [at_, hj']
      rw [e2] at this; simp [this]
  unfold idxF; rw [e]; simp only; omega
theorem idxF_none {l : List (List Int)} {i : Int} (h1 : (l.length : Int) ≤ i) (hp : ∀ j : Int, 0 ≤ j → j < i → notF (at_ l j) = false) : (-1 : Int) = idxF l := by
  have e : l.findIdx? notF = none := by
    rw [List.findIdx?_eq_none_iff]
    intro x hx
    obtain ⟨k, h2, h3⟩ := List.getElem_of_mem hx
    have := hp k (by omega) (by omega)
    have e2 : at_ l (k : Int) = l[k] := by simp [at_, h2]
    rw [e2, h3] at this; exact this
  unfold idxF; rw [e]
theorem idxF_any (l : List (List Int)) : decide (idxF l ≥ 0) = l.any notF := by
  unfold idxF
  cases h : l.findIdx? notF with
  | none =>
    rw [List.findIdx?_eq_none_iff] at h
    have : l.any notF = false := by rw [List.any_eq_false]; intro x hx; rw [h x hx]; decide
    rw [this]; rfl
  | some k =>
    rw [List.findIdx?_eq_some_iff_getElem] at h
    obtain ⟨h1, h2, _⟩ := h
    have : l.any notF = true := List.any_eq_true.2 ⟨_, List.getElem_mem h1, h2⟩
    rw [this, decide_eq_true_eq]; simp only; omega
theorem fourF {l : List (List Int)} (h : l.any notF = false) : ∀ f : Int, 0 ≤ f → f < l.length → (at_ l f).length = 4 := fun f h0 h1 => by
  rw [List.any_eq_false] at h
  have := h _ (at_mem h0 h1)
  simp only [notF, decide_eq_true_eq, Classical.not_not] at this
  omega
noncomputable def patR (vs : List VT) (fs : List (List Int)) (cr : List CrT) (skin : Int) : List PatchT × Int :=
  if (levelR vs fs cr).2 ≠ 0 then ([], (levelR vs fs cr).2)
  else if fs.any notF then ([], 14)
  else (U_ (fun f => patchQ vs fs (buildT vs.length fs) (sharpR (buildT vs.length fs) cr).1 (hdR vs (buildT vs.length fs).ed (sharpR (buildT vs.length fs) cr).1) f skin) fs.length, 0)
section
variable {vs : List VT} {fs : List (List Int)} {cr : List CrT} {skin : Int}
theorem pat_1 (h : ¬ (levelR vs fs cr).2 = 0) : patR vs fs cr skin = ([], (levelR vs fs cr).2) := by unfold patR; rw [if_pos h]
theorem pat_2 (h : (levelR vs fs cr).2 = 0) (g : fs.any notF = true) : patR vs fs cr skin = ([], 14) := by unfold patR; rw [if_neg (fun k => k h), if_pos g]
theorem pat_3 (h : (levelR vs fs cr).2 = 0) (g : fs.any notF = false) : patR vs fs cr skin = (U_ (fun f => patchQ vs fs (buildT vs.length fs) (sharpR (buildT vs.length fs) cr).1 (hdR vs (buildT vs.length fs).ed (sharpR (buildT vs.length fs) cr).1) f skin) fs.length, 0) := by
  unfold patR; rw [if_neg (fun k => k h), if_neg (by rw [g]; decide)]
theorem shpF (mid : MidC vs fs cr) (h : (levelR vs fs cr).2 = 0) (g : fs.any notF = false) : ShpF vs fs (buildT vs.length fs) (sharpR (buildT vs.length fs) cr).1 (hdR vs (buildT vs.length fs).ed (sharpR (buildT vs.length fs) cr).1) := by
  obtain ⟨hok, hsh, hfar, he⟩ := level_ok h
  have m1 := mid.v
  have tf := topo_facts hok (by omega) mid.f mid.s
  have sf := sharp_facts mid.c hsh
  have hg := hok.2.1
  have hvv := any_in hfar
  refine ⟨mid.v, hg, hvv, mid.f, fourF g, ok_rng hok, tf, fun v v0 v1 f hf => ?_, rnd_len hok, by rw [hdR_len], fun v v0 v1 => ?_, fun v v0 v1 => ?_, sf.len, fun i i0 i1 hz v hv => ?_, fun a b hab => ?_⟩
  · rw [fan_at hok v0 v1] at hf
    exact fan_mem hok v0 v1 f hf
  · rw [hdR_at v0 v1]
    have hl := hdU_len (vs := vs) (ed := (buildT vs.length fs).ed) (sh := (sharpR (buildT vs.length fs) cr).1) (k := (buildT vs.length fs).ed.length) v
    have := tf.el
    refine ⟨by omega, fun p hp => ?_⟩
    obtain ⟨j, j0, j1, hj⟩ := mem_F hp
    have hab := tf.ab _ (at_mem j0 j1)
    unfold hdJ at hj
    split at hj
    · cases hj
    · rcases List.mem_append.1 hj with q | q
      · split at q
        · simp only [List.mem_singleton] at q; subst q; exact hvv _ (at_mem hab.2.1 hab.2.2)
        · cases q
      · split at q
        · simp only [List.mem_singleton] at q; subst q; exact hvv _ (at_mem hab.1.1 hab.1.2)
        · cases q
  · rw [hdR_at v0 v1]
    intro p hp
    obtain ⟨j, j0, j1, hj⟩ := mem_F hp
    have hab := tf.ab _ (at_mem j0 j1)
    unfold hdJ at hj
    split at hj
    · cases hj
    · rcases List.mem_append.1 hj with q | q
      · split at q
        · simp only [List.mem_singleton] at q; subst q; exact at_mem hab.2.1 hab.2.2
        · cases q
      · split at q
        · simp only [List.mem_singleton] at q; subst q; exact at_mem hab.1.1 hab.1.2
        · cases q
  · have hne : edgedS (buildT vs.length fs) i = false := by
      cases hx : edgedS (buildT vs.length fs) i
      · rfl
      · have := sf.edged i i0 i1 hx; omega
    have q := tf.fg i i0 i1 hne
    have hm := at_mem i0 i1
    rw [(build_ok hok).1] at hm
    have hk := mem_eOut.1 hm
    rw [(build_ok hok).1] at q hv ⊢
    simp only at q hv ⊢
    generalize AH.at_ (eOut fs vs.length vs.length) i = e at *
    have s1 : 0 ≤ alongS fs e.A e.B := by rw [← hk.2.2.2.1]; exact q.1.1
    have s2 : 0 ≤ alongS fs e.B e.A := by rw [← hk.2.2.2.2.1]; exact q.2.1
    have o1 := of_side hg s1
    have o2 := of_side' hg s1
    have o3 := of_side hg s2
    have o4 := of_side' hg s2
    rw [hk.2.2.2.1, hk.2.2.2.2.1]
    rcases hv with rfl | rfl
    · exact ⟨⟨s1, o1.1, o1.2.1⟩, s2, o4.1, o4.2.1⟩
    · exact ⟨⟨s1, o2.1, o2.2.1⟩, s2, o3.1, o3.2.1⟩
  · have hs := en_spec hok hab
    have e0 : en vs.length (buildT vs.length fs) a b - vs.length = optI (findS (buildT vs.length fs) a b) := by unfold en; omega
    rw [e0] at hs
    refine ⟨?_, by unfold en at hs; omega, by omega⟩
    rcases hab with q | q
    · obtain ⟨g1, g2, _⟩ := along_some q
      obtain ⟨i, i0, i1, e1, e2⟩ := mem_wayF.1 g2
      have hf := find_law hok q g1 i0 i1
      rw [← e1, ← e2] at hf; exact hf.1
    · obtain ⟨g1, g2, _⟩ := along_some q
      obtain ⟨i, i0, i1, e1, e2⟩ := mem_wayF.1 g2
      have hf := find_law hok q g1 i0 i1
      rw [← e1, ← e2] at hf
      have hc : findS (buildT vs.length fs) a b = findS (buildT vs.length fs) b a := by unfold findS; rw [Int.min_comm, Int.max_comm]
      rw [hc]; exact hf.1
end
theorem ePatch_one (x : PatchT) : (ePatch x).all AV.one = true := by
  rw [List.all_eq_true]
  intro c hc
  unfold ePatch at hc
  rcases List.mem_append.1 hc with h | h
  · exact one_flat eV_one c h
  · rcases List.mem_append.1 h with h | h
    · exact one_map (fun _ => rfl) c h
    · rcases List.mem_append.1 h with h | h
      · exact one_flat eV_one c h
      · rw [List.mem_singleton] at h; subst h; rfl
theorem fill_patch (x : PatchT) {Z : List AV} (hz : Z.length = 65) : fillA (fun i => some (i * 65, 65)) Z [(0, .agg (ePatch x))] = some (ePatch x) :=
  fill_step (off := 0) (size := 65) rfl (ePatch_one x) (ePatch_len x) (blelen hz (by decide)) (wr_all hz (ePatch_len x)) rfl
theorem src_patch {H : Heap} {id ver : Nat} {x : PatchT} (hid : H id = some (.row ver (ePatch x))) : Src H 65 (.slm id ver 65 0 1) 1 (ePatch x) := by
  have h := Src.slm (es := 65) (off := 0) (m := 1) hid (blelen (ePatch_len x) (by decide))
  rwa [List.drop_zero, List.take_of_length_le (by rw [ePatch_len]; decide)] at h
end Go.Proofs.U
namespace Go.Proofs.U
open Go Go.AH Go.Proofs.T
set_option maxRecDepth 4000
set_option linter.unusedSectionVars false
section
variable {vs : List VT} {fs : List (List Int)} {cr : List CrT}
theorem SmallC.next (x : SmallC vs fs cr) (hcS : ∀ c ∈ cr, c.S ≤ 9223372036854775807) (h : (levelR vs fs cr).2 = 0) : MidC (levelR vs fs cr).1.Verts (levelR vs fs cr).1.Faces (levelR vs fs cr).1.Creases := by
  obtain ⟨hok, hsh, hfar, he⟩ := level_ok h
  have hv1 := x.v
  have hf1 := x.f
  have hs1 := x.s
  have tf := topo_facts hok (by omega) (by omega) (by omega)
  have sf := sharp_facts hcS hsh
  have h2 := two_law hok
  have h3 := two_le (buildT vs.length fs).ed (buildT vs.length fs).ed.length
  have h4 := level_vlen h
  have h5 : ∀ l ∈ (levelR vs fs cr).1.Faces, l.length = 4 := by rw [he]; exact far_four
  have h6 : (levelR vs fs cr).1.Faces.length = (sides fs).length := by rw [he]; exact far_len
  have h7 := four_sides h5
  refine ⟨by omega, by omega, by omega, fun l hl => by have := h5 l hl; omega, ?_, ?_⟩
  · rw [he]; exact crease_S sf
  · rw [he]
    have h8 := crR_len vs.length (buildT vs.length fs) (sharpR (buildT vs.length fs) cr).1 (buildT vs.length fs).ed.length
    have h9 := tf.el
    show (crR _ _ _ _).length ≤ _
    omega
end
section
variable {vs : List VT} {fs : List (List Int)} {t : Tp} {sh : List Int} {hd : List (List VT)} (S : ShpF vs fs t sh hd) {b : BoxT} (hb : ∀ p ∈ vs, hasB b p)
include S hb
end
section
variable {vs : List VT} {fs : List (List Int)} {t : Tp} {sh : List Int} {hd : List (List VT)} (S : ShpF vs fs t sh hd)
include S
end
end Go.Proofs.U
namespace Go.Proofs.U
open Go Go.AH Go.Proofs.T
set_option maxRecDepth 4000
set_option linter.unusedSimpArgs false
set_option linter.unusedVariables false
set_option maxHeartbeats 4000000
theorem c_notF (l : List Int) (hl : l.length ≤ 1048576) : PC Try.prog 51 [.sl l.length (l.map eI)] (.bool (notF l)) := by
 intro H0
 refine ACalls.of_body' (n := 6) rfl rfl rfl rfl ?_
 have m0 := Mono.refl H0
 refine Sr ?_
 refine A rfl rfl ?_
 refine Sr ?_
 refine V rfl rfl (C rfl (AOp.len (m := l.length) rfl rfl (.inr (.inl ⟨_, rfl⟩)) u_38 (B rfl rfl rfl ine (A rfl rfl ?_))))
 refine rt_ ?_
 refine Rr (Res.one rfl rfl) ?_ m0
 exact (congrArg AV.bool (show (!decide ((l.length : Int) = 4) : Bool) = notF l from by first | rfl | (unfold notF; simp_all) | (unfold notF; rw [decide_not])))
theorem c_idxF (l : List (List Int)) (hl : l.length ≤ 1048576) (hls : ∀ x ∈ l, x.length ≤ 1048576) : PC Try.prog 68 [.sl l.length (l.map eF), .fn 51 []] (.int .i64 (idxF l)) := by
 intro H0
 refine ACalls.of_body' (n := 19) rfl rfl rfl rfl ?_
 have m0 := Mono.refl H0
 refine Sr ?_
 refine A rfl rfl ?_
 refine AWP.seq ?_
 refine Sr ?_
 refine V rfl rfl (C rfl (AOp.len (m := l.length) rfl rfl (.inr (.inl ⟨_, rfl⟩)) u_23 (V rfl rfl ?_)))
 refine bk_ ?_
 refine AWP.loop (fun q1 fq Hq => ∃ (i : Int), q1 = (((l.length : Int) : Int) - i).toNat ∧ fq 8 = .int .i64 i ∧ fq 0 = .sl l.length (l.map eF) ∧ fq 1 = .fn 51 [] ∧ fq 7 = .int .i64 (l.length : Int) ∧ Mono H0 Hq ∧ (0 ≤ i) ∧ (i ≤ (l.length : Int)) ∧ (∀ j : Int, 0 ≤ j → j < i → notF (at_ l j) = false)) (k := (((l.length : Int) : Int) - 0).toNat) ?_ ?_
 exact ⟨0, rfl, rfl, rfl, rfl, rfl, m0, by omega, by omega, by intro j; omega⟩
 rintro _ f3 H2 ⟨i, rfl, s4, s5, s6, s7, m8, hi0, hi1, pre⟩
 refine Sr ?_
 refine B rfl s4 s7 rfl ?_
 refine AWP.seq ?_
 by_cases b9 : i < (l.length : Int)
 refine ct_ rfl (decide_eq_true b9) ?_
 refine AWP.skip ?_
 refine AWP.seq ?_
 refine bk_ ?_
 refine Sr ?_
 refine V rfl s4 (A rfl rfl ?_)
 refine Sr ?_
 refine V rfl s6 (V rfl s5 (V rfl rfl (C rfl (iS_ rfl rfl rfl sl_23 (by omega) (by omega) (L rfl rfl ty_38 (ld1 (by omega) (by omega)) (C rfl (Pc («as» := [.sl (at_ l i).length ((at_ l i).map eI)]) rfl rfl (rfl) tf_51 (c_notF _ (hls _ (at_mem hi0 (by omega)))) ?_)))))))
 intro H10 m11
 have m12 := m8.trans m11
 refine AOps.nil ?_
 change AWP _ _ _ _ _ _
 rcases Bool.eq_false_or_eq_true (notF (at_ l i)) with b13 | b13
 refine ct_ rfl b13 ?_
 refine Sr ?_
 refine V rfl rfl (A rfl rfl ?_)
 refine rt_ ?_
 refine Rr (Res.one rfl rfl) ?_ m12
 exact (congrArg (AV.int .i64) (show (i : Int) = idxF l from by exact idxF_hit hi0 (by omega) pre b13))
 refine cf_ rfl b13 ?_
 refine AWP.skip ?_
 refine AWP.region rfl ?_
 refine B rfl s4 rfl (iadd (by omega)) (V rfl rfl ?_)
 refine AOps.nil ?_
 exact ⟨_, by omega, i + 1, rfl, rfl, s5, s6, s7, m12, by omega, by omega, by exact fun j j0 j1 => if e : j = i then e ▸ b13 else pre j j0 (by omega)⟩
 refine cf_ rfl (decide_eq_false b9) ?_
 refine AWP.exit ?_
 change AWP _ _ _ _ _ _
 refine Sr ?_
 refine A rfl rfl ?_
 refine rt_ ?_
 refine Rr (Res.one rfl rfl) ?_ m8
 exact (congrArg (AV.int .i64) (show (-1 : Int) = idxF l from by exact idxF_none (by omega) pre))
theorem c_anyF (l : List (List Int)) (hl : l.length ≤ 1048576) (hls : ∀ x ∈ l, x.length ≤ 1048576) : PC Try.prog 50 [.sl l.length (l.map eF), .fn 51 []] (.bool (l.any notF)) := by
 intro H0
 refine ACalls.of_body' (n := 9) rfl rfl rfl rfl ?_
 have m0 := Mono.refl H0
 refine Sr ?_
 refine A rfl rfl ?_
 refine Sr ?_
 refine V rfl rfl (V rfl rfl (C rfl (Pc («as» := [.sl l.length (l.map eF), .fn 51 []]) rfl rfl (rfl) tf_68 (c_idxF _ (by omega) (by assumption)) ?_)))
 intro H1 m2
 have m3 := m0.trans m2
 refine B rfl rfl rfl rfl (A rfl rfl ?_)
 refine rt_ ?_
 refine Rr (Res.one rfl rfl) ?_ m3
 exact (congrArg AV.bool (show (decide (idxF l ≥ 0) : Bool) = l.any notF from by exact idxF_any l))
theorem c_Patches (vs : List VT) (fs : List (List Int)) (cr : List CrT) (mid : MidC vs fs cr) (skin : Int) : PC Try.prog 30 [.agg [.sl vs.length (vs.flatMap eV), .sl fs.length (fs.map eF), .sl cr.length (cr.flatMap eCr)], .int .i64 skin] (.tup [.sl ((patR vs fs cr skin).1).length (((patR vs fs cr skin).1).flatMap ePatch), .int .i64 ((patR vs fs cr skin).2)]) := by
 intro H0
 have hm1 := mid.v
 have hm2 := mid.f
 have hm3 := mid.s
 have hm4 := mid.cl
 refine ACalls.of_body' (n := 127) rfl rfl rfl rfl ?_
 have m0 := Mono.refl H0
 refine Sr ?_
 refine C rfl (bx_ (.agg [.sl vs.length (vs.flatMap eV), .sl fs.length (fs.map eF), .sl cr.length (cr.flatMap eCr)]) rfl rfl rfl ?_)
 intro i1 H2 n3 h4 k5
 have z6 := Mono.free m0 n3
 have m7 := Mono.new m0 n3 k5
 refine C rfl (As (.snil) rfl rfl (C rfl (As (.int .i64 0) rfl rfl ?_)))
 refine AWP.seq ?_
 refine AWP.seq ?_
 refine fz_ 2 h4 z6 rfl m7 fun H8 m9 k10 => ?_
 refine AWP.region rfl ?_
 refine C rfl (Lf (.agg [.sl vs.length (vs.flatMap eV), .sl fs.length (fs.map eF), .sl cr.length (cr.flatMap eCr)]) rfl rfl ty_26 rfl (C rfl (Pc («as» := [.agg [.sl vs.length (vs.flatMap eV), .sl fs.length (fs.map eF), .sl cr.length (cr.flatMap eCr)]]) rfl rfl (rfl) tf_15 (c_Level vs fs cr mid.v mid.f mid.fs mid.s mid.cl mid.c) ?_)))
 intro H11 m12
 have m13 := m9.trans m12
 refine C rfl (Mv (.tup [.agg [.sl ((levelR vs fs cr).1.Verts).length (((levelR vs fs cr).1.Verts).flatMap eV), .sl ((levelR vs fs cr).1.Faces).length (((levelR vs fs cr).1.Faces).map eF), .sl ((levelR vs fs cr).1.Creases).length (((levelR vs fs cr).1.Creases).flatMap eCr)], .int .i64 ((levelR vs fs cr).2)]) rfl rfl (C rfl (Ex (.agg [.sl ((levelR vs fs cr).1.Verts).length (((levelR vs fs cr).1.Verts).flatMap eV), .sl ((levelR vs fs cr).1.Faces).length (((levelR vs fs cr).1.Faces).map eF), .sl ((levelR vs fs cr).1.Creases).length (((levelR vs fs cr).1.Creases).flatMap eCr)]) rfl rfl rfl (C rfl (Ex (.int .i64 ((levelR vs fs cr).2)) rfl rfl rfl (C rfl (al_ rfl tz_26 ?_)))))))
 intro i14 H15 n16 h17 k18
 have z19 := Mono.free m13 n16
 have m20 := Mono.new m13 n16 k18
 refine C rfl (Sw rfl rfl ts_26 h17 rfl rfl rfl ?_)
 intro H21 h22 k23
 have m25 := Mono.set m20 z19 k23
 refine C rfl (As (.int .i64 ((levelR vs fs cr).2)) rfl rfl ?_)
 refine AWP.seq ?_
 refine fz_ 6 h22 z19 rfl m25 fun H26 m27 k28 => ?_
 refine AWP.region rfl ?_
 refine C rfl (Mv (.int .i64 ((levelR vs fs cr).2)) rfl rfl (C rfl (Bi (.bool (!decide ((levelR vs fs cr).2 = 0))) rfl rfl rfl ine ?_)))
 refine AOps.nil ?_
 change AWP _ _ _ _ _ _
 by_cases b29 : (levelR vs fs cr).2 = 0
 refine cf_ rfl (nb (decide_eq_true b29)) ?_
 refine AWP.skip ?_
 refine AWP.seq ?_
 refine Sr ?_
 refine F rfl rfl fl_26_1 (C rfl (Lf (.sl fs.length (fs.map eF)) rfl rfl ty_23 rfl (C rfl (Pc («as» := [.sl fs.length (fs.map eF), .fn 51 []]) rfl rfl (rfl) tf_50 (c_anyF _ (by omega) (fun l hl => Nat.le_trans (mid.fs l hl) (by decide))) ?_))))
 intro H30 m31
 have m32 := m27.trans m31
 refine AOps.nil ?_
 change AWP _ _ _ _ _ _
 rcases Bool.eq_false_or_eq_true (fs.any notF) with b33 | b33
 refine ct_ rfl b33 ?_
 refine Sr ?_
 refine C rfl (As (.snil) rfl rfl (C rfl (As (.int .i64 14) rfl rfl ?_)))
 refine rt_ ?_
 refine Fin.frz 4 (Own.nil H0 H30 1) rfl m32 fun H34 m35 k36 => ?_
 refine Rr (Res.two rfl rfl rfl) ?_ m35
 exact congrArg AV.tup (lc (congrArg (fun l : List PatchT => AV.sl l.length (l.flatMap ePatch)) (show ([] : List PatchT) = (patR vs fs cr skin).1 from by rw [pat_2 b29 b33])) (lc (congrArg (AV.int .i64) (show (14 : Int) = (patR vs fs cr skin).2 from by rw [pat_2 b29 b33])) rfl))
 refine cf_ rfl b33 ?_
 refine AWP.skip ?_
 refine AWP.seq ?_
 have hl0 := level_ok b29
 have hok := hl0.1
 have tf := topo_facts hok (by omega) mid.f mid.s
 have hel := tf.el
 have sf := sharp_facts mid.c hl0.2.1
 have hsl := sf.len
 have S := shpF mid b29 b33
 refine AWP.region rfl ?_
 refine F rfl rfl fl_26_0 (C rfl (Lf (.sl vs.length (vs.flatMap eV)) rfl rfl ty_22 rfl (C rfl (AOp.len (m := vs.length) rfl rfl (.inr (.inl ⟨_, rfl⟩)) u_22 (F rfl rfl fl_26_1 (C rfl (Lf (.sl fs.length (fs.map eF)) rfl rfl ty_23 rfl (C rfl (Pc («as» := [.int .i64 (vs.length : Int), .sl fs.length (fs.map eF)]) rfl rfl (rfl) tf_16 (c12 _ (by omega) (fun l hl => Nat.le_trans (mid.fs l hl) (by decide)) _ (by omega) (by omega)) ?_)))))))))
 intro H37 m38
 have m39 := m32.trans m38
 refine C rfl (Mv (.tup [.agg [.sl ((buildT vs.length fs).ed).length (((buildT vs.length fs).ed).flatMap eE), .sl ((buildT vs.length fs).fan).length (((buildT vs.length fs).fan).map eF), .sl ((buildT vs.length fs).rnd).length (((buildT vs.length fs).rnd).map eBo)], .int .i64 (buildE vs.length fs)]) rfl rfl (C rfl (Ex (.agg [.sl ((buildT vs.length fs).ed).length (((buildT vs.length fs).ed).flatMap eE), .sl ((buildT vs.length fs).fan).length (((buildT vs.length fs).fan).map eF), .sl ((buildT vs.length fs).rnd).length (((buildT vs.length fs).rnd).map eBo)]) rfl rfl rfl (C rfl (Ex (.int .i64 (buildE vs.length fs)) rfl rfl rfl (C rfl (al_ rfl tz_35 ?_)))))))
 intro i40 H41 n42 h43 k44
 have z45 := Mono.free m39 n42
 have m46 := Mono.new m39 n42 k44
 refine C rfl (Sw rfl rfl ts_35 h43 rfl rfl rfl ?_)
 intro H47 h48 k49
 have m51 := Mono.set m46 z45 k49
 refine C rfl (As (.int .i64 (buildE vs.length fs)) rfl rfl ?_)
 refine AWP.seq ?_
 refine fz_ 8 h48 z45 rfl m51 fun H52 m53 k54 => ?_
 refine AWP.region rfl ?_
 refine C rfl (Lf (.agg [.sl vs.length (vs.flatMap eV), .sl fs.length (fs.map eF), .sl cr.length (cr.flatMap eCr)]) rfl rfl ty_26 rfl (C rfl (Lf (.agg [.sl ((buildT vs.length fs).ed).length (((buildT vs.length fs).ed).flatMap eE), .sl ((buildT vs.length fs).fan).length (((buildT vs.length fs).fan).map eF), .sl ((buildT vs.length fs).rnd).length (((buildT vs.length fs).rnd).map eBo)]) rfl rfl ty_35 rfl (C rfl (Pc («as» := [.agg [.sl vs.length (vs.flatMap eV), .sl fs.length (fs.map eF), .sl cr.length (cr.flatMap eCr)], .agg [.sl ((buildT vs.length fs).ed).length (((buildT vs.length fs).ed).flatMap eE), .sl ((buildT vs.length fs).fan).length (((buildT vs.length fs).fan).map eF), .sl ((buildT vs.length fs).rnd).length (((buildT vs.length fs).rnd).map eBo)]]) rfl rfl (rfl) tf_17 (c_Sharp _ _ _ _ (by omega) (by omega) tf.se) ?_)))))
 intro H55 m56
 have m57 := m53.trans m56
 refine C rfl (Mv (.tup [.sl ((sharpR (buildT vs.length fs) cr).1).length (((sharpR (buildT vs.length fs) cr).1).map eI), .int .i64 ((sharpR (buildT vs.length fs) cr).2)]) rfl rfl (C rfl (Ex (.sl ((sharpR (buildT vs.length fs) cr).1).length (((sharpR (buildT vs.length fs) cr).1).map eI)) rfl rfl rfl (C rfl (Ex (.int .i64 ((sharpR (buildT vs.length fs) cr).2)) rfl rfl rfl (C rfl (As (.sl ((sharpR (buildT vs.length fs) cr).1).length (((sharpR (buildT vs.length fs) cr).1).map eI)) rfl rfl (C rfl (As (.int .i64 ((sharpR (buildT vs.length fs) cr).2)) rfl rfl ?_)))))))))
 refine AWP.seq ?_
 refine AWP.region_str mixed (by kernel_rfl) [(0, none), (1, none), (2, none), (3, none), (4, none), (5, none), (6, some [0, 1, 2])] [7, 8, 9] (by kernel_rfl) ?_
 refine STR.op rfl rfl (.inl ⟨rfl, fun H1 f' H' hf hN hM => Lf (.agg [.sl vs.length (vs.flatMap eV), .sl fs.length (fs.map eF), .sl cr.length (cr.flatMap eCr)]) rfl ((hf 2 rfl).trans rfl) ty_26 rfl ⟨rfl, hN⟩⟩) ?_
 refine STR.op rfl rfl (.inl ⟨rfl, fun H1 f' H' hf hN hM => Lf (.agg [.sl ((buildT vs.length fs).ed).length (((buildT vs.length fs).ed).flatMap eE), .sl ((buildT vs.length fs).fan).length (((buildT vs.length fs).fan).map eF), .sl ((buildT vs.length fs).rnd).length (((buildT vs.length fs).rnd).map eBo)]) rfl ((hf 8 rfl).trans rfl) ty_35 rfl ⟨rfl, hN⟩⟩) ?_
 refine STR.op rfl rfl (.inl ⟨rfl, fun H1 f' H' hf hN hM => Mv (.sl ((sharpR (buildT vs.length fs) cr).1).length (((sharpR (buildT vs.length fs) cr).1).map eI)) rfl ((hf 10 rfl).trans rfl) ⟨rfl, hN⟩⟩) ?_
 refine STR.op rfl rfl (.inl ⟨rfl, fun H1 f' H' hf hN hM => Ff rfl ((hf 2 rfl).trans rfl) fl_26_0 ⟨rfl, hN⟩⟩) ?_
 refine STR.op rfl rfl (.inl ⟨rfl, fun H1 f' H' hf hN hM => Lf (.sl vs.length (vs.flatMap eV)) rfl ((hf 46 rfl).trans rfl) ty_22 rfl ⟨rfl, hN⟩⟩) ?_
 refine STR.op rfl rfl (.inl ⟨rfl, fun H1 f' H' hf hN hM => AOp.len (m := vs.length) rfl ((hf 47 rfl).trans rfl) (.inr (.inl ⟨_, rfl⟩)) u_22 ⟨rfl, hN⟩⟩) ?_
 refine STR.eff rfl rfl rfl fun f58 H59 hf60 m61 => ?_
 have m62 := m57.trans m61
 refine AOp.makeSlice_own rfl u_102 ts_22 tz_22 tb_22 (by decide) ((hf60 48 rfl).trans rfl) ((hf60 48 rfl).trans rfl) (by omega) (by omega) m62 ?_
 intro v63 H64 o65 m66 k67 j68
 have o69 : Own H0 H64 1 v63 (List.replicate (vs.length : Int).toNat AV.snil).length ((List.replicate (vs.length : Int).toNat AV.snil).map eA) := Own.re o65 (by rw [List.length_replicate]) (by rw [List.map_replicate]; rfl)
 refine ⟨_, rfl, .inl (fun i X hX => (k67 i (by rw [hX]; simp)).trans hX), ?_⟩
 refine STR.done fun H70 m71 => ?_
 have o72 := Own.mono o69 m71
 have m73 := m66.trans m71
 refine C rfl (Bl (cells := [.sl vs.length (vs.flatMap eV), .sl fs.length (fs.map eF), .sl cr.length (cr.flatMap eCr), .sl ((buildT vs.length fs).ed).length (((buildT vs.length fs).ed).flatMap eE), .sl ((buildT vs.length fs).fan).length (((buildT vs.length fs).fan).map eF), .sl ((buildT vs.length fs).rnd).length (((buildT vs.length fs).rnd).map eBo), .sl ((sharpR (buildT vs.length fs) cr).1).length (((sharpR (buildT vs.length fs) cr).1).map eI), v63]) rfl tz_104 pl_104 rfl (fill_step rfl rfl rfl rfl rfl (fill_step rfl rfl rfl rfl rfl (fill_step rfl rfl rfl rfl rfl (fill_own o72 rfl rfl rfl rfl)))) (C rfl (bx_ (.agg [.sl vs.length (vs.flatMap eV), .sl fs.length (fs.map eF), .sl cr.length (cr.flatMap eCr), .sl ((buildT vs.length fs).ed).length (((buildT vs.length fs).ed).flatMap eE), .sl ((buildT vs.length fs).fan).length (((buildT vs.length fs).fan).map eF), .sl ((buildT vs.length fs).rnd).length (((buildT vs.length fs).rnd).map eBo), .sl ((sharpR (buildT vs.length fs) cr).1).length (((sharpR (buildT vs.length fs) cr).1).map eI), v63]) rfl rfl rfl ?_)))
 intro i74 H75 n76 h77 k78
 have z79 := Mono.free m73 n76
 have o80 := Own.keep o72 k78 (Own.notnew o72 n76)
 have no81 := Own.notnew o72 n76
 have m82 := Mono.new m73 n76 k78
 refine C rfl (As (.ptr i74 0 0) rfl rfl ?_)
 refine AWP.seq ?_
 refine AWP.seq ?_
 have oM : MOv H0 H75 [] := MOv.nil _ _
 have oG := Own.re (k := (gvalsv [] vs.length).length) (cs := (gvalsv [] vs.length).map eA) o80 (by rw [gvalsv_len, List.length_replicate]; omega) (by rw [gvalsv_nil, Int.toNat_natCast])
 skip
 refine AWP.region rfl ?_
 refine F rfl rfl fl_35_0 (C rfl (Lf (.sl ((buildT vs.length fs).ed).length (((buildT vs.length fs).ed).flatMap eE)) rfl rfl ty_32 rfl (C rfl (AOp.len (m := ((buildT vs.length fs).ed).length) rfl rfl (.inr (.inl ⟨_, rfl⟩)) u_32 (C rfl (Mv (.int .i64 0) rfl rfl ?_))))))
 refine bk_ ?_
 refine AWP.loop (fun q83 fq Hq => ∃ (i : Int) (L : List MEv) (w12_7 : AV), q83 = (((buildT vs.length fs).ed.length : Int) - i).toNat ∧ fq 55 = .int .i64 i ∧ fq 1 = .int .i64 skin ∧ fq 2 = .fptr [.sl vs.length (vs.flatMap eV), .sl fs.length (fs.map eF), .sl cr.length (cr.flatMap eCr)] 0 ∧ fq 4 = .snil ∧ fq 5 = .int .i64 0 ∧ fq 10 = .sl ((sharpR (buildT vs.length fs) cr).1).length (((sharpR (buildT vs.length fs) cr).1).map eI) ∧ fq 12 = .ptr i74 0 0 ∧ fq 53 = .sl ((buildT vs.length fs).ed).length (((buildT vs.length fs).ed).flatMap eE) ∧ fq 54 = .int .i64 ((((buildT vs.length fs).ed).length) : Int) ∧ Own H0 Hq 1 w12_7 (gvalsv L vs.length).length ((gvalsv L vs.length).map eA) ∧ NotId w12_7 i74 ∧ MOv H0 Hq L ∧ NotIdMv L i74 ∧ SepMv L w12_7 ∧ Hq i74 = some (.row 0 ([.sl vs.length (vs.flatMap eV), .sl fs.length (fs.map eF), .sl cr.length (cr.flatMap eCr), .sl ((buildT vs.length fs).ed).length (((buildT vs.length fs).ed).flatMap eE), .sl ((buildT vs.length fs).fan).length (((buildT vs.length fs).fan).map eF), .sl ((buildT vs.length fs).rnd).length (((buildT vs.length fs).rnd).map eBo), .sl ((sharpR (buildT vs.length fs) cr).1).length (((sharpR (buildT vs.length fs) cr).1).map eI), w12_7])) ∧ Mono H0 Hq ∧ (0 ≤ i) ∧ (i ≤ ((buildT vs.length fs).ed.length : Int)) ∧ (∀ x : Int, (getMv L x).2 = hdU vs (buildT vs.length fs).ed (sharpR (buildT vs.length fs) cr).1 i x)) (k := (((buildT vs.length fs).ed.length : Int) - 0).toNat) ?_ ?_
 exact ⟨0, ([] : List MEv), v63, rfl, rfl, rfl, rfl, rfl, rfl, rfl, rfl, rfl, rfl, (have hx : ((gvalsv [] vs.length) : List AV) = gvalsv ([] : List MEv) vs.length := (by first | rfl | simp); Own.re oG (congrArg List.length hx) (congrArg (fun l : List AV => l.map eA) hx)), no81, oM, (NotIdMv.nil _), (SepMv.nil _), h77, m82, by omega, by omega, by intro x; rfl⟩
 rintro _ f85 H84 ⟨i, L, w12_7, rfl, s86, s87, s88, s89, s90, s91, s92, s93, s94, o95, no96, o97, no98, sp99, h100, m101, hi0, hi1, hG⟩
 refine Sr ?_
 refine C rfl (Bi (.bool (decide (i < ((((buildT vs.length fs).ed).length) : Int)))) rfl s86 s94 rfl ?_)
 refine AWP.seq ?_
 by_cases b102 : i < ((((buildT vs.length fs).ed).length) : Int)
 refine ct_ rfl (decide_eq_true b102) ?_
 refine AWP.skip ?_
 refine AWP.seq ?_
 refine bk_ ?_
 refine Sr ?_
 refine C rfl (Mv (.int .i64 i) rfl s86 (C rfl (iS_ rfl s93 s86 sl_32 (by omega) (by omega) (C rfl (Lf (.agg [.int .i64 ((at_ ((buildT vs.length fs).ed) i).A), .int .i64 ((at_ ((buildT vs.length fs).ed) i).B), .int .i64 ((at_ ((buildT vs.length fs).ed) i).F), .int .i64 ((at_ ((buildT vs.length fs).ed) i).G)]) rfl rfl ty_47 (ldM eE_len (by omega) (by omega)) (C rfl (al_ rfl tz_47 ?_)))))))
 intro i103 H104 n105 h106 k107
 have e108 := ne_new h100 n105
 have z109 := Mono.free m101 n105
 have h110 := keep k107 (ne_new h100 n105) h100
 have o111 := Own.keep o95 k107 (Own.notnew o95 n105)
 have no112 := Own.notnew o95 n105
 have o113 := MOv.keep o97 k107 (MOv.notnew o97 n105)
 have no114 := MOv.notnew o97 n105
 have m115 := Mono.new m101 n105 k107
 refine C rfl (As (.int .i64 i) rfl rfl (C rfl (Sw rfl rfl ts_47 h106 rfl rfl rfl ?_)))
 intro H116 h117 k118
 have h119 := keep k118 e108 h110
 have o121 := Own.keep o111 k118 no112
 have o122 := MOv.keep o113 k118 no114
 have m123 := Mono.set m115 z109 k118
 refine AWP.seq ?_
 refine fz_ 14 h117 z109 rfl m123 fun H124 m125 k126 => ?_
 have h127 := (k126 _ e108).trans h119
 have o128 := Own.keep o121 k126 no112
 have o129 := MOv.keep o122 k126 no114
 have hek := tf.ab _ (at_mem (l := (buildT vs.length fs).ed) hi0 (by omega))
 refine AWP.region rfl ?_
 refine C rfl (Mv (.sl ((sharpR (buildT vs.length fs) cr).1).length (((sharpR (buildT vs.length fs) cr).1).map eI)) rfl s91 (C rfl (Mv (.int .i64 i) rfl rfl (C rfl (iS_ rfl rfl rfl sl_38 (by omega) (by omega) (C rfl (Lf (.int .i64 (at_ ((sharpR (buildT vs.length fs) cr).1) i)) rfl rfl ty_3 (ld1 (by omega) (by omega)) (C rfl (Bi (.bool (!decide (at_ ((sharpR (buildT vs.length fs) cr).1) i = 0))) rfl rfl rfl ine ?_)))))))))
 refine AOps.nil ?_
 change AWP _ _ _ _ _ _
 by_cases b130 : at_ ((sharpR (buildT vs.length fs) cr).1) i = 0
 refine cf_ rfl (nb (decide_eq_true b130)) ?_
 refine AWP.skip ?_
 refine AWP.region rfl ?_
 refine C rfl (Bi (.int .i64 (i + 1)) rfl s86 rfl (iadd (by omega)) (C rfl (Mv (.int .i64 (i + 1)) rfl rfl ?_)))
 refine AOps.nil ?_
 exact ⟨_, by omega, i + 1, L, w12_7, rfl, rfl, s87, s88, s89, s90, s91, s92, s93, s94, o128, no96, o129, no98, sp99, h127, m125, by omega, by omega, by exact hd_Z hi0 b130 hG⟩
 refine ct_ rfl (nb (decide_eq_false b130)) ?_
 refine AWP.seq ?_
 have hl1 := hdU_len (vs := vs) (ed := (buildT vs.length fs).ed) (sh := (sharpR (buildT vs.length fs) cr).1) (k := i) (at_ (buildT vs.length fs).ed i).A
 rw [← hG] at hl1
 refine AWP.region_str mixed (by kernel_rfl) [(0, none), (1, none), (2, none), (3, none), (4, none), (5, none), (6, none), (7, none), (8, none), (9, none), (10, none), (11, none), (12, none), (13, none), (14, none), (15, none), (16, none), (17, none), (18, none), (19, none), (20, some [0, 1, 2, 3, 4, 5, 6, 7, 8, 9, 10, 11, 12, 13]), (21, some [0, 1, 2, 3, 4, 5])] [22, 23] (by kernel_rfl) ?_
 refine STR.op rfl rfl (.inl ⟨rfl, fun H1 f' H' hf hN hM => Mv (.ptr i74 0 0) rfl ((hf 12 rfl).trans s92) ⟨rfl, hN⟩⟩) ?_
 refine STR.op rfl rfl (.inl ⟨rfl, fun H1 f' H' hf hN hM => nc_ (.ptr i74 0 0) rfl ((hf 65 rfl).trans rfl) rfl ⟨rfl, hN⟩⟩) ?_
 refine STR.op rfl rfl (.inl ⟨rfl, fun H1 f' H' hf hN hM => Fa rfl ((hf 66 rfl).trans rfl) fl_104_3 ⟨rfl, hN⟩ (hid := ⟨_, (hM _ _ h127)⟩)⟩) ?_
 refine STR.op rfl rfl (.inl ⟨rfl, fun H1 f' H' hf hN hM => Ld (w12_7) rfl ((hf 67 rfl).trans rfl) ty_102 (hM _ _ h127) rfl ⟨rfl, hN⟩⟩) ?_
 refine STR.op rfl rfl (.inl ⟨rfl, fun H1 f' H' hf hN hM => Ff rfl ((hf 14 rfl).trans rfl) fl_47_0 ⟨rfl, hN⟩⟩) ?_
 refine STR.op rfl rfl (.inl ⟨rfl, fun H1 f' H' hf hN hM => Lf (.int .i64 ((at_ ((buildT vs.length fs).ed) i).A)) rfl ((hf 69 rfl).trans rfl) ty_3 rfl ⟨rfl, hN⟩⟩) ?_
 refine STR.op rfl rfl (.inl ⟨rfl, fun H1 f' H' hf hN hM => Mv (.ptr i74 0 0) rfl ((hf 12 rfl).trans s92) ⟨rfl, hN⟩⟩) ?_
 refine STR.op rfl rfl (.inl ⟨rfl, fun H1 f' H' hf hN hM => nc_ (.ptr i74 0 0) rfl ((hf 71 rfl).trans rfl) rfl ⟨rfl, hN⟩⟩) ?_
 refine STR.op rfl rfl (.inl ⟨rfl, fun H1 f' H' hf hN hM => Fa rfl ((hf 72 rfl).trans rfl) fl_104_3 ⟨rfl, hN⟩ (hid := ⟨_, (hM _ _ h127)⟩)⟩) ?_
 refine STR.op rfl rfl (.inl ⟨rfl, fun H1 f' H' hf hN hM => Ld (w12_7) rfl ((hf 73 rfl).trans rfl) ty_102 (hM _ _ h127) rfl ⟨rfl, hN⟩⟩) ?_
 refine STR.op rfl rfl (.inl ⟨rfl, fun H1 f' H' hf hN hM => Ff rfl ((hf 14 rfl).trans rfl) fl_47_0 ⟨rfl, hN⟩⟩) ?_
 refine STR.op rfl rfl (.inl ⟨rfl, fun H1 f' H' hf hN hM => Lf (.int .i64 ((at_ ((buildT vs.length fs).ed) i).A)) rfl ((hf 75 rfl).trans rfl) ty_3 rfl ⟨rfl, hN⟩⟩) ?_
 obtain ⟨i131, ver132, e133, h134, _, _⟩ := Own.pos o128 (by first | omega | (rw [gvalsv_len]; omega))
 refine STR.op rfl rfl (.inl ⟨rfl, fun H1 f' H' hf hN hM => AOp.indexAddrO rfl (Eq.trans ((hf 74 rfl).trans rfl) e133) ((hf 76 rfl).trans rfl) sl_102 (by first | omega | (rw [gvalsv_len]; omega)) (by first | omega | (rw [gvalsv_len]; omega)) (hM _ _ h134) ⟨rfl, hN⟩⟩) ?_
 obtain ⟨w135, hw136⟩ : ∃ w, w = (getMv L ((at_ ((buildT vs.length fs).ed) i).A)).1 := ⟨_, rfl⟩
 obtain ⟨oA137, oB138, oC139⟩ := MOv.take o129 ((at_ ((buildT vs.length fs).ed) i).A)
 rw [← hw136] at oA137 oC139
 have no140 := NotIdMv.get no98 ((at_ ((buildT vs.length fs).ed) i).A)
 rw [← hw136] at no140
 have no141 := NotIdMv.rest no98 ((at_ ((buildT vs.length fs).ed) i).A)
 have sp142 := SepMv.get sp99 ((at_ ((buildT vs.length fs).ed) i).A)
 rw [← hw136] at sp142
 have sp143 := SepMv.rest sp99 ((at_ ((buildT vs.length fs).ed) i).A)
 refine STR.op rfl rfl (.inl ⟨rfl, fun H1 f' H' hf hN hM => Ld (w135) rfl ((hf 77 rfl).trans rfl) ty_22 (hM _ _ h134) (by rw [hw136]; exact gldv (by omega) (by omega)) ⟨rfl, hN⟩⟩) ?_
 refine STR.op rfl rfl (.inl ⟨rfl, fun H1 f' H' hf hN hM => Ff rfl ((hf 2 rfl).trans s88) fl_26_0 ⟨rfl, hN⟩⟩) ?_
 refine STR.op rfl rfl (.inl ⟨rfl, fun H1 f' H' hf hN hM => Lf (.sl vs.length (vs.flatMap eV)) rfl ((hf 79 rfl).trans rfl) ty_22 rfl ⟨rfl, hN⟩⟩) ?_
 refine STR.op rfl rfl (.inl ⟨rfl, fun H1 f' H' hf hN hM => Ff rfl ((hf 14 rfl).trans rfl) fl_47_1 ⟨rfl, hN⟩⟩) ?_
 refine STR.op rfl rfl (.inl ⟨rfl, fun H1 f' H' hf hN hM => Lf (.int .i64 ((at_ ((buildT vs.length fs).ed) i).B)) rfl ((hf 81 rfl).trans rfl) ty_3 rfl ⟨rfl, hN⟩⟩) ?_
 refine STR.op rfl rfl (.inl ⟨rfl, fun H1 f' H' hf hN hM => iS_ rfl ((hf 80 rfl).trans rfl) ((hf 82 rfl).trans rfl) sl_22 (by omega) (by omega) ⟨rfl, hN⟩⟩) ?_
 refine STR.op rfl rfl (.inl ⟨rfl, fun H1 f' H' hf hN hM => Lf (.agg (eV (at_ vs ((at_ ((buildT vs.length fs).ed) i).B)))) rfl ((hf 83 rfl).trans rfl) ty_42 (ldM eV_len (by omega) (by omega)) ⟨rfl, hN⟩⟩) ?_
 refine STR.eff rfl rfl rfl fun f144 H145 hf146 m147 => ?_
 have h148 := m147 _ _ h127
 have o149 := Own.mono o128 m147
 have o150 := MOv.mono oB138 m147
 have o151 := Own.mono oA137 m147
 have m152 := m125.trans m147
 refine AOp.buildSlice (cells := (eV (at_ vs ((at_ ((buildT vs.length fs).ed) i).B)))) rfl u_22 ts_42 tz_42 rfl (lconsP ((hf146 84 rfl).trans rfl) rfl) rfl ?_
 intro i153 H154 n155 h156 k157
 have h160 := keep k157 (ne_new h148 n155) h148
 have o161 := Own.keep o149 k157 (Own.notnew o149 n155)
 have o163 := MOv.keep o150 k157 (MOv.notnew o150 n155)
 have o165 := Own.keep o151 k157 (Own.notnew o151 n155)
 have m167 := Mono.new m152 n155 k157
 refine ⟨_, rfl, .inl (Mono.new (Mono.refl _) n155 k157), ?_⟩
 refine STR.eff rfl rfl rfl fun f168 H169 hf170 m171 => ?_
 have h172 := m171 _ _ h160
 have h173 := m171 _ _ h156
 have o174 := Own.mono o161 m171
 have o175 := MOv.mono o163 m171
 have o176 := Own.mono o165 m171
 have m177 := m167.trans m171
 refine AOp.append_own (es := 3) (m := 1) (len := (((getMv L ((at_ ((buildT vs.length fs).ed) i).A)).2).length)) (old := ((getMv L ((at_ ((buildT vs.length fs).ed) i).A)).2).flatMap eV) (cells := (eV (at_ vs ((at_ ((buildT vs.length fs).ed) i).B)))) rfl u_22 ts_42 tzn_42 tb_42 (by decide) ni_22 ((hf170 78 rfl).trans rfl) o176 m177 ((hf170 85 rfl).trans rfl) (.slm h173 rfl) (one_of rfl) (by decide) (by first | omega | (simp only [List.length_append, List.length_cons, List.length_nil]; omega)) ?_
 intro v178 H179 o180 m181 k182 j183
 have o184 := Own.snocM (xs := (((getMv L ((at_ ((buildT vs.length fs).ed) i).A)).2) : List VT)) (y := (at_ vs ((at_ ((buildT vs.length fs).ed) i).B))) (e := eV) (by simp) o180
 have h185 := (k182 _ no140 (by rw [h172]; simp)).trans h172
 have no186 := j183 _ no140 (by rw [h172]; simp)
 have sp188 := Own.sep o174 (Sep.symm sp142) j183
 have o187 := Own.stay o174 (Sep.symm sp142) k182
 have sp190 := MOv.sep o175 oC139 j183
 have o189 := MOv.stay o175 oC139 k182
 refine ⟨_, rfl, .inr (RevR.skip rfl (RevR.skip rfl (RevR.skip rfl (RevR.skip rfl (RevR.skip rfl (RevR.skip rfl (RevR.skip rfl (RevR.skip rfl (RevR.skip rfl (RevR.skip rfl (RevR.skip rfl (RevR.skip rfl (RevR.skip rfl (RevR.skip rfl (RevR.skip rfl (RevR.cons rfl (.inl ⟨rfl, fun H1 f' H' hf hN hM => Lf (.int .i64 ((at_ ((buildT vs.length fs).ed) i).A)) rfl ((hf 69 rfl).trans rfl) ty_3 rfl ⟨rfl, hN⟩⟩) (RevR.cons rfl (.inl ⟨rfl, fun H1 f' H' hf hN hM => Ff rfl ((hf 14 rfl).trans rfl) fl_47_0 ⟨rfl, hN⟩⟩) (RevR.cons rfl (.inl ⟨rfl, fun H1 f' H' hf hN hM => Ld (w12_7) rfl ((hf 67 rfl).trans rfl) ty_102 (hM _ _ h185) rfl ⟨rfl, hN⟩⟩) (RevR.cons rfl (.inl ⟨rfl, fun H1 f' H' hf hN hM => Fa rfl ((hf 66 rfl).trans rfl) fl_104_3 ⟨rfl, hN⟩ (hid := ⟨_, (hM _ _ h185)⟩)⟩) (RevR.cons rfl (.inl ⟨rfl, fun H1 f' H' hf hN hM => nc_ (.ptr i74 0 0) rfl ((hf 65 rfl).trans rfl) rfl ⟨rfl, hN⟩⟩) (RevR.cons rfl (.inl ⟨rfl, fun H1 f' H' hf hN hM => Mv (.ptr i74 0 0) rfl ((hf 12 rfl).trans s92) ⟨rfl, hN⟩⟩) RevR.nil))))))))))))))))))))), ?_⟩
 refine STR.done fun H191 m192 => ?_
 have h193 := m192 _ _ h185
 have o194 := Own.mono o187 m192
 have o195 := MOv.mono o189 m192
 have o196 := Own.mono o184 m192
 have m197 := m181.trans m192
 obtain ⟨i198, ver199, e200, h201, _, _⟩ := Own.pos o194 (by first | omega | (rw [gvalsv_len]; omega))
 refine C rfl (AOp.indexAddrO rfl (Eq.trans rfl e200) rfl sl_102 (by first | omega | (rw [gvalsv_len]; omega)) (by first | omega | (rw [gvalsv_len]; omega)) h201 (C rfl (AOp.storeO (cells' := ((gvalsv L vs.length).set ((at_ ((buildT vs.length fs).ed) i).A).toNat v178).map eA) rfl rfl o196 ts_22 (Own.at_ e200 o194).1 (blelen (by rw [List.length_map]) (by rw [gvalsv_len]; omega)) (wr_set1 (e := eA) (by omega) (by rw [gvalsv_len]; omega)) ?_)))
 intro H202 h203 k204
 have h205 := (k204 _ (NotId.ne no96 e200)).trans h193
 have o206 := Own.store e200 o194 h203 (len' := ((gvalsv L vs.length).set ((at_ ((buildT vs.length fs).ed) i).A).toNat v178).length) (by rw [List.length_set]) (by rw [List.length_map, Nat.mul_one, List.length_set])
 have m207 := Mono.set m197 (Own.at_ e200 o194).2.1 k204
 have o208 := MOv.stay o195 sp143 (fun i hi _ => k204 i (NotId.ne hi e200))
 have o209 := Own.stay o196 (Sep.symm sp188) (fun i hi _ => k204 i (NotId.ne hi e200))
 have o210 := MOv.put (L := L) o208 o209 sp190
 have hg211 := gvalsv_set (L := L) (n := vs.length) (x := (at_ ((buildT vs.length fs).ed) i).A) (w := v178) (xs := (((getMv L ((at_ ((buildT vs.length fs).ed) i).A)).2) ++ [(at_ vs ((at_ ((buildT vs.length fs).ed) i).B))])) (by omega) (by omega)
 have o212 := Own.re o206 (congrArg List.length hg211) (congrArg (fun l : List AV => l.map eA) hg211)
 have no213 := NotIdMv.put (xs := (((getMv L ((at_ ((buildT vs.length fs).ed) i).A)).2) ++ [(at_ vs ((at_ ((buildT vs.length fs).ed) i).B))])) no141 no186
 have sp214 := SepMv.put_ (xs := (((getMv L ((at_ ((buildT vs.length fs).ed) i).A)).2) ++ [(at_ vs ((at_ ((buildT vs.length fs).ed) i).B))])) sp143 (Sep.symm sp188)
 refine AOps.nil ?_
 change AWP _ _ _ _ _ _
 have hG1 := hd_A (w := v178) (xs := (((getMv L ((at_ ((buildT vs.length fs).ed) i).A)).2) ++ [(at_ vs ((at_ ((buildT vs.length fs).ed) i).B))])) hG rfl
 have hl2 := hdM_len (vs := vs) (ed := (buildT vs.length fs).ed) (sh := (sharpR (buildT vs.length fs) cr).1) (k := i) (at_ (buildT vs.length fs).ed i).B
 rw [← hG1] at hl2
 skip
 refine AWP.region_str mixed (by kernel_rfl) [(0, none), (1, none), (2, none), (3, none), (4, none), (5, none), (6, none), (7, none), (8, none), (9, none), (10, none), (11, none), (12, none), (13, none), (14, none), (15, none), (16, none), (17, none), (18, none), (19, none), (20, some [0, 1, 2, 3, 4, 5, 6, 7, 8, 9, 10, 11, 12, 13]), (21, some [0, 1, 2, 3, 4, 5])] [22, 23] (by kernel_rfl) ?_
 refine STR.op rfl rfl (.inl ⟨rfl, fun H1 f' H' hf hN hM => Mv (.ptr i74 0 0) rfl ((hf 12 rfl).trans s92) ⟨rfl, hN⟩⟩) ?_
 refine STR.op rfl rfl (.inl ⟨rfl, fun H1 f' H' hf hN hM => nc_ (.ptr i74 0 0) rfl ((hf 88 rfl).trans rfl) rfl ⟨rfl, hN⟩⟩) ?_
 refine STR.op rfl rfl (.inl ⟨rfl, fun H1 f' H' hf hN hM => Fa rfl ((hf 89 rfl).trans rfl) fl_104_3 ⟨rfl, hN⟩ (hid := ⟨_, (hM _ _ h205)⟩)⟩) ?_
 refine STR.op rfl rfl (.inl ⟨rfl, fun H1 f' H' hf hN hM => Ld (w12_7) rfl ((hf 90 rfl).trans rfl) ty_102 (hM _ _ h205) rfl ⟨rfl, hN⟩⟩) ?_
 refine STR.op rfl rfl (.inl ⟨rfl, fun H1 f' H' hf hN hM => Ff rfl ((hf 14 rfl).trans rfl) fl_47_1 ⟨rfl, hN⟩⟩) ?_
 refine STR.op rfl rfl (.inl ⟨rfl, fun H1 f' H' hf hN hM => Lf (.int .i64 ((at_ ((buildT vs.length fs).ed) i).B)) rfl ((hf 92 rfl).trans rfl) ty_3 rfl ⟨rfl, hN⟩⟩) ?_
 refine STR.op rfl rfl (.inl ⟨rfl, fun H1 f' H' hf hN hM => Mv (.ptr i74 0 0) rfl ((hf 12 rfl).trans s92) ⟨rfl, hN⟩⟩) ?_
 refine STR.op rfl rfl (.inl ⟨rfl, fun H1 f' H' hf hN hM => nc_ (.ptr i74 0 0) rfl ((hf 94 rfl).trans rfl) rfl ⟨rfl, hN⟩⟩) ?_
 refine STR.op rfl rfl (.inl ⟨rfl, fun H1 f' H' hf hN hM => Fa rfl ((hf 95 rfl).trans rfl) fl_104_3 ⟨rfl, hN⟩ (hid := ⟨_, (hM _ _ h205)⟩)⟩) ?_
 refine STR.op rfl rfl (.inl ⟨rfl, fun H1 f' H' hf hN hM => Ld (w12_7) rfl ((hf 96 rfl).trans rfl) ty_102 (hM _ _ h205) rfl ⟨rfl, hN⟩⟩) ?_
 refine STR.op rfl rfl (.inl ⟨rfl, fun H1 f' H' hf hN hM => Ff rfl ((hf 14 rfl).trans rfl) fl_47_1 ⟨rfl, hN⟩⟩) ?_
 refine STR.op rfl rfl (.inl ⟨rfl, fun H1 f' H' hf hN hM => Lf (.int .i64 ((at_ ((buildT vs.length fs).ed) i).B)) rfl ((hf 98 rfl).trans rfl) ty_3 rfl ⟨rfl, hN⟩⟩) ?_
 obtain ⟨i215, ver216, e217, h218, _, _⟩ := Own.pos o212 (by first | omega | (rw [gvalsv_len]; omega))
 refine STR.op rfl rfl (.inl ⟨rfl, fun H1 f' H' hf hN hM => AOp.indexAddrO rfl (Eq.trans ((hf 97 rfl).trans rfl) e217) ((hf 99 rfl).trans rfl) sl_102 (by first | omega | (rw [gvalsv_len]; omega)) (by first | omega | (rw [gvalsv_len]; omega)) (hM _ _ h218) ⟨rfl, hN⟩⟩) ?_
 obtain ⟨w219, hw220⟩ : ∃ w, w = (getMv (putMv L ((at_ ((buildT vs.length fs).ed) i).A) v178 (((getMv L ((at_ ((buildT vs.length fs).ed) i).A)).2) ++ [(at_ vs ((at_ ((buildT vs.length fs).ed) i).B))])) ((at_ ((buildT vs.length fs).ed) i).B)).1 := ⟨_, rfl⟩
 obtain ⟨oA221, oB222, oC223⟩ := MOv.take o210 ((at_ ((buildT vs.length fs).ed) i).B)
 rw [← hw220] at oA221 oC223
 have no224 := NotIdMv.get no213 ((at_ ((buildT vs.length fs).ed) i).B)
 rw [← hw220] at no224
 have no225 := NotIdMv.rest no213 ((at_ ((buildT vs.length fs).ed) i).B)
 have sp226 := SepMv.get sp214 ((at_ ((buildT vs.length fs).ed) i).B)
 rw [← hw220] at sp226
 have sp227 := SepMv.rest sp214 ((at_ ((buildT vs.length fs).ed) i).B)
 refine STR.op rfl rfl (.inl ⟨rfl, fun H1 f' H' hf hN hM => Ld (w219) rfl ((hf 100 rfl).trans rfl) ty_22 (hM _ _ h218) (by rw [hw220]; exact gldv (by omega) (by omega)) ⟨rfl, hN⟩⟩) ?_
 refine STR.op rfl rfl (.inl ⟨rfl, fun H1 f' H' hf hN hM => Ff rfl ((hf 2 rfl).trans s88) fl_26_0 ⟨rfl, hN⟩⟩) ?_
 refine STR.op rfl rfl (.inl ⟨rfl, fun H1 f' H' hf hN hM => Lf (.sl vs.length (vs.flatMap eV)) rfl ((hf 102 rfl).trans rfl) ty_22 rfl ⟨rfl, hN⟩⟩) ?_
 refine STR.op rfl rfl (.inl ⟨rfl, fun H1 f' H' hf hN hM => Ff rfl ((hf 14 rfl).trans rfl) fl_47_0 ⟨rfl, hN⟩⟩) ?_
 refine STR.op rfl rfl (.inl ⟨rfl, fun H1 f' H' hf hN hM => Lf (.int .i64 ((at_ ((buildT vs.length fs).ed) i).A)) rfl ((hf 104 rfl).trans rfl) ty_3 rfl ⟨rfl, hN⟩⟩) ?_
 refine STR.op rfl rfl (.inl ⟨rfl, fun H1 f' H' hf hN hM => iS_ rfl ((hf 103 rfl).trans rfl) ((hf 105 rfl).trans rfl) sl_22 (by omega) (by omega) ⟨rfl, hN⟩⟩) ?_
 refine STR.op rfl rfl (.inl ⟨rfl, fun H1 f' H' hf hN hM => Lf (.agg (eV (at_ vs ((at_ ((buildT vs.length fs).ed) i).A)))) rfl ((hf 106 rfl).trans rfl) ty_42 (ldM eV_len (by omega) (by omega)) ⟨rfl, hN⟩⟩) ?_
 refine STR.eff rfl rfl rfl fun f228 H229 hf230 m231 => ?_
 have h232 := m231 _ _ h205
 have o233 := Own.mono o212 m231
 have o234 := MOv.mono oB222 m231
 have o235 := Own.mono oA221 m231
 have m236 := m207.trans m231
 refine AOp.buildSlice (cells := (eV (at_ vs ((at_ ((buildT vs.length fs).ed) i).A)))) rfl u_22 ts_42 tz_42 rfl (lconsP ((hf230 107 rfl).trans rfl) rfl) rfl ?_
 intro i237 H238 n239 h240 k241
 have h244 := keep k241 (ne_new h232 n239) h232
 have o245 := Own.keep o233 k241 (Own.notnew o233 n239)
 have o247 := MOv.keep o234 k241 (MOv.notnew o234 n239)
 have o249 := Own.keep o235 k241 (Own.notnew o235 n239)
 have m251 := Mono.new m236 n239 k241
 refine ⟨_, rfl, .inl (Mono.new (Mono.refl _) n239 k241), ?_⟩
 refine STR.eff rfl rfl rfl fun f252 H253 hf254 m255 => ?_
 have h256 := m255 _ _ h244
 have h257 := m255 _ _ h240
 have o258 := Own.mono o245 m255
 have o259 := MOv.mono o247 m255
 have o260 := Own.mono o249 m255
 have m261 := m251.trans m255
 refine AOp.append_own (es := 3) (m := 1) (len := (((getMv (putMv L ((at_ ((buildT vs.length fs).ed) i).A) v178 (((getMv L ((at_ ((buildT vs.length fs).ed) i).A)).2) ++ [(at_ vs ((at_ ((buildT vs.length fs).ed) i).B))])) ((at_ ((buildT vs.length fs).ed) i).B)).2).length)) (old := ((getMv (putMv L ((at_ ((buildT vs.length fs).ed) i).A) v178 (((getMv L ((at_ ((buildT vs.length fs).ed) i).A)).2) ++ [(at_ vs ((at_ ((buildT vs.length fs).ed) i).B))])) ((at_ ((buildT vs.length fs).ed) i).B)).2).flatMap eV) (cells := (eV (at_ vs ((at_ ((buildT vs.length fs).ed) i).A)))) rfl u_22 ts_42 tzn_42 tb_42 (by decide) ni_22 ((hf254 101 rfl).trans rfl) o260 m261 ((hf254 108 rfl).trans rfl) (.slm h257 rfl) (one_of rfl) (by decide) (by first | omega | (simp only [List.length_append, List.length_cons, List.length_nil]; omega)) ?_
 intro v262 H263 o264 m265 k266 j267
 have o268 := Own.snocM (xs := (((getMv (putMv L ((at_ ((buildT vs.length fs).ed) i).A) v178 (((getMv L ((at_ ((buildT vs.length fs).ed) i).A)).2) ++ [(at_ vs ((at_ ((buildT vs.length fs).ed) i).B))])) ((at_ ((buildT vs.length fs).ed) i).B)).2) : List VT)) (y := (at_ vs ((at_ ((buildT vs.length fs).ed) i).A))) (e := eV) (by simp) o264
 have h269 := (k266 _ no224 (by rw [h256]; simp)).trans h256
 have no270 := j267 _ no224 (by rw [h256]; simp)
 have sp272 := Own.sep o258 (Sep.symm sp226) j267
 have o271 := Own.stay o258 (Sep.symm sp226) k266
 have sp274 := MOv.sep o259 oC223 j267
 have o273 := MOv.stay o259 oC223 k266
 refine ⟨_, rfl, .inr (RevR.skip rfl (RevR.skip rfl (RevR.skip rfl (RevR.skip rfl (RevR.skip rfl (RevR.skip rfl (RevR.skip rfl (RevR.skip rfl (RevR.skip rfl (RevR.skip rfl (RevR.skip rfl (RevR.skip rfl (RevR.skip rfl (RevR.skip rfl (RevR.skip rfl (RevR.cons rfl (.inl ⟨rfl, fun H1 f' H' hf hN hM => Lf (.int .i64 ((at_ ((buildT vs.length fs).ed) i).B)) rfl ((hf 92 rfl).trans rfl) ty_3 rfl ⟨rfl, hN⟩⟩) (RevR.cons rfl (.inl ⟨rfl, fun H1 f' H' hf hN hM => Ff rfl ((hf 14 rfl).trans rfl) fl_47_1 ⟨rfl, hN⟩⟩) (RevR.cons rfl (.inl ⟨rfl, fun H1 f' H' hf hN hM => Ld (w12_7) rfl ((hf 90 rfl).trans rfl) ty_102 (hM _ _ h269) rfl ⟨rfl, hN⟩⟩) (RevR.cons rfl (.inl ⟨rfl, fun H1 f' H' hf hN hM => Fa rfl ((hf 89 rfl).trans rfl) fl_104_3 ⟨rfl, hN⟩ (hid := ⟨_, (hM _ _ h269)⟩)⟩) (RevR.cons rfl (.inl ⟨rfl, fun H1 f' H' hf hN hM => nc_ (.ptr i74 0 0) rfl ((hf 88 rfl).trans rfl) rfl ⟨rfl, hN⟩⟩) (RevR.cons rfl (.inl ⟨rfl, fun H1 f' H' hf hN hM => Mv (.ptr i74 0 0) rfl ((hf 12 rfl).trans s92) ⟨rfl, hN⟩⟩) RevR.nil))))))))))))))))))))), ?_⟩
 refine STR.done fun H275 m276 => ?_
 have h277 := m276 _ _ h269
 have o278 := Own.mono o271 m276
 have o279 := MOv.mono o273 m276
 have o280 := Own.mono o268 m276
 have m281 := m265.trans m276
 obtain ⟨i282, ver283, e284, h285, _, _⟩ := Own.pos o278 (by first | omega | (rw [gvalsv_len]; omega))
 refine C rfl (AOp.indexAddrO rfl (Eq.trans rfl e284) rfl sl_102 (by first | omega | (rw [gvalsv_len]; omega)) (by first | omega | (rw [gvalsv_len]; omega)) h285 (C rfl (AOp.storeO (cells' := ((gvalsv (putMv L ((at_ ((buildT vs.length fs).ed) i).A) v178 (((getMv L ((at_ ((buildT vs.length fs).ed) i).A)).2) ++ [(at_ vs ((at_ ((buildT vs.length fs).ed) i).B))])) vs.length).set ((at_ ((buildT vs.length fs).ed) i).B).toNat v262).map eA) rfl rfl o280 ts_22 (Own.at_ e284 o278).1 (blelen (by rw [List.length_map]) (by rw [gvalsv_len]; omega)) (wr_set1 (e := eA) (by omega) (by rw [gvalsv_len]; omega)) ?_)))
 intro H286 h287 k288
 have h289 := (k288 _ (NotId.ne no96 e284)).trans h277
 have o290 := Own.store e284 o278 h287 (len' := ((gvalsv (putMv L ((at_ ((buildT vs.length fs).ed) i).A) v178 (((getMv L ((at_ ((buildT vs.length fs).ed) i).A)).2) ++ [(at_ vs ((at_ ((buildT vs.length fs).ed) i).B))])) vs.length).set ((at_ ((buildT vs.length fs).ed) i).B).toNat v262).length) (by rw [List.length_set]) (by rw [List.length_map, Nat.mul_one, List.length_set])
 have m291 := Mono.set m281 (Own.at_ e284 o278).2.1 k288
 have o292 := MOv.stay o279 sp227 (fun i hi _ => k288 i (NotId.ne hi e284))
 have o293 := Own.stay o280 (Sep.symm sp272) (fun i hi _ => k288 i (NotId.ne hi e284))
 have o294 := MOv.put (L := (putMv L ((at_ ((buildT vs.length fs).ed) i).A) v178 (((getMv L ((at_ ((buildT vs.length fs).ed) i).A)).2) ++ [(at_ vs ((at_ ((buildT vs.length fs).ed) i).B))]))) o292 o293 sp274
 have hg295 := gvalsv_set (L := (putMv L ((at_ ((buildT vs.length fs).ed) i).A) v178 (((getMv L ((at_ ((buildT vs.length fs).ed) i).A)).2) ++ [(at_ vs ((at_ ((buildT vs.length fs).ed) i).B))]))) (n := vs.length) (x := (at_ ((buildT vs.length fs).ed) i).B) (w := v262) (xs := (((getMv (putMv L ((at_ ((buildT vs.length fs).ed) i).A) v178 (((getMv L ((at_ ((buildT vs.length fs).ed) i).A)).2) ++ [(at_ vs ((at_ ((buildT vs.length fs).ed) i).B))])) ((at_ ((buildT vs.length fs).ed) i).B)).2) ++ [(at_ vs ((at_ ((buildT vs.length fs).ed) i).A))])) (by omega) (by omega)
 have o296 := Own.re o290 (congrArg List.length hg295) (congrArg (fun l : List AV => l.map eA) hg295)
 have no297 := NotIdMv.put (xs := (((getMv (putMv L ((at_ ((buildT vs.length fs).ed) i).A) v178 (((getMv L ((at_ ((buildT vs.length fs).ed) i).A)).2) ++ [(at_ vs ((at_ ((buildT vs.length fs).ed) i).B))])) ((at_ ((buildT vs.length fs).ed) i).B)).2) ++ [(at_ vs ((at_ ((buildT vs.length fs).ed) i).A))])) no225 no270
 have sp298 := SepMv.put_ (xs := (((getMv (putMv L ((at_ ((buildT vs.length fs).ed) i).A) v178 (((getMv L ((at_ ((buildT vs.length fs).ed) i).A)).2) ++ [(at_ vs ((at_ ((buildT vs.length fs).ed) i).B))])) ((at_ ((buildT vs.length fs).ed) i).B)).2) ++ [(at_ vs ((at_ ((buildT vs.length fs).ed) i).A))])) sp227 (Sep.symm sp272)
 refine AWP.region rfl ?_
 refine C rfl (Bi (.int .i64 (i + 1)) rfl s86 rfl (iadd (by omega)) (C rfl (Mv (.int .i64 (i + 1)) rfl rfl ?_)))
 refine AOps.nil ?_
 exact ⟨_, by omega, i + 1, (putMv (putMv L ((at_ ((buildT vs.length fs).ed) i).A) v178 (((getMv L ((at_ ((buildT vs.length fs).ed) i).A)).2) ++ [(at_ vs ((at_ ((buildT vs.length fs).ed) i).B))])) ((at_ ((buildT vs.length fs).ed) i).B) v262 (((getMv (putMv L ((at_ ((buildT vs.length fs).ed) i).A) v178 (((getMv L ((at_ ((buildT vs.length fs).ed) i).A)).2) ++ [(at_ vs ((at_ ((buildT vs.length fs).ed) i).B))])) ((at_ ((buildT vs.length fs).ed) i).B)).2) ++ [(at_ vs ((at_ ((buildT vs.length fs).ed) i).A))])), w12_7, rfl, rfl, s87, s88, s89, s90, s91, s92, s93, s94, o296, no96, o294, no297, sp298, h289, m291, by omega, by omega, by exact hd_B hi0 b130 hG1 rfl⟩
 refine cf_ rfl (decide_eq_false b102) ?_
 refine AWP.exit ?_
 change AWP _ _ _ _ _ _
 refine AWP.seq ?_
 refine AWP.frzGroupv (L := L) (N := vs.length) o97 (Own.re o95 (gvalsv_len _ _) rfl) sp99 m101 fun H299 o300 m301 k302 => ?_
 have h303 := (k302 _ no96 no98).trans h100
 have hgf := gF_hd hG (show i = ((buildT vs.length fs).ed.length : Int) by omega)
 have o304 := Own.re (k := (hdR vs (buildT vs.length fs).ed (sharpR (buildT vs.length fs) cr).1).length) (cs := (hdR vs (buildT vs.length fs).ed (sharpR (buildT vs.length fs) cr).1).map eVs) o300 (hdR_len _ _ _).symm (by rw [hgf])
 refine AWP.frzCell 7 o304 h303 z79 rfl no96 m301 fun H305 h306 m307 k308 => ?_
 have h309 : H305 i74 = some (.row 0 ([.sl vs.length (vs.flatMap eV), .sl fs.length (fs.map eF), .sl cr.length (cr.flatMap eCr), .sl ((buildT vs.length fs).ed).length (((buildT vs.length fs).ed).flatMap eE), .sl ((buildT vs.length fs).fan).length (((buildT vs.length fs).fan).map eF), .sl ((buildT vs.length fs).rnd).length (((buildT vs.length fs).rnd).map eBo), .sl ((sharpR (buildT vs.length fs) cr).1).length (((sharpR (buildT vs.length fs) cr).1).map eI), .sl (hdR vs (buildT vs.length fs).ed (sharpR (buildT vs.length fs) cr).1).length ((hdR vs (buildT vs.length fs).ed (sharpR (buildT vs.length fs) cr).1).map eVs)])) := h306
 have hhr := hdR_len vs (buildT vs.length fs).ed (sharpR (buildT vs.length fs) cr).1
 refine AWP.region rfl ?_
 refine C rfl (As (.snil) rfl rfl ?_)
 refine AWP.seq ?_
 refine Sr ?_
 refine F rfl s88 fl_26_1 (C rfl (Lf (.sl fs.length (fs.map eF)) rfl rfl ty_23 rfl (C rfl (AOp.len (m := fs.length) rfl rfl (.inr (.inl ⟨_, rfl⟩)) u_23 (C rfl (Mv (.int .i64 0) rfl rfl ?_))))))
 refine bk_ ?_
 refine AWP.loop (fun q310 fq Hq => ∃ (f : Int) (w15 : AV), q310 = (((fs.length : Int) : Int) - f).toNat ∧ fq 115 = .int .i64 f ∧ fq 1 = .int .i64 skin ∧ fq 4 = .snil ∧ fq 5 = .int .i64 0 ∧ fq 12 = .ptr i74 0 0 ∧ fq 114 = .int .i64 (fs.length : Int) ∧ fq 15 = w15 ∧ Own H0 Hq 65 w15 (U_ (fun q => patchQ vs fs (buildT vs.length fs) (sharpR (buildT vs.length fs) cr).1 (hdR vs (buildT vs.length fs).ed (sharpR (buildT vs.length fs) cr).1) q skin) f).length ((U_ (fun q => patchQ vs fs (buildT vs.length fs) (sharpR (buildT vs.length fs) cr).1 (hdR vs (buildT vs.length fs).ed (sharpR (buildT vs.length fs) cr).1) q skin) f).flatMap ePatch) ∧ NotId w15 i74 ∧ Hq i74 = some (.row 0 ([.sl vs.length (vs.flatMap eV), .sl fs.length (fs.map eF), .sl cr.length (cr.flatMap eCr), .sl ((buildT vs.length fs).ed).length (((buildT vs.length fs).ed).flatMap eE), .sl ((buildT vs.length fs).fan).length (((buildT vs.length fs).fan).map eF), .sl ((buildT vs.length fs).rnd).length (((buildT vs.length fs).rnd).map eBo), .sl ((sharpR (buildT vs.length fs) cr).1).length (((sharpR (buildT vs.length fs) cr).1).map eI), .sl (hdR vs (buildT vs.length fs).ed (sharpR (buildT vs.length fs) cr).1).length ((hdR vs (buildT vs.length fs).ed (sharpR (buildT vs.length fs) cr).1).map eVs)])) ∧ Mono H0 Hq ∧ (0 ≤ f) ∧ (f ≤ (fs.length : Int))) (k := (((fs.length : Int) : Int) - 0).toNat) ?_ ?_
 exact ⟨0, .snil, rfl, rfl, s87, s89, s90, s92, rfl, rfl, Own.nil _ _ _, (NotId.nil _), h309, m307, by omega, by omega⟩
 rintro _ f312 H311 ⟨f, w15, rfl, s313, s314, s315, s316, s317, s318, s319, o320, no321, h322, m323, hf0, hf1⟩
 refine Sr ?_
 refine C rfl (Bi (.bool (decide (f < (fs.length : Int)))) rfl s313 s318 rfl ?_)
 refine AWP.seq ?_
 by_cases b324 : f < (fs.length : Int)
 refine ct_ rfl (decide_eq_true b324) ?_
 refine AWP.skip ?_
 refine AWP.seq ?_
 refine bk_ ?_
 refine Sr ?_
 refine C rfl (Mv (.int .i64 f) rfl s313 (C rfl (As (.int .i64 f) rfl rfl ?_)))
 refine AOps.nil ?_
 change AWP _ _ _ _ _ _
 have hpul : (U_ (fun q => patchQ vs fs (buildT vs.length fs) (sharpR (buildT vs.length fs) cr).1 (hdR vs (buildT vs.length fs).ed (sharpR (buildT vs.length fs) cr).1) q skin) f).length = f.toNat := U_len _ _
 refine AWP.region rfl ?_
 refine C rfl (Mv (w15) rfl s319 (C rfl (Mv (.ptr i74 0 0) rfl s317 (C rfl (Mv (.int .i64 f) rfl rfl (C rfl (Mv (.int .i64 skin) rfl s314 (C rfl (AOp.pcallH («as» := [.ptr i74 0 0, .int .i64 f, .int .i64 skin]) rfl rfl (rfl) tf_52 (c_patch vs fs cr (buildT vs.length fs) (sharpR (buildT vs.length fs) cr).1 (hdR vs (buildT vs.length fs).ed (sharpR (buildT vs.length fs) cr).1) S f skin hf0 (by omega) h322) ?_)))))))))
 intro H325 m326
 have h327 := m326 _ _ h322
 have o328 := Own.mono o320 m326
 have m329 := m323.trans m326
 refine C rfl (AOp.buildSlice (cells := ePatch (patchQ vs fs (buildT vs.length fs) (sharpR (buildT vs.length fs) cr).1 (hdR vs (buildT vs.length fs).ed (sharpR (buildT vs.length fs) cr).1) f skin)) rfl u_63 ts_70 tz_70 rfl rfl (fill_patch (patchQ vs fs (buildT vs.length fs) (sharpR (buildT vs.length fs) cr).1 (hdR vs (buildT vs.length fs).ed (sharpR (buildT vs.length fs) cr).1) f skin) rfl) ?_)
 intro i330 H331 n332 h333 k334
 have h337 := keep k334 (ne_new h327 n332) h327
 have o338 := Own.keep o328 k334 (Own.notnew o328 n332)
 have m340 := Mono.new m329 n332 k334
 refine C rfl (AOp.append_own (es := 65) (m := 1) (len := ((U_ (fun q => patchQ vs fs (buildT vs.length fs) (sharpR (buildT vs.length fs) cr).1 (hdR vs (buildT vs.length fs).ed (sharpR (buildT vs.length fs) cr).1) q skin) f).length)) (old := (U_ (fun q => patchQ vs fs (buildT vs.length fs) (sharpR (buildT vs.length fs) cr).1 (hdR vs (buildT vs.length fs).ed (sharpR (buildT vs.length fs) cr).1) q skin) f).flatMap ePatch) (cells := ePatch (patchQ vs fs (buildT vs.length fs) (sharpR (buildT vs.length fs) cr).1 (hdR vs (buildT vs.length fs).ed (sharpR (buildT vs.length fs) cr).1) f skin)) rfl u_63 ts_70 tzn_70 tb_70 (by decide) ni_63 rfl o338 m340 rfl (src_patch (x := (patchQ vs fs (buildT vs.length fs) (sharpR (buildT vs.length fs) cr).1 (hdR vs (buildT vs.length fs).ed (sharpR (buildT vs.length fs) cr).1) f skin)) h333) (one_of (ePatch_one (patchQ vs fs (buildT vs.length fs) (sharpR (buildT vs.length fs) cr).1 (hdR vs (buildT vs.length fs).ed (sharpR (buildT vs.length fs) cr).1) f skin))) (by decide) (by first | omega | (simp only [List.length_append, List.length_cons, List.length_nil]; omega)) ?_)
 intro v341 H342 o343 m344 k345 j346
 have o347 := Own.snocM (xs := ((U_ (fun q => patchQ vs fs (buildT vs.length fs) (sharpR (buildT vs.length fs) cr).1 (hdR vs (buildT vs.length fs).ed (sharpR (buildT vs.length fs) cr).1) q skin) f) : List PatchT)) (y := (patchQ vs fs (buildT vs.length fs) (sharpR (buildT vs.length fs) cr).1 (hdR vs (buildT vs.length fs).ed (sharpR (buildT vs.length fs) cr).1) f skin)) (e := ePatch) (by simp) o343
 have h348 := (k345 _ no321 (by rw [h337]; simp)).trans h337
 have no349 := j346 _ no321 (by rw [h337]; simp)
 refine C rfl (As (v341) rfl rfl ?_)
 refine AWP.region rfl ?_
 refine C rfl (Bi (.int .i64 (f + 1)) rfl s313 rfl (iadd (by omega)) (C rfl (Mv (.int .i64 (f + 1)) rfl rfl ?_)))
 refine AOps.nil ?_
 exact ⟨_, by omega, f + 1, v341, rfl, rfl, s314, s315, s316, s317, s318, rfl, (have hx : (((U_ (fun q => patchQ vs fs (buildT vs.length fs) (sharpR (buildT vs.length fs) cr).1 (hdR vs (buildT vs.length fs).ed (sharpR (buildT vs.length fs) cr).1) q skin) f) ++ [(patchQ vs fs (buildT vs.length fs) (sharpR (buildT vs.length fs) cr).1 (hdR vs (buildT vs.length fs).ed (sharpR (buildT vs.length fs) cr).1) f skin)]) : List PatchT) = U_ (fun q => patchQ vs fs (buildT vs.length fs) (sharpR (buildT vs.length fs) cr).1 (hdR vs (buildT vs.length fs).ed (sharpR (buildT vs.length fs) cr).1) q skin) (f + 1) := (by exact U_step hf0); Own.re o347 (congrArg List.length hx) (congrArg (fun l : List PatchT => l.flatMap ePatch) hx)), no349, h348, m344, by omega, by omega⟩
 refine cf_ rfl (decide_eq_false b324) ?_
 refine AWP.exit ?_
 change AWP _ _ _ _ _ _
 refine Sr ?_
 refine C rfl (Mv (w15) rfl s319 (C rfl (As (w15) rfl rfl (C rfl (As (.int .i64 0) rfl rfl ?_)))))
 refine rt_ ?_
 refine Fin.frz 4 o320 rfl m323 fun H350 m351 k352 => ?_
 refine Rr (Res.two rfl rfl rfl) ?_ m351
 exact congrArg AV.tup (lc (congrArg (fun l : List PatchT => AV.sl l.length (l.flatMap ePatch)) (show ((U_ (fun q => patchQ vs fs (buildT vs.length fs) (sharpR (buildT vs.length fs) cr).1 (hdR vs (buildT vs.length fs).ed (sharpR (buildT vs.length fs) cr).1) q skin) f) : List PatchT) = (patR vs fs cr skin).1 from by rw [pat_3 b29 b33]; rw [show f = (fs.length : Int) by omega])) (lc (congrArg (AV.int .i64) (show (0 : Int) = (patR vs fs cr skin).2 from by rw [pat_3 b29 b33])) rfl))
 refine ct_ rfl (nb (decide_eq_false b29)) ?_
 refine Sr ?_
 refine C rfl (Mv (.int .i64 ((levelR vs fs cr).2)) rfl rfl (C rfl (As (.snil) rfl rfl (C rfl (As (.int .i64 ((levelR vs fs cr).2)) rfl rfl ?_)))))
 refine rt_ ?_
 refine Fin.frz 4 (Own.nil H0 H26 1) rfl m27 fun H354 m355 k356 => ?_
 refine Rr (Res.two rfl rfl rfl) ?_ m355
 exact congrArg AV.tup (lc (congrArg (fun l : List PatchT => AV.sl l.length (l.flatMap ePatch)) (show ([] : List PatchT) = (patR vs fs cr skin).1 from by rw [pat_1 b29])) (lc (congrArg (AV.int .i64) (show ((levelR vs fs cr).2 : Int) = (patR vs fs cr skin).2 from by rw [pat_1 b29])) rfl))
end Go.Proofs.U
namespace Go.Proofs.U
open Go Go.AH Go.Proofs.T
set_option maxRecDepth 20000
theorem c_PatchesN (vs : List VT) (fs : List (List Int)) (mid : MidC vs fs []) (skin : Int) : PC Try.prog 30 [.agg [.sl vs.length (vs.flatMap eV), .sl fs.length (fs.map eF), .snil], .int .i64 skin] (.tup [.sl (patR vs fs [] skin).1.length ((patR vs fs [] skin).1.flatMap ePatch), .int .i64 (patR vs fs [] skin).2]) :=
  PC.nilIn (pa := []) (pre := [_, _]) (post := []) (po := [_]) (c_Patches vs fs [] mid skin)
theorem ldE {α : Type} [Inhabited α] {xs : List α} {e : α → List AV} {m o sz : Nat} {ag : Bool} {v : AV} (he : ∀ x, (e x).length = m) {i : Int} (h0 : 0 ≤ i) (h1 : i < xs.length) (hs : ag = false → sz = 1) (h : loadv ag sz o (e (at_ xs i)) = some v) : loadv ag sz (i.toNat * m + o) (xs.flatMap e) = some v := by
  have hi : i.toNat < xs.length := by omega
  have hx : at_ xs i = xs[i.toNat] := by simp [at_, hi]
  rw [hx] at h
  have e1 : xs.flatMap e = (xs.take i.toNat).flatMap e ++ (e xs[i.toNat] ++ (xs.drop (i.toNat + 1)).flatMap e) := by
    conv => lhs; rw [← List.take_append_drop i.toNat xs, List.drop_eq_getElem_cons hi]
    rw [List.flatMap_append, List.flatMap_cons]
  rw [e1]
  refine ld_skip (n := i.toNat * m) (off' := o) ?_ rfl (ld_fst hs h)
  rw [flatMap_length he, List.length_take]
  congr 1; omega
abbrev AV18 : List VT := [VT.mk 0 0 0, VT.mk 18 0 0, VT.mk 18 18 0, VT.mk 0 18 0]
theorem mid18 : MidC AV18 AF4 [] := ⟨by decide, by decide, by decide, by decide, fun c hc => (by cases hc), by decide⟩
theorem pal_0 : (levelR AV18 AF4 []).2 = 0 := by
  have h := level_4 (vs := AV18) (fs := AF4) (cr := []) al_b.2 (by show (sharpR (buildT AV4.length AF4) []).2 = 0; rw [al_b.1]; exact al_s) (by decide)
  rw [h]
theorem pal : patR AV18 AF4 [] 3 = (U_ (fun f => patchQ AV18 AF4 AT4 (sharpR AT4 []).1 (hdR AV18 AT4.ed (sharpR AT4 []).1) f 3) 1, 0) := by
  have h := pat_3 (skin := 3) pal_0 (show AF4.any notF = false by decide)
  have e : buildT AV18.length AF4 = AT4 := al_b.1
  rw [e] at h; exact h
theorem pal_2 : (patR AV18 AF4 [] 3).2 = 0 := by rw [pal]
theorem pal_l : ((patR AV18 AF4 [] 3).1.length : Int) = 1 := by rw [pal]; rfl
theorem pal_p0 : at_ (at_ (patR AV18 AF4 [] 3).1 0).aP 0 = VT.mk 3 3 0 := by rw [pal]; decide +kernel
theorem pal_p1 : at_ (at_ (patR AV18 AF4 [] 3).1 0).aP 1 = VT.mk 6 0 0 := by rw [pal]; decide +kernel
theorem pal_p4 : at_ (at_ (patR AV18 AF4 [] 3).1 0).aP 4 = VT.mk 0 6 0 := by rw [pal]; decide +kernel
theorem pal_s : (at_ (patR AV18 AF4 [] 3).1 0).Skin = 3 := by rw [pal]; decide +kernel
section
variable {vs : List VT} {fs : List (List Int)} {cr : List CrT}
structure QuF (vs : List VT) (fs : List (List Int)) (cr : List CrT) : Prop where
  mid : MidC vs fs cr
  l0 : (levelR vs fs cr).2 = 0
  four : fs.any notF = false
structure PaF (vs : List VT) (fs : List (List Int)) (cr : List CrT) (skin : Int) : Prop where
  e : (patR vs fs cr skin).2 = 0
  l : (patR vs fs cr skin).1.length = fs.length
  p : ∀ i : Int, 0 ≤ i → i < fs.length → ∀ k : Int, 0 ≤ k → k < 16 → hasB (boundR vs).1 (at_ (at_ (patR vs fs cr skin).1 i).aP k)
  n : ∀ i : Int, 0 ≤ i → i < fs.length → ∀ k : Int, 0 ≤ k → k < 4 → inV 1023 (at_ (at_ (patR vs fs cr skin).1 i).aNormals k)
end
end Go.Proofs.U
namespace Go.Proofs.U
open Go Go.AH Go.Proofs.T
set_option maxRecDepth 20000
structure Q4 where
  a : VT
  b : VT
  c : VT
  d : VT
  deriving DecidableEq
instance instQ4 : Inhabited Q4 := ⟨⟨default, default, default, default⟩⟩
def e4 (q : Q4) : List AV := [.int .i64 q.a.X, .int .i64 q.a.Y, .int .i64 q.a.Z, .int .i64 q.b.X, .int .i64 q.b.Y, .int .i64 q.b.Z, .int .i64 q.c.X, .int .i64 q.c.Y, .int .i64 q.c.Z, .int .i64 q.d.X, .int .i64 q.d.Y, .int .i64 q.d.Z]
section
variable {vs : List VT} {fs : List (List Int)} {t : Tp} {sh : List Int} {hd : List (List VT)} {f g skin a b A B : Int}
end
section
variable {vs : List VT} {fs : List (List Int)} {cr : List CrT} {skin f g a b A B : Int}
end
end Go.Proofs.U
namespace Go.Proofs.U
open Go Go.AH Go.Proofs.T
set_option maxRecDepth 20000
theorem good_of {n : Int} {fs : List (List Int)} (h : ∀ l ∈ fs, 3 ≤ l.length ∧ (∀ x ∈ l, 0 ≤ x ∧ x < n) ∧ l.Nodup ∧ ∀ w ∈ wayF l, 0 ≤ alongS fs w.1 w.2) : goodS n fs := fun f f0 f1 => by
  obtain ⟨h1, h2, h3, h4⟩ := h _ (at_mem f0 f1)
  exact ⟨by omega, fun i i0 i1 => h2 _ (at_mem i0 i1), apart_of h3, fun i i0 i1 => h4 (at_ (at_ fs f) i, at_ (at_ fs f) ((i + 1) % (at_ fs f).length)) (mem_wayF.2 ⟨i, i0, i1, rfl, rfl⟩)⟩
theorem okS_of {n : Nat} {fs : List (List Int)} (h : ∀ l ∈ fs, 3 ≤ l.length ∧ (∀ x ∈ l, 0 ≤ x ∧ x < (n : Int)) ∧ l.Nodup ∧ ∀ w ∈ wayF l, 0 ≤ alongS fs w.1 w.2) (g : ∀ j ∈ List.range n, fanOK fs (j : Int) = true) : okS n fs :=
  ⟨by omega, good_of h, fun c c0 c1 => by
    have := g c.toNat (List.mem_range.2 (by omega))
    rwa [Int.toNat_of_nonneg c0] at this⟩
abbrev FS9 : List (List Int) := [[0, 1, 5, 4], [1, 2, 6, 5], [2, 3, 7, 6], [4, 5, 9, 8], [5, 6, 10, 9], [6, 7, 11, 10], [8, 9, 13, 12], [9, 10, 14, 13], [10, 11, 15, 14]]
theorem ok9 : okS (16 : Nat) FS9 := okS_of (by decide +kernel) (by decide +kernel)
abbrev T9 : Tp := ⟨eOut FS9 16 16, fansU FS9 16, rndU FS9 16⟩
theorem b9 : buildT (16 : Nat) FS9 = T9 ∧ buildE (16 : Nat) FS9 = 0 := build_ok ok9
theorem s9 : (sharpR T9 []).2 = 0 := by decide +kernel
section
variable {vs : List VT} (hl : vs.length = 16) (hv : ∀ p ∈ vs, inV 16384 p)
include hl hv
theorem lev9 : (levelR vs FS9 []).2 = 0 := by
  have hf : vs.any farV = false := far_of fun p hp => inV_le (hv p hp) (by decide)
  have hb : buildT vs.length FS9 = T9 := by rw [hl]; exact b9.1
  have he : buildE vs.length FS9 = 0 := by rw [hl]; exact b9.2
  rw [level_4 he (by rw [hb]; exact s9) hf]
theorem qu9 : QuF vs FS9 [] := ⟨⟨by omega, by decide, by decide, by decide, fun c hc => (by cases hc), by decide⟩, lev9 hl hv, by decide⟩
theorem pat9 : patR vs FS9 [] 0 = (U_ (fun f => patchQ vs FS9 T9 (sharpR T9 []).1 (hdR vs T9.ed (sharpR T9 []).1) f 0) 9, 0) := by
  have h := pat_3 (skin := 0) (lev9 hl hv) (show FS9.any notF = false by decide)
  have hb : buildT vs.length FS9 = T9 := by rw [hl]; exact b9.1
  rw [hb] at h; exact h
end
theorem hd_none {vs : List VT} {ed : List Ed} {sh : List Int} {v : Int} (v0 : 0 ≤ v) (v1 : v < vs.length) (h : ∀ j ∈ List.range ed.length, at_ sh (j : Int) = 0 ∨ ((at_ ed (j : Int)).A ≠ v ∧ (at_ ed (j : Int)).B ≠ v)) : at_ (hdR vs ed sh) v = [] := by
  rw [hdR_at v0 v1]
  unfold hdU F_ U_
  rw [List.flatten_eq_nil_iff]
  intro l hl
  obtain ⟨j, hj, rfl⟩ := List.mem_map.1 hl
  rw [List.mem_range] at hj
  show hdJ vs ed sh v (j : Int) = []
  unfold hdJ
  by_cases hz : at_ sh (j : Int) = 0
  · rw [if_pos hz]
  · have := (h j (List.mem_range.2 (by omega))).resolve_left hz
    rw [if_neg hz, if_neg this.1, if_neg this.2]; rfl
theorem sharp9 : ∀ v ∈ ([5, 6, 9, 10] : List Int), ∀ j ∈ List.range T9.ed.length, at_ (sharpR T9 []).1 (j : Int) = 0 ∨ ((at_ T9.ed (j : Int)).A ≠ v ∧ (at_ T9.ed (j : Int)).B ≠ v) := by decide +kernel
end Go.Proofs.U
namespace Go.Proofs.U
open Go Go.AH Go.Proofs.T
set_option maxRecDepth 20000
def closeZ (x n d : Int) : Prop := x * d - n ≤ 2 * d ∧ n - x * d ≤ 2 * d
instance (x n d : Int) : Decidable (closeZ x n d) := by unfold closeZ; infer_instance
def closeT (x n : VT) : Prop := closeZ x.X n.X 36 ∧ closeZ x.Y n.Y 36 ∧ closeZ x.Z n.Z 36
def tab : List Int := [1, 4, 1, 0, 0, 4, 2, 0, 0, 2, 4, 0, 0, 1, 4, 1]
def spl (vs : List VT) (j i n : Int) : VT := sumL (U_ (fun q => scaleV (at_ vs q) (at_ tab (4 * j + q / 4) * at_ tab (4 * i + q % 4))) n)
theorem spl_step {vs : List VT} {j i y x : Int} (y0 : 0 ≤ y) (x0 : 0 ≤ x) (x1 : x < 4) : addV (spl vs j i (4 * y + x)) (scaleV (at_ vs (4 * y + x)) (at_ tab (4 * j + y) * at_ tab (4 * i + x))) = spl vs j i (4 * y + (x + 1)) := by
  have e := U_step (f := fun q => scaleV (at_ vs q) (at_ tab (4 * j + q / 4) * at_ tab (4 * i + q % 4))) (k := 4 * y + x) (by omega)
  have e1 : (4 * y + x) / 4 = y := by omega
  have e2 : (4 * y + x) % 4 = x := by omega
  unfold spl
  rw [show 4 * y + (x + 1) = 4 * y + x + 1 by omega, ← e, sumL_app, sumL_one]
  simp only [e1, e2]
def inS (a b c d : VT) : VT := addV (addV (addV (scaleV a 16) (scaleV b 8)) (scaleV c 8)) (scaleV d 4)
def inP (a b c d : VT) : VT := ofV (wsum [WgT.mk 4 a, WgT.mk 2 b, WgT.mk 2 c, WgT.mk 1 d]) 9
def offT (m : Int) (p s : VT) : Prop := inV m (subV (scaleV p 36) s)
theorem in_off (a b c d : VT) : offT 18 (inP a b c d) (inS a b c d) := by
  have key : ∀ s : Int, -18 ≤ roundZ s 9 * 36 - 4 * s ∧ roundZ s 9 * 36 - 4 * s ≤ 18 := fun s => by
    have := round_err (x := s) (d := 9) (by decide); omega
  have kX := key (0 + a.X * 4 + b.X * 2 + c.X * 2 + d.X * 1)
  have kY := key (0 + a.Y * 4 + b.Y * 2 + c.Y * 2 + d.Y * 1)
  have kZ := key (0 + a.Z * 4 + b.Z * 2 + c.Z * 2 + d.Z * 1)
  unfold offT inP inS ofV wsum inV subV scaleV addV zV
  simp only [List.foldl_cons, List.foldl_nil]
  omega
theorem ed_off {p q s t : VT} (h : offT 18 p s) (g : offT 18 q t) : inV 72 (subV (scaleV (ofV (addV p q) 2) 72) (addV s t)) := by
  have kX := round_err (x := p.X + q.X) (d := 2) (by decide)
  have kY := round_err (x := p.Y + q.Y) (d := 2) (by decide)
  have kZ := round_err (x := p.Z + q.Z) (d := 2) (by decide)
  unfold offT inV subV scaleV addV ofV at *
  simp only at *
  omega
theorem co_off {p q r w s t u v : VT} (h : offT 18 p s) (g : offT 18 q t) (k : offT 18 r u) (l : offT 18 w v) : inV 144 (subV (scaleV (ofV (addV (addV (addV p q) r) w) 4) 144) (addV (addV (addV s t) u) v)) := by
  have kX := round_err (x := p.X + q.X + r.X + w.X) (d := 4) (by decide)
  have kY := round_err (x := p.Y + q.Y + r.Y + w.Y) (d := 4) (by decide)
  have kZ := round_err (x := p.Z + q.Z + r.Z + w.Z) (d := 4) (by decide)
  unfold offT inV subV scaleV addV ofV at *
  simp only at *
  omega
end Go.Proofs.U
namespace Go.Proofs.U
open Go Go.AH Go.Proofs.T
set_option maxRecDepth 20000
set_option linter.unusedVariables false
def cc (f v k : Int) : Int := at_ (at_ FS9 f) ((idxI (at_ FS9 f) v + k) % 4)
section
variable {vs : List VT} {hd : List (List VT)} {f v w a b c g f0 f1 f2 f3 : Int}
theorem in9 (h : (at_ T9.fan v).length = 4 ∧ cc f v 0 = v ∧ cc f v 1 = a ∧ cc f v 3 = b ∧ cc f v 2 = c) : innerP vs FS9 T9 hd f v = inP (at_ vs v) (at_ vs a) (at_ vs b) (at_ vs c) := by
  obtain ⟨hn, h0, h1, h3, h2⟩ := h
  have e : innerN T9 hd v = 4 := by unfold innerN; rw [hn]; split <;> rfl
  have e0 : atP vs (at_ FS9 f) (idxI (at_ FS9 f) v) 0 = at_ vs v := congrArg (at_ vs) h0
  have e1 : atP vs (at_ FS9 f) (idxI (at_ FS9 f) v) 1 = at_ vs a := congrArg (at_ vs) h1
  have e3 : atP vs (at_ FS9 f) (idxI (at_ FS9 f) v) 3 = at_ vs b := congrArg (at_ vs) h3
  have e2 : atP vs (at_ FS9 f) (idxI (at_ FS9 f) v) 2 = at_ vs c := congrArg (at_ vs) h2
  unfold innerP
  rw [e, e0, e1, e2, e3]; rfl
theorem ed9 (h : at_ (sharpR T9 []).1 (optI (findS T9 v w)) = 0 ∧ (at_ T9.ed (optI (findS T9 v w))).F = f ∧ (at_ T9.ed (optI (findS T9 v w))).G = g) : edgeQ vs FS9 T9 (sharpR T9 []).1 hd v w = ofV (addV (innerP vs FS9 T9 hd f v) (innerP vs FS9 T9 hd g v)) 2 := by
  obtain ⟨h1, h2, h3⟩ := h
  unfold edgeQ; rw [if_pos h1, h2, h3]
theorem co9 (hh : at_ hd v = []) (hf : at_ T9.fan v = [f0, f1, f2, f3]) : cornerQ vs FS9 T9 hd v = ofV (addV (addV (addV (innerP vs FS9 T9 hd f0 v) (innerP vs FS9 T9 hd f1 v)) (innerP vs FS9 T9 hd f2 v)) (innerP vs FS9 T9 hd f3 v)) 4 := by
  unfold cornerQ
  rw [hh, hf, if_neg (by decide), if_neg (by decide)]
  show ofV (addV (addV (addV (addV zV _) _) _) _) 4 = _
  rw [zero_addV]
end
section
variable (vs : List VT) (hd : List (List VT)) (h5 : at_ hd 5 = []) (h6 : at_ hd 6 = []) (h9 : at_ hd 9 = []) (h10 : at_ hd 10 = [])
include h5 in
theorem p0 : closeT (cornerQ vs FS9 T9 hd 5) (spl vs 0 0 16) := by
  rw [co9 h5 (f0 := 0) (f1 := 1) (f2 := 4) (f3 := 3) (by decide +kernel), in9 (vs := vs) (hd := hd) (f := 0) (v := 5) (a := 4) (b := 1) (c := 0) (by decide +kernel), in9 (vs := vs) (hd := hd) (f := 1) (v := 5) (a := 1) (b := 6) (c := 2) (by decide +kernel), in9 (vs := vs) (hd := hd) (f := 4) (v := 5) (a := 6) (b := 9) (c := 10) (by decide +kernel), in9 (vs := vs) (hd := hd) (f := 3) (v := 5) (a := 9) (b := 4) (c := 8) (by decide +kernel)]
  have q := co_off (in_off (at_ vs 5) (at_ vs 4) (at_ vs 1) (at_ vs 0)) (in_off (at_ vs 5) (at_ vs 1) (at_ vs 6) (at_ vs 2)) (in_off (at_ vs 5) (at_ vs 6) (at_ vs 9) (at_ vs 10)) (in_off (at_ vs 5) (at_ vs 9) (at_ vs 4) (at_ vs 8))
  generalize ofV _ _ = r at *
  have e : spl vs 0 0 16 = addV (addV (addV (addV (addV (addV (addV (addV (addV (addV (addV (addV (addV (addV (addV (addV (zV) (scaleV (at_ vs 0) (1))) (scaleV (at_ vs 1) (4))) (scaleV (at_ vs 2) (1))) (scaleV (at_ vs 3) (0))) (scaleV (at_ vs 4) (4))) (scaleV (at_ vs 5) (16))) (scaleV (at_ vs 6) (4))) (scaleV (at_ vs 7) (0))) (scaleV (at_ vs 8) (1))) (scaleV (at_ vs 9) (4))) (scaleV (at_ vs 10) (1))) (scaleV (at_ vs 11) (0))) (scaleV (at_ vs 12) (0))) (scaleV (at_ vs 13) (0))) (scaleV (at_ vs 14) (0))) (scaleV (at_ vs 15) (0)) := rfl
  rw [e]
  unfold closeT closeZ
  unfold inS inV subV scaleV addV at *
  unfold zV at *
  simp only at *
  omega
theorem p1 : closeT (edgeQ vs FS9 T9 (sharpR T9 []).1 hd 5 6) (spl vs 0 1 16) := by
  rw [ed9 (f := 4) (g := 1) (by decide +kernel), in9 (vs := vs) (hd := hd) (f := 4) (v := 5) (a := 6) (b := 9) (c := 10) (by decide +kernel), in9 (vs := vs) (hd := hd) (f := 1) (v := 5) (a := 1) (b := 6) (c := 2) (by decide +kernel)]
  have q := ed_off (in_off (at_ vs 5) (at_ vs 6) (at_ vs 9) (at_ vs 10)) (in_off (at_ vs 5) (at_ vs 1) (at_ vs 6) (at_ vs 2))
  generalize ofV _ _ = r at *
  have e : spl vs 0 1 16 = addV (addV (addV (addV (addV (addV (addV (addV (addV (addV (addV (addV (addV (addV (addV (addV (zV) (scaleV (at_ vs 0) (0))) (scaleV (at_ vs 1) (4))) (scaleV (at_ vs 2) (2))) (scaleV (at_ vs 3) (0))) (scaleV (at_ vs 4) (0))) (scaleV (at_ vs 5) (16))) (scaleV (at_ vs 6) (8))) (scaleV (at_ vs 7) (0))) (scaleV (at_ vs 8) (0))) (scaleV (at_ vs 9) (4))) (scaleV (at_ vs 10) (2))) (scaleV (at_ vs 11) (0))) (scaleV (at_ vs 12) (0))) (scaleV (at_ vs 13) (0))) (scaleV (at_ vs 14) (0))) (scaleV (at_ vs 15) (0)) := rfl
  rw [e]
  unfold closeT closeZ
  unfold inS inV subV scaleV addV at *
  unfold zV at *
  simp only at *
  omega
theorem p2 : closeT (edgeQ vs FS9 T9 (sharpR T9 []).1 hd 6 5) (spl vs 0 2 16) := by
  rw [ed9 (f := 4) (g := 1) (by decide +kernel), in9 (vs := vs) (hd := hd) (f := 4) (v := 6) (a := 10) (b := 5) (c := 9) (by decide +kernel), in9 (vs := vs) (hd := hd) (f := 1) (v := 6) (a := 5) (b := 2) (c := 1) (by decide +kernel)]
  have q := ed_off (in_off (at_ vs 6) (at_ vs 10) (at_ vs 5) (at_ vs 9)) (in_off (at_ vs 6) (at_ vs 5) (at_ vs 2) (at_ vs 1))
  generalize ofV _ _ = r at *
  have e : spl vs 0 2 16 = addV (addV (addV (addV (addV (addV (addV (addV (addV (addV (addV (addV (addV (addV (addV (addV (zV) (scaleV (at_ vs 0) (0))) (scaleV (at_ vs 1) (2))) (scaleV (at_ vs 2) (4))) (scaleV (at_ vs 3) (0))) (scaleV (at_ vs 4) (0))) (scaleV (at_ vs 5) (8))) (scaleV (at_ vs 6) (16))) (scaleV (at_ vs 7) (0))) (scaleV (at_ vs 8) (0))) (scaleV (at_ vs 9) (2))) (scaleV (at_ vs 10) (4))) (scaleV (at_ vs 11) (0))) (scaleV (at_ vs 12) (0))) (scaleV (at_ vs 13) (0))) (scaleV (at_ vs 14) (0))) (scaleV (at_ vs 15) (0)) := rfl
  rw [e]
  unfold closeT closeZ
  unfold inS inV subV scaleV addV at *
  unfold zV at *
  simp only at *
  omega
include h6 in
theorem p3 : closeT (cornerQ vs FS9 T9 hd 6) (spl vs 0 3 16) := by
  rw [co9 h6 (f0 := 1) (f1 := 2) (f2 := 5) (f3 := 4) (by decide +kernel), in9 (vs := vs) (hd := hd) (f := 1) (v := 6) (a := 5) (b := 2) (c := 1) (by decide +kernel), in9 (vs := vs) (hd := hd) (f := 2) (v := 6) (a := 2) (b := 7) (c := 3) (by decide +kernel), in9 (vs := vs) (hd := hd) (f := 5) (v := 6) (a := 7) (b := 10) (c := 11) (by decide +kernel), in9 (vs := vs) (hd := hd) (f := 4) (v := 6) (a := 10) (b := 5) (c := 9) (by decide +kernel)]
  have q := co_off (in_off (at_ vs 6) (at_ vs 5) (at_ vs 2) (at_ vs 1)) (in_off (at_ vs 6) (at_ vs 2) (at_ vs 7) (at_ vs 3)) (in_off (at_ vs 6) (at_ vs 7) (at_ vs 10) (at_ vs 11)) (in_off (at_ vs 6) (at_ vs 10) (at_ vs 5) (at_ vs 9))
  generalize ofV _ _ = r at *
  have e : spl vs 0 3 16 = addV (addV (addV (addV (addV (addV (addV (addV (addV (addV (addV (addV (addV (addV (addV (addV (zV) (scaleV (at_ vs 0) (0))) (scaleV (at_ vs 1) (1))) (scaleV (at_ vs 2) (4))) (scaleV (at_ vs 3) (1))) (scaleV (at_ vs 4) (0))) (scaleV (at_ vs 5) (4))) (scaleV (at_ vs 6) (16))) (scaleV (at_ vs 7) (4))) (scaleV (at_ vs 8) (0))) (scaleV (at_ vs 9) (1))) (scaleV (at_ vs 10) (4))) (scaleV (at_ vs 11) (1))) (scaleV (at_ vs 12) (0))) (scaleV (at_ vs 13) (0))) (scaleV (at_ vs 14) (0))) (scaleV (at_ vs 15) (0)) := rfl
  rw [e]
  unfold closeT closeZ
  unfold inS inV subV scaleV addV at *
  unfold zV at *
  simp only at *
  omega
theorem p4 : closeT (edgeQ vs FS9 T9 (sharpR T9 []).1 hd 5 9) (spl vs 1 0 16) := by
  rw [ed9 (f := 3) (g := 4) (by decide +kernel), in9 (vs := vs) (hd := hd) (f := 3) (v := 5) (a := 9) (b := 4) (c := 8) (by decide +kernel), in9 (vs := vs) (hd := hd) (f := 4) (v := 5) (a := 6) (b := 9) (c := 10) (by decide +kernel)]
  have q := ed_off (in_off (at_ vs 5) (at_ vs 9) (at_ vs 4) (at_ vs 8)) (in_off (at_ vs 5) (at_ vs 6) (at_ vs 9) (at_ vs 10))
  generalize ofV _ _ = r at *
  have e : spl vs 1 0 16 = addV (addV (addV (addV (addV (addV (addV (addV (addV (addV (addV (addV (addV (addV (addV (addV (zV) (scaleV (at_ vs 0) (0))) (scaleV (at_ vs 1) (0))) (scaleV (at_ vs 2) (0))) (scaleV (at_ vs 3) (0))) (scaleV (at_ vs 4) (4))) (scaleV (at_ vs 5) (16))) (scaleV (at_ vs 6) (4))) (scaleV (at_ vs 7) (0))) (scaleV (at_ vs 8) (2))) (scaleV (at_ vs 9) (8))) (scaleV (at_ vs 10) (2))) (scaleV (at_ vs 11) (0))) (scaleV (at_ vs 12) (0))) (scaleV (at_ vs 13) (0))) (scaleV (at_ vs 14) (0))) (scaleV (at_ vs 15) (0)) := rfl
  rw [e]
  unfold closeT closeZ
  unfold inS inV subV scaleV addV at *
  unfold zV at *
  simp only at *
  omega
theorem p5 : closeT (innerP vs FS9 T9 hd 4 5) (spl vs 1 1 16) := by
  rw [in9 (vs := vs) (hd := hd) (f := 4) (v := 5) (a := 6) (b := 9) (c := 10) (by decide +kernel)]
  have q := in_off (at_ vs 5) (at_ vs 6) (at_ vs 9) (at_ vs 10)
  generalize inP _ _ _ _ = r at *
  have e : spl vs 1 1 16 = addV (addV (addV (addV (addV (addV (addV (addV (addV (addV (addV (addV (addV (addV (addV (addV (zV) (scaleV (at_ vs 0) (0))) (scaleV (at_ vs 1) (0))) (scaleV (at_ vs 2) (0))) (scaleV (at_ vs 3) (0))) (scaleV (at_ vs 4) (0))) (scaleV (at_ vs 5) (16))) (scaleV (at_ vs 6) (8))) (scaleV (at_ vs 7) (0))) (scaleV (at_ vs 8) (0))) (scaleV (at_ vs 9) (8))) (scaleV (at_ vs 10) (4))) (scaleV (at_ vs 11) (0))) (scaleV (at_ vs 12) (0))) (scaleV (at_ vs 13) (0))) (scaleV (at_ vs 14) (0))) (scaleV (at_ vs 15) (0)) := rfl
  rw [e]
  unfold closeT closeZ
  unfold offT inS inV subV scaleV addV at *
  unfold zV at *
  simp only at *
  omega
theorem p6 : closeT (innerP vs FS9 T9 hd 4 6) (spl vs 1 2 16) := by
  rw [in9 (vs := vs) (hd := hd) (f := 4) (v := 6) (a := 10) (b := 5) (c := 9) (by decide +kernel)]
  have q := in_off (at_ vs 6) (at_ vs 10) (at_ vs 5) (at_ vs 9)
  generalize inP _ _ _ _ = r at *
  have e : spl vs 1 2 16 = addV (addV (addV (addV (addV (addV (addV (addV (addV (addV (addV (addV (addV (addV (addV (addV (zV) (scaleV (at_ vs 0) (0))) (scaleV (at_ vs 1) (0))) (scaleV (at_ vs 2) (0))) (scaleV (at_ vs 3) (0))) (scaleV (at_ vs 4) (0))) (scaleV (at_ vs 5) (8))) (scaleV (at_ vs 6) (16))) (scaleV (at_ vs 7) (0))) (scaleV (at_ vs 8) (0))) (scaleV (at_ vs 9) (4))) (scaleV (at_ vs 10) (8))) (scaleV (at_ vs 11) (0))) (scaleV (at_ vs 12) (0))) (scaleV (at_ vs 13) (0))) (scaleV (at_ vs 14) (0))) (scaleV (at_ vs 15) (0)) := rfl
  rw [e]
  unfold closeT closeZ
  unfold offT inS inV subV scaleV addV at *
  unfold zV at *
  simp only at *
  omega
theorem p7 : closeT (edgeQ vs FS9 T9 (sharpR T9 []).1 hd 6 10) (spl vs 1 3 16) := by
  rw [ed9 (f := 4) (g := 5) (by decide +kernel), in9 (vs := vs) (hd := hd) (f := 4) (v := 6) (a := 10) (b := 5) (c := 9) (by decide +kernel), in9 (vs := vs) (hd := hd) (f := 5) (v := 6) (a := 7) (b := 10) (c := 11) (by decide +kernel)]
  have q := ed_off (in_off (at_ vs 6) (at_ vs 10) (at_ vs 5) (at_ vs 9)) (in_off (at_ vs 6) (at_ vs 7) (at_ vs 10) (at_ vs 11))
  generalize ofV _ _ = r at *
  have e : spl vs 1 3 16 = addV (addV (addV (addV (addV (addV (addV (addV (addV (addV (addV (addV (addV (addV (addV (addV (zV) (scaleV (at_ vs 0) (0))) (scaleV (at_ vs 1) (0))) (scaleV (at_ vs 2) (0))) (scaleV (at_ vs 3) (0))) (scaleV (at_ vs 4) (0))) (scaleV (at_ vs 5) (4))) (scaleV (at_ vs 6) (16))) (scaleV (at_ vs 7) (4))) (scaleV (at_ vs 8) (0))) (scaleV (at_ vs 9) (2))) (scaleV (at_ vs 10) (8))) (scaleV (at_ vs 11) (2))) (scaleV (at_ vs 12) (0))) (scaleV (at_ vs 13) (0))) (scaleV (at_ vs 14) (0))) (scaleV (at_ vs 15) (0)) := rfl
  rw [e]
  unfold closeT closeZ
  unfold inS inV subV scaleV addV at *
  unfold zV at *
  simp only at *
  omega
theorem p8 : closeT (edgeQ vs FS9 T9 (sharpR T9 []).1 hd 9 5) (spl vs 2 0 16) := by
  rw [ed9 (f := 3) (g := 4) (by decide +kernel), in9 (vs := vs) (hd := hd) (f := 3) (v := 9) (a := 8) (b := 5) (c := 4) (by decide +kernel), in9 (vs := vs) (hd := hd) (f := 4) (v := 9) (a := 5) (b := 10) (c := 6) (by decide +kernel)]
  have q := ed_off (in_off (at_ vs 9) (at_ vs 8) (at_ vs 5) (at_ vs 4)) (in_off (at_ vs 9) (at_ vs 5) (at_ vs 10) (at_ vs 6))
  generalize ofV _ _ = r at *
  have e : spl vs 2 0 16 = addV (addV (addV (addV (addV (addV (addV (addV (addV (addV (addV (addV (addV (addV (addV (addV (zV) (scaleV (at_ vs 0) (0))) (scaleV (at_ vs 1) (0))) (scaleV (at_ vs 2) (0))) (scaleV (at_ vs 3) (0))) (scaleV (at_ vs 4) (2))) (scaleV (at_ vs 5) (8))) (scaleV (at_ vs 6) (2))) (scaleV (at_ vs 7) (0))) (scaleV (at_ vs 8) (4))) (scaleV (at_ vs 9) (16))) (scaleV (at_ vs 10) (4))) (scaleV (at_ vs 11) (0))) (scaleV (at_ vs 12) (0))) (scaleV (at_ vs 13) (0))) (scaleV (at_ vs 14) (0))) (scaleV (at_ vs 15) (0)) := rfl
  rw [e]
  unfold closeT closeZ
  unfold inS inV subV scaleV addV at *
  unfold zV at *
  simp only at *
  omega
theorem p9 : closeT (innerP vs FS9 T9 hd 4 9) (spl vs 2 1 16) := by
  rw [in9 (vs := vs) (hd := hd) (f := 4) (v := 9) (a := 5) (b := 10) (c := 6) (by decide +kernel)]
  have q := in_off (at_ vs 9) (at_ vs 5) (at_ vs 10) (at_ vs 6)
  generalize inP _ _ _ _ = r at *
  have e : spl vs 2 1 16 = addV (addV (addV (addV (addV (addV (addV (addV (addV (addV (addV (addV (addV (addV (addV (addV (zV) (scaleV (at_ vs 0) (0))) (scaleV (at_ vs 1) (0))) (scaleV (at_ vs 2) (0))) (scaleV (at_ vs 3) (0))) (scaleV (at_ vs 4) (0))) (scaleV (at_ vs 5) (8))) (scaleV (at_ vs 6) (4))) (scaleV (at_ vs 7) (0))) (scaleV (at_ vs 8) (0))) (scaleV (at_ vs 9) (16))) (scaleV (at_ vs 10) (8))) (scaleV (at_ vs 11) (0))) (scaleV (at_ vs 12) (0))) (scaleV (at_ vs 13) (0))) (scaleV (at_ vs 14) (0))) (scaleV (at_ vs 15) (0)) := rfl
  rw [e]
  unfold closeT closeZ
  unfold offT inS inV subV scaleV addV at *
  unfold zV at *
  simp only at *
  omega
theorem p10 : closeT (innerP vs FS9 T9 hd 4 10) (spl vs 2 2 16) := by
  rw [in9 (vs := vs) (hd := hd) (f := 4) (v := 10) (a := 9) (b := 6) (c := 5) (by decide +kernel)]
  have q := in_off (at_ vs 10) (at_ vs 9) (at_ vs 6) (at_ vs 5)
  generalize inP _ _ _ _ = r at *
  have e : spl vs 2 2 16 = addV (addV (addV (addV (addV (addV (addV (addV (addV (addV (addV (addV (addV (addV (addV (addV (zV) (scaleV (at_ vs 0) (0))) (scaleV (at_ vs 1) (0))) (scaleV (at_ vs 2) (0))) (scaleV (at_ vs 3) (0))) (scaleV (at_ vs 4) (0))) (scaleV (at_ vs 5) (4))) (scaleV (at_ vs 6) (8))) (scaleV (at_ vs 7) (0))) (scaleV (at_ vs 8) (0))) (scaleV (at_ vs 9) (8))) (scaleV (at_ vs 10) (16))) (scaleV (at_ vs 11) (0))) (scaleV (at_ vs 12) (0))) (scaleV (at_ vs 13) (0))) (scaleV (at_ vs 14) (0))) (scaleV (at_ vs 15) (0)) := rfl
  rw [e]
  unfold closeT closeZ
  unfold offT inS inV subV scaleV addV at *
  unfold zV at *
  simp only at *
  omega
theorem p11 : closeT (edgeQ vs FS9 T9 (sharpR T9 []).1 hd 10 6) (spl vs 2 3 16) := by
  rw [ed9 (f := 4) (g := 5) (by decide +kernel), in9 (vs := vs) (hd := hd) (f := 4) (v := 10) (a := 9) (b := 6) (c := 5) (by decide +kernel), in9 (vs := vs) (hd := hd) (f := 5) (v := 10) (a := 6) (b := 11) (c := 7) (by decide +kernel)]
  have q := ed_off (in_off (at_ vs 10) (at_ vs 9) (at_ vs 6) (at_ vs 5)) (in_off (at_ vs 10) (at_ vs 6) (at_ vs 11) (at_ vs 7))
  generalize ofV _ _ = r at *
  have e : spl vs 2 3 16 = addV (addV (addV (addV (addV (addV (addV (addV (addV (addV (addV (addV (addV (addV (addV (addV (zV) (scaleV (at_ vs 0) (0))) (scaleV (at_ vs 1) (0))) (scaleV (at_ vs 2) (0))) (scaleV (at_ vs 3) (0))) (scaleV (at_ vs 4) (0))) (scaleV (at_ vs 5) (2))) (scaleV (at_ vs 6) (8))) (scaleV (at_ vs 7) (2))) (scaleV (at_ vs 8) (0))) (scaleV (at_ vs 9) (4))) (scaleV (at_ vs 10) (16))) (scaleV (at_ vs 11) (4))) (scaleV (at_ vs 12) (0))) (scaleV (at_ vs 13) (0))) (scaleV (at_ vs 14) (0))) (scaleV (at_ vs 15) (0)) := rfl
  rw [e]
  unfold closeT closeZ
  unfold inS inV subV scaleV addV at *
  unfold zV at *
  simp only at *
  omega
include h9 in
theorem p12 : closeT (cornerQ vs FS9 T9 hd 9) (spl vs 3 0 16) := by
  rw [co9 h9 (f0 := 3) (f1 := 4) (f2 := 7) (f3 := 6) (by decide +kernel), in9 (vs := vs) (hd := hd) (f := 3) (v := 9) (a := 8) (b := 5) (c := 4) (by decide +kernel), in9 (vs := vs) (hd := hd) (f := 4) (v := 9) (a := 5) (b := 10) (c := 6) (by decide +kernel), in9 (vs := vs) (hd := hd) (f := 7) (v := 9) (a := 10) (b := 13) (c := 14) (by decide +kernel), in9 (vs := vs) (hd := hd) (f := 6) (v := 9) (a := 13) (b := 8) (c := 12) (by decide +kernel)]
  have q := co_off (in_off (at_ vs 9) (at_ vs 8) (at_ vs 5) (at_ vs 4)) (in_off (at_ vs 9) (at_ vs 5) (at_ vs 10) (at_ vs 6)) (in_off (at_ vs 9) (at_ vs 10) (at_ vs 13) (at_ vs 14)) (in_off (at_ vs 9) (at_ vs 13) (at_ vs 8) (at_ vs 12))
  generalize ofV _ _ = r at *
  have e : spl vs 3 0 16 = addV (addV (addV (addV (addV (addV (addV (addV (addV (addV (addV (addV (addV (addV (addV (addV (zV) (scaleV (at_ vs 0) (0))) (scaleV (at_ vs 1) (0))) (scaleV (at_ vs 2) (0))) (scaleV (at_ vs 3) (0))) (scaleV (at_ vs 4) (1))) (scaleV (at_ vs 5) (4))) (scaleV (at_ vs 6) (1))) (scaleV (at_ vs 7) (0))) (scaleV (at_ vs 8) (4))) (scaleV (at_ vs 9) (16))) (scaleV (at_ vs 10) (4))) (scaleV (at_ vs 11) (0))) (scaleV (at_ vs 12) (1))) (scaleV (at_ vs 13) (4))) (scaleV (at_ vs 14) (1))) (scaleV (at_ vs 15) (0)) := rfl
  rw [e]
  unfold closeT closeZ
  unfold inS inV subV scaleV addV at *
  unfold zV at *
  simp only at *
  omega
theorem p13 : closeT (edgeQ vs FS9 T9 (sharpR T9 []).1 hd 9 10) (spl vs 3 1 16) := by
  rw [ed9 (f := 7) (g := 4) (by decide +kernel), in9 (vs := vs) (hd := hd) (f := 7) (v := 9) (a := 10) (b := 13) (c := 14) (by decide +kernel), in9 (vs := vs) (hd := hd) (f := 4) (v := 9) (a := 5) (b := 10) (c := 6) (by decide +kernel)]
  have q := ed_off (in_off (at_ vs 9) (at_ vs 10) (at_ vs 13) (at_ vs 14)) (in_off (at_ vs 9) (at_ vs 5) (at_ vs 10) (at_ vs 6))
  generalize ofV _ _ = r at *
  have e : spl vs 3 1 16 = addV (addV (addV (addV (addV (addV (addV (addV (addV (addV (addV (addV (addV (addV (addV (addV (zV) (scaleV (at_ vs 0) (0))) (scaleV (at_ vs 1) (0))) (scaleV (at_ vs 2) (0))) (scaleV (at_ vs 3) (0))) (scaleV (at_ vs 4) (0))) (scaleV (at_ vs 5) (4))) (scaleV (at_ vs 6) (2))) (scaleV (at_ vs 7) (0))) (scaleV (at_ vs 8) (0))) (scaleV (at_ vs 9) (16))) (scaleV (at_ vs 10) (8))) (scaleV (at_ vs 11) (0))) (scaleV (at_ vs 12) (0))) (scaleV (at_ vs 13) (4))) (scaleV (at_ vs 14) (2))) (scaleV (at_ vs 15) (0)) := rfl
  rw [e]
  unfold closeT closeZ
  unfold inS inV subV scaleV addV at *
  unfold zV at *
  simp only at *
  omega
theorem p14 : closeT (edgeQ vs FS9 T9 (sharpR T9 []).1 hd 10 9) (spl vs 3 2 16) := by
  rw [ed9 (f := 7) (g := 4) (by decide +kernel), in9 (vs := vs) (hd := hd) (f := 7) (v := 10) (a := 14) (b := 9) (c := 13) (by decide +kernel), in9 (vs := vs) (hd := hd) (f := 4) (v := 10) (a := 9) (b := 6) (c := 5) (by decide +kernel)]
  have q := ed_off (in_off (at_ vs 10) (at_ vs 14) (at_ vs 9) (at_ vs 13)) (in_off (at_ vs 10) (at_ vs 9) (at_ vs 6) (at_ vs 5))
  generalize ofV _ _ = r at *
  have e : spl vs 3 2 16 = addV (addV (addV (addV (addV (addV (addV (addV (addV (addV (addV (addV (addV (addV (addV (addV (zV) (scaleV (at_ vs 0) (0))) (scaleV (at_ vs 1) (0))) (scaleV (at_ vs 2) (0))) (scaleV (at_ vs 3) (0))) (scaleV (at_ vs 4) (0))) (scaleV (at_ vs 5) (2))) (scaleV (at_ vs 6) (4))) (scaleV (at_ vs 7) (0))) (scaleV (at_ vs 8) (0))) (scaleV (at_ vs 9) (8))) (scaleV (at_ vs 10) (16))) (scaleV (at_ vs 11) (0))) (scaleV (at_ vs 12) (0))) (scaleV (at_ vs 13) (2))) (scaleV (at_ vs 14) (4))) (scaleV (at_ vs 15) (0)) := rfl
  rw [e]
  unfold closeT closeZ
  unfold inS inV subV scaleV addV at *
  unfold zV at *
  simp only at *
  omega
include h10 in
theorem p15 : closeT (cornerQ vs FS9 T9 hd 10) (spl vs 3 3 16) := by
  rw [co9 h10 (f0 := 4) (f1 := 5) (f2 := 8) (f3 := 7) (by decide +kernel), in9 (vs := vs) (hd := hd) (f := 4) (v := 10) (a := 9) (b := 6) (c := 5) (by decide +kernel), in9 (vs := vs) (hd := hd) (f := 5) (v := 10) (a := 6) (b := 11) (c := 7) (by decide +kernel), in9 (vs := vs) (hd := hd) (f := 8) (v := 10) (a := 11) (b := 14) (c := 15) (by decide +kernel), in9 (vs := vs) (hd := hd) (f := 7) (v := 10) (a := 14) (b := 9) (c := 13) (by decide +kernel)]
  have q := co_off (in_off (at_ vs 10) (at_ vs 9) (at_ vs 6) (at_ vs 5)) (in_off (at_ vs 10) (at_ vs 6) (at_ vs 11) (at_ vs 7)) (in_off (at_ vs 10) (at_ vs 11) (at_ vs 14) (at_ vs 15)) (in_off (at_ vs 10) (at_ vs 14) (at_ vs 9) (at_ vs 13))
  generalize ofV _ _ = r at *
  have e : spl vs 3 3 16 = addV (addV (addV (addV (addV (addV (addV (addV (addV (addV (addV (addV (addV (addV (addV (addV (zV) (scaleV (at_ vs 0) (0))) (scaleV (at_ vs 1) (0))) (scaleV (at_ vs 2) (0))) (scaleV (at_ vs 3) (0))) (scaleV (at_ vs 4) (0))) (scaleV (at_ vs 5) (1))) (scaleV (at_ vs 6) (4))) (scaleV (at_ vs 7) (1))) (scaleV (at_ vs 8) (0))) (scaleV (at_ vs 9) (4))) (scaleV (at_ vs 10) (16))) (scaleV (at_ vs 11) (4))) (scaleV (at_ vs 12) (0))) (scaleV (at_ vs 13) (1))) (scaleV (at_ vs 14) (4))) (scaleV (at_ vs 15) (1)) := rfl
  rw [e]
  unfold closeT closeZ
  unfold inS inV subV scaleV addV at *
  unfold zV at *
  simp only at *
  omega
end
end Go.Proofs.U
namespace Go.Proofs.U
open Go Go.AH Go.Proofs.T
set_option maxRecDepth 20000
set_option linter.unusedVariables false
theorem mid_all {vs : List VT} {hd : List (List VT)} (h5 : at_ hd 5 = []) (h6 : at_ hd 6 = []) (h9 : at_ hd 9 = []) (h10 : at_ hd 10 = []) {j i : Int} (j0 : 0 ≤ j) (j1 : j < 4) (i0 : 0 ≤ i) (i1 : i < 4) :
    closeT (at_ (patchQ vs FS9 T9 (sharpR T9 []).1 hd 4 0).aP (4 * j + i)) (spl vs j i 16) := by
  have hj : j = 0 ∨ j = 1 ∨ j = 2 ∨ j = 3 := by omega
  have hi : i = 0 ∨ i = 1 ∨ i = 2 ∨ i = 3 := by omega
  rcases hj with rfl | rfl | rfl | rfl <;> rcases hi with rfl | rfl | rfl | rfl
  · exact p0 vs hd h5
  · exact p1 vs hd
  · exact p2 vs hd
  · exact p3 vs hd h6
  · exact p4 vs hd
  · exact p5 vs hd
  · exact p6 vs hd
  · exact p7 vs hd
  · exact p8 vs hd
  · exact p9 vs hd
  · exact p10 vs hd
  · exact p11 vs hd
  · exact p12 vs hd h9
  · exact p13 vs hd
  · exact p14 vs hd
  · exact p15 vs hd h10
structure SpF (vs : List VT) : Prop where
  mid : MidC vs FS9 []
  e : (patR vs FS9 [] 0).2 = 0
  l : (patR vs FS9 [] 0).1.length = 9
  p : ∀ j i : Int, 0 ≤ j → j < 4 → 0 ≤ i → i < 4 → closeT (at_ (at_ (patR vs FS9 [] 0).1 4).aP (4 * j + i)) (spl vs j i 16)
theorem spF {vs : List VT} (hl : vs.length = 16) (hv : ∀ p ∈ vs, inV 16384 p) : SpF vs := by
  have e := pat9 hl hv
  refine ⟨(qu9 hl hv).mid, by rw [e], by rw [e]; rfl, fun j i j0 j1 i0 i1 => ?_⟩
  rw [e]; simp only
  rw [U_at (by decide) (by decide)]
  exact mid_all (hd_none (by decide) (by omega) (sharp9 5 (by decide))) (hd_none (by decide) (by omega) (sharp9 6 (by decide))) (hd_none (by decide) (by omega) (sharp9 9 (by decide))) (hd_none (by decide) (by omega) (sharp9 10 (by decide))) j0 j1 i0 i1
theorem tab_rng {k : Int} (k0 : 0 ≤ k) (k1 : k < 16) : -4 ≤ at_ tab k ∧ at_ tab k ≤ 4 := by
  have h : ∀ x ∈ tab, -4 ≤ x ∧ x ≤ 4 := by decide
  exact h _ (at_mem k0 (show k < ((16 : Nat) : Int) from k1))
theorem fs_step {r s : Int} (r0 : 0 ≤ r) (r1 : r < 3) (s0 : 0 ≤ s) (s1 : s < 3) : FS9.take (3 * r + s).toNat ++ [[4 * r + s, 4 * r + s + 1, 4 * r + s + 5, 4 * r + s + 4]] = FS9.take (3 * r + (s + 1)).toNat := by
  have hr : r = 0 ∨ r = 1 ∨ r = 2 := by omega
  have hs : s = 0 ∨ s = 1 ∨ s = 2 := by omega
  rcases hr with rfl | rfl | rfl <;> rcases hs with rfl | rfl | rfl <;> rfl
theorem close_in {x n : VT} {c : Int} (h : closeT x n) (hn : inV c n) : inV (c + 72) (scaleV x 36) := by
  unfold closeT closeZ at h; unfold inV scaleV at *; simp only; omega
theorem take_at {l : List VT} {n : Nat} {k : Int} (k0 : 0 ≤ k) (k1 : k < n) : at_ (l.take n) k = at_ l k := by
  unfold at_; rw [List.getD_eq_getElem?_getD, List.getD_eq_getElem?_getD, List.getElem?_take, if_pos (by omega)]
end Go.Proofs.U
namespace Go.Proofs.U
open Go Go.AH Go.Proofs.T
set_option maxRecDepth 4000
set_option linter.unusedSimpArgs false
set_option linter.unusedVariables false
set_option maxHeartbeats 4000000
theorem c_palive : PC Try.prog 28 [] (.bool true) := by
 intro H0
 have hav := pal_l
 refine ACalls.of_body' (n := 56) rfl rfl rfl rfl ?_
 have m0 := Mono.refl H0
 refine Sr ?_
 refine A rfl rfl ?_
 refine Sr ?_
 refine C rfl (Bl (cells := [.int .i64 0, .int .i64 0, .int .i64 0]) rfl tz_42 pl_42 rfl rfl (C rfl (Bl (cells := [.int .i64 18, .int .i64 0, .int .i64 0]) rfl tz_42 pl_42 rfl rfl (C rfl (Bl (cells := [.int .i64 18, .int .i64 18, .int .i64 0]) rfl tz_42 pl_42 rfl rfl (C rfl (Bl (cells := [.int .i64 0, .int .i64 18, .int .i64 0]) rfl tz_42 pl_42 rfl rfl (C rfl (AOp.buildSlice (cells := [.int .i64 0, .int .i64 0, .int .i64 0, .int .i64 18, .int .i64 0, .int .i64 0, .int .i64 18, .int .i64 18, .int .i64 0, .int .i64 0, .int .i64 18, .int .i64 0]) rfl u_22 ts_42 tz_42 rfl rfl rfl ?_)))))))))
 intro i1 H2 n3 h4 k5
 have z6 := Mono.free m0 n3
 have m7 := Mono.new m0 n3 k5
 refine C rfl (AOp.buildSlice (cells := [.int .i64 0, .int .i64 1, .int .i64 2, .int .i64 3]) rfl u_38 ts_3 tz_3 rfl rfl rfl ?_)
 intro i8 H9 n10 h11 k12
 have e13 := ne_new h4 n10
 have z14 := Mono.free m7 n10
 have h15 := keep k12 (ne_new h4 n10) h4
 have m16 := Mono.new m7 n10 k12
 obtain ⟨v17, e18⟩ : ∃ v : AV, v = .slm i8 0 1 0 4 := ⟨_, rfl⟩
 have o19 : Own H0 H9 1 v17 4 [.int .i64 0, .int .i64 1, .int .i64 2, .int .i64 3] := .inr ⟨_, _, e18, h11, z14, rfl⟩
 have no20 : NotId v17 i1 := by rw [e18]; exact NotId.slm e13
 refine C rfl ?_
 refine AOp.frz 9 (o19) e18.symm m16 fun H21 m22 k23 => ?_
 have h24 := (k23 _ no20).trans h15
 refine AOp.buildSlice (cells := [.sl ([0, 1, 2, 3] : List Int).length (([0, 1, 2, 3] : List Int).map eI)]) rfl u_23 ts_38 tz_38 rfl rfl rfl ?_
 intro i25 H26 n27 h28 k29
 have e30 := ne_new h24 n27
 have z31 := Mono.free m22 n27
 have h32 := keep k29 (ne_new h24 n27) h24
 have m33 := Mono.new m22 n27 k29
 obtain ⟨v34, e35⟩ : ∃ v : AV, v = .slm i1 0 3 0 4 := ⟨_, rfl⟩
 have o36 : Own H0 H26 3 v34 4 [.int .i64 0, .int .i64 0, .int .i64 0, .int .i64 18, .int .i64 0, .int .i64 0, .int .i64 18, .int .i64 18, .int .i64 0, .int .i64 0, .int .i64 18, .int .i64 0] := .inr ⟨_, _, e35, h32, z6, rfl⟩
 have no37 : NotId v34 i25 := by rw [e35]; exact NotId.slm (Ne.symm e30)
 refine C rfl ?_
 refine AOp.frz 8 (o36) e35.symm m33 fun H38 m39 k40 => ?_
 have h41 := (k40 _ no37).trans h28
 obtain ⟨v42, e43⟩ : ∃ v : AV, v = .slm i25 0 1 0 1 := ⟨_, rfl⟩
 have o44 : Own H0 H38 1 v42 1 [.sl ([0, 1, 2, 3] : List Int).length (([0, 1, 2, 3] : List Int).map eI)] := .inr ⟨_, _, e43, h41, z31, rfl⟩
 refine AOp.frz 10 (o44) e43.symm m39 fun H45 m46 k47 => ?_
 refine Bl (cells := [.sl ([(VT.mk 0 0 0), (VT.mk 18 0 0), (VT.mk 18 18 0), (VT.mk 0 18 0)] : List VT).length (([(VT.mk 0 0 0), (VT.mk 18 0 0), (VT.mk 18 18 0), (VT.mk 0 18 0)] : List VT).flatMap eV), .sl ([([0, 1, 2, 3] : List Int)] : List (List Int)).length (([([0, 1, 2, 3] : List Int)] : List (List Int)).map eF), .snil]) rfl tz_26 pl_26 rfl rfl ?_
 refine C rfl (Pc («as» := [.agg [.sl ([(VT.mk 0 0 0), (VT.mk 18 0 0), (VT.mk 18 18 0), (VT.mk 0 18 0)] : List VT).length (([(VT.mk 0 0 0), (VT.mk 18 0 0), (VT.mk 18 18 0), (VT.mk 0 18 0)] : List VT).flatMap eV), .sl ([([0, 1, 2, 3] : List Int)] : List (List Int)).length (([([0, 1, 2, 3] : List Int)] : List (List Int)).map eF), .snil], .int .i64 3]) rfl rfl (rfl) tf_30 (c_PatchesN AV18 AF4 mid18 3) ?_)
 intro H48 m49
 have m50 := m46.trans m49
 refine V rfl rfl (E rfl rfl rfl (E rfl rfl rfl (A rfl rfl (A rfl rfl ?_))))
 refine Sr ?_
 refine V rfl rfl (B rfl rfl rfl ieq (V rfl rfl (Y rfl rfl rfl (decide_eq_true (pal_2)) (Mv _ rfl rfl (Y rfl rfl rfl (decide_eq_true (pal_2)) (AOp.len (m := ((patR AV18 AF4 [] 3).1).length) rfl rfl (.inr (.inl ⟨_, rfl⟩)) u_63 (Y rfl rfl rfl (decide_eq_true (pal_2)) (Bi _ rfl rfl rfl ieq (C rfl (Pt _ rfl rfl (decide_eq_true (pal_2)) rfl (V rfl rfl (Y rfl rfl rfl (decide_eq_true (pal_l)) (Mv _ rfl rfl (Y rfl rfl rfl (decide_eq_true (pal_l)) (iS_ rfl rfl rfl sl_63 (by omega) (by omega) (Y rfl rfl rfl (decide_eq_true (pal_l)) (Ff rfl rfl fl_70_0 (Y rfl rfl rfl (decide_eq_true (pal_l)) (iF_ rfl rfl rfl ar_66 (by omega) (by omega) (Y rfl rfl rfl (decide_eq_true (pal_l)) (Lf _ rfl rfl ty_42 (ld_off (o := (0 : Int).toNat * 65 + 0 + (0 : Int).toNat * 3) (o' := (0 : Int).toNat * 65 + (0)) (by omega) (ldE ePatch_len (i := 0) (by omega) (by omega) (fun h => by first | rfl | cases h) (ld_fst (fun h => by first | rfl | cases h) (ldM eV_len (i := 0) (by omega) (by have := (at_ ((patR AV18 AF4 [] 3).1) 0).lP; omega))))) (Y rfl rfl rfl (decide_eq_true (pal_l)) (Bl (cells := [.int .i64 3, .int .i64 3, .int .i64 0]) rfl tz_42 pl_42 rfl rfl (Y rfl rfl rfl (decide_eq_true (pal_l)) (AOp.eqAggD rfl rfl rfl teq42 (kokV (v := (at_ ((at_ ((patR AV18 AF4 [] 3).1) 0).aP) 0)) (by rw [pal_p0]; exact ⟨by unfold inR; decide, by unfold inR; decide, by unfold inR; decide⟩)) (kokV (v := (VT.mk 3 3 0)) (by exact ⟨by unfold inR; decide, by unfold inR; decide, by unfold inR; decide⟩)) (eV_iff (at_ ((at_ ((patR AV18 AF4 [] 3).1) 0).aP) 0) (VT.mk 3 3 0)) (C rfl (Pt _ rfl rfl (decide_eq_true (pal_l)) rfl (V rfl rfl (Y rfl rfl rfl (decide_eq_true (pal_p0)) (Mv _ rfl rfl ?_))))))))))))))))))))))))))))))
 refine Y rfl rfl rfl (decide_eq_true (pal_p0)) (iS_ rfl rfl rfl sl_63 (by omega) (by omega) (Y rfl rfl rfl (decide_eq_true (pal_p0)) (Ff rfl rfl fl_70_0 (Y rfl rfl rfl (decide_eq_true (pal_p0)) (iF_ rfl rfl rfl ar_66 (by omega) (by omega) (Y rfl rfl rfl (decide_eq_true (pal_p0)) (Lf _ rfl rfl ty_42 (ld_off (o := (0 : Int).toNat * 65 + 0 + (1 : Int).toNat * 3) (o' := (0 : Int).toNat * 65 + (3)) (by omega) (ldE ePatch_len (i := 0) (by omega) (by omega) (fun h => by first | rfl | cases h) (ld_fst (fun h => by first | rfl | cases h) (ldM eV_len (i := 1) (by omega) (by have := (at_ ((patR AV18 AF4 [] 3).1) 0).lP; omega))))) (Y rfl rfl rfl (decide_eq_true (pal_p0)) (Bl (cells := [.int .i64 6, .int .i64 0, .int .i64 0]) rfl tz_42 pl_42 rfl rfl (Y rfl rfl rfl (decide_eq_true (pal_p0)) (AOp.eqAggD rfl rfl rfl teq42 (kokV (v := (at_ ((at_ ((patR AV18 AF4 [] 3).1) 0).aP) 1)) (by rw [pal_p1]; exact ⟨by unfold inR; decide, by unfold inR; decide, by unfold inR; decide⟩)) (kokV (v := (VT.mk 6 0 0)) (by exact ⟨by unfold inR; decide, by unfold inR; decide, by unfold inR; decide⟩)) (eV_iff (at_ ((at_ ((patR AV18 AF4 [] 3).1) 0).aP) 1) (VT.mk 6 0 0)) (C rfl (Pt _ rfl rfl (decide_eq_true (pal_p0)) rfl (V rfl rfl (Y rfl rfl rfl (decide_eq_true (pal_p1)) (Mv _ rfl rfl (Y rfl rfl rfl (decide_eq_true (pal_p1)) (iS_ rfl rfl rfl sl_63 (by omega) (by omega) (Y rfl rfl rfl (decide_eq_true (pal_p1)) (Ff rfl rfl fl_70_0 (Y rfl rfl rfl (decide_eq_true (pal_p1)) (iF_ rfl rfl rfl ar_66 (by omega) (by omega) (Y rfl rfl rfl (decide_eq_true (pal_p1)) (Lf _ rfl rfl ty_42 (ld_off (o := (0 : Int).toNat * 65 + 0 + (4 : Int).toNat * 3) (o' := (0 : Int).toNat * 65 + (12)) (by omega) (ldE ePatch_len (i := 0) (by omega) (by omega) (fun h => by first | rfl | cases h) (ld_fst (fun h => by first | rfl | cases h) (ldM eV_len (i := 4) (by omega) (by have := (at_ ((patR AV18 AF4 [] 3).1) 0).lP; omega))))) (Y rfl rfl rfl (decide_eq_true (pal_p1)) (Bl (cells := [.int .i64 0, .int .i64 6, .int .i64 0]) rfl tz_42 pl_42 rfl rfl (Y rfl rfl rfl (decide_eq_true (pal_p1)) (AOp.eqAggD rfl rfl rfl teq42 (kokV (v := (at_ ((at_ ((patR AV18 AF4 [] 3).1) 0).aP) 4)) (by rw [pal_p4]; exact ⟨by unfold inR; decide, by unfold inR; decide, by unfold inR; decide⟩)) (kokV (v := (VT.mk 0 6 0)) (by exact ⟨by unfold inR; decide, by unfold inR; decide, by unfold inR; decide⟩)) (eV_iff (at_ ((at_ ((patR AV18 AF4 [] 3).1) 0).aP) 4) (VT.mk 0 6 0)) (C rfl (Pt _ rfl rfl (decide_eq_true (pal_p1)) rfl (V rfl rfl (Y rfl rfl rfl (decide_eq_true (pal_p4)) (Mv _ rfl rfl ?_)))))))))))))))))))))))))))))))))
 refine Y rfl rfl rfl (decide_eq_true (pal_p4)) (iS_ rfl rfl rfl sl_63 (by omega) (by omega) (Y rfl rfl rfl (decide_eq_true (pal_p4)) (Ff rfl rfl fl_70_3 (Y rfl rfl rfl (decide_eq_true (pal_p4)) (Lf _ rfl rfl ty_3 (ld_off (o := (0 : Int).toNat * 65 + 64) (o' := (0 : Int).toNat * 65 + (64)) (by omega) (ldE ePatch_len (i := 0) (by omega) (by omega) (fun h => by first | rfl | cases h) (ld_skip (off' := 16) (lenM eV_len (at_ ((patR AV18 AF4 [] 3).1) 0).lP rfl) (by omega) (ld_skip (off' := 12) (len1 (at_ ((patR AV18 AF4 [] 3).1) 0).lCorners) (by omega) (ld_skip (off' := 0) (lenM eV_len (at_ ((patR AV18 AF4 [] 3).1) 0).lNormals rfl) (by omega) rfl))))) (Y rfl rfl rfl (decide_eq_true (pal_p4)) (Bi _ rfl rfl rfl ieq (C rfl (Pt _ rfl rfl (decide_eq_true (pal_p4)) rfl (A rfl rfl ?_))))))))))
 refine rt_ ?_
 refine Rr (Res.one rfl rfl) ?_ m50
 exact (congrArg AV.bool (show (decide ((at_ ((patR AV18 AF4 [] 3).1) 0).Skin = 3) : Bool) = true from by first | rfl | exact decide_eq_true pal_s))
end Go.Proofs.U
