/- A part of the proof that a law answers true for every input of its row: own work, by an AI agent. -/
import Derived.Test.YtfgfalidpbbkhaaDoorB05
import Derived.Test.YtfgfalidpbbkhaaDoorB01
set_option linter.unusedSimpArgs false
set_option linter.unusedVariables false
set_option linter.defProp false
namespace Go.Proofs.M
open Go Go.AH
set_option maxRecDepth 4000
set_option linter.unusedSimpArgs false
set_option linter.unusedVariables false
set_option maxHeartbeats 4000000
abbrev Ymesh_Dice_0 (p : PatchT) (cage : Int) (id : Int) (s : SkinT) (i : Int) := R_mesh_vertex p cage id (R_rate_Sides p.aP s.Unit) (maxL (R_rate_Sides p.aP s.Unit)) (at_ ((weaveR (R_rate_Sides p.aP s.Unit)).1) i)
abbrev Ymesh_Dice_1 (p : PatchT) (cage : Int) (id : Int) (s : SkinT) (texs : List TexT) (i : Int) := (R_relief_Lift ((Ymesh_Dice_0 p cage id s i).atF) ((Ymesh_Dice_0 p cage id s i).up) ((R_relief_Texel (at_ texs s.Tex) ((Ymesh_Dice_0 p cage id s i).atF)).1) s.Height).1
abbrev Ymesh_Dice_2 (p : PatchT) (cage : Int) (id : Int) (s : SkinT) (i : Int) := (Ymesh_Dice_0 p cage id s i).key
abbrev Ymesh_Dice_3 (p : PatchT) (cage : Int) (id : Int) (s : SkinT) (i : Int) := (Ymesh_Dice_0 p cage id s i).atF
theorem c_mesh_Dice (p : PatchT) (cage id : Int) (s : SkinT) (texs : List TexT) (htl : texs.length ≤ 1048576) (htx : ∀ t ∈ texs, t.Rows.length ≤ 1048576) : PC Tryd.prog 11 [.agg (p.aP.flatMap eV ++ (p.aCorners.map eI ++ (p.aNormals.flatMap eV ++ [J p.Skin]))), J cage, J id, .agg [.str s.Name, J s.Mat, J s.Levels, J s.Unit, J s.Tex, J s.Height], .sl texs.length (texs.flatMap eTex)] (.tup [.agg [.sl (((diceR p cage id s texs).1).Verts).length ((((diceR p cage id s texs).1).Verts).flatMap eV), .sl (((diceR p cage id s texs).1).Keys).length ((((diceR p cage id s texs).1).Keys).flatMap eKey), .sl (((diceR p cage id s texs).1).Tris).length ((((diceR p cage id s texs).1).Tris).flatMap eI3)], J ((diceR p cage id s texs).2)]) := by
 intro H0
 refine ACalls.of_body' (n := 125) rfl rfl rfl rfl ?_
 have m0 := Mono.refl H0
 refine Sr ?_
 refine C rfl (bx_ (.agg (p.aP.flatMap eV ++ (p.aCorners.map eI ++ (p.aNormals.flatMap eV ++ [J p.Skin])))) rfl rfl rfl ?_)
 intro i1 H2 n3 h4 k5
 have z6 := Mono.free m0 n3
 have m7 := Mono.new m0 n3 k5
 refine C rfl (bx_ (.agg [.str s.Name, J s.Mat, J s.Levels, J s.Unit, J s.Tex, J s.Height]) rfl rfl rfl ?_)
 intro i8 H9 n10 h11 k12
 have e13 := ne_new h4 n10
 have z14 := Mono.free m7 n10
 have h15 := keep k12 (ne_new h4 n10) h4
 have m16 := Mono.new m7 n10 k12
 refine C rfl (al_ rfl tz_38 ?_)
 intro i17 H18 n19 h20 k21
 have e22 := ne_new h15 n19
 have e23 := ne_new h11 n19
 have z24 := Mono.free m16 n19
 have h25 := keep k21 (ne_new h15 n19) h15
 have h26 := keep k21 (ne_new h11 n19) h11
 have m27 := Mono.new m16 n19 k21
 refine A rfl rfl ?_
 refine AWP.seq ?_
 refine fz_ 5 h25 z6 rfl m27 fun H28 m29 k30 => ?_
 have h31 := (k30 _ (Ne.symm e13)).trans h26
 have h32 := (k30 _ (Ne.symm e22)).trans h20
 refine fz_ 8 h31 z14 rfl m29 fun H33 m34 k35 => ?_
 have h36 := (k35 _ (Ne.symm e23)).trans h32
 refine AWP.region rfl ?_
 refine L rfl rfl ty_28 (ld_all (len_app (m := 48) (n := 17) (k := 65) (lenM eV_len p.lP rfl) (len_app (m := 4) (n := 13) (k := 17) (len1 p.lCorners) (len_app (m := 12) (n := 1) (k := 13) (lenM eV_len p.lNormals rfl) rfl rfl) rfl) rfl)) (L rfl rfl ty_30 rfl (C rfl (Pc («as» := [.agg (p.aP.flatMap eV ++ (p.aCorners.map eI ++ (p.aNormals.flatMap eV ++ [J p.Skin]))), .agg [.str s.Name, J s.Mat, J s.Levels, J s.Unit, J s.Tex, J s.Height]]) rfl rfl (rfl) tf_23 (c_mesh_fine p s) ?_)))
 intro H37 m38
 have h39 := m38 _ _ h36
 have m40 := m34.trans m38
 refine A rfl rfl ?_
 refine AWP.seq ?_
 refine Sr ?_
 refine V rfl rfl (B rfl rfl rfl ine (V rfl rfl ?_))
 by_cases b41 : R_mesh_fine p s = 11
 refine N rfl rfl (nb (decide_eq_true b41)) (N rfl rfl (nb (decide_eq_true b41)) (N rfl rfl (nb (decide_eq_true b41)) (N rfl rfl (nb (decide_eq_true b41)) (AOps.un rfl rfl rfl rfl rfl rfl rfl (AOps.un rfl rfl rfl rfl rfl rfl rfl ?_)))))
 refine AOps.un rfl rfl rfl rfl rfl rfl rfl (AOps.un rfl rfl rfl rfl rfl rfl rfl (AOps.un rfl rfl rfl rfl rfl rfl rfl (N rfl rfl (nb (decide_eq_true b41)) (C rfl (Pf _ rfl rfl (nb (decide_eq_true b41)) rfl ?_)))))
 refine cf_ rfl rfl ?_
 refine AWP.skip ?_
 refine AWP.seq ?_
 refine Sr ?_
 refine V rfl rfl (B rfl rfl rfl ine ?_)
 refine AOps.nil ?_
 change AWP _ _ _ _ _ _
 by_cases b42 : R_mesh_fine p s = 0
 refine cf_ rfl (nb (decide_eq_true b42)) ?_
 refine AWP.skip ?_
 refine AWP.seq ?_
 have h0 : errD p s texs = 0 := by unfold errD; split <;> omega
 refine AWP.region rfl ?_
 refine F rfl rfl fl_28_0 (L rfl rfl ty_24 (ld_fst (fun h => by first | rfl | cases h) (ld_all (lenM eV_len p.lP rfl))) (F rfl rfl fl_30_3 (L rfl rfl ty_3 rfl (C rfl (Pc («as» := [.agg (p.aP.flatMap eV), J s.Unit]) rfl rfl (rfl) tf_24 (c_rate_Sides p.aP p.lP s.Unit) ?_)))))
 intro H43 m44
 have h45 := m44 _ _ h39
 have m46 := m40.trans m44
 refine C rfl (al_ rfl tz_25 ?_)
 intro i47 H48 n49 h50 k51
 have e52 := ne_new h45 n49
 have z53 := Mono.free m46 n49
 have h54 := keep k51 (ne_new h45 n49) h45
 have m55 := Mono.new m46 n49 k51
 refine C rfl (So (cells' := (R_rate_Sides p.aP s.Unit).map eI) (.agg ((R_rate_Sides p.aP s.Unit).map eI)) rfl rfl ts_25 h50 (by simp only [AV.cells, List.all_append, List.all_cons, List.all_nil, Bool.and_true, Bool.and_eq_true]; exact (all_one1 eI_one _)) (show (AV.cells (.agg ((R_rate_Sides p.aP s.Unit).map eI))).length = 4 from (len1 (R_rate_Sides_len p.aP s.Unit))) rfl (wr_all rfl (len1 (R_rate_Sides_len p.aP s.Unit))) ?_)
 intro H56 h57 k58
 have h59 := keep k58 e52 h54
 have m61 := Mono.set m55 z53 k58
 refine AWP.seq ?_
 refine fz_ 13 h57 z53 rfl m61 fun H62 m63 k64 => ?_
 have h65 := (k64 _ e52).trans h59
 refine AWP.region rfl ?_
 refine L rfl rfl ty_25 (ld_all (len1 (R_rate_Sides_len p.aP s.Unit))) (C rfl (Pc («as» := [.agg ((R_rate_Sides p.aP s.Unit).map eI)]) rfl rfl (rfl) tf_25 (c_Weave (R_rate_Sides p.aP s.Unit) (R_rate_Sides_len p.aP s.Unit)) ?_))
 intro H66 m67
 have h68 := m67 _ _ h65
 have m69 := m63.trans m67
 refine V rfl rfl (E rfl rfl rfl (E rfl rfl rfl (E rfl rfl rfl (A rfl rfl (A rfl rfl (A rfl rfl ?_))))))
 refine AWP.seq ?_
 have hrl := R_rate_Sides_len p.aP s.Unit
 refine AWP.region_quiet mixed (by kernel_rfl) 7 [7, 8] rfl (by kernel_rfl) (Mono H66) (Mono.refl _) ?_
 refine QL rfl rfl ty_28 (ld_all (len_app (m := 48) (n := 17) (k := 65) (lenM eV_len p.lP rfl) (len_app (m := 4) (n := 13) (k := 17) (len1 p.lCorners) (len_app (m := 12) (n := 1) (k := 13) (lenM eV_len p.lNormals rfl) rfl rfl) rfl) rfl)) (QV rfl rfl (QV rfl rfl (QL rfl rfl ty_25 (ld_all (len1 (R_rate_Sides_len p.aP s.Unit))) (Q rfl (fun _ _ φ ψ => AOp.sliceAF rfl (φ 13 rfl) ar_25 (R_rate_Sides_len p.aP s.Unit) SubAt.all ⟨rfl, ψ⟩) (Q rfl (fun _ _ φ ψ => Pc («as» := [.sl (R_rate_Sides p.aP s.Unit).length ((R_rate_Sides p.aP s.Unit).map eI)]) rfl rfl (lapp (lcons (φ 60 rfl) rfl) rfl) tf_26 (c_Max (R_rate_Sides p.aP s.Unit) (by first | (have := (R_rate_Sides_len p.aP s.Unit); omega) | simp) (by first | omega | assumption | (constructor <;> omega) | simp)) fun H2 m2 => ⟨rfl, ψ.trans m2⟩) (Q rfl (fun _ _ φ ψ => Bl (ps := [(0, .agg (p.aP.flatMap eV ++ (p.aCorners.map eI ++ (p.aNormals.flatMap eV ++ [J p.Skin])))), (1, J cage), (2, J id), (3, .agg ((R_rate_Sides p.aP s.Unit).map eI)), (4, J (maxL (R_rate_Sides p.aP s.Unit)))]) (cells := p.aP.flatMap eV ++ (p.aCorners.map eI ++ (p.aNormals.flatMap eV ++ ([J p.Skin, J cage, J id] ++ ((R_rate_Sides p.aP s.Unit).map eI ++ [J (maxL (R_rate_Sides p.aP s.Unit))]))))) rfl tz_74 pl_74 (lconsP (φ 56 rfl) (lconsP (φ 57 rfl) (lconsP (φ 58 rfl) (lconsP (φ 59 rfl) (lconsP (φ 61 rfl) rfl))))) (fill_step (c' := ((p.aP.flatMap eV : List AV) ++ ((p.aCorners.map eI : List AV) ++ ((p.aNormals.flatMap eV : List AV) ++ ([J p.Skin, J 0, J 0, J 0, J 0, J 0, J 0, J 0] : List AV))))) rfl rfl (show (AV.cells (.agg (p.aP.flatMap eV ++ (p.aCorners.map eI ++ (p.aNormals.flatMap eV ++ [J p.Skin]))))).length = 65 from (len_app (m := 48) (n := 17) (k := 65) (lenM eV_len p.lP rfl) (len_app (m := 4) (n := 13) (k := 17) (len1 p.lCorners) (len_app (m := 12) (n := 1) (k := 13) (lenM eV_len p.lNormals rfl) rfl rfl) rfl) rfl)) rfl (wr_pre (len_app (m := 48) (n := 17) (k := 65) (lenM eV_len p.lP rfl) (len_app (m := 4) (n := 13) (k := 17) (len1 p.lCorners) (len_app (m := 12) (n := 1) (k := 13) (lenM eV_len p.lNormals rfl) rfl rfl) rfl) rfl)) (fill_step (c' := ((p.aP.flatMap eV : List AV) ++ ((p.aCorners.map eI : List AV) ++ ((p.aNormals.flatMap eV : List AV) ++ ([J p.Skin, J cage, J 0, J 0, J 0, J 0, J 0, J 0] : List AV))))) rfl rfl rfl (blelen (len_app (m := 48) (n := 24) (k := 72) (lenM eV_len p.lP rfl) (len_app (m := 4) (n := 20) (k := 24) (len1 p.lCorners) (len_app (m := 12) (n := 8) (k := 20) (lenM eV_len p.lNormals rfl) rfl rfl) rfl) rfl) (by omega)) (wr_skip (off' := 17) (lenM eV_len p.lP rfl) (by omega) (wr_skip (off' := 13) (len1 p.lCorners) (by omega) (wr_skip (off' := 1) (lenM eV_len p.lNormals rfl) (by omega) rfl))) (fill_step (c' := ((p.aP.flatMap eV : List AV) ++ ((p.aCorners.map eI : List AV) ++ ((p.aNormals.flatMap eV : List AV) ++ ([J p.Skin, J cage, J id, J 0, J 0, J 0, J 0, J 0] : List AV))))) rfl rfl rfl (blelen (len_app (m := 48) (n := 24) (k := 72) (lenM eV_len p.lP rfl) (len_app (m := 4) (n := 20) (k := 24) (len1 p.lCorners) (len_app (m := 12) (n := 8) (k := 20) (lenM eV_len p.lNormals rfl) rfl rfl) rfl) rfl) (by omega)) (wr_skip (off' := 18) (lenM eV_len p.lP rfl) (by omega) (wr_skip (off' := 14) (len1 p.lCorners) (by omega) (wr_skip (off' := 2) (lenM eV_len p.lNormals rfl) (by omega) rfl))) (fill_step (c' := ((p.aP.flatMap eV : List AV) ++ ((p.aCorners.map eI : List AV) ++ ((p.aNormals.flatMap eV : List AV) ++ (([J p.Skin, J cage, J id] : List AV) ++ (((R_rate_Sides p.aP s.Unit).map eI : List AV) ++ ([J 0] : List AV))))))) rfl rfl (show (AV.cells (.agg ((R_rate_Sides p.aP s.Unit).map eI))).length = 4 from (len1 (R_rate_Sides_len p.aP s.Unit))) (blelen (len_app (m := 48) (n := 24) (k := 72) (lenM eV_len p.lP rfl) (len_app (m := 4) (n := 20) (k := 24) (len1 p.lCorners) (len_app (m := 12) (n := 8) (k := 20) (lenM eV_len p.lNormals rfl) rfl rfl) rfl) rfl) (by omega)) (wr_skip (off' := 19) (lenM eV_len p.lP rfl) (by omega) (wr_skip (off' := 15) (len1 p.lCorners) (by omega) (wr_skip (off' := 3) (lenM eV_len p.lNormals rfl) (by omega) (wr_skip (A := ([J p.Skin, J cage, J id] : List AV)) (B := ([J 0, J 0, J 0, J 0, J 0] : List AV)) (n := 3) (off' := 0) rfl (by omega) (wr_pre (len1 (R_rate_Sides_len p.aP s.Unit))))))) (fill_step (c' := ((p.aP.flatMap eV : List AV) ++ ((p.aCorners.map eI : List AV) ++ ((p.aNormals.flatMap eV : List AV) ++ (([J p.Skin, J cage, J id] : List AV) ++ (((R_rate_Sides p.aP s.Unit).map eI : List AV) ++ ([J (maxL (R_rate_Sides p.aP s.Unit))] : List AV))))))) rfl rfl rfl (blelen (len_app (m := 48) (n := 24) (k := 72) (lenM eV_len p.lP rfl) (len_app (m := 4) (n := 20) (k := 24) (len1 p.lCorners) (len_app (m := 12) (n := 8) (k := 20) (lenM eV_len p.lNormals rfl) (len_app (m := 3) (n := 5) (k := 8) rfl (len_app (m := 4) (n := 1) (k := 5) (len1 (R_rate_Sides_len p.aP s.Unit)) rfl rfl) rfl) rfl) rfl) rfl) (by omega)) (wr_skip (off' := 23) (lenM eV_len p.lP rfl) (by omega) (wr_skip (off' := 19) (len1 p.lCorners) (by omega) (wr_skip (off' := 7) (lenM eV_len p.lNormals rfl) (by omega) (wr_skip (off' := 4) (n := 3) rfl (by omega) (wr_skip (off' := 0) (len1 (R_rate_Sides_len p.aP s.Unit)) (by omega) rfl))))) (rfl)))))) ⟨rfl, ψ⟩) ?_))))))
 refine QE.done fun H70 m71 => ?_
 have h72 := m71 _ _ h68
 have m73 := m69.trans m71
 refine C rfl (bx_ (.agg (p.aP.flatMap eV ++ (p.aCorners.map eI ++ (p.aNormals.flatMap eV ++ ([J p.Skin, J cage, J id] ++ ((R_rate_Sides p.aP s.Unit).map eI ++ [J (maxL (R_rate_Sides p.aP s.Unit))])))))) rfl rfl rfl ?_)
 intro i74 H75 n76 h77 k78
 have e79 := ne_new h72 n76
 have z80 := Mono.free m73 n76
 have h81 := keep k78 (ne_new h72 n76) h72
 have m82 := Mono.new m73 n76 k78
 refine A rfl rfl ?_
 refine AWP.seq ?_
 refine fz_ 17 h77 z80 rfl m82 fun H83 m84 k85 => ?_
 have h86 := (k85 _ e79).trans h81
 refine AWP.region rfl ?_
 refine V rfl rfl (C rfl (Bl (cells := [.snil, .snil, .sl ((weaveR (R_rate_Sides p.aP s.Unit)).2.1).length (((weaveR (R_rate_Sides p.aP s.Unit)).2.1).flatMap eI3)]) rfl tz_38 pl_38 rfl rfl (C rfl (al_ rfl tz_38 ?_))))
 intro i87 H88 n89 h90 k91
 have e92 := ne_new h86 n89
 have z93 := Mono.free m84 n89
 have h94 := keep k91 (ne_new h86 n89) h86
 have m95 := Mono.new m84 n89 k91
 refine C rfl (Sw rfl rfl ts_38 h90 rfl rfl rfl ?_)
 intro H96 h97 k98
 have h99 := keep k98 e92 h94
 have m101 := Mono.set m95 z93 k98
 refine AWP.seq ?_
 refine AWP.seq ?_
 have hwl := weave_len (R_rate_Sides_len p.aP s.Unit)
 refine AWP.region rfl ?_
 refine V rfl rfl (C rfl (AOp.len (m := ((weaveR (R_rate_Sides p.aP s.Unit)).1).length) rfl rfl (.inr (.inl ⟨_, rfl⟩)) u_68 (V rfl rfl ?_)))
 refine bk_ ?_
 refine AWP.loop (fun q102 fq Hq => ∃ (i : Int) (w18_0 : AV) (w18_1 : AV), q102 = (((weaveR (R_rate_Sides p.aP s.Unit)).1.length : Int) - i).toNat ∧ fq 68 = J i ∧ fq 4 = .sl texs.length (texs.flatMap eTex) ∧ fq 8 = .fptr [.str s.Name, J s.Mat, J s.Levels, J s.Unit, J s.Tex, J s.Height] 0 ∧ fq 10 = .ptr i17 0 0 ∧ fq 17 = .fptr ((p.aP.flatMap eV) ++ ((p.aCorners.map eI) ++ ((p.aNormals.flatMap eV) ++ (([J p.Skin, J cage, J id] : List AV) ++ (((R_rate_Sides p.aP s.Unit).map eI) ++ ([J (maxL (R_rate_Sides p.aP s.Unit))] : List AV)))))) 0 ∧ fq 18 = .ptr i87 0 0 ∧ fq 66 = .sl ((weaveR (R_rate_Sides p.aP s.Unit)).1).length (((weaveR (R_rate_Sides p.aP s.Unit)).1).flatMap eSpot) ∧ fq 67 = J ((((weaveR (R_rate_Sides p.aP s.Unit)).1).length) : Int) ∧ Own H0 Hq 3 w18_0 (((weaveR (R_rate_Sides p.aP s.Unit)).1.take i.toNat).map (fD p cage id s texs)).length ((((weaveR (R_rate_Sides p.aP s.Unit)).1.take i.toNat).map (fD p cage id s texs)).flatMap eV) ∧ Own H0 Hq 5 w18_1 (((weaveR (R_rate_Sides p.aP s.Unit)).1.take i.toNat).map (kD p cage id s)).length ((((weaveR (R_rate_Sides p.aP s.Unit)).1.take i.toNat).map (kD p cage id s)).flatMap eKey) ∧ NotId w18_0 i17 ∧ NotId w18_0 i87 ∧ NotId w18_1 i17 ∧ NotId w18_1 i87 ∧ Sep w18_0 w18_1 ∧ Hq i17 = some (.row 0 ([.snil, .snil, .snil])) ∧ Hq i87 = some (.row 0 ([w18_0, w18_1, .sl ((weaveR (R_rate_Sides p.aP s.Unit)).2.1).length (((weaveR (R_rate_Sides p.aP s.Unit)).2.1).flatMap eI3)])) ∧ Mono H0 Hq ∧ (0 ≤ i) ∧ (i ≤ ((weaveR (R_rate_Sides p.aP s.Unit)).1.length : Int)) ∧ (∀ j : Int, 0 ≤ j → j < i → (plT s texs (vtxD p cage id s (at_ (weaveR (R_rate_Sides p.aP s.Unit)).1 j))).isSome = true)) (k := (((weaveR (R_rate_Sides p.aP s.Unit)).1.length : Int) - 0).toNat) ?_ ?_
 exact ⟨0, .snil, .snil, rfl, rfl, rfl, rfl, rfl, rfl, rfl, rfl, rfl, Own.nil _ _ _, Own.nil _ _ _, (NotId.nil _), (NotId.nil _), (NotId.nil _), (NotId.nil _), (Sep.nilL _), h99, h97, m101, by omega, by omega, by intro j; omega⟩
 rintro _ f104 H103 ⟨i, w18_0, w18_1, rfl, s105, s106, s107, s108, s109, s110, s111, s112, o113, o114, no115, no116, no117, no118, sp119, h120, h121, m122, hi0, hi1, pre⟩
 refine Sr ?_
 refine B rfl s105 s112 rfl ?_
 refine AWP.seq ?_
 by_cases b123 : i < ((((weaveR (R_rate_Sides p.aP s.Unit)).1).length) : Int)
 refine ct_ rfl (decide_eq_true b123) ?_
 refine AWP.skip ?_
 refine AWP.seq ?_
 refine bk_ ?_
 refine Sr ?_
 refine C rfl (iS_ rfl s111 s105 sl_68 (by omega) (by omega) (L rfl rfl ty_76 (ldM eSpot_len (by omega) (by omega)) (C rfl (al_ rfl tz_76 ?_))))
 intro i124 H125 n126 h127 k128
 have e129 := ne_new h120 n126
 have e130 := ne_new h121 n126
 have z131 := Mono.free m122 n126
 have h132 := keep k128 (ne_new h120 n126) h120
 have h133 := keep k128 (ne_new h121 n126) h121
 have o134 := Own.keep o113 k128 (Own.notnew o113 n126)
 have no135 := Own.notnew o113 n126
 have o136 := Own.keep o114 k128 (Own.notnew o114 n126)
 have no137 := Own.notnew o114 n126
 have m138 := Mono.new m122 n126 k128
 refine C rfl (Sw rfl rfl ts_76 h127 rfl rfl rfl ?_)
 intro H139 h140 k141
 have h142 := keep k141 e129 h132
 have h143 := keep k141 e130 h133
 have o145 := Own.keep o134 k141 no135
 have o146 := Own.keep o136 k141 no137
 have m147 := Mono.set m138 z131 k141
 refine AWP.seq ?_
 refine fz_ 20 h140 z131 rfl m147 fun H148 m149 k150 => ?_
 have h151 := (k150 _ e129).trans h142
 have h152 := (k150 _ e130).trans h143
 have o153 := Own.keep o145 k150 no135
 have o154 := Own.keep o146 k150 no137
 obtain ⟨hr, hm, hx⟩ := weave_mem (R_rate_Sides_len p.aP s.Unit) (at_mem (l := (weaveR (R_rate_Sides p.aP s.Unit)).1) (i := i) (by omega) (by omega))
 refine AWP.region rfl ?_
 refine V rfl s109 (L rfl rfl ty_76 rfl (C rfl (Pc («as» := [.fptr ((p.aP.flatMap eV) ++ ((p.aCorners.map eI) ++ ((p.aNormals.flatMap eV) ++ (([J p.Skin, J cage, J id] : List AV) ++ (((R_rate_Sides p.aP s.Unit).map eI) ++ ([J (maxL (R_rate_Sides p.aP s.Unit))] : List AV)))))) 0, .agg [J ((at_ ((weaveR (R_rate_Sides p.aP s.Unit)).1) i).Kind), J ((at_ ((weaveR (R_rate_Sides p.aP s.Unit)).1) i).A), J ((at_ ((weaveR (R_rate_Sides p.aP s.Unit)).1) i).B)]]) rfl rfl (rfl) tf_27 (c_mesh_vertex p cage id (R_rate_Sides p.aP s.Unit) (R_rate_Sides_len p.aP s.Unit) (maxL (R_rate_Sides p.aP s.Unit)) (at_ ((weaveR (R_rate_Sides p.aP s.Unit)).1) i) (by first | omega | assumption | (constructor <;> omega)) (by first | omega | assumption | (constructor <;> omega)) (by first | omega | assumption | (constructor <;> omega))) ?_)))
 intro H155 m156
 have h157 := m156 _ _ h151
 have h158 := m156 _ _ h152
 have o159 := Own.mono o153 m156
 have o160 := Own.mono o154 m156
 have m161 := m149.trans m156
 refine C rfl (al_ rfl tz_78 ?_)
 intro i162 H163 n164 h165 k166
 have e167 := ne_new h157 n164
 have e168 := ne_new h158 n164
 have z169 := Mono.free m161 n164
 have h170 := keep k166 (ne_new h157 n164) h157
 have h171 := keep k166 (ne_new h158 n164) h158
 have o172 := Own.keep o159 k166 (Own.notnew o159 n164)
 have no173 := Own.notnew o159 n164
 have o174 := Own.keep o160 k166 (Own.notnew o160 n164)
 have no175 := Own.notnew o160 n164
 have m176 := Mono.new m161 n164 k166
 refine C rfl (Sw rfl rfl ts_78 h165 rfl rfl rfl ?_)
 intro H177 h178 k179
 have h180 := keep k179 e167 h170
 have h181 := keep k179 e168 h171
 have o183 := Own.keep o172 k179 no173
 have o184 := Own.keep o174 k179 no175
 have m185 := Mono.set m176 z169 k179
 refine AWP.seq ?_
 refine Sr ?_
 refine F rfl s107 fl_30_4 (L rfl rfl ty_3 rfl (B rfl rfl rfl rfl (V rfl rfl ?_)))
 by_cases b186 : s.Tex ≥ 0
 refine Y rfl rfl rfl (decide_eq_true b186) (Ff rfl s107 fl_30_5 (Y rfl rfl rfl (decide_eq_true b186) (Lf _ rfl rfl ty_3 rfl (Y rfl rfl rfl (decide_eq_true b186) (Bi _ rfl rfl rfl rfl (C rfl (Pt _ rfl rfl (decide_eq_true b186) rfl ?_)))))))
 refine AOps.nil ?_
 change AWP _ _ _ _ _ _
 by_cases b187 : s.Height > 0
 refine ct_ rfl (decide_eq_true b187) ?_
 refine AWP.seq ?_
 have htr := htx _ (at_mem (i := s.Tex) (l := texs) (by omega) (by omega))
 refine AWP.region_quiet mixed (by kernel_rfl) 13 [] rfl (by kernel_rfl) (Mono H177) (Mono.refl _) ?_
 refine QV rfl s106 (QF rfl s107 fl_30_4 (QL rfl rfl ty_3 rfl (Q rfl (fun _ _ φ ψ => iS_ rfl (φ 84 rfl) (φ 86 rfl) sl_31 (by omega) (by omega) ⟨rfl, ψ⟩) (QL rfl rfl ty_65 (ldM eTex_len (by omega) (by omega)) (Q rfl (fun _ _ φ ψ => Fa rfl (φ 21 rfl) fl_78_0 ⟨rfl, ψ⟩ (hid := ⟨_, (ψ _ _ h178)⟩)) (Q rfl (fun _ _ φ ψ => Ld _ rfl (φ 89 rfl) ty_23 (ψ _ _ h178) rfl ⟨rfl, ψ⟩) (Q rfl (fun _ _ φ ψ => Pc («as» := [.agg [.str ((at_ texs s.Tex).Name), J ((at_ texs s.Tex).W), J ((at_ texs s.Tex).H), .sl ((at_ texs s.Tex).Rows).length (((at_ texs s.Tex).Rows).map eI)], .agg [J ((Ymesh_Dice_3 p cage id s i).X), J ((Ymesh_Dice_3 p cage id s i).Y), J ((Ymesh_Dice_3 p cage id s i).Z)]]) rfl rfl (lapp (lcons (φ 88 rfl) (lcons (φ 90 rfl) rfl)) rfl) tf_28 (c_relief_Texel (at_ texs s.Tex) (Ymesh_Dice_3 p cage id s i) (by first | omega | assumption)) fun H2 m2 => ⟨rfl, ψ.trans m2⟩) (QV rfl rfl (Q rfl (fun _ _ φ ψ => Ex _ rfl (φ 83 rfl) rfl ⟨rfl, ψ⟩) (Q rfl (fun _ _ φ ψ => Ex _ rfl (φ 83 rfl) rfl ⟨rfl, ψ⟩) (Q rfl (fun _ _ φ ψ => As _ rfl (φ 92 rfl) ⟨rfl, ψ⟩) (Q rfl (fun _ _ φ ψ => As _ rfl (φ 93 rfl) ⟨rfl, ψ⟩) ?_))))))))))))
 refine QE.done fun H188 m189 => ?_
 have h190 := m189 _ _ h180
 have h191 := m189 _ _ h181
 have h192 := m189 _ _ h178
 have o193 := Own.mono o183 m189
 have o194 := Own.mono o184 m189
 have m195 := m185.trans m189
 refine AWP.seq ?_
 refine Sr ?_
 refine V rfl rfl (C rfl (AOp.not rfl rfl ?_))
 refine AOps.nil ?_
 change AWP _ _ _ _ _ _
 rcases Bool.eq_false_or_eq_true ((R_relief_Texel (at_ texs s.Tex) (Ymesh_Dice_3 p cage id s i)).2) with b196 | b196
 refine cf_ rfl (nb b196) ?_
 refine AWP.skip ?_
 refine AWP.region rfl ?_
 refine C rfl (Fa rfl rfl fl_78_0 ?_ (hid := ⟨_, h192⟩))
 refine C rfl (Ld _ rfl rfl ty_23 h192 rfl ?_)
 refine C rfl (Fa rfl rfl fl_78_1 ?_ (hid := ⟨_, h192⟩))
 refine C rfl (Ld _ rfl rfl ty_23 h192 rfl (V rfl rfl (F rfl s107 fl_30_5 (L rfl rfl ty_3 rfl (C rfl (Pc («as» := [.agg [J ((Ymesh_Dice_3 p cage id s i).X), J ((Ymesh_Dice_3 p cage id s i).Y), J ((Ymesh_Dice_3 p cage id s i).Z)], .agg [J (((Ymesh_Dice_0 p cage id s i).up).X), J (((Ymesh_Dice_0 p cage id s i).up).Y), J (((Ymesh_Dice_0 p cage id s i).up).Z)], J ((R_relief_Texel (at_ texs s.Tex) (Ymesh_Dice_3 p cage id s i)).1), J s.Height]) rfl rfl (rfl) tf_29 (c_relief_Lift (Ymesh_Dice_3 p cage id s i) ((Ymesh_Dice_0 p cage id s i).up) ((R_relief_Texel (at_ texs s.Tex) (Ymesh_Dice_3 p cage id s i)).1) s.Height) ?_))))))
 intro H197 m198
 have h199 := m198 _ _ h190
 have h200 := m198 _ _ h191
 have h201 := m198 _ _ h192
 have o202 := Own.mono o193 m198
 have o203 := Own.mono o194 m198
 have m204 := m195.trans m198
 refine V rfl rfl (E rfl rfl rfl (E rfl rfl rfl ?_))
 refine C rfl (Fa rfl rfl fl_78_0 ?_ (hid := ⟨_, h201⟩))
 refine C rfl (So (cells' := [J ((Ymesh_Dice_1 p cage id s texs i).X), J ((Ymesh_Dice_1 p cage id s texs i).Y), J ((Ymesh_Dice_1 p cage id s texs i).Z), J (((Ymesh_Dice_0 p cage id s i).up).X), J (((Ymesh_Dice_0 p cage id s i).up).Y), J (((Ymesh_Dice_0 p cage id s i).up).Z), J ((Ymesh_Dice_2 p cage id s i).Kind), J ((Ymesh_Dice_2 p cage id s i).Of), J ((Ymesh_Dice_2 p cage id s i).A), J ((Ymesh_Dice_2 p cage id s i).B), J ((Ymesh_Dice_2 p cage id s i).N)]) (.agg [J ((Ymesh_Dice_1 p cage id s texs i).X), J ((Ymesh_Dice_1 p cage id s texs i).Y), J ((Ymesh_Dice_1 p cage id s texs i).Z)]) rfl rfl ts_23 h201 rfl rfl rfl rfl ?_)
 intro H205 h206 k207
 have h208 := keep k207 e167 h199
 have h209 := keep k207 e168 h200
 have o211 := Own.keep o202 k207 no173
 have o212 := Own.keep o203 k207 no175
 have m213 := Mono.set m204 z169 k207
 refine AWP.seq ?_
 have hpl : plT s texs (vtxD p cage id s (at_ (weaveR (R_rate_Sides p.aP s.Unit)).1 i)) = some (Ymesh_Dice_1 p cage id s texs i) := by unfold plT vtxD; rw [if_pos ⟨by omega, by omega⟩, if_pos b196] <;> rfl
 have hq1 : (((weaveR (R_rate_Sides p.aP s.Unit)).1.take i.toNat).map (fD p cage id s texs)).length ≤ 400 := by simp only [List.length_map, List.length_take]; omega
 have hq2 : (((weaveR (R_rate_Sides p.aP s.Unit)).1.take i.toNat).map (kD p cage id s)).length ≤ 400 := by simp only [List.length_map, List.length_take]; omega
 refine AWP.region rfl ?_
 refine C rfl (Fa rfl s110 fl_38_0 ?_ (hid := ⟨_, h209⟩))
 refine C rfl (Ld _ rfl rfl ty_34 h209 rfl ?_)
 refine C rfl (Fa rfl rfl fl_78_0 ?_ (hid := ⟨_, h206⟩))
 refine C rfl (Ld _ rfl rfl ty_23 h206 rfl (C rfl (AOp.buildSlice (cells := [J ((Ymesh_Dice_1 p cage id s texs i).X), J ((Ymesh_Dice_1 p cage id s texs i).Y), J ((Ymesh_Dice_1 p cage id s texs i).Z)]) rfl u_34 ts_23 tz_23 rfl rfl rfl ?_)))
 intro i214 H215 n216 h217 k218
 have h223 := keep k218 (ne_new h208 n216) h208
 have h224 := keep k218 (ne_new h209 n216) h209
 have h225 := keep k218 (ne_new h206 n216) h206
 have o226 := Own.keep o211 k218 (Own.notnew o211 n216)
 have o228 := Own.keep o212 k218 (Own.notnew o212 n216)
 have m230 := Mono.new m213 n216 k218
 refine C rfl (AOp.append_own (es := 3) (m := 1) (len := ((((weaveR (R_rate_Sides p.aP s.Unit)).1.take i.toNat).map (fD p cage id s texs)).length)) (old := (((weaveR (R_rate_Sides p.aP s.Unit)).1.take i.toNat).map (fD p cage id s texs)).flatMap eV) (cells := [J ((Ymesh_Dice_1 p cage id s texs i).X), J ((Ymesh_Dice_1 p cage id s texs i).Y), J ((Ymesh_Dice_1 p cage id s texs i).Z)]) rfl u_34 ts_23 tzn_23 tb_23 (by decide) ni_34 rfl o226 m230 rfl (.slm h217 rfl) (one_of rfl) (by decide) (by first | omega | (simp; omega)) ?_)
 intro v231 H232 o233 m234 k235 j236
 have o237 := Own.snocM (xs := ((((weaveR (R_rate_Sides p.aP s.Unit)).1.take i.toNat).map (fD p cage id s texs)) : List VT)) (y := (Ymesh_Dice_1 p cage id s texs i)) (e := eV) (by simp) o233
 have h238 := (k235 _ no115 (by rw [h223]; simp)).trans h223
 have no239 := j236 _ no115 (by rw [h223]; simp)
 have h240 := (k235 _ no116 (by rw [h224]; simp)).trans h224
 have no241 := j236 _ no116 (by rw [h224]; simp)
 have h242 := (k235 _ no173 (by rw [h225]; simp)).trans h225
 have no243 := j236 _ no173 (by rw [h225]; simp)
 have sp245 := Own.sep o228 (Sep.symm sp119) j236
 have o244 := Own.stay o228 (Sep.symm sp119) k235
 refine C rfl (Fa rfl s110 fl_38_0 ?_ (hid := ⟨_, h240⟩))
 refine C rfl (AOp.storeO (cells' := [v231, w18_1, .sl ((weaveR (R_rate_Sides p.aP s.Unit)).2.1).length (((weaveR (R_rate_Sides p.aP s.Unit)).2.1).flatMap eI3)]) rfl rfl o237 ts_34 h240 rfl rfl ?_)
 intro H246 h247 k248
 have h249 := keep k248 e92 h238
 have h251 := keep k248 (Ne.symm e168) h242
 have o252 := Own.keep o244 k248 no118
 have o253 := Own.keep o237 k248 no241
 have m254 := Mono.set m234 z93 k248
 refine AWP.region rfl ?_
 refine C rfl (Fa rfl s110 fl_38_1 ?_ (hid := ⟨_, h247⟩))
 refine C rfl (Ld _ rfl rfl ty_35 h247 rfl ?_)
 refine C rfl (Fa rfl rfl fl_78_2 ?_ (hid := ⟨_, h251⟩))
 refine C rfl (Ld _ rfl rfl ty_58 h251 rfl (C rfl (AOp.buildSlice (cells := [J ((Ymesh_Dice_2 p cage id s i).Kind), J ((Ymesh_Dice_2 p cage id s i).Of), J ((Ymesh_Dice_2 p cage id s i).A), J ((Ymesh_Dice_2 p cage id s i).B), J ((Ymesh_Dice_2 p cage id s i).N)]) rfl u_35 ts_58 tz_58 rfl rfl rfl ?_)))
 intro i255 H256 n257 h258 k259
 have h264 := keep k259 (ne_new h249 n257) h249
 have h265 := keep k259 (ne_new h251 n257) h251
 have h266 := keep k259 (ne_new h247 n257) h247
 have o267 := Own.keep o252 k259 (Own.notnew o252 n257)
 have o269 := Own.keep o253 k259 (Own.notnew o253 n257)
 have m271 := Mono.new m254 n257 k259
 refine C rfl (AOp.append_own (es := 5) (m := 1) (len := ((((weaveR (R_rate_Sides p.aP s.Unit)).1.take i.toNat).map (kD p cage id s)).length)) (old := (((weaveR (R_rate_Sides p.aP s.Unit)).1.take i.toNat).map (kD p cage id s)).flatMap eKey) (cells := [J ((Ymesh_Dice_2 p cage id s i).Kind), J ((Ymesh_Dice_2 p cage id s i).Of), J ((Ymesh_Dice_2 p cage id s i).A), J ((Ymesh_Dice_2 p cage id s i).B), J ((Ymesh_Dice_2 p cage id s i).N)]) rfl u_35 ts_58 tzn_58 tb_58 (by decide) ni_35 rfl o267 m271 rfl (.slm h258 rfl) (one_of rfl) (by decide) (by first | omega | (simp; omega)) ?_)
 intro v272 H273 o274 m275 k276 j277
 have o278 := Own.snocM (xs := ((((weaveR (R_rate_Sides p.aP s.Unit)).1.take i.toNat).map (kD p cage id s)) : List KeyT)) (y := (Ymesh_Dice_2 p cage id s i)) (e := eKey) (by simp) o274
 have h279 := (k276 _ no117 (by rw [h264]; simp)).trans h264
 have no280 := j277 _ no117 (by rw [h264]; simp)
 have no282 := j277 _ no175 (by rw [h265]; simp)
 have h283 := (k276 _ no118 (by rw [h266]; simp)).trans h266
 have no284 := j277 _ no118 (by rw [h266]; simp)
 have sp286 := Own.sep o269 (Sep.symm sp245) j277
 have o285 := Own.stay o269 (Sep.symm sp245) k276
 refine C rfl (Fa rfl s110 fl_38_1 ?_ (hid := ⟨_, h283⟩))
 refine C rfl (AOp.storeO (cells' := [v231, v272, .sl ((weaveR (R_rate_Sides p.aP s.Unit)).2.1).length (((weaveR (R_rate_Sides p.aP s.Unit)).2.1).flatMap eI3)]) rfl rfl o278 ts_35 h283 rfl rfl ?_)
 intro H287 h288 k289
 have h290 := keep k289 e92 h279
 have o293 := Own.keep o285 k289 no241
 have o294 := Own.keep o278 k289 no284
 have m295 := Mono.set m275 z93 k289
 refine AWP.region rfl ?_
 refine B rfl s105 rfl (iadd (by omega)) (V rfl rfl ?_)
 refine AOps.nil ?_
 exact ⟨_, by omega, i + 1, v231, v272, rfl, rfl, s106, s107, s108, s109, s110, s111, s112, (have hx : (((((weaveR (R_rate_Sides p.aP s.Unit)).1.take i.toNat).map (fD p cage id s texs)) ++ [(Ymesh_Dice_1 p cage id s texs i)]) : List VT) = ((weaveR (R_rate_Sides p.aP s.Unit)).1.take (i + 1).toNat).map (fD p cage id s texs) := (by exact map_step hi0 (by omega) (fD_of hpl)); Own.re o293 (congrArg List.length hx) (congrArg (fun l : List VT => l.flatMap eV) hx)), (have hx : (((((weaveR (R_rate_Sides p.aP s.Unit)).1.take i.toNat).map (kD p cage id s)) ++ [(Ymesh_Dice_2 p cage id s i)]) : List KeyT) = ((weaveR (R_rate_Sides p.aP s.Unit)).1.take (i + 1).toNat).map (kD p cage id s) := (by exact map_step hi0 (by omega) rfl); Own.re o294 (congrArg List.length hx) (congrArg (fun l : List KeyT => l.flatMap eKey) hx)), no239, no241, no280, no284, sp286, h290, h288, m295, by omega, by omega, by exact fa_step pre (by rw [hpl]; rfl)⟩
 refine ct_ rfl (nb b196) ?_
 refine Sr ?_
 refine C rfl (Bl (cells := [.snil, .snil, .snil]) rfl tz_38 pl_38 rfl rfl (C rfl (Sw s108 rfl ts_38 h190 rfl rfl rfl ?_)))
 intro H296 h297 k298
 have o302 := Own.keep o193 k298 no115
 have o303 := Own.keep o194 k298 no117
 have m304 := Mono.set m195 z24 k298
 refine A rfl rfl ?_
 refine rt_ ?_
 refine Fin.frzCell 0 (Own.nil H0 H296 1) h297 z24 rfl (NotId.nil _) m304 fun H305 h306 m307 k308 => ?_
 have o311 := Own.stay2 o302 (Sep.nilR _) no115 k308
 have o312 := Own.stay2 o303 (Sep.nilR _) no117 k308
 have h313 : H305 i17 = some (.row 0 ([.sl 0 ([]), .snil, .snil])) := h306
 refine Fin.frzCell 1 (Own.nil H0 H305 1) h313 z24 rfl (NotId.nil _) m307 fun H314 h315 m316 k317 => ?_
 have o320 := Own.stay2 o311 (Sep.nilR _) no115 k317
 have o321 := Own.stay2 o312 (Sep.nilR _) no117 k317
 have h322 : H314 i17 = some (.row 0 ([.sl 0 ([]), .sl 0 ([]), .snil])) := h315
 refine Fin.frzCell 2 (Own.nil H0 H314 1) h322 z24 rfl (NotId.nil _) m316 fun H323 h324 m325 k326 => ?_
 have o329 := Own.stay2 o320 (Sep.nilR _) no115 k326
 have o330 := Own.stay2 o321 (Sep.nilR _) no117 k326
 have h331 : H323 i17 = some (.row 0 ([.sl 0 ([]), .sl 0 ([]), .sl 0 ([])])) := h324
 refine Rr (Res.list rfl rfl (.cell (v := .agg [.sl 0 ([]), .sl 0 ([]), .sl 0 ([])]) s108 ty_38 h331 rfl (.tmp rfl (.nil)))) ?_ m325
 exact congrArg AV.tup (lc (congrArg AV.agg (lc (congrArg (fun l : List VT => AV.sl l.length (l.flatMap eV)) (show ([] : List VT) = (((diceR p cage id s texs).1).Verts) from by first | (exfalso; omega) | rw [dice_bad h0 hi0 (by omega) (show plT s texs (vtxD p cage id s (at_ (weaveR (R_rate_Sides p.aP s.Unit)).1 i)) = none by unfold plT vtxD; rw [if_pos ⟨by omega, by omega⟩, if_neg (ff b196)])])) (lc (congrArg (fun l : List KeyT => AV.sl l.length (l.flatMap eKey)) (show ([] : List KeyT) = (((diceR p cage id s texs).1).Keys) from by first | (exfalso; omega) | rw [dice_bad h0 hi0 (by omega) (show plT s texs (vtxD p cage id s (at_ (weaveR (R_rate_Sides p.aP s.Unit)).1 i)) = none by unfold plT vtxD; rw [if_pos ⟨by omega, by omega⟩, if_neg (ff b196)])])) (lc (congrArg (fun l : List I3T => AV.sl l.length (l.flatMap eI3)) (show ([] : List I3T) = (((diceR p cage id s texs).1).Tris) from by first | (exfalso; omega) | rw [dice_bad h0 hi0 (by omega) (show plT s texs (vtxD p cage id s (at_ (weaveR (R_rate_Sides p.aP s.Unit)).1 i)) = none by unfold plT vtxD; rw [if_pos ⟨by omega, by omega⟩, if_neg (ff b196)])])) rfl)))) (lc (congrArg (AV.int .i64) (show (11 : Int) = (diceR p cage id s texs).2 from by first | (exfalso; omega) | rw [dice_bad h0 hi0 (by omega) (show plT s texs (vtxD p cage id s (at_ (weaveR (R_rate_Sides p.aP s.Unit)).1 i)) = none by unfold plT vtxD; rw [if_pos ⟨by omega, by omega⟩, if_neg (ff b196)])])) rfl))
 refine cf_ rfl (decide_eq_false b187) ?_
 refine AWP.skip ?_
 refine AWP.seq ?_
 have hpl : plT s texs (vtxD p cage id s (at_ (weaveR (R_rate_Sides p.aP s.Unit)).1 i)) = some (Ymesh_Dice_3 p cage id s i) := by unfold plT vtxD; rw [if_neg (by omega)] <;> rfl
 have hq1 : (((weaveR (R_rate_Sides p.aP s.Unit)).1.take i.toNat).map (fD p cage id s texs)).length ≤ 400 := by simp only [List.length_map, List.length_take]; omega
 have hq2 : (((weaveR (R_rate_Sides p.aP s.Unit)).1.take i.toNat).map (kD p cage id s)).length ≤ 400 := by simp only [List.length_map, List.length_take]; omega
 refine AWP.region rfl ?_
 refine C rfl (Fa rfl s110 fl_38_0 ?_ (hid := ⟨_, h181⟩))
 refine C rfl (Ld _ rfl rfl ty_34 h181 rfl ?_)
 refine C rfl (Fa rfl rfl fl_78_0 ?_ (hid := ⟨_, h178⟩))
 refine C rfl (Ld _ rfl rfl ty_23 h178 rfl (C rfl (AOp.buildSlice (cells := [J ((Ymesh_Dice_3 p cage id s i).X), J ((Ymesh_Dice_3 p cage id s i).Y), J ((Ymesh_Dice_3 p cage id s i).Z)]) rfl u_34 ts_23 tz_23 rfl rfl rfl ?_)))
 intro i332 H333 n334 h335 k336
 have h341 := keep k336 (ne_new h180 n334) h180
 have h342 := keep k336 (ne_new h181 n334) h181
 have h343 := keep k336 (ne_new h178 n334) h178
 have o344 := Own.keep o183 k336 (Own.notnew o183 n334)
 have o346 := Own.keep o184 k336 (Own.notnew o184 n334)
 have m348 := Mono.new m185 n334 k336
 refine C rfl (AOp.append_own (es := 3) (m := 1) (len := ((((weaveR (R_rate_Sides p.aP s.Unit)).1.take i.toNat).map (fD p cage id s texs)).length)) (old := (((weaveR (R_rate_Sides p.aP s.Unit)).1.take i.toNat).map (fD p cage id s texs)).flatMap eV) (cells := [J ((Ymesh_Dice_3 p cage id s i).X), J ((Ymesh_Dice_3 p cage id s i).Y), J ((Ymesh_Dice_3 p cage id s i).Z)]) rfl u_34 ts_23 tzn_23 tb_23 (by decide) ni_34 rfl o344 m348 rfl (.slm h335 rfl) (one_of rfl) (by decide) (by first | omega | (simp; omega)) ?_)
 intro v349 H350 o351 m352 k353 j354
 have o355 := Own.snocM (xs := ((((weaveR (R_rate_Sides p.aP s.Unit)).1.take i.toNat).map (fD p cage id s texs)) : List VT)) (y := (Ymesh_Dice_3 p cage id s i)) (e := eV) (by simp) o351
 have h356 := (k353 _ no115 (by rw [h341]; simp)).trans h341
 have no357 := j354 _ no115 (by rw [h341]; simp)
 have h358 := (k353 _ no116 (by rw [h342]; simp)).trans h342
 have no359 := j354 _ no116 (by rw [h342]; simp)
 have h360 := (k353 _ no173 (by rw [h343]; simp)).trans h343
 have no361 := j354 _ no173 (by rw [h343]; simp)
 have sp363 := Own.sep o346 (Sep.symm sp119) j354
 have o362 := Own.stay o346 (Sep.symm sp119) k353
 refine C rfl (Fa rfl s110 fl_38_0 ?_ (hid := ⟨_, h358⟩))
 refine C rfl (AOp.storeO (cells' := [v349, w18_1, .sl ((weaveR (R_rate_Sides p.aP s.Unit)).2.1).length (((weaveR (R_rate_Sides p.aP s.Unit)).2.1).flatMap eI3)]) rfl rfl o355 ts_34 h358 rfl rfl ?_)
 intro H364 h365 k366
 have h367 := keep k366 e92 h356
 have h369 := keep k366 (Ne.symm e168) h360
 have o370 := Own.keep o362 k366 no118
 have o371 := Own.keep o355 k366 no359
 have m372 := Mono.set m352 z93 k366
 refine AWP.region rfl ?_
 refine C rfl (Fa rfl s110 fl_38_1 ?_ (hid := ⟨_, h365⟩))
 refine C rfl (Ld _ rfl rfl ty_35 h365 rfl ?_)
 refine C rfl (Fa rfl rfl fl_78_2 ?_ (hid := ⟨_, h369⟩))
 refine C rfl (Ld _ rfl rfl ty_58 h369 rfl (C rfl (AOp.buildSlice (cells := [J ((Ymesh_Dice_2 p cage id s i).Kind), J ((Ymesh_Dice_2 p cage id s i).Of), J ((Ymesh_Dice_2 p cage id s i).A), J ((Ymesh_Dice_2 p cage id s i).B), J ((Ymesh_Dice_2 p cage id s i).N)]) rfl u_35 ts_58 tz_58 rfl rfl rfl ?_)))
 intro i373 H374 n375 h376 k377
 have h382 := keep k377 (ne_new h367 n375) h367
 have h383 := keep k377 (ne_new h369 n375) h369
 have h384 := keep k377 (ne_new h365 n375) h365
 have o385 := Own.keep o370 k377 (Own.notnew o370 n375)
 have o387 := Own.keep o371 k377 (Own.notnew o371 n375)
 have m389 := Mono.new m372 n375 k377
 refine C rfl (AOp.append_own (es := 5) (m := 1) (len := ((((weaveR (R_rate_Sides p.aP s.Unit)).1.take i.toNat).map (kD p cage id s)).length)) (old := (((weaveR (R_rate_Sides p.aP s.Unit)).1.take i.toNat).map (kD p cage id s)).flatMap eKey) (cells := [J ((Ymesh_Dice_2 p cage id s i).Kind), J ((Ymesh_Dice_2 p cage id s i).Of), J ((Ymesh_Dice_2 p cage id s i).A), J ((Ymesh_Dice_2 p cage id s i).B), J ((Ymesh_Dice_2 p cage id s i).N)]) rfl u_35 ts_58 tzn_58 tb_58 (by decide) ni_35 rfl o385 m389 rfl (.slm h376 rfl) (one_of rfl) (by decide) (by first | omega | (simp; omega)) ?_)
 intro v390 H391 o392 m393 k394 j395
 have o396 := Own.snocM (xs := ((((weaveR (R_rate_Sides p.aP s.Unit)).1.take i.toNat).map (kD p cage id s)) : List KeyT)) (y := (Ymesh_Dice_2 p cage id s i)) (e := eKey) (by simp) o392
 have h397 := (k394 _ no117 (by rw [h382]; simp)).trans h382
 have no398 := j395 _ no117 (by rw [h382]; simp)
 have no400 := j395 _ no175 (by rw [h383]; simp)
 have h401 := (k394 _ no118 (by rw [h384]; simp)).trans h384
 have no402 := j395 _ no118 (by rw [h384]; simp)
 have sp404 := Own.sep o387 (Sep.symm sp363) j395
 have o403 := Own.stay o387 (Sep.symm sp363) k394
 refine C rfl (Fa rfl s110 fl_38_1 ?_ (hid := ⟨_, h401⟩))
 refine C rfl (AOp.storeO (cells' := [v349, v390, .sl ((weaveR (R_rate_Sides p.aP s.Unit)).2.1).length (((weaveR (R_rate_Sides p.aP s.Unit)).2.1).flatMap eI3)]) rfl rfl o396 ts_35 h401 rfl rfl ?_)
 intro H405 h406 k407
 have h408 := keep k407 e92 h397
 have o411 := Own.keep o403 k407 no359
 have o412 := Own.keep o396 k407 no402
 have m413 := Mono.set m393 z93 k407
 refine AWP.region rfl ?_
 refine B rfl s105 rfl (iadd (by omega)) (V rfl rfl ?_)
 refine AOps.nil ?_
 exact ⟨_, by omega, i + 1, v349, v390, rfl, rfl, s106, s107, s108, s109, s110, s111, s112, (have hx : (((((weaveR (R_rate_Sides p.aP s.Unit)).1.take i.toNat).map (fD p cage id s texs)) ++ [(Ymesh_Dice_3 p cage id s i)]) : List VT) = ((weaveR (R_rate_Sides p.aP s.Unit)).1.take (i + 1).toNat).map (fD p cage id s texs) := (by exact map_step hi0 (by omega) (fD_of hpl)); Own.re o411 (congrArg List.length hx) (congrArg (fun l : List VT => l.flatMap eV) hx)), (have hx : (((((weaveR (R_rate_Sides p.aP s.Unit)).1.take i.toNat).map (kD p cage id s)) ++ [(Ymesh_Dice_2 p cage id s i)]) : List KeyT) = ((weaveR (R_rate_Sides p.aP s.Unit)).1.take (i + 1).toNat).map (kD p cage id s) := (by exact map_step hi0 (by omega) rfl); Own.re o412 (congrArg List.length hx) (congrArg (fun l : List KeyT => l.flatMap eKey) hx)), no357, no359, no398, no402, sp404, h408, h406, m413, by omega, by omega, by exact fa_step pre (by rw [hpl]; rfl)⟩
 refine N rfl rfl (decide_eq_false b186) (N rfl rfl (decide_eq_false b186) (N rfl rfl (decide_eq_false b186) (C rfl (Pf _ rfl rfl (decide_eq_false b186) rfl ?_))))
 refine cf_ rfl rfl ?_
 refine AWP.skip ?_
 refine AWP.seq ?_
 have hpl : plT s texs (vtxD p cage id s (at_ (weaveR (R_rate_Sides p.aP s.Unit)).1 i)) = some (Ymesh_Dice_3 p cage id s i) := by unfold plT vtxD; rw [if_neg (by omega)] <;> rfl
 have hq1 : (((weaveR (R_rate_Sides p.aP s.Unit)).1.take i.toNat).map (fD p cage id s texs)).length ≤ 400 := by simp only [List.length_map, List.length_take]; omega
 have hq2 : (((weaveR (R_rate_Sides p.aP s.Unit)).1.take i.toNat).map (kD p cage id s)).length ≤ 400 := by simp only [List.length_map, List.length_take]; omega
 refine AWP.region rfl ?_
 refine C rfl (Fa rfl s110 fl_38_0 ?_ (hid := ⟨_, h181⟩))
 refine C rfl (Ld _ rfl rfl ty_34 h181 rfl ?_)
 refine C rfl (Fa rfl rfl fl_78_0 ?_ (hid := ⟨_, h178⟩))
 refine C rfl (Ld _ rfl rfl ty_23 h178 rfl (C rfl (AOp.buildSlice (cells := [J ((Ymesh_Dice_3 p cage id s i).X), J ((Ymesh_Dice_3 p cage id s i).Y), J ((Ymesh_Dice_3 p cage id s i).Z)]) rfl u_34 ts_23 tz_23 rfl rfl rfl ?_)))
 intro i414 H415 n416 h417 k418
 have h423 := keep k418 (ne_new h180 n416) h180
 have h424 := keep k418 (ne_new h181 n416) h181
 have h425 := keep k418 (ne_new h178 n416) h178
 have o426 := Own.keep o183 k418 (Own.notnew o183 n416)
 have o428 := Own.keep o184 k418 (Own.notnew o184 n416)
 have m430 := Mono.new m185 n416 k418
 refine C rfl (AOp.append_own (es := 3) (m := 1) (len := ((((weaveR (R_rate_Sides p.aP s.Unit)).1.take i.toNat).map (fD p cage id s texs)).length)) (old := (((weaveR (R_rate_Sides p.aP s.Unit)).1.take i.toNat).map (fD p cage id s texs)).flatMap eV) (cells := [J ((Ymesh_Dice_3 p cage id s i).X), J ((Ymesh_Dice_3 p cage id s i).Y), J ((Ymesh_Dice_3 p cage id s i).Z)]) rfl u_34 ts_23 tzn_23 tb_23 (by decide) ni_34 rfl o426 m430 rfl (.slm h417 rfl) (one_of rfl) (by decide) (by first | omega | (simp; omega)) ?_)
 intro v431 H432 o433 m434 k435 j436
 have o437 := Own.snocM (xs := ((((weaveR (R_rate_Sides p.aP s.Unit)).1.take i.toNat).map (fD p cage id s texs)) : List VT)) (y := (Ymesh_Dice_3 p cage id s i)) (e := eV) (by simp) o433
 have h438 := (k435 _ no115 (by rw [h423]; simp)).trans h423
 have no439 := j436 _ no115 (by rw [h423]; simp)
 have h440 := (k435 _ no116 (by rw [h424]; simp)).trans h424
 have no441 := j436 _ no116 (by rw [h424]; simp)
 have h442 := (k435 _ no173 (by rw [h425]; simp)).trans h425
 have no443 := j436 _ no173 (by rw [h425]; simp)
 have sp445 := Own.sep o428 (Sep.symm sp119) j436
 have o444 := Own.stay o428 (Sep.symm sp119) k435
 refine C rfl (Fa rfl s110 fl_38_0 ?_ (hid := ⟨_, h440⟩))
 refine C rfl (AOp.storeO (cells' := [v431, w18_1, .sl ((weaveR (R_rate_Sides p.aP s.Unit)).2.1).length (((weaveR (R_rate_Sides p.aP s.Unit)).2.1).flatMap eI3)]) rfl rfl o437 ts_34 h440 rfl rfl ?_)
 intro H446 h447 k448
 have h449 := keep k448 e92 h438
 have h451 := keep k448 (Ne.symm e168) h442
 have o452 := Own.keep o444 k448 no118
 have o453 := Own.keep o437 k448 no441
 have m454 := Mono.set m434 z93 k448
 refine AWP.region rfl ?_
 refine C rfl (Fa rfl s110 fl_38_1 ?_ (hid := ⟨_, h447⟩))
 refine C rfl (Ld _ rfl rfl ty_35 h447 rfl ?_)
 refine C rfl (Fa rfl rfl fl_78_2 ?_ (hid := ⟨_, h451⟩))
 refine C rfl (Ld _ rfl rfl ty_58 h451 rfl (C rfl (AOp.buildSlice (cells := [J ((Ymesh_Dice_2 p cage id s i).Kind), J ((Ymesh_Dice_2 p cage id s i).Of), J ((Ymesh_Dice_2 p cage id s i).A), J ((Ymesh_Dice_2 p cage id s i).B), J ((Ymesh_Dice_2 p cage id s i).N)]) rfl u_35 ts_58 tz_58 rfl rfl rfl ?_)))
 intro i455 H456 n457 h458 k459
 have h464 := keep k459 (ne_new h449 n457) h449
 have h465 := keep k459 (ne_new h451 n457) h451
 have h466 := keep k459 (ne_new h447 n457) h447
 have o467 := Own.keep o452 k459 (Own.notnew o452 n457)
 have o469 := Own.keep o453 k459 (Own.notnew o453 n457)
 have m471 := Mono.new m454 n457 k459
 refine C rfl (AOp.append_own (es := 5) (m := 1) (len := ((((weaveR (R_rate_Sides p.aP s.Unit)).1.take i.toNat).map (kD p cage id s)).length)) (old := (((weaveR (R_rate_Sides p.aP s.Unit)).1.take i.toNat).map (kD p cage id s)).flatMap eKey) (cells := [J ((Ymesh_Dice_2 p cage id s i).Kind), J ((Ymesh_Dice_2 p cage id s i).Of), J ((Ymesh_Dice_2 p cage id s i).A), J ((Ymesh_Dice_2 p cage id s i).B), J ((Ymesh_Dice_2 p cage id s i).N)]) rfl u_35 ts_58 tzn_58 tb_58 (by decide) ni_35 rfl o467 m471 rfl (.slm h458 rfl) (one_of rfl) (by decide) (by first | omega | (simp; omega)) ?_)
 intro v472 H473 o474 m475 k476 j477
 have o478 := Own.snocM (xs := ((((weaveR (R_rate_Sides p.aP s.Unit)).1.take i.toNat).map (kD p cage id s)) : List KeyT)) (y := (Ymesh_Dice_2 p cage id s i)) (e := eKey) (by simp) o474
 have h479 := (k476 _ no117 (by rw [h464]; simp)).trans h464
 have no480 := j477 _ no117 (by rw [h464]; simp)
 have no482 := j477 _ no175 (by rw [h465]; simp)
 have h483 := (k476 _ no118 (by rw [h466]; simp)).trans h466
 have no484 := j477 _ no118 (by rw [h466]; simp)
 have sp486 := Own.sep o469 (Sep.symm sp445) j477
 have o485 := Own.stay o469 (Sep.symm sp445) k476
 refine C rfl (Fa rfl s110 fl_38_1 ?_ (hid := ⟨_, h483⟩))
 refine C rfl (AOp.storeO (cells' := [v431, v472, .sl ((weaveR (R_rate_Sides p.aP s.Unit)).2.1).length (((weaveR (R_rate_Sides p.aP s.Unit)).2.1).flatMap eI3)]) rfl rfl o478 ts_35 h483 rfl rfl ?_)
 intro H487 h488 k489
 have h490 := keep k489 e92 h479
 have o493 := Own.keep o485 k489 no441
 have o494 := Own.keep o478 k489 no484
 have m495 := Mono.set m475 z93 k489
 refine AWP.region rfl ?_
 refine B rfl s105 rfl (iadd (by omega)) (V rfl rfl ?_)
 refine AOps.nil ?_
 exact ⟨_, by omega, i + 1, v431, v472, rfl, rfl, s106, s107, s108, s109, s110, s111, s112, (have hx : (((((weaveR (R_rate_Sides p.aP s.Unit)).1.take i.toNat).map (fD p cage id s texs)) ++ [(Ymesh_Dice_3 p cage id s i)]) : List VT) = ((weaveR (R_rate_Sides p.aP s.Unit)).1.take (i + 1).toNat).map (fD p cage id s texs) := (by exact map_step hi0 (by omega) (fD_of hpl)); Own.re o493 (congrArg List.length hx) (congrArg (fun l : List VT => l.flatMap eV) hx)), (have hx : (((((weaveR (R_rate_Sides p.aP s.Unit)).1.take i.toNat).map (kD p cage id s)) ++ [(Ymesh_Dice_2 p cage id s i)]) : List KeyT) = ((weaveR (R_rate_Sides p.aP s.Unit)).1.take (i + 1).toNat).map (kD p cage id s) := (by exact map_step hi0 (by omega) rfl); Own.re o494 (congrArg List.length hx) (congrArg (fun l : List KeyT => l.flatMap eKey) hx)), no439, no441, no480, no484, sp486, h490, h488, m495, by omega, by omega, by exact fa_step pre (by rw [hpl]; rfl)⟩
 refine cf_ rfl (decide_eq_false b123) ?_
 refine AWP.exit ?_
 change AWP _ _ _ _ _ _
 refine Sr ?_
 refine C rfl (Ld _ rfl s110 ty_38 h121 rfl (C rfl (So (cells' := [w18_0, w18_1, .sl ((weaveR (R_rate_Sides p.aP s.Unit)).2.1).length (((weaveR (R_rate_Sides p.aP s.Unit)).2.1).flatMap eI3)]) (.agg [w18_0, w18_1, .sl ((weaveR (R_rate_Sides p.aP s.Unit)).2.1).length (((weaveR (R_rate_Sides p.aP s.Unit)).2.1).flatMap eI3)]) s108 rfl ts_38 h120 (by simp only [AV.cells, List.all_cons, List.all_nil, Own.one_ o113, Own.one_ o114]; rfl) rfl rfl rfl ?_)))
 intro H496 h497 k498
 have o501 := Own.keep o113 k498 no115
 have o502 := Own.keep o114 k498 no117
 have m503 := Mono.set m122 z24 k498
 refine A rfl rfl ?_
 refine rt_ ?_
 refine Fin.frzCell 0 o501 h497 z24 rfl no115 m503 fun H504 h505 m506 k507 => ?_
 have o509 := Own.stay2 o502 (Sep.symm sp119) no117 k507
 have h510 : H504 i17 = some (.row 0 ([.sl (((weaveR (R_rate_Sides p.aP s.Unit)).1.take i.toNat).map (fD p cage id s texs)).length ((((weaveR (R_rate_Sides p.aP s.Unit)).1.take i.toNat).map (fD p cage id s texs)).flatMap eV), w18_1, .sl ((weaveR (R_rate_Sides p.aP s.Unit)).2.1).length (((weaveR (R_rate_Sides p.aP s.Unit)).2.1).flatMap eI3)])) := h505
 refine Fin.frzCell 1 o509 h510 z24 rfl no117 m506 fun H511 h512 m513 k514 => ?_
 have h516 : H511 i17 = some (.row 0 ([.sl (((weaveR (R_rate_Sides p.aP s.Unit)).1.take i.toNat).map (fD p cage id s texs)).length ((((weaveR (R_rate_Sides p.aP s.Unit)).1.take i.toNat).map (fD p cage id s texs)).flatMap eV), .sl (((weaveR (R_rate_Sides p.aP s.Unit)).1.take i.toNat).map (kD p cage id s)).length ((((weaveR (R_rate_Sides p.aP s.Unit)).1.take i.toNat).map (kD p cage id s)).flatMap eKey), .sl ((weaveR (R_rate_Sides p.aP s.Unit)).2.1).length (((weaveR (R_rate_Sides p.aP s.Unit)).2.1).flatMap eI3)])) := h512
 refine Rr (Res.list rfl rfl (.cell (v := .agg [.sl (((weaveR (R_rate_Sides p.aP s.Unit)).1.take i.toNat).map (fD p cage id s texs)).length ((((weaveR (R_rate_Sides p.aP s.Unit)).1.take i.toNat).map (fD p cage id s texs)).flatMap eV), .sl (((weaveR (R_rate_Sides p.aP s.Unit)).1.take i.toNat).map (kD p cage id s)).length ((((weaveR (R_rate_Sides p.aP s.Unit)).1.take i.toNat).map (kD p cage id s)).flatMap eKey), .sl ((weaveR (R_rate_Sides p.aP s.Unit)).2.1).length (((weaveR (R_rate_Sides p.aP s.Unit)).2.1).flatMap eI3)]) s108 ty_38 h516 rfl (.tmp rfl (.nil)))) ?_ m513
 exact congrArg AV.tup (lc (congrArg AV.agg (lc (congrArg (fun l : List VT => AV.sl l.length (l.flatMap eV)) (show ((((weaveR (R_rate_Sides p.aP s.Unit)).1.take i.toNat).map (fD p cage id s texs)) : List VT) = (((diceR p cage id s texs).1).Verts) from by first | (exfalso; omega) | rw [dice_ok h0 (by omega) pre])) (lc (congrArg (fun l : List KeyT => AV.sl l.length (l.flatMap eKey)) (show ((((weaveR (R_rate_Sides p.aP s.Unit)).1.take i.toNat).map (kD p cage id s)) : List KeyT) = (((diceR p cage id s texs).1).Keys) from by first | (exfalso; omega) | rw [dice_ok h0 (by omega) pre])) (lc (congrArg (fun l : List I3T => AV.sl l.length (l.flatMap eI3)) (show ((weaveR (R_rate_Sides p.aP s.Unit)).2.1 : List I3T) = (((diceR p cage id s texs).1).Tris) from by first | (exfalso; omega) | rw [dice_ok h0 (by omega) pre])) rfl)))) (lc (congrArg (AV.int .i64) (show (0 : Int) = (diceR p cage id s texs).2 from by first | (exfalso; omega) | rw [dice_ok h0 (by omega) pre])) rfl))
 refine ct_ rfl (nb (decide_eq_false b42)) ?_
 refine Sr ?_
 refine C rfl (Bl (cells := [.snil, .snil, .snil]) rfl tz_38 pl_38 rfl rfl (V rfl rfl (C rfl (Sw rfl rfl ts_38 h39 rfl rfl rfl ?_))))
 intro H517 h518 k519
 have m521 := Mono.set m40 z24 k519
 refine A rfl rfl ?_
 refine rt_ ?_
 refine Fin.frzCell 0 (Own.nil H0 H517 1) h518 z24 rfl (NotId.nil _) m521 fun H522 h523 m524 k525 => ?_
 have h526 : H522 i17 = some (.row 0 ([.sl 0 ([]), .snil, .snil])) := h523
 refine Fin.frzCell 1 (Own.nil H0 H522 1) h526 z24 rfl (NotId.nil _) m524 fun H527 h528 m529 k530 => ?_
 have h531 : H527 i17 = some (.row 0 ([.sl 0 ([]), .sl 0 ([]), .snil])) := h528
 refine Fin.frzCell 2 (Own.nil H0 H527 1) h531 z24 rfl (NotId.nil _) m529 fun H532 h533 m534 k535 => ?_
 have h536 : H532 i17 = some (.row 0 ([.sl 0 ([]), .sl 0 ([]), .sl 0 ([])])) := h533
 refine Rr (Res.list rfl rfl (.cell (v := .agg [.sl 0 ([]), .sl 0 ([]), .sl 0 ([])]) rfl ty_38 h536 rfl (.tmp rfl (.nil)))) ?_ m534
 exact congrArg AV.tup (lc (congrArg AV.agg (lc (congrArg (fun l : List VT => AV.sl l.length (l.flatMap eV)) (show ([] : List VT) = (((diceR p cage id s texs).1).Verts) from by first | (exfalso; omega) | (rw [dice_err (e := R_mesh_fine p s) (by unfold errD; split <;> omega) (by omega)] <;> rfl))) (lc (congrArg (fun l : List KeyT => AV.sl l.length (l.flatMap eKey)) (show ([] : List KeyT) = (((diceR p cage id s texs).1).Keys) from by first | (exfalso; omega) | (rw [dice_err (e := R_mesh_fine p s) (by unfold errD; split <;> omega) (by omega)] <;> rfl))) (lc (congrArg (fun l : List I3T => AV.sl l.length (l.flatMap eI3)) (show ([] : List I3T) = (((diceR p cage id s texs).1).Tris) from by first | (exfalso; omega) | (rw [dice_err (e := R_mesh_fine p s) (by unfold errD; split <;> omega) (by omega)] <;> rfl))) rfl)))) (lc (congrArg (AV.int .i64) (show (R_mesh_fine p s : Int) = (diceR p cage id s texs).2 from by first | (exfalso; omega) | (rw [dice_err (e := R_mesh_fine p s) (by unfold errD; split <;> omega) (by omega)] <;> rfl))) rfl))
 refine Y rfl rfl rfl (nb (decide_eq_false b41)) (Ff rfl rfl fl_30_4 (Y rfl rfl rfl (nb (decide_eq_false b41)) (Lf _ rfl rfl ty_3 rfl (Y rfl rfl rfl (nb (decide_eq_false b41)) (Bi _ rfl rfl rfl rfl (Y rfl rfl rfl (nb (decide_eq_false b41)) (Mv _ rfl rfl ?_)))))))
 by_cases b537 : s.Tex < -1
 refine N rfl rfl (decide_eq_true b537) (N rfl rfl (decide_eq_true b537) (N rfl rfl (decide_eq_true b537) (N rfl rfl (decide_eq_true b537) (N rfl rfl (decide_eq_true b537) (Y rfl rfl rfl (nb (decide_eq_false b41)) (Pt _ rfl rfl (decide_eq_true b537) rfl (C rfl (Pt _ rfl rfl (nb (decide_eq_false b41)) rfl ?_))))))))
 refine ct_ rfl rfl ?_
 refine AWP.region rfl ?_
 refine A rfl rfl ?_
 refine AWP.seq ?_
 refine Sr ?_
 refine V rfl rfl (B rfl rfl rfl ine ?_)
 refine ct_ rfl (nb (decide_eq_false (by decide))) ?_
 refine Sr ?_
 refine C rfl (Bl (cells := [.snil, .snil, .snil]) rfl tz_38 pl_38 rfl rfl (V rfl rfl (C rfl (Sw rfl rfl ts_38 h39 rfl rfl rfl ?_))))
 intro H538 h539 k540
 have m542 := Mono.set m40 z24 k540
 refine A rfl rfl ?_
 refine rt_ ?_
 refine Fin.frzCell 0 (Own.nil H0 H538 1) h539 z24 rfl (NotId.nil _) m542 fun H543 h544 m545 k546 => ?_
 have h547 : H543 i17 = some (.row 0 ([.sl 0 ([]), .snil, .snil])) := h544
 refine Fin.frzCell 1 (Own.nil H0 H543 1) h547 z24 rfl (NotId.nil _) m545 fun H548 h549 m550 k551 => ?_
 have h552 : H548 i17 = some (.row 0 ([.sl 0 ([]), .sl 0 ([]), .snil])) := h549
 refine Fin.frzCell 2 (Own.nil H0 H548 1) h552 z24 rfl (NotId.nil _) m550 fun H553 h554 m555 k556 => ?_
 have h557 : H553 i17 = some (.row 0 ([.sl 0 ([]), .sl 0 ([]), .sl 0 ([])])) := h554
 refine Rr (Res.list rfl rfl (.cell (v := .agg [.sl 0 ([]), .sl 0 ([]), .sl 0 ([])]) rfl ty_38 h557 rfl (.tmp rfl (.nil)))) ?_ m555
 exact congrArg AV.tup (lc (congrArg AV.agg (lc (congrArg (fun l : List VT => AV.sl l.length (l.flatMap eV)) (show ([] : List VT) = (((diceR p cage id s texs).1).Verts) from by first | (exfalso; omega) | (rw [dice_err (e := 11) (by unfold errD; split <;> omega) (by omega)] <;> rfl))) (lc (congrArg (fun l : List KeyT => AV.sl l.length (l.flatMap eKey)) (show ([] : List KeyT) = (((diceR p cage id s texs).1).Keys) from by first | (exfalso; omega) | (rw [dice_err (e := 11) (by unfold errD; split <;> omega) (by omega)] <;> rfl))) (lc (congrArg (fun l : List I3T => AV.sl l.length (l.flatMap eI3)) (show ([] : List I3T) = (((diceR p cage id s texs).1).Tris) from by first | (exfalso; omega) | (rw [dice_err (e := 11) (by unfold errD; split <;> omega) (by omega)] <;> rfl))) rfl)))) (lc (congrArg (AV.int .i64) (show (11 : Int) = (diceR p cage id s texs).2 from by first | (exfalso; omega) | (rw [dice_err (e := 11) (by unfold errD; split <;> omega) (by omega)] <;> rfl))) rfl))
 refine Y rfl rfl rfl (decide_eq_false b537) (Ff rfl rfl fl_30_4 (Y rfl rfl rfl (decide_eq_false b537) (Lf _ rfl rfl ty_3 rfl (Y rfl rfl rfl (decide_eq_false b537) (Mv _ rfl rfl (Y rfl rfl rfl (decide_eq_false b537) (AOp.len (m := texs.length) rfl rfl (.inr (.inl ⟨_, rfl⟩)) u_31 (Y rfl rfl rfl (decide_eq_false b537) (Bi _ rfl rfl rfl rfl (Y rfl rfl rfl (nb (decide_eq_false b41)) (Pf _ rfl rfl (decide_eq_false b537) rfl (C rfl (Pt _ rfl rfl (nb (decide_eq_false b41)) rfl ?_)))))))))))))
 refine AOps.nil ?_
 change AWP _ _ _ _ _ _
 by_cases b558 : s.Tex ≥ (texs.length : Int)
 refine ct_ rfl (decide_eq_true b558) ?_
 refine AWP.region rfl ?_
 refine A rfl rfl ?_
 refine AWP.seq ?_
 refine Sr ?_
 refine V rfl rfl (B rfl rfl rfl ine ?_)
 refine ct_ rfl (nb (decide_eq_false (by decide))) ?_
 refine Sr ?_
 refine C rfl (Bl (cells := [.snil, .snil, .snil]) rfl tz_38 pl_38 rfl rfl (V rfl rfl (C rfl (Sw rfl rfl ts_38 h39 rfl rfl rfl ?_))))
 intro H559 h560 k561
 have m563 := Mono.set m40 z24 k561
 refine A rfl rfl ?_
 refine rt_ ?_
 refine Fin.frzCell 0 (Own.nil H0 H559 1) h560 z24 rfl (NotId.nil _) m563 fun H564 h565 m566 k567 => ?_
 have h568 : H564 i17 = some (.row 0 ([.sl 0 ([]), .snil, .snil])) := h565
 refine Fin.frzCell 1 (Own.nil H0 H564 1) h568 z24 rfl (NotId.nil _) m566 fun H569 h570 m571 k572 => ?_
 have h573 : H569 i17 = some (.row 0 ([.sl 0 ([]), .sl 0 ([]), .snil])) := h570
 refine Fin.frzCell 2 (Own.nil H0 H569 1) h573 z24 rfl (NotId.nil _) m571 fun H574 h575 m576 k577 => ?_
 have h578 : H574 i17 = some (.row 0 ([.sl 0 ([]), .sl 0 ([]), .sl 0 ([])])) := h575
 refine Rr (Res.list rfl rfl (.cell (v := .agg [.sl 0 ([]), .sl 0 ([]), .sl 0 ([])]) rfl ty_38 h578 rfl (.tmp rfl (.nil)))) ?_ m576
 exact congrArg AV.tup (lc (congrArg AV.agg (lc (congrArg (fun l : List VT => AV.sl l.length (l.flatMap eV)) (show ([] : List VT) = (((diceR p cage id s texs).1).Verts) from by first | (exfalso; omega) | (rw [dice_err (e := 11) (by unfold errD; split <;> omega) (by omega)] <;> rfl))) (lc (congrArg (fun l : List KeyT => AV.sl l.length (l.flatMap eKey)) (show ([] : List KeyT) = (((diceR p cage id s texs).1).Keys) from by first | (exfalso; omega) | (rw [dice_err (e := 11) (by unfold errD; split <;> omega) (by omega)] <;> rfl))) (lc (congrArg (fun l : List I3T => AV.sl l.length (l.flatMap eI3)) (show ([] : List I3T) = (((diceR p cage id s texs).1).Tris) from by first | (exfalso; omega) | (rw [dice_err (e := 11) (by unfold errD; split <;> omega) (by omega)] <;> rfl))) rfl)))) (lc (congrArg (AV.int .i64) (show (11 : Int) = (diceR p cage id s texs).2 from by first | (exfalso; omega) | (rw [dice_err (e := 11) (by unfold errD; split <;> omega) (by omega)] <;> rfl))) rfl))
 refine cf_ rfl (decide_eq_false b558) ?_
 refine AWP.skip ?_
 refine AWP.seq ?_
 refine Sr ?_
 refine V rfl rfl (B rfl rfl rfl ine ?_)
 refine AOps.nil ?_
 change AWP _ _ _ _ _ _
 by_cases b579 : R_mesh_fine p s = 0
 refine cf_ rfl (nb (decide_eq_true b579)) ?_
 refine AWP.skip ?_
 refine AWP.seq ?_
 have h0 : errD p s texs = 0 := by unfold errD; split <;> omega
 refine AWP.region rfl ?_
 refine F rfl rfl fl_28_0 (L rfl rfl ty_24 (ld_fst (fun h => by first | rfl | cases h) (ld_all (lenM eV_len p.lP rfl))) (F rfl rfl fl_30_3 (L rfl rfl ty_3 rfl (C rfl (Pc («as» := [.agg (p.aP.flatMap eV), J s.Unit]) rfl rfl (rfl) tf_24 (c_rate_Sides p.aP p.lP s.Unit) ?_)))))
 intro H580 m581
 have h582 := m581 _ _ h39
 have m583 := m40.trans m581
 refine C rfl (al_ rfl tz_25 ?_)
 intro i584 H585 n586 h587 k588
 have e589 := ne_new h582 n586
 have z590 := Mono.free m583 n586
 have h591 := keep k588 (ne_new h582 n586) h582
 have m592 := Mono.new m583 n586 k588
 refine C rfl (So (cells' := (R_rate_Sides p.aP s.Unit).map eI) (.agg ((R_rate_Sides p.aP s.Unit).map eI)) rfl rfl ts_25 h587 (by simp only [AV.cells, List.all_append, List.all_cons, List.all_nil, Bool.and_true, Bool.and_eq_true]; exact (all_one1 eI_one _)) (show (AV.cells (.agg ((R_rate_Sides p.aP s.Unit).map eI))).length = 4 from (len1 (R_rate_Sides_len p.aP s.Unit))) rfl (wr_all rfl (len1 (R_rate_Sides_len p.aP s.Unit))) ?_)
 intro H593 h594 k595
 have h596 := keep k595 e589 h591
 have m598 := Mono.set m592 z590 k595
 refine AWP.seq ?_
 refine fz_ 13 h594 z590 rfl m598 fun H599 m600 k601 => ?_
 have h602 := (k601 _ e589).trans h596
 refine AWP.region rfl ?_
 refine L rfl rfl ty_25 (ld_all (len1 (R_rate_Sides_len p.aP s.Unit))) (C rfl (Pc («as» := [.agg ((R_rate_Sides p.aP s.Unit).map eI)]) rfl rfl (rfl) tf_25 (c_Weave (R_rate_Sides p.aP s.Unit) (R_rate_Sides_len p.aP s.Unit)) ?_))
 intro H603 m604
 have h605 := m604 _ _ h602
 have m606 := m600.trans m604
 refine V rfl rfl (E rfl rfl rfl (E rfl rfl rfl (E rfl rfl rfl (A rfl rfl (A rfl rfl (A rfl rfl ?_))))))
 refine AWP.seq ?_
 have hrl := R_rate_Sides_len p.aP s.Unit
 refine AWP.region_quiet mixed (by kernel_rfl) 7 [7, 8] rfl (by kernel_rfl) (Mono H603) (Mono.refl _) ?_
 refine QL rfl rfl ty_28 (ld_all (len_app (m := 48) (n := 17) (k := 65) (lenM eV_len p.lP rfl) (len_app (m := 4) (n := 13) (k := 17) (len1 p.lCorners) (len_app (m := 12) (n := 1) (k := 13) (lenM eV_len p.lNormals rfl) rfl rfl) rfl) rfl)) (QV rfl rfl (QV rfl rfl (QL rfl rfl ty_25 (ld_all (len1 (R_rate_Sides_len p.aP s.Unit))) (Q rfl (fun _ _ φ ψ => AOp.sliceAF rfl (φ 13 rfl) ar_25 (R_rate_Sides_len p.aP s.Unit) SubAt.all ⟨rfl, ψ⟩) (Q rfl (fun _ _ φ ψ => Pc («as» := [.sl (R_rate_Sides p.aP s.Unit).length ((R_rate_Sides p.aP s.Unit).map eI)]) rfl rfl (lapp (lcons (φ 60 rfl) rfl) rfl) tf_26 (c_Max (R_rate_Sides p.aP s.Unit) (by first | (have := (R_rate_Sides_len p.aP s.Unit); omega) | simp) (by first | omega | assumption | (constructor <;> omega) | simp)) fun H2 m2 => ⟨rfl, ψ.trans m2⟩) (Q rfl (fun _ _ φ ψ => Bl (ps := [(0, .agg (p.aP.flatMap eV ++ (p.aCorners.map eI ++ (p.aNormals.flatMap eV ++ [J p.Skin])))), (1, J cage), (2, J id), (3, .agg ((R_rate_Sides p.aP s.Unit).map eI)), (4, J (maxL (R_rate_Sides p.aP s.Unit)))]) (cells := p.aP.flatMap eV ++ (p.aCorners.map eI ++ (p.aNormals.flatMap eV ++ ([J p.Skin, J cage, J id] ++ ((R_rate_Sides p.aP s.Unit).map eI ++ [J (maxL (R_rate_Sides p.aP s.Unit))]))))) rfl tz_74 pl_74 (lconsP (φ 56 rfl) (lconsP (φ 57 rfl) (lconsP (φ 58 rfl) (lconsP (φ 59 rfl) (lconsP (φ 61 rfl) rfl))))) (fill_step (c' := ((p.aP.flatMap eV : List AV) ++ ((p.aCorners.map eI : List AV) ++ ((p.aNormals.flatMap eV : List AV) ++ ([J p.Skin, J 0, J 0, J 0, J 0, J 0, J 0, J 0] : List AV))))) rfl rfl (show (AV.cells (.agg (p.aP.flatMap eV ++ (p.aCorners.map eI ++ (p.aNormals.flatMap eV ++ [J p.Skin]))))).length = 65 from (len_app (m := 48) (n := 17) (k := 65) (lenM eV_len p.lP rfl) (len_app (m := 4) (n := 13) (k := 17) (len1 p.lCorners) (len_app (m := 12) (n := 1) (k := 13) (lenM eV_len p.lNormals rfl) rfl rfl) rfl) rfl)) rfl (wr_pre (len_app (m := 48) (n := 17) (k := 65) (lenM eV_len p.lP rfl) (len_app (m := 4) (n := 13) (k := 17) (len1 p.lCorners) (len_app (m := 12) (n := 1) (k := 13) (lenM eV_len p.lNormals rfl) rfl rfl) rfl) rfl)) (fill_step (c' := ((p.aP.flatMap eV : List AV) ++ ((p.aCorners.map eI : List AV) ++ ((p.aNormals.flatMap eV : List AV) ++ ([J p.Skin, J cage, J 0, J 0, J 0, J 0, J 0, J 0] : List AV))))) rfl rfl rfl (blelen (len_app (m := 48) (n := 24) (k := 72) (lenM eV_len p.lP rfl) (len_app (m := 4) (n := 20) (k := 24) (len1 p.lCorners) (len_app (m := 12) (n := 8) (k := 20) (lenM eV_len p.lNormals rfl) rfl rfl) rfl) rfl) (by omega)) (wr_skip (off' := 17) (lenM eV_len p.lP rfl) (by omega) (wr_skip (off' := 13) (len1 p.lCorners) (by omega) (wr_skip (off' := 1) (lenM eV_len p.lNormals rfl) (by omega) rfl))) (fill_step (c' := ((p.aP.flatMap eV : List AV) ++ ((p.aCorners.map eI : List AV) ++ ((p.aNormals.flatMap eV : List AV) ++ ([J p.Skin, J cage, J id, J 0, J 0, J 0, J 0, J 0] : List AV))))) rfl rfl rfl (blelen (len_app (m := 48) (n := 24) (k := 72) (lenM eV_len p.lP rfl) (len_app (m := 4) (n := 20) (k := 24) (len1 p.lCorners) (len_app (m := 12) (n := 8) (k := 20) (lenM eV_len p.lNormals rfl) rfl rfl) rfl) rfl) (by omega)) (wr_skip (off' := 18) (lenM eV_len p.lP rfl) (by omega) (wr_skip (off' := 14) (len1 p.lCorners) (by omega) (wr_skip (off' := 2) (lenM eV_len p.lNormals rfl) (by omega) rfl))) (fill_step (c' := ((p.aP.flatMap eV : List AV) ++ ((p.aCorners.map eI : List AV) ++ ((p.aNormals.flatMap eV : List AV) ++ (([J p.Skin, J cage, J id] : List AV) ++ (((R_rate_Sides p.aP s.Unit).map eI : List AV) ++ ([J 0] : List AV))))))) rfl rfl (show (AV.cells (.agg ((R_rate_Sides p.aP s.Unit).map eI))).length = 4 from (len1 (R_rate_Sides_len p.aP s.Unit))) (blelen (len_app (m := 48) (n := 24) (k := 72) (lenM eV_len p.lP rfl) (len_app (m := 4) (n := 20) (k := 24) (len1 p.lCorners) (len_app (m := 12) (n := 8) (k := 20) (lenM eV_len p.lNormals rfl) rfl rfl) rfl) rfl) (by omega)) (wr_skip (off' := 19) (lenM eV_len p.lP rfl) (by omega) (wr_skip (off' := 15) (len1 p.lCorners) (by omega) (wr_skip (off' := 3) (lenM eV_len p.lNormals rfl) (by omega) (wr_skip (A := ([J p.Skin, J cage, J id] : List AV)) (B := ([J 0, J 0, J 0, J 0, J 0] : List AV)) (n := 3) (off' := 0) rfl (by omega) (wr_pre (len1 (R_rate_Sides_len p.aP s.Unit))))))) (fill_step (c' := ((p.aP.flatMap eV : List AV) ++ ((p.aCorners.map eI : List AV) ++ ((p.aNormals.flatMap eV : List AV) ++ (([J p.Skin, J cage, J id] : List AV) ++ (((R_rate_Sides p.aP s.Unit).map eI : List AV) ++ ([J (maxL (R_rate_Sides p.aP s.Unit))] : List AV))))))) rfl rfl rfl (blelen (len_app (m := 48) (n := 24) (k := 72) (lenM eV_len p.lP rfl) (len_app (m := 4) (n := 20) (k := 24) (len1 p.lCorners) (len_app (m := 12) (n := 8) (k := 20) (lenM eV_len p.lNormals rfl) (len_app (m := 3) (n := 5) (k := 8) rfl (len_app (m := 4) (n := 1) (k := 5) (len1 (R_rate_Sides_len p.aP s.Unit)) rfl rfl) rfl) rfl) rfl) rfl) (by omega)) (wr_skip (off' := 23) (lenM eV_len p.lP rfl) (by omega) (wr_skip (off' := 19) (len1 p.lCorners) (by omega) (wr_skip (off' := 7) (lenM eV_len p.lNormals rfl) (by omega) (wr_skip (off' := 4) (n := 3) rfl (by omega) (wr_skip (off' := 0) (len1 (R_rate_Sides_len p.aP s.Unit)) (by omega) rfl))))) (rfl)))))) ⟨rfl, ψ⟩) ?_))))))
 refine QE.done fun H607 m608 => ?_
 have h609 := m608 _ _ h605
 have m610 := m606.trans m608
 refine C rfl (bx_ (.agg (p.aP.flatMap eV ++ (p.aCorners.map eI ++ (p.aNormals.flatMap eV ++ ([J p.Skin, J cage, J id] ++ ((R_rate_Sides p.aP s.Unit).map eI ++ [J (maxL (R_rate_Sides p.aP s.Unit))])))))) rfl rfl rfl ?_)
 intro i611 H612 n613 h614 k615
 have e616 := ne_new h609 n613
 have z617 := Mono.free m610 n613
 have h618 := keep k615 (ne_new h609 n613) h609
 have m619 := Mono.new m610 n613 k615
 refine A rfl rfl ?_
 refine AWP.seq ?_
 refine fz_ 17 h614 z617 rfl m619 fun H620 m621 k622 => ?_
 have h623 := (k622 _ e616).trans h618
 refine AWP.region rfl ?_
 refine V rfl rfl (C rfl (Bl (cells := [.snil, .snil, .sl ((weaveR (R_rate_Sides p.aP s.Unit)).2.1).length (((weaveR (R_rate_Sides p.aP s.Unit)).2.1).flatMap eI3)]) rfl tz_38 pl_38 rfl rfl (C rfl (al_ rfl tz_38 ?_))))
 intro i624 H625 n626 h627 k628
 have e629 := ne_new h623 n626
 have z630 := Mono.free m621 n626
 have h631 := keep k628 (ne_new h623 n626) h623
 have m632 := Mono.new m621 n626 k628
 refine C rfl (Sw rfl rfl ts_38 h627 rfl rfl rfl ?_)
 intro H633 h634 k635
 have h636 := keep k635 e629 h631
 have m638 := Mono.set m632 z630 k635
 refine AWP.seq ?_
 refine AWP.seq ?_
 have hwl := weave_len (R_rate_Sides_len p.aP s.Unit)
 refine AWP.region rfl ?_
 refine V rfl rfl (C rfl (AOp.len (m := ((weaveR (R_rate_Sides p.aP s.Unit)).1).length) rfl rfl (.inr (.inl ⟨_, rfl⟩)) u_68 (V rfl rfl ?_)))
 refine bk_ ?_
 refine AWP.loop (fun q639 fq Hq => ∃ (i : Int) (w18_0 : AV) (w18_1 : AV), q639 = (((weaveR (R_rate_Sides p.aP s.Unit)).1.length : Int) - i).toNat ∧ fq 68 = J i ∧ fq 4 = .sl texs.length (texs.flatMap eTex) ∧ fq 8 = .fptr [.str s.Name, J s.Mat, J s.Levels, J s.Unit, J s.Tex, J s.Height] 0 ∧ fq 10 = .ptr i17 0 0 ∧ fq 17 = .fptr ((p.aP.flatMap eV) ++ ((p.aCorners.map eI) ++ ((p.aNormals.flatMap eV) ++ (([J p.Skin, J cage, J id] : List AV) ++ (((R_rate_Sides p.aP s.Unit).map eI) ++ ([J (maxL (R_rate_Sides p.aP s.Unit))] : List AV)))))) 0 ∧ fq 18 = .ptr i624 0 0 ∧ fq 66 = .sl ((weaveR (R_rate_Sides p.aP s.Unit)).1).length (((weaveR (R_rate_Sides p.aP s.Unit)).1).flatMap eSpot) ∧ fq 67 = J ((((weaveR (R_rate_Sides p.aP s.Unit)).1).length) : Int) ∧ Own H0 Hq 3 w18_0 (((weaveR (R_rate_Sides p.aP s.Unit)).1.take i.toNat).map (fD p cage id s texs)).length ((((weaveR (R_rate_Sides p.aP s.Unit)).1.take i.toNat).map (fD p cage id s texs)).flatMap eV) ∧ Own H0 Hq 5 w18_1 (((weaveR (R_rate_Sides p.aP s.Unit)).1.take i.toNat).map (kD p cage id s)).length ((((weaveR (R_rate_Sides p.aP s.Unit)).1.take i.toNat).map (kD p cage id s)).flatMap eKey) ∧ NotId w18_0 i17 ∧ NotId w18_0 i624 ∧ NotId w18_1 i17 ∧ NotId w18_1 i624 ∧ Sep w18_0 w18_1 ∧ Hq i17 = some (.row 0 ([.snil, .snil, .snil])) ∧ Hq i624 = some (.row 0 ([w18_0, w18_1, .sl ((weaveR (R_rate_Sides p.aP s.Unit)).2.1).length (((weaveR (R_rate_Sides p.aP s.Unit)).2.1).flatMap eI3)])) ∧ Mono H0 Hq ∧ (0 ≤ i) ∧ (i ≤ ((weaveR (R_rate_Sides p.aP s.Unit)).1.length : Int)) ∧ (∀ j : Int, 0 ≤ j → j < i → (plT s texs (vtxD p cage id s (at_ (weaveR (R_rate_Sides p.aP s.Unit)).1 j))).isSome = true)) (k := (((weaveR (R_rate_Sides p.aP s.Unit)).1.length : Int) - 0).toNat) ?_ ?_
 exact ⟨0, .snil, .snil, rfl, rfl, rfl, rfl, rfl, rfl, rfl, rfl, rfl, Own.nil _ _ _, Own.nil _ _ _, (NotId.nil _), (NotId.nil _), (NotId.nil _), (NotId.nil _), (Sep.nilL _), h636, h634, m638, by omega, by omega, by intro j; omega⟩
 rintro _ f641 H640 ⟨i, w18_0, w18_1, rfl, s642, s643, s644, s645, s646, s647, s648, s649, o650, o651, no652, no653, no654, no655, sp656, h657, h658, m659, hi0, hi1, pre⟩
 refine Sr ?_
 refine B rfl s642 s649 rfl ?_
 refine AWP.seq ?_
 by_cases b660 : i < ((((weaveR (R_rate_Sides p.aP s.Unit)).1).length) : Int)
 refine ct_ rfl (decide_eq_true b660) ?_
 refine AWP.skip ?_
 refine AWP.seq ?_
 refine bk_ ?_
 refine Sr ?_
 refine C rfl (iS_ rfl s648 s642 sl_68 (by omega) (by omega) (L rfl rfl ty_76 (ldM eSpot_len (by omega) (by omega)) (C rfl (al_ rfl tz_76 ?_))))
 intro i661 H662 n663 h664 k665
 have e666 := ne_new h657 n663
 have e667 := ne_new h658 n663
 have z668 := Mono.free m659 n663
 have h669 := keep k665 (ne_new h657 n663) h657
 have h670 := keep k665 (ne_new h658 n663) h658
 have o671 := Own.keep o650 k665 (Own.notnew o650 n663)
 have no672 := Own.notnew o650 n663
 have o673 := Own.keep o651 k665 (Own.notnew o651 n663)
 have no674 := Own.notnew o651 n663
 have m675 := Mono.new m659 n663 k665
 refine C rfl (Sw rfl rfl ts_76 h664 rfl rfl rfl ?_)
 intro H676 h677 k678
 have h679 := keep k678 e666 h669
 have h680 := keep k678 e667 h670
 have o682 := Own.keep o671 k678 no672
 have o683 := Own.keep o673 k678 no674
 have m684 := Mono.set m675 z668 k678
 refine AWP.seq ?_
 refine fz_ 20 h677 z668 rfl m684 fun H685 m686 k687 => ?_
 have h688 := (k687 _ e666).trans h679
 have h689 := (k687 _ e667).trans h680
 have o690 := Own.keep o682 k687 no672
 have o691 := Own.keep o683 k687 no674
 obtain ⟨hr, hm, hx⟩ := weave_mem (R_rate_Sides_len p.aP s.Unit) (at_mem (l := (weaveR (R_rate_Sides p.aP s.Unit)).1) (i := i) (by omega) (by omega))
 refine AWP.region rfl ?_
 refine V rfl s646 (L rfl rfl ty_76 rfl (C rfl (Pc («as» := [.fptr ((p.aP.flatMap eV) ++ ((p.aCorners.map eI) ++ ((p.aNormals.flatMap eV) ++ (([J p.Skin, J cage, J id] : List AV) ++ (((R_rate_Sides p.aP s.Unit).map eI) ++ ([J (maxL (R_rate_Sides p.aP s.Unit))] : List AV)))))) 0, .agg [J ((at_ ((weaveR (R_rate_Sides p.aP s.Unit)).1) i).Kind), J ((at_ ((weaveR (R_rate_Sides p.aP s.Unit)).1) i).A), J ((at_ ((weaveR (R_rate_Sides p.aP s.Unit)).1) i).B)]]) rfl rfl (rfl) tf_27 (c_mesh_vertex p cage id (R_rate_Sides p.aP s.Unit) (R_rate_Sides_len p.aP s.Unit) (maxL (R_rate_Sides p.aP s.Unit)) (at_ ((weaveR (R_rate_Sides p.aP s.Unit)).1) i) (by first | omega | assumption | (constructor <;> omega)) (by first | omega | assumption | (constructor <;> omega)) (by first | omega | assumption | (constructor <;> omega))) ?_)))
 intro H692 m693
 have h694 := m693 _ _ h688
 have h695 := m693 _ _ h689
 have o696 := Own.mono o690 m693
 have o697 := Own.mono o691 m693
 have m698 := m686.trans m693
 refine C rfl (al_ rfl tz_78 ?_)
 intro i699 H700 n701 h702 k703
 have e704 := ne_new h694 n701
 have e705 := ne_new h695 n701
 have z706 := Mono.free m698 n701
 have h707 := keep k703 (ne_new h694 n701) h694
 have h708 := keep k703 (ne_new h695 n701) h695
 have o709 := Own.keep o696 k703 (Own.notnew o696 n701)
 have no710 := Own.notnew o696 n701
 have o711 := Own.keep o697 k703 (Own.notnew o697 n701)
 have no712 := Own.notnew o697 n701
 have m713 := Mono.new m698 n701 k703
 refine C rfl (Sw rfl rfl ts_78 h702 rfl rfl rfl ?_)
 intro H714 h715 k716
 have h717 := keep k716 e704 h707
 have h718 := keep k716 e705 h708
 have o720 := Own.keep o709 k716 no710
 have o721 := Own.keep o711 k716 no712
 have m722 := Mono.set m713 z706 k716
 refine AWP.seq ?_
 refine Sr ?_
 refine F rfl s644 fl_30_4 (L rfl rfl ty_3 rfl (B rfl rfl rfl rfl (V rfl rfl ?_)))
 by_cases b723 : s.Tex ≥ 0
 refine Y rfl rfl rfl (decide_eq_true b723) (Ff rfl s644 fl_30_5 (Y rfl rfl rfl (decide_eq_true b723) (Lf _ rfl rfl ty_3 rfl (Y rfl rfl rfl (decide_eq_true b723) (Bi _ rfl rfl rfl rfl (C rfl (Pt _ rfl rfl (decide_eq_true b723) rfl ?_)))))))
 refine AOps.nil ?_
 change AWP _ _ _ _ _ _
 by_cases b724 : s.Height > 0
 refine ct_ rfl (decide_eq_true b724) ?_
 refine AWP.seq ?_
 have htr := htx _ (at_mem (i := s.Tex) (l := texs) (by omega) (by omega))
 refine AWP.region_quiet mixed (by kernel_rfl) 13 [] rfl (by kernel_rfl) (Mono H714) (Mono.refl _) ?_
 refine QV rfl s643 (QF rfl s644 fl_30_4 (QL rfl rfl ty_3 rfl (Q rfl (fun _ _ φ ψ => iS_ rfl (φ 84 rfl) (φ 86 rfl) sl_31 (by omega) (by omega) ⟨rfl, ψ⟩) (QL rfl rfl ty_65 (ldM eTex_len (by omega) (by omega)) (Q rfl (fun _ _ φ ψ => Fa rfl (φ 21 rfl) fl_78_0 ⟨rfl, ψ⟩ (hid := ⟨_, (ψ _ _ h715)⟩)) (Q rfl (fun _ _ φ ψ => Ld _ rfl (φ 89 rfl) ty_23 (ψ _ _ h715) rfl ⟨rfl, ψ⟩) (Q rfl (fun _ _ φ ψ => Pc («as» := [.agg [.str ((at_ texs s.Tex).Name), J ((at_ texs s.Tex).W), J ((at_ texs s.Tex).H), .sl ((at_ texs s.Tex).Rows).length (((at_ texs s.Tex).Rows).map eI)], .agg [J ((Ymesh_Dice_3 p cage id s i).X), J ((Ymesh_Dice_3 p cage id s i).Y), J ((Ymesh_Dice_3 p cage id s i).Z)]]) rfl rfl (lapp (lcons (φ 88 rfl) (lcons (φ 90 rfl) rfl)) rfl) tf_28 (c_relief_Texel (at_ texs s.Tex) (Ymesh_Dice_3 p cage id s i) (by first | omega | assumption)) fun H2 m2 => ⟨rfl, ψ.trans m2⟩) (QV rfl rfl (Q rfl (fun _ _ φ ψ => Ex _ rfl (φ 83 rfl) rfl ⟨rfl, ψ⟩) (Q rfl (fun _ _ φ ψ => Ex _ rfl (φ 83 rfl) rfl ⟨rfl, ψ⟩) (Q rfl (fun _ _ φ ψ => As _ rfl (φ 92 rfl) ⟨rfl, ψ⟩) (Q rfl (fun _ _ φ ψ => As _ rfl (φ 93 rfl) ⟨rfl, ψ⟩) ?_))))))))))))
 refine QE.done fun H725 m726 => ?_
 have h727 := m726 _ _ h717
 have h728 := m726 _ _ h718
 have h729 := m726 _ _ h715
 have o730 := Own.mono o720 m726
 have o731 := Own.mono o721 m726
 have m732 := m722.trans m726
 refine AWP.seq ?_
 refine Sr ?_
 refine V rfl rfl (C rfl (AOp.not rfl rfl ?_))
 refine AOps.nil ?_
 change AWP _ _ _ _ _ _
 rcases Bool.eq_false_or_eq_true ((R_relief_Texel (at_ texs s.Tex) (Ymesh_Dice_3 p cage id s i)).2) with b733 | b733
 refine cf_ rfl (nb b733) ?_
 refine AWP.skip ?_
 refine AWP.region rfl ?_
 refine C rfl (Fa rfl rfl fl_78_0 ?_ (hid := ⟨_, h729⟩))
 refine C rfl (Ld _ rfl rfl ty_23 h729 rfl ?_)
 refine C rfl (Fa rfl rfl fl_78_1 ?_ (hid := ⟨_, h729⟩))
 refine C rfl (Ld _ rfl rfl ty_23 h729 rfl (V rfl rfl (F rfl s644 fl_30_5 (L rfl rfl ty_3 rfl (C rfl (Pc («as» := [.agg [J ((Ymesh_Dice_3 p cage id s i).X), J ((Ymesh_Dice_3 p cage id s i).Y), J ((Ymesh_Dice_3 p cage id s i).Z)], .agg [J (((Ymesh_Dice_0 p cage id s i).up).X), J (((Ymesh_Dice_0 p cage id s i).up).Y), J (((Ymesh_Dice_0 p cage id s i).up).Z)], J ((R_relief_Texel (at_ texs s.Tex) (Ymesh_Dice_3 p cage id s i)).1), J s.Height]) rfl rfl (rfl) tf_29 (c_relief_Lift (Ymesh_Dice_3 p cage id s i) ((Ymesh_Dice_0 p cage id s i).up) ((R_relief_Texel (at_ texs s.Tex) (Ymesh_Dice_3 p cage id s i)).1) s.Height) ?_))))))
 intro H734 m735
 have h736 := m735 _ _ h727
 have h737 := m735 _ _ h728
 have h738 := m735 _ _ h729
 have o739 := Own.mono o730 m735
 have o740 := Own.mono o731 m735
 have m741 := m732.trans m735
 refine V rfl rfl (E rfl rfl rfl (E rfl rfl rfl ?_))
 refine C rfl (Fa rfl rfl fl_78_0 ?_ (hid := ⟨_, h738⟩))
 refine C rfl (So (cells' := [J ((Ymesh_Dice_1 p cage id s texs i).X), J ((Ymesh_Dice_1 p cage id s texs i).Y), J ((Ymesh_Dice_1 p cage id s texs i).Z), J (((Ymesh_Dice_0 p cage id s i).up).X), J (((Ymesh_Dice_0 p cage id s i).up).Y), J (((Ymesh_Dice_0 p cage id s i).up).Z), J ((Ymesh_Dice_2 p cage id s i).Kind), J ((Ymesh_Dice_2 p cage id s i).Of), J ((Ymesh_Dice_2 p cage id s i).A), J ((Ymesh_Dice_2 p cage id s i).B), J ((Ymesh_Dice_2 p cage id s i).N)]) (.agg [J ((Ymesh_Dice_1 p cage id s texs i).X), J ((Ymesh_Dice_1 p cage id s texs i).Y), J ((Ymesh_Dice_1 p cage id s texs i).Z)]) rfl rfl ts_23 h738 rfl rfl rfl rfl ?_)
 intro H742 h743 k744
 have h745 := keep k744 e704 h736
 have h746 := keep k744 e705 h737
 have o748 := Own.keep o739 k744 no710
 have o749 := Own.keep o740 k744 no712
 have m750 := Mono.set m741 z706 k744
 refine AWP.seq ?_
 have hpl : plT s texs (vtxD p cage id s (at_ (weaveR (R_rate_Sides p.aP s.Unit)).1 i)) = some (Ymesh_Dice_1 p cage id s texs i) := by unfold plT vtxD; rw [if_pos ⟨by omega, by omega⟩, if_pos b733] <;> rfl
 have hq1 : (((weaveR (R_rate_Sides p.aP s.Unit)).1.take i.toNat).map (fD p cage id s texs)).length ≤ 400 := by simp only [List.length_map, List.length_take]; omega
 have hq2 : (((weaveR (R_rate_Sides p.aP s.Unit)).1.take i.toNat).map (kD p cage id s)).length ≤ 400 := by simp only [List.length_map, List.length_take]; omega
 refine AWP.region rfl ?_
 refine C rfl (Fa rfl s647 fl_38_0 ?_ (hid := ⟨_, h746⟩))
 refine C rfl (Ld _ rfl rfl ty_34 h746 rfl ?_)
 refine C rfl (Fa rfl rfl fl_78_0 ?_ (hid := ⟨_, h743⟩))
 refine C rfl (Ld _ rfl rfl ty_23 h743 rfl (C rfl (AOp.buildSlice (cells := [J ((Ymesh_Dice_1 p cage id s texs i).X), J ((Ymesh_Dice_1 p cage id s texs i).Y), J ((Ymesh_Dice_1 p cage id s texs i).Z)]) rfl u_34 ts_23 tz_23 rfl rfl rfl ?_)))
 intro i751 H752 n753 h754 k755
 have h760 := keep k755 (ne_new h745 n753) h745
 have h761 := keep k755 (ne_new h746 n753) h746
 have h762 := keep k755 (ne_new h743 n753) h743
 have o763 := Own.keep o748 k755 (Own.notnew o748 n753)
 have o765 := Own.keep o749 k755 (Own.notnew o749 n753)
 have m767 := Mono.new m750 n753 k755
 refine C rfl (AOp.append_own (es := 3) (m := 1) (len := ((((weaveR (R_rate_Sides p.aP s.Unit)).1.take i.toNat).map (fD p cage id s texs)).length)) (old := (((weaveR (R_rate_Sides p.aP s.Unit)).1.take i.toNat).map (fD p cage id s texs)).flatMap eV) (cells := [J ((Ymesh_Dice_1 p cage id s texs i).X), J ((Ymesh_Dice_1 p cage id s texs i).Y), J ((Ymesh_Dice_1 p cage id s texs i).Z)]) rfl u_34 ts_23 tzn_23 tb_23 (by decide) ni_34 rfl o763 m767 rfl (.slm h754 rfl) (one_of rfl) (by decide) (by first | omega | (simp; omega)) ?_)
 intro v768 H769 o770 m771 k772 j773
 have o774 := Own.snocM (xs := ((((weaveR (R_rate_Sides p.aP s.Unit)).1.take i.toNat).map (fD p cage id s texs)) : List VT)) (y := (Ymesh_Dice_1 p cage id s texs i)) (e := eV) (by simp) o770
 have h775 := (k772 _ no652 (by rw [h760]; simp)).trans h760
 have no776 := j773 _ no652 (by rw [h760]; simp)
 have h777 := (k772 _ no653 (by rw [h761]; simp)).trans h761
 have no778 := j773 _ no653 (by rw [h761]; simp)
 have h779 := (k772 _ no710 (by rw [h762]; simp)).trans h762
 have no780 := j773 _ no710 (by rw [h762]; simp)
 have sp782 := Own.sep o765 (Sep.symm sp656) j773
 have o781 := Own.stay o765 (Sep.symm sp656) k772
 refine C rfl (Fa rfl s647 fl_38_0 ?_ (hid := ⟨_, h777⟩))
 refine C rfl (AOp.storeO (cells' := [v768, w18_1, .sl ((weaveR (R_rate_Sides p.aP s.Unit)).2.1).length (((weaveR (R_rate_Sides p.aP s.Unit)).2.1).flatMap eI3)]) rfl rfl o774 ts_34 h777 rfl rfl ?_)
 intro H783 h784 k785
 have h786 := keep k785 e629 h775
 have h788 := keep k785 (Ne.symm e705) h779
 have o789 := Own.keep o781 k785 no655
 have o790 := Own.keep o774 k785 no778
 have m791 := Mono.set m771 z630 k785
 refine AWP.region rfl ?_
 refine C rfl (Fa rfl s647 fl_38_1 ?_ (hid := ⟨_, h784⟩))
 refine C rfl (Ld _ rfl rfl ty_35 h784 rfl ?_)
 refine C rfl (Fa rfl rfl fl_78_2 ?_ (hid := ⟨_, h788⟩))
 refine C rfl (Ld _ rfl rfl ty_58 h788 rfl (C rfl (AOp.buildSlice (cells := [J ((Ymesh_Dice_2 p cage id s i).Kind), J ((Ymesh_Dice_2 p cage id s i).Of), J ((Ymesh_Dice_2 p cage id s i).A), J ((Ymesh_Dice_2 p cage id s i).B), J ((Ymesh_Dice_2 p cage id s i).N)]) rfl u_35 ts_58 tz_58 rfl rfl rfl ?_)))
 intro i792 H793 n794 h795 k796
 have h801 := keep k796 (ne_new h786 n794) h786
 have h802 := keep k796 (ne_new h788 n794) h788
 have h803 := keep k796 (ne_new h784 n794) h784
 have o804 := Own.keep o789 k796 (Own.notnew o789 n794)
 have o806 := Own.keep o790 k796 (Own.notnew o790 n794)
 have m808 := Mono.new m791 n794 k796
 refine C rfl (AOp.append_own (es := 5) (m := 1) (len := ((((weaveR (R_rate_Sides p.aP s.Unit)).1.take i.toNat).map (kD p cage id s)).length)) (old := (((weaveR (R_rate_Sides p.aP s.Unit)).1.take i.toNat).map (kD p cage id s)).flatMap eKey) (cells := [J ((Ymesh_Dice_2 p cage id s i).Kind), J ((Ymesh_Dice_2 p cage id s i).Of), J ((Ymesh_Dice_2 p cage id s i).A), J ((Ymesh_Dice_2 p cage id s i).B), J ((Ymesh_Dice_2 p cage id s i).N)]) rfl u_35 ts_58 tzn_58 tb_58 (by decide) ni_35 rfl o804 m808 rfl (.slm h795 rfl) (one_of rfl) (by decide) (by first | omega | (simp; omega)) ?_)
 intro v809 H810 o811 m812 k813 j814
 have o815 := Own.snocM (xs := ((((weaveR (R_rate_Sides p.aP s.Unit)).1.take i.toNat).map (kD p cage id s)) : List KeyT)) (y := (Ymesh_Dice_2 p cage id s i)) (e := eKey) (by simp) o811
 have h816 := (k813 _ no654 (by rw [h801]; simp)).trans h801
 have no817 := j814 _ no654 (by rw [h801]; simp)
 have no819 := j814 _ no712 (by rw [h802]; simp)
 have h820 := (k813 _ no655 (by rw [h803]; simp)).trans h803
 have no821 := j814 _ no655 (by rw [h803]; simp)
 have sp823 := Own.sep o806 (Sep.symm sp782) j814
 have o822 := Own.stay o806 (Sep.symm sp782) k813
 refine C rfl (Fa rfl s647 fl_38_1 ?_ (hid := ⟨_, h820⟩))
 refine C rfl (AOp.storeO (cells' := [v768, v809, .sl ((weaveR (R_rate_Sides p.aP s.Unit)).2.1).length (((weaveR (R_rate_Sides p.aP s.Unit)).2.1).flatMap eI3)]) rfl rfl o815 ts_35 h820 rfl rfl ?_)
 intro H824 h825 k826
 have h827 := keep k826 e629 h816
 have o830 := Own.keep o822 k826 no778
 have o831 := Own.keep o815 k826 no821
 have m832 := Mono.set m812 z630 k826
 refine AWP.region rfl ?_
 refine B rfl s642 rfl (iadd (by omega)) (V rfl rfl ?_)
 refine AOps.nil ?_
 exact ⟨_, by omega, i + 1, v768, v809, rfl, rfl, s643, s644, s645, s646, s647, s648, s649, (have hx : (((((weaveR (R_rate_Sides p.aP s.Unit)).1.take i.toNat).map (fD p cage id s texs)) ++ [(Ymesh_Dice_1 p cage id s texs i)]) : List VT) = ((weaveR (R_rate_Sides p.aP s.Unit)).1.take (i + 1).toNat).map (fD p cage id s texs) := (by exact map_step hi0 (by omega) (fD_of hpl)); Own.re o830 (congrArg List.length hx) (congrArg (fun l : List VT => l.flatMap eV) hx)), (have hx : (((((weaveR (R_rate_Sides p.aP s.Unit)).1.take i.toNat).map (kD p cage id s)) ++ [(Ymesh_Dice_2 p cage id s i)]) : List KeyT) = ((weaveR (R_rate_Sides p.aP s.Unit)).1.take (i + 1).toNat).map (kD p cage id s) := (by exact map_step hi0 (by omega) rfl); Own.re o831 (congrArg List.length hx) (congrArg (fun l : List KeyT => l.flatMap eKey) hx)), no776, no778, no817, no821, sp823, h827, h825, m832, by omega, by omega, by exact fa_step pre (by rw [hpl]; rfl)⟩
 refine ct_ rfl (nb b733) ?_
 refine Sr ?_
 refine C rfl (Bl (cells := [.snil, .snil, .snil]) rfl tz_38 pl_38 rfl rfl (C rfl (Sw s645 rfl ts_38 h727 rfl rfl rfl ?_)))
 intro H833 h834 k835
 have o839 := Own.keep o730 k835 no652
 have o840 := Own.keep o731 k835 no654
 have m841 := Mono.set m732 z24 k835
 refine A rfl rfl ?_
 refine rt_ ?_
 refine Fin.frzCell 0 (Own.nil H0 H833 1) h834 z24 rfl (NotId.nil _) m841 fun H842 h843 m844 k845 => ?_
 have o848 := Own.stay2 o839 (Sep.nilR _) no652 k845
 have o849 := Own.stay2 o840 (Sep.nilR _) no654 k845
 have h850 : H842 i17 = some (.row 0 ([.sl 0 ([]), .snil, .snil])) := h843
 refine Fin.frzCell 1 (Own.nil H0 H842 1) h850 z24 rfl (NotId.nil _) m844 fun H851 h852 m853 k854 => ?_
 have o857 := Own.stay2 o848 (Sep.nilR _) no652 k854
 have o858 := Own.stay2 o849 (Sep.nilR _) no654 k854
 have h859 : H851 i17 = some (.row 0 ([.sl 0 ([]), .sl 0 ([]), .snil])) := h852
 refine Fin.frzCell 2 (Own.nil H0 H851 1) h859 z24 rfl (NotId.nil _) m853 fun H860 h861 m862 k863 => ?_
 have o866 := Own.stay2 o857 (Sep.nilR _) no652 k863
 have o867 := Own.stay2 o858 (Sep.nilR _) no654 k863
 have h868 : H860 i17 = some (.row 0 ([.sl 0 ([]), .sl 0 ([]), .sl 0 ([])])) := h861
 refine Rr (Res.list rfl rfl (.cell (v := .agg [.sl 0 ([]), .sl 0 ([]), .sl 0 ([])]) s645 ty_38 h868 rfl (.tmp rfl (.nil)))) ?_ m862
 exact congrArg AV.tup (lc (congrArg AV.agg (lc (congrArg (fun l : List VT => AV.sl l.length (l.flatMap eV)) (show ([] : List VT) = (((diceR p cage id s texs).1).Verts) from by first | (exfalso; omega) | rw [dice_bad h0 hi0 (by omega) (show plT s texs (vtxD p cage id s (at_ (weaveR (R_rate_Sides p.aP s.Unit)).1 i)) = none by unfold plT vtxD; rw [if_pos ⟨by omega, by omega⟩, if_neg (ff b733)])])) (lc (congrArg (fun l : List KeyT => AV.sl l.length (l.flatMap eKey)) (show ([] : List KeyT) = (((diceR p cage id s texs).1).Keys) from by first | (exfalso; omega) | rw [dice_bad h0 hi0 (by omega) (show plT s texs (vtxD p cage id s (at_ (weaveR (R_rate_Sides p.aP s.Unit)).1 i)) = none by unfold plT vtxD; rw [if_pos ⟨by omega, by omega⟩, if_neg (ff b733)])])) (lc (congrArg (fun l : List I3T => AV.sl l.length (l.flatMap eI3)) (show ([] : List I3T) = (((diceR p cage id s texs).1).Tris) from by first | (exfalso; omega) | rw [dice_bad h0 hi0 (by omega) (show plT s texs (vtxD p cage id s (at_ (weaveR (R_rate_Sides p.aP s.Unit)).1 i)) = none by unfold plT vtxD; rw [if_pos ⟨by omega, by omega⟩, if_neg (ff b733)])])) rfl)))) (lc (congrArg (AV.int .i64) (show (11 : Int) = (diceR p cage id s texs).2 from by first | (exfalso; omega) | rw [dice_bad h0 hi0 (by omega) (show plT s texs (vtxD p cage id s (at_ (weaveR (R_rate_Sides p.aP s.Unit)).1 i)) = none by unfold plT vtxD; rw [if_pos ⟨by omega, by omega⟩, if_neg (ff b733)])])) rfl))
 refine cf_ rfl (decide_eq_false b724) ?_
 refine AWP.skip ?_
 refine AWP.seq ?_
 have hpl : plT s texs (vtxD p cage id s (at_ (weaveR (R_rate_Sides p.aP s.Unit)).1 i)) = some (Ymesh_Dice_3 p cage id s i) := by unfold plT vtxD; rw [if_neg (by omega)] <;> rfl
 have hq1 : (((weaveR (R_rate_Sides p.aP s.Unit)).1.take i.toNat).map (fD p cage id s texs)).length ≤ 400 := by simp only [List.length_map, List.length_take]; omega
 have hq2 : (((weaveR (R_rate_Sides p.aP s.Unit)).1.take i.toNat).map (kD p cage id s)).length ≤ 400 := by simp only [List.length_map, List.length_take]; omega
 refine AWP.region rfl ?_
 refine C rfl (Fa rfl s647 fl_38_0 ?_ (hid := ⟨_, h718⟩))
 refine C rfl (Ld _ rfl rfl ty_34 h718 rfl ?_)
 refine C rfl (Fa rfl rfl fl_78_0 ?_ (hid := ⟨_, h715⟩))
 refine C rfl (Ld _ rfl rfl ty_23 h715 rfl (C rfl (AOp.buildSlice (cells := [J ((Ymesh_Dice_3 p cage id s i).X), J ((Ymesh_Dice_3 p cage id s i).Y), J ((Ymesh_Dice_3 p cage id s i).Z)]) rfl u_34 ts_23 tz_23 rfl rfl rfl ?_)))
 intro i869 H870 n871 h872 k873
 have h878 := keep k873 (ne_new h717 n871) h717
 have h879 := keep k873 (ne_new h718 n871) h718
 have h880 := keep k873 (ne_new h715 n871) h715
 have o881 := Own.keep o720 k873 (Own.notnew o720 n871)
 have o883 := Own.keep o721 k873 (Own.notnew o721 n871)
 have m885 := Mono.new m722 n871 k873
 refine C rfl (AOp.append_own (es := 3) (m := 1) (len := ((((weaveR (R_rate_Sides p.aP s.Unit)).1.take i.toNat).map (fD p cage id s texs)).length)) (old := (((weaveR (R_rate_Sides p.aP s.Unit)).1.take i.toNat).map (fD p cage id s texs)).flatMap eV) (cells := [J ((Ymesh_Dice_3 p cage id s i).X), J ((Ymesh_Dice_3 p cage id s i).Y), J ((Ymesh_Dice_3 p cage id s i).Z)]) rfl u_34 ts_23 tzn_23 tb_23 (by decide) ni_34 rfl o881 m885 rfl (.slm h872 rfl) (one_of rfl) (by decide) (by first | omega | (simp; omega)) ?_)
 intro v886 H887 o888 m889 k890 j891
 have o892 := Own.snocM (xs := ((((weaveR (R_rate_Sides p.aP s.Unit)).1.take i.toNat).map (fD p cage id s texs)) : List VT)) (y := (Ymesh_Dice_3 p cage id s i)) (e := eV) (by simp) o888
 have h893 := (k890 _ no652 (by rw [h878]; simp)).trans h878
 have no894 := j891 _ no652 (by rw [h878]; simp)
 have h895 := (k890 _ no653 (by rw [h879]; simp)).trans h879
 have no896 := j891 _ no653 (by rw [h879]; simp)
 have h897 := (k890 _ no710 (by rw [h880]; simp)).trans h880
 have no898 := j891 _ no710 (by rw [h880]; simp)
 have sp900 := Own.sep o883 (Sep.symm sp656) j891
 have o899 := Own.stay o883 (Sep.symm sp656) k890
 refine C rfl (Fa rfl s647 fl_38_0 ?_ (hid := ⟨_, h895⟩))
 refine C rfl (AOp.storeO (cells' := [v886, w18_1, .sl ((weaveR (R_rate_Sides p.aP s.Unit)).2.1).length (((weaveR (R_rate_Sides p.aP s.Unit)).2.1).flatMap eI3)]) rfl rfl o892 ts_34 h895 rfl rfl ?_)
 intro H901 h902 k903
 have h904 := keep k903 e629 h893
 have h906 := keep k903 (Ne.symm e705) h897
 have o907 := Own.keep o899 k903 no655
 have o908 := Own.keep o892 k903 no896
 have m909 := Mono.set m889 z630 k903
 refine AWP.region rfl ?_
 refine C rfl (Fa rfl s647 fl_38_1 ?_ (hid := ⟨_, h902⟩))
 refine C rfl (Ld _ rfl rfl ty_35 h902 rfl ?_)
 refine C rfl (Fa rfl rfl fl_78_2 ?_ (hid := ⟨_, h906⟩))
 refine C rfl (Ld _ rfl rfl ty_58 h906 rfl (C rfl (AOp.buildSlice (cells := [J ((Ymesh_Dice_2 p cage id s i).Kind), J ((Ymesh_Dice_2 p cage id s i).Of), J ((Ymesh_Dice_2 p cage id s i).A), J ((Ymesh_Dice_2 p cage id s i).B), J ((Ymesh_Dice_2 p cage id s i).N)]) rfl u_35 ts_58 tz_58 rfl rfl rfl ?_)))
 intro i910 H911 n912 h913 k914
 have h919 := keep k914 (ne_new h904 n912) h904
 have h920 := keep k914 (ne_new h906 n912) h906
 have h921 := keep k914 (ne_new h902 n912) h902
 have o922 := Own.keep o907 k914 (Own.notnew o907 n912)
 have o924 := Own.keep o908 k914 (Own.notnew o908 n912)
 have m926 := Mono.new m909 n912 k914
 refine C rfl (AOp.append_own (es := 5) (m := 1) (len := ((((weaveR (R_rate_Sides p.aP s.Unit)).1.take i.toNat).map (kD p cage id s)).length)) (old := (((weaveR (R_rate_Sides p.aP s.Unit)).1.take i.toNat).map (kD p cage id s)).flatMap eKey) (cells := [J ((Ymesh_Dice_2 p cage id s i).Kind), J ((Ymesh_Dice_2 p cage id s i).Of), J ((Ymesh_Dice_2 p cage id s i).A), J ((Ymesh_Dice_2 p cage id s i).B), J ((Ymesh_Dice_2 p cage id s i).N)]) rfl u_35 ts_58 tzn_58 tb_58 (by decide) ni_35 rfl o922 m926 rfl (.slm h913 rfl) (one_of rfl) (by decide) (by first | omega | (simp; omega)) ?_)
 intro v927 H928 o929 m930 k931 j932
 have o933 := Own.snocM (xs := ((((weaveR (R_rate_Sides p.aP s.Unit)).1.take i.toNat).map (kD p cage id s)) : List KeyT)) (y := (Ymesh_Dice_2 p cage id s i)) (e := eKey) (by simp) o929
 have h934 := (k931 _ no654 (by rw [h919]; simp)).trans h919
 have no935 := j932 _ no654 (by rw [h919]; simp)
 have no937 := j932 _ no712 (by rw [h920]; simp)
 have h938 := (k931 _ no655 (by rw [h921]; simp)).trans h921
 have no939 := j932 _ no655 (by rw [h921]; simp)
 have sp941 := Own.sep o924 (Sep.symm sp900) j932
 have o940 := Own.stay o924 (Sep.symm sp900) k931
 refine C rfl (Fa rfl s647 fl_38_1 ?_ (hid := ⟨_, h938⟩))
 refine C rfl (AOp.storeO (cells' := [v886, v927, .sl ((weaveR (R_rate_Sides p.aP s.Unit)).2.1).length (((weaveR (R_rate_Sides p.aP s.Unit)).2.1).flatMap eI3)]) rfl rfl o933 ts_35 h938 rfl rfl ?_)
 intro H942 h943 k944
 have h945 := keep k944 e629 h934
 have o948 := Own.keep o940 k944 no896
 have o949 := Own.keep o933 k944 no939
 have m950 := Mono.set m930 z630 k944
 refine AWP.region rfl ?_
 refine B rfl s642 rfl (iadd (by omega)) (V rfl rfl ?_)
 refine AOps.nil ?_
 exact ⟨_, by omega, i + 1, v886, v927, rfl, rfl, s643, s644, s645, s646, s647, s648, s649, (have hx : (((((weaveR (R_rate_Sides p.aP s.Unit)).1.take i.toNat).map (fD p cage id s texs)) ++ [(Ymesh_Dice_3 p cage id s i)]) : List VT) = ((weaveR (R_rate_Sides p.aP s.Unit)).1.take (i + 1).toNat).map (fD p cage id s texs) := (by exact map_step hi0 (by omega) (fD_of hpl)); Own.re o948 (congrArg List.length hx) (congrArg (fun l : List VT => l.flatMap eV) hx)), (have hx : (((((weaveR (R_rate_Sides p.aP s.Unit)).1.take i.toNat).map (kD p cage id s)) ++ [(Ymesh_Dice_2 p cage id s i)]) : List KeyT) = ((weaveR (R_rate_Sides p.aP s.Unit)).1.take (i + 1).toNat).map (kD p cage id s) := (by exact map_step hi0 (by omega) rfl); Own.re o949 (congrArg List.length hx) (congrArg (fun l : List KeyT => l.flatMap eKey) hx)), no894, no896, no935, no939, sp941, h945, h943, m950, by omega, by omega, by exact fa_step pre (by rw [hpl]; rfl)⟩
 refine N rfl rfl (decide_eq_false b723) (N rfl rfl (decide_eq_false b723) (N rfl rfl (decide_eq_false b723) (C rfl (Pf _ rfl rfl (decide_eq_false b723) rfl ?_))))
 refine cf_ rfl rfl ?_
 refine AWP.skip ?_
 refine AWP.seq ?_
 have hpl : plT s texs (vtxD p cage id s (at_ (weaveR (R_rate_Sides p.aP s.Unit)).1 i)) = some (Ymesh_Dice_3 p cage id s i) := by unfold plT vtxD; rw [if_neg (by omega)] <;> rfl
 have hq1 : (((weaveR (R_rate_Sides p.aP s.Unit)).1.take i.toNat).map (fD p cage id s texs)).length ≤ 400 := by simp only [List.length_map, List.length_take]; omega
 have hq2 : (((weaveR (R_rate_Sides p.aP s.Unit)).1.take i.toNat).map (kD p cage id s)).length ≤ 400 := by simp only [List.length_map, List.length_take]; omega
 refine AWP.region rfl ?_
 refine C rfl (Fa rfl s647 fl_38_0 ?_ (hid := ⟨_, h718⟩))
 refine C rfl (Ld _ rfl rfl ty_34 h718 rfl ?_)
 refine C rfl (Fa rfl rfl fl_78_0 ?_ (hid := ⟨_, h715⟩))
 refine C rfl (Ld _ rfl rfl ty_23 h715 rfl (C rfl (AOp.buildSlice (cells := [J ((Ymesh_Dice_3 p cage id s i).X), J ((Ymesh_Dice_3 p cage id s i).Y), J ((Ymesh_Dice_3 p cage id s i).Z)]) rfl u_34 ts_23 tz_23 rfl rfl rfl ?_)))
 intro i951 H952 n953 h954 k955
 have h960 := keep k955 (ne_new h717 n953) h717
 have h961 := keep k955 (ne_new h718 n953) h718
 have h962 := keep k955 (ne_new h715 n953) h715
 have o963 := Own.keep o720 k955 (Own.notnew o720 n953)
 have o965 := Own.keep o721 k955 (Own.notnew o721 n953)
 have m967 := Mono.new m722 n953 k955
 refine C rfl (AOp.append_own (es := 3) (m := 1) (len := ((((weaveR (R_rate_Sides p.aP s.Unit)).1.take i.toNat).map (fD p cage id s texs)).length)) (old := (((weaveR (R_rate_Sides p.aP s.Unit)).1.take i.toNat).map (fD p cage id s texs)).flatMap eV) (cells := [J ((Ymesh_Dice_3 p cage id s i).X), J ((Ymesh_Dice_3 p cage id s i).Y), J ((Ymesh_Dice_3 p cage id s i).Z)]) rfl u_34 ts_23 tzn_23 tb_23 (by decide) ni_34 rfl o963 m967 rfl (.slm h954 rfl) (one_of rfl) (by decide) (by first | omega | (simp; omega)) ?_)
 intro v968 H969 o970 m971 k972 j973
 have o974 := Own.snocM (xs := ((((weaveR (R_rate_Sides p.aP s.Unit)).1.take i.toNat).map (fD p cage id s texs)) : List VT)) (y := (Ymesh_Dice_3 p cage id s i)) (e := eV) (by simp) o970
 have h975 := (k972 _ no652 (by rw [h960]; simp)).trans h960
 have no976 := j973 _ no652 (by rw [h960]; simp)
 have h977 := (k972 _ no653 (by rw [h961]; simp)).trans h961
 have no978 := j973 _ no653 (by rw [h961]; simp)
 have h979 := (k972 _ no710 (by rw [h962]; simp)).trans h962
 have no980 := j973 _ no710 (by rw [h962]; simp)
 have sp982 := Own.sep o965 (Sep.symm sp656) j973
 have o981 := Own.stay o965 (Sep.symm sp656) k972
 refine C rfl (Fa rfl s647 fl_38_0 ?_ (hid := ⟨_, h977⟩))
 refine C rfl (AOp.storeO (cells' := [v968, w18_1, .sl ((weaveR (R_rate_Sides p.aP s.Unit)).2.1).length (((weaveR (R_rate_Sides p.aP s.Unit)).2.1).flatMap eI3)]) rfl rfl o974 ts_34 h977 rfl rfl ?_)
 intro H983 h984 k985
 have h986 := keep k985 e629 h975
 have h988 := keep k985 (Ne.symm e705) h979
 have o989 := Own.keep o981 k985 no655
 have o990 := Own.keep o974 k985 no978
 have m991 := Mono.set m971 z630 k985
 refine AWP.region rfl ?_
 refine C rfl (Fa rfl s647 fl_38_1 ?_ (hid := ⟨_, h984⟩))
 refine C rfl (Ld _ rfl rfl ty_35 h984 rfl ?_)
 refine C rfl (Fa rfl rfl fl_78_2 ?_ (hid := ⟨_, h988⟩))
 refine C rfl (Ld _ rfl rfl ty_58 h988 rfl (C rfl (AOp.buildSlice (cells := [J ((Ymesh_Dice_2 p cage id s i).Kind), J ((Ymesh_Dice_2 p cage id s i).Of), J ((Ymesh_Dice_2 p cage id s i).A), J ((Ymesh_Dice_2 p cage id s i).B), J ((Ymesh_Dice_2 p cage id s i).N)]) rfl u_35 ts_58 tz_58 rfl rfl rfl ?_)))
 intro i992 H993 n994 h995 k996
 have h1001 := keep k996 (ne_new h986 n994) h986
 have h1002 := keep k996 (ne_new h988 n994) h988
 have h1003 := keep k996 (ne_new h984 n994) h984
 have o1004 := Own.keep o989 k996 (Own.notnew o989 n994)
 have o1006 := Own.keep o990 k996 (Own.notnew o990 n994)
 have m1008 := Mono.new m991 n994 k996
 refine C rfl (AOp.append_own (es := 5) (m := 1) (len := ((((weaveR (R_rate_Sides p.aP s.Unit)).1.take i.toNat).map (kD p cage id s)).length)) (old := (((weaveR (R_rate_Sides p.aP s.Unit)).1.take i.toNat).map (kD p cage id s)).flatMap eKey) (cells := [J ((Ymesh_Dice_2 p cage id s i).Kind), J ((Ymesh_Dice_2 p cage id s i).Of), J ((Ymesh_Dice_2 p cage id s i).A), J ((Ymesh_Dice_2 p cage id s i).B), J ((Ymesh_Dice_2 p cage id s i).N)]) rfl u_35 ts_58 tzn_58 tb_58 (by decide) ni_35 rfl o1004 m1008 rfl (.slm h995 rfl) (one_of rfl) (by decide) (by first | omega | (simp; omega)) ?_)
 intro v1009 H1010 o1011 m1012 k1013 j1014
 have o1015 := Own.snocM (xs := ((((weaveR (R_rate_Sides p.aP s.Unit)).1.take i.toNat).map (kD p cage id s)) : List KeyT)) (y := (Ymesh_Dice_2 p cage id s i)) (e := eKey) (by simp) o1011
 have h1016 := (k1013 _ no654 (by rw [h1001]; simp)).trans h1001
 have no1017 := j1014 _ no654 (by rw [h1001]; simp)
 have no1019 := j1014 _ no712 (by rw [h1002]; simp)
 have h1020 := (k1013 _ no655 (by rw [h1003]; simp)).trans h1003
 have no1021 := j1014 _ no655 (by rw [h1003]; simp)
 have sp1023 := Own.sep o1006 (Sep.symm sp982) j1014
 have o1022 := Own.stay o1006 (Sep.symm sp982) k1013
 refine C rfl (Fa rfl s647 fl_38_1 ?_ (hid := ⟨_, h1020⟩))
 refine C rfl (AOp.storeO (cells' := [v968, v1009, .sl ((weaveR (R_rate_Sides p.aP s.Unit)).2.1).length (((weaveR (R_rate_Sides p.aP s.Unit)).2.1).flatMap eI3)]) rfl rfl o1015 ts_35 h1020 rfl rfl ?_)
 intro H1024 h1025 k1026
 have h1027 := keep k1026 e629 h1016
 have o1030 := Own.keep o1022 k1026 no978
 have o1031 := Own.keep o1015 k1026 no1021
 have m1032 := Mono.set m1012 z630 k1026
 refine AWP.region rfl ?_
 refine B rfl s642 rfl (iadd (by omega)) (V rfl rfl ?_)
 refine AOps.nil ?_
 exact ⟨_, by omega, i + 1, v968, v1009, rfl, rfl, s643, s644, s645, s646, s647, s648, s649, (have hx : (((((weaveR (R_rate_Sides p.aP s.Unit)).1.take i.toNat).map (fD p cage id s texs)) ++ [(Ymesh_Dice_3 p cage id s i)]) : List VT) = ((weaveR (R_rate_Sides p.aP s.Unit)).1.take (i + 1).toNat).map (fD p cage id s texs) := (by exact map_step hi0 (by omega) (fD_of hpl)); Own.re o1030 (congrArg List.length hx) (congrArg (fun l : List VT => l.flatMap eV) hx)), (have hx : (((((weaveR (R_rate_Sides p.aP s.Unit)).1.take i.toNat).map (kD p cage id s)) ++ [(Ymesh_Dice_2 p cage id s i)]) : List KeyT) = ((weaveR (R_rate_Sides p.aP s.Unit)).1.take (i + 1).toNat).map (kD p cage id s) := (by exact map_step hi0 (by omega) rfl); Own.re o1031 (congrArg List.length hx) (congrArg (fun l : List KeyT => l.flatMap eKey) hx)), no976, no978, no1017, no1021, sp1023, h1027, h1025, m1032, by omega, by omega, by exact fa_step pre (by rw [hpl]; rfl)⟩
 refine cf_ rfl (decide_eq_false b660) ?_
 refine AWP.exit ?_
 change AWP _ _ _ _ _ _
 refine Sr ?_
 refine C rfl (Ld _ rfl s647 ty_38 h658 rfl (C rfl (So (cells' := [w18_0, w18_1, .sl ((weaveR (R_rate_Sides p.aP s.Unit)).2.1).length (((weaveR (R_rate_Sides p.aP s.Unit)).2.1).flatMap eI3)]) (.agg [w18_0, w18_1, .sl ((weaveR (R_rate_Sides p.aP s.Unit)).2.1).length (((weaveR (R_rate_Sides p.aP s.Unit)).2.1).flatMap eI3)]) s645 rfl ts_38 h657 (by simp only [AV.cells, List.all_cons, List.all_nil, Own.one_ o650, Own.one_ o651]; rfl) rfl rfl rfl ?_)))
 intro H1033 h1034 k1035
 have o1038 := Own.keep o650 k1035 no652
 have o1039 := Own.keep o651 k1035 no654
 have m1040 := Mono.set m659 z24 k1035
 refine A rfl rfl ?_
 refine rt_ ?_
 refine Fin.frzCell 0 o1038 h1034 z24 rfl no652 m1040 fun H1041 h1042 m1043 k1044 => ?_
 have o1046 := Own.stay2 o1039 (Sep.symm sp656) no654 k1044
 have h1047 : H1041 i17 = some (.row 0 ([.sl (((weaveR (R_rate_Sides p.aP s.Unit)).1.take i.toNat).map (fD p cage id s texs)).length ((((weaveR (R_rate_Sides p.aP s.Unit)).1.take i.toNat).map (fD p cage id s texs)).flatMap eV), w18_1, .sl ((weaveR (R_rate_Sides p.aP s.Unit)).2.1).length (((weaveR (R_rate_Sides p.aP s.Unit)).2.1).flatMap eI3)])) := h1042
 refine Fin.frzCell 1 o1046 h1047 z24 rfl no654 m1043 fun H1048 h1049 m1050 k1051 => ?_
 have h1053 : H1048 i17 = some (.row 0 ([.sl (((weaveR (R_rate_Sides p.aP s.Unit)).1.take i.toNat).map (fD p cage id s texs)).length ((((weaveR (R_rate_Sides p.aP s.Unit)).1.take i.toNat).map (fD p cage id s texs)).flatMap eV), .sl (((weaveR (R_rate_Sides p.aP s.Unit)).1.take i.toNat).map (kD p cage id s)).length ((((weaveR (R_rate_Sides p.aP s.Unit)).1.take i.toNat).map (kD p cage id s)).flatMap eKey), .sl ((weaveR (R_rate_Sides p.aP s.Unit)).2.1).length (((weaveR (R_rate_Sides p.aP s.Unit)).2.1).flatMap eI3)])) := h1049
 refine Rr (Res.list rfl rfl (.cell (v := .agg [.sl (((weaveR (R_rate_Sides p.aP s.Unit)).1.take i.toNat).map (fD p cage id s texs)).length ((((weaveR (R_rate_Sides p.aP s.Unit)).1.take i.toNat).map (fD p cage id s texs)).flatMap eV), .sl (((weaveR (R_rate_Sides p.aP s.Unit)).1.take i.toNat).map (kD p cage id s)).length ((((weaveR (R_rate_Sides p.aP s.Unit)).1.take i.toNat).map (kD p cage id s)).flatMap eKey), .sl ((weaveR (R_rate_Sides p.aP s.Unit)).2.1).length (((weaveR (R_rate_Sides p.aP s.Unit)).2.1).flatMap eI3)]) s645 ty_38 h1053 rfl (.tmp rfl (.nil)))) ?_ m1050
 exact congrArg AV.tup (lc (congrArg AV.agg (lc (congrArg (fun l : List VT => AV.sl l.length (l.flatMap eV)) (show ((((weaveR (R_rate_Sides p.aP s.Unit)).1.take i.toNat).map (fD p cage id s texs)) : List VT) = (((diceR p cage id s texs).1).Verts) from by first | (exfalso; omega) | rw [dice_ok h0 (by omega) pre])) (lc (congrArg (fun l : List KeyT => AV.sl l.length (l.flatMap eKey)) (show ((((weaveR (R_rate_Sides p.aP s.Unit)).1.take i.toNat).map (kD p cage id s)) : List KeyT) = (((diceR p cage id s texs).1).Keys) from by first | (exfalso; omega) | rw [dice_ok h0 (by omega) pre])) (lc (congrArg (fun l : List I3T => AV.sl l.length (l.flatMap eI3)) (show ((weaveR (R_rate_Sides p.aP s.Unit)).2.1 : List I3T) = (((diceR p cage id s texs).1).Tris) from by first | (exfalso; omega) | rw [dice_ok h0 (by omega) pre])) rfl)))) (lc (congrArg (AV.int .i64) (show (0 : Int) = (diceR p cage id s texs).2 from by first | (exfalso; omega) | rw [dice_ok h0 (by omega) pre])) rfl))
 refine ct_ rfl (nb (decide_eq_false b579)) ?_
 refine Sr ?_
 refine C rfl (Bl (cells := [.snil, .snil, .snil]) rfl tz_38 pl_38 rfl rfl (V rfl rfl (C rfl (Sw rfl rfl ts_38 h39 rfl rfl rfl ?_))))
 intro H1054 h1055 k1056
 have m1058 := Mono.set m40 z24 k1056
 refine A rfl rfl ?_
 refine rt_ ?_
 refine Fin.frzCell 0 (Own.nil H0 H1054 1) h1055 z24 rfl (NotId.nil _) m1058 fun H1059 h1060 m1061 k1062 => ?_
 have h1063 : H1059 i17 = some (.row 0 ([.sl 0 ([]), .snil, .snil])) := h1060
 refine Fin.frzCell 1 (Own.nil H0 H1059 1) h1063 z24 rfl (NotId.nil _) m1061 fun H1064 h1065 m1066 k1067 => ?_
 have h1068 : H1064 i17 = some (.row 0 ([.sl 0 ([]), .sl 0 ([]), .snil])) := h1065
 refine Fin.frzCell 2 (Own.nil H0 H1064 1) h1068 z24 rfl (NotId.nil _) m1066 fun H1069 h1070 m1071 k1072 => ?_
 have h1073 : H1069 i17 = some (.row 0 ([.sl 0 ([]), .sl 0 ([]), .sl 0 ([])])) := h1070
 refine Rr (Res.list rfl rfl (.cell (v := .agg [.sl 0 ([]), .sl 0 ([]), .sl 0 ([])]) rfl ty_38 h1073 rfl (.tmp rfl (.nil)))) ?_ m1071
 exact congrArg AV.tup (lc (congrArg AV.agg (lc (congrArg (fun l : List VT => AV.sl l.length (l.flatMap eV)) (show ([] : List VT) = (((diceR p cage id s texs).1).Verts) from by first | (exfalso; omega) | (rw [dice_err (e := R_mesh_fine p s) (by unfold errD; split <;> omega) (by omega)] <;> rfl))) (lc (congrArg (fun l : List KeyT => AV.sl l.length (l.flatMap eKey)) (show ([] : List KeyT) = (((diceR p cage id s texs).1).Keys) from by first | (exfalso; omega) | (rw [dice_err (e := R_mesh_fine p s) (by unfold errD; split <;> omega) (by omega)] <;> rfl))) (lc (congrArg (fun l : List I3T => AV.sl l.length (l.flatMap eI3)) (show ([] : List I3T) = (((diceR p cage id s texs).1).Tris) from by first | (exfalso; omega) | (rw [dice_err (e := R_mesh_fine p s) (by unfold errD; split <;> omega) (by omega)] <;> rfl))) rfl)))) (lc (congrArg (AV.int .i64) (show (R_mesh_fine p s : Int) = (diceR p cage id s texs).2 from by first | (exfalso; omega) | (rw [dice_err (e := R_mesh_fine p s) (by unfold errD; split <;> omega) (by omega)] <;> rfl))) rfl))
end Go.Proofs.M
namespace Go.Proofs.M
open Go Go.AH
theorem c_mesh_Dice0 (p : PatchT) (cage id : Int) (s : SkinT) : PC Tryd.prog 11 [.agg (p.aP.flatMap eV ++ (p.aCorners.map eI ++ (p.aNormals.flatMap eV ++ [.int .i64 p.Skin]))), .int .i64 cage, .int .i64 id, .agg [.str s.Name, .int .i64 s.Mat, .int .i64 s.Levels, .int .i64 s.Unit, .int .i64 s.Tex, .int .i64 s.Height], .snil] (.tup [.agg [.sl (((diceR p cage id s ([] : List TexT)).1).Verts).length ((((diceR p cage id s ([] : List TexT)).1).Verts).flatMap eV), .sl (((diceR p cage id s ([] : List TexT)).1).Keys).length ((((diceR p cage id s ([] : List TexT)).1).Keys).flatMap eKey), .sl (((diceR p cage id s ([] : List TexT)).1).Tris).length ((((diceR p cage id s ([] : List TexT)).1).Tris).flatMap eI3)], .int .i64 ((diceR p cage id s ([] : List TexT)).2)]) := by
  have h := c_mesh_Dice p cage id s [] (by simp) (by simp)
  refine PC.nilArg (pre := [_, _, _, _]) (post := []) ?_
  exact h
end Go.Proofs.M
namespace Go.Proofs.M
open Go Go.AH
set_option maxRecDepth 4000
set_option linter.unusedSimpArgs false
set_option linter.unusedVariables false
set_option maxHeartbeats 4000000
theorem c_alive : PC Tryd.prog 9 [] (.bool true) := by
 intro H0
 refine ACalls.of_body' (n := 63) rfl rfl rfl rfl ?_
 have m0 := Mono.refl H0
 refine Sr ?_
 refine A rfl rfl ?_
 refine Sr ?_
 refine C rfl (Pc («as» := []) rfl rfl (rfl) tf_22 (c_law15_flat ) ?_)
 intro H1 m2
 have m3 := m0.trans m2
 refine C rfl (Bl (cells := [.str ⟨#[]⟩, J 0, J 0, J 100, J (-1), J 0]) rfl tz_30 pl_30 rfl rfl (C rfl (Pc («as» := [.agg (((R_law15_flat).aP).flatMap eV ++ (((R_law15_flat).aCorners).map eI ++ (((R_law15_flat).aNormals).flatMap eV ++ [J ((R_law15_flat).Skin)]))), J 0, J 0, .agg [.str ⟨#[]⟩, J 0, J 0, J 100, J (-1), J 0], .snil]) rfl rfl (rfl) tf_11 (c_mesh_Dice0 (R_law15_flat) 0 0 (SkinT.mk ⟨#[]⟩ 0 0 100 (-1) 0)) ?_)))
 intro H4 m5
 have m6 := m3.trans m5
 refine V rfl rfl (E rfl rfl rfl (E rfl rfl rfl (C rfl (al_ rfl tz_38 ?_))))
 intro i7 H8 n9 h10 k11
 have z12 := Mono.free m6 n9
 have m13 := Mono.new m6 n9 k11
 refine C rfl (Sw rfl rfl ts_38 h10 rfl rfl rfl ?_)
 intro H14 h15 k16
 have m18 := Mono.set m13 z12 k16
 refine A rfl rfl ?_
 refine AWP.seq ?_
 refine fz_ 1 h15 z12 rfl m18 fun H19 m20 k21 => ?_
 have hdl := dice_len R_law15_flat 0 0 (SkinT.mk ⟨#[]⟩ 0 0 100 (-1) 0) ([] : List TexT)
 refine AWP.region rfl ?_
 refine C rfl (Pc («as» := []) rfl rfl (rfl) tf_22 (c_law15_flat ) ?_)
 intro H22 m23
 have m24 := m20.trans m23
 refine C rfl (Bl (cells := [.str ⟨#[]⟩, J 0, J 0, J 1, J 0, J 3]) rfl tz_30 pl_30 rfl rfl (C rfl (Pc («as» := [.agg (((R_law15_flat).aP).flatMap eV ++ (((R_law15_flat).aCorners).map eI ++ (((R_law15_flat).aNormals).flatMap eV ++ [J ((R_law15_flat).Skin)]))), .agg [.str ⟨#[]⟩, J 0, J 0, J 1, J 0, J 3]]) rfl rfl (rfl) tf_13 (c_mesh_Bounds (R_law15_flat) (SkinT.mk ⟨#[]⟩ 0 0 1 0 3)) ?_)))
 intro H25 m26
 have m27 := m24.trans m26
 refine V rfl rfl (E rfl rfl rfl (E rfl rfl rfl (C rfl (al_ rfl tz_43 ?_))))
 intro i28 H29 n30 h31 k32
 have z33 := Mono.free m27 n30
 have m34 := Mono.new m27 n30 k32
 refine C rfl (Sw rfl rfl ts_43 h31 rfl rfl rfl ?_)
 intro H35 h36 k37
 have m39 := Mono.set m34 z33 k37
 refine A rfl rfl ?_
 refine AWP.seq ?_
 refine fz_ 3 h36 z33 rfl m39 fun H40 m41 k42 => ?_
 refine AWP.region rfl ?_
 refine L rfl rfl ty_38 rfl (C rfl (Pc («as» := [.agg [.sl (((diceR (R_law15_flat) 0 0 (SkinT.mk ⟨#[]⟩ 0 0 100 (-1) 0) ([] : List TexT)).1).Verts).length ((((diceR (R_law15_flat) 0 0 (SkinT.mk ⟨#[]⟩ 0 0 100 (-1) 0) ([] : List TexT)).1).Verts).flatMap eV), .sl (((diceR (R_law15_flat) 0 0 (SkinT.mk ⟨#[]⟩ 0 0 100 (-1) 0) ([] : List TexT)).1).Keys).length ((((diceR (R_law15_flat) 0 0 (SkinT.mk ⟨#[]⟩ 0 0 100 (-1) 0) ([] : List TexT)).1).Keys).flatMap eKey), .sl (((diceR (R_law15_flat) 0 0 (SkinT.mk ⟨#[]⟩ 0 0 100 (-1) 0) ([] : List TexT)).1).Tris).length ((((diceR (R_law15_flat) 0 0 (SkinT.mk ⟨#[]⟩ 0 0 100 (-1) 0) ([] : List TexT)).1).Tris).flatMap eI3)], J 1]) rfl rfl (rfl) tf_15 (c_mesh_Tri ((diceR (R_law15_flat) 0 0 (SkinT.mk ⟨#[]⟩ 0 0 100 (-1) 0) ([] : List TexT)).1) 1 (by first | assumption | omega) (by first | assumption | omega)) ?_))
 intro H43 m44
 have m45 := m41.trans m44
 refine V rfl rfl (E rfl rfl rfl (E rfl rfl rfl (C rfl (al_ rfl tz_47 ?_))))
 intro i46 H47 n48 h49 k50
 have z51 := Mono.free m45 n48
 have m52 := Mono.new m45 n48 k50
 refine C rfl (Sw rfl rfl ts_47 h49 rfl rfl rfl ?_)
 intro H53 h54 k55
 have m57 := Mono.set m52 z51 k55
 refine A rfl rfl ?_
 refine AWP.seq ?_
 refine fz_ 5 h54 z51 rfl m57 fun H58 m59 k60 => ?_
 refine AWP.region rfl ?_
 refine V rfl rfl (B rfl rfl rfl ieq (V rfl rfl (Y rfl rfl rfl (decide_eq_true (al_d2)) (Mv _ rfl rfl (Y rfl rfl rfl (decide_eq_true (al_d2)) (Bi _ rfl rfl rfl ieq (C rfl (Pt _ rfl rfl (decide_eq_true (al_d2)) rfl (V rfl rfl (Y rfl rfl rfl (decide_eq_true (al_b2)) (Mv _ rfl rfl (C rfl (Pt _ rfl rfl (decide_eq_true (al_b2)) rfl (V rfl rfl (Y rfl rfl rfl (al_t2) (Ff rfl rfl fl_38_0 (Y rfl rfl rfl (al_t2) (Lf _ rfl rfl ty_34 rfl (Y rfl rfl rfl (al_t2) (AOp.len (m := (((diceR (R_law15_flat) 0 0 (SkinT.mk ⟨#[]⟩ 0 0 100 (-1) 0) ([] : List TexT)).1).Verts).length) rfl rfl (.inr (.inl ⟨_, rfl⟩)) u_34 (Y rfl rfl rfl (al_t2) (Bi _ rfl rfl rfl ieq (C rfl (Pt _ rfl rfl (al_t2) rfl (V rfl rfl (Y rfl rfl rfl (decide_eq_true (al_v)) (Ff rfl rfl fl_38_1 (Y rfl rfl rfl (decide_eq_true (al_v)) (Lf _ rfl rfl ty_35 rfl ?_)))))))))))))))))))))))))))))
 refine Y rfl rfl rfl (decide_eq_true (al_v)) (AOp.len (m := (((diceR (R_law15_flat) 0 0 (SkinT.mk ⟨#[]⟩ 0 0 100 (-1) 0) ([] : List TexT)).1).Keys).length) rfl rfl (.inr (.inl ⟨_, rfl⟩)) u_35 (Y rfl rfl rfl (decide_eq_true (al_v)) (Bi _ rfl rfl rfl ieq (C rfl (Pt _ rfl rfl (decide_eq_true (al_v)) rfl (V rfl rfl (Y rfl rfl rfl (decide_eq_true (al_k)) (Ff rfl rfl fl_38_2 (Y rfl rfl rfl (decide_eq_true (al_k)) (Lf _ rfl rfl ty_36 rfl (Y rfl rfl rfl (decide_eq_true (al_k)) (AOp.len (m := (((diceR (R_law15_flat) 0 0 (SkinT.mk ⟨#[]⟩ 0 0 100 (-1) 0) ([] : List TexT)).1).Tris).length) rfl rfl (.inr (.inl ⟨_, rfl⟩)) u_36 (Y rfl rfl rfl (decide_eq_true (al_k)) (Bi _ rfl rfl rfl ieq (C rfl (Pt _ rfl rfl (decide_eq_true (al_k)) rfl (V rfl rfl (Y rfl rfl rfl (decide_eq_true (al_t)) (Ff rfl rfl fl_43_1 (Y rfl rfl rfl (decide_eq_true (al_t)) (Lf _ rfl rfl ty_23 rfl (Y rfl rfl rfl (decide_eq_true (al_t)) (Bl (cells := [J 14, J 14, J 5]) rfl tz_23 pl_23 rfl rfl (Y rfl rfl rfl (decide_eq_true (al_t)) (AOp.eqAggD rfl rfl rfl teq23 (kokV (by rw [al_hi]; exact ranV_lit (by omega) (by omega) (by omega))) (kokV (ranV_lit (by omega) (by omega) (by omega))) (eV_iff (((R_mesh_Bounds (R_law15_flat) (SkinT.mk ⟨#[]⟩ 0 0 1 0 3)).1).Hi) (VT.mk 14 14 5)) (C rfl (Pt _ rfl rfl (decide_eq_true (al_t)) rfl (V rfl rfl (Y rfl rfl rfl (decide_eq_true (al_hi)) (Ff rfl rfl fl_47_1 (Y rfl rfl rfl (decide_eq_true (al_hi)) (Lf _ rfl rfl ty_23 rfl ?_))))))))))))))))))))))))))))))))
 refine Y rfl rfl rfl (decide_eq_true (al_hi)) (Bl (cells := [J 9, J 9, J 0]) rfl tz_23 pl_23 rfl rfl (Y rfl rfl rfl (decide_eq_true (al_hi)) (AOp.eqAggD rfl rfl rfl teq23 (kokV (by rw [al_tb]; exact ranV_lit (by omega) (by omega) (by omega))) (kokV (ranV_lit (by omega) (by omega) (by omega))) (eV_iff (((R_mesh_Tri ((diceR (R_law15_flat) 0 0 (SkinT.mk ⟨#[]⟩ 0 0 100 (-1) 0) ([] : List TexT)).1) 1).1).B) (VT.mk 9 9 0)) (C rfl (Pt _ rfl rfl (decide_eq_true (al_hi)) rfl (A rfl rfl ?_))))))
 refine rt_ ?_
 refine Rr (Res.one rfl rfl) ?_ m59
 exact (congrArg AV.bool (show (decide ((((R_mesh_Tri ((diceR (R_law15_flat) 0 0 (SkinT.mk ⟨#[]⟩ 0 0 100 (-1) 0) ([] : List TexT)).1) 1).1).B) = (VT.mk 9 9 0)) : Bool) = true from by first | rfl | omega | simp_all))
end Go.Proofs.M
namespace Go.Proofs.M
open Go Go.AH
set_option maxRecDepth 4000
set_option linter.unusedSimpArgs false
set_option linter.unusedVariables false
set_option maxHeartbeats 4000000
abbrev Yref15_Dice_0 (p : PatchT) (cage : Int) (id : Int) (s : SkinT) (i : Int) := R_mesh_vertex p cage id (R_rate_Sides p.aP s.Unit) (maxL (R_rate_Sides p.aP s.Unit)) (at_ ((weaveR (R_rate_Sides p.aP s.Unit)).1) i)
abbrev Yref15_Dice_1 (p : PatchT) (cage : Int) (id : Int) (s : SkinT) (texs : List TexT) (i : Int) := (R_relief_Lift ((Yref15_Dice_0 p cage id s i).atF) ((Yref15_Dice_0 p cage id s i).up) ((R_relief_Texel (at_ texs s.Tex) ((Yref15_Dice_0 p cage id s i).atF)).1) s.Height).1
theorem c_ref15_Dice (p : PatchT) (cage id : Int) (s : SkinT) (texs : List TexT) (htl : texs.length ≤ 1048576) (htx : ∀ t ∈ texs, t.Rows.length ≤ 1048576) : PC Tryd.prog 12 [.agg (p.aP.flatMap eV ++ (p.aCorners.map eI ++ (p.aNormals.flatMap eV ++ [J p.Skin]))), J cage, J id, .agg [.str s.Name, J s.Mat, J s.Levels, J s.Unit, J s.Tex, J s.Height], .sl texs.length (texs.flatMap eTex)] (.tup [.agg [.sl (((diceR p cage id s texs).1).Verts).length ((((diceR p cage id s texs).1).Verts).flatMap eV), .sl (((diceR p cage id s texs).1).Keys).length ((((diceR p cage id s texs).1).Keys).flatMap eKey), .sl (((diceR p cage id s texs).1).Tris).length ((((diceR p cage id s texs).1).Tris).flatMap eI3)], J ((diceR p cage id s texs).2)]) := by
 intro H0
 refine ACalls.of_body' (n := 132) rfl rfl rfl rfl ?_
 have m0 := Mono.refl H0
 refine Sr ?_
 refine C rfl (bx_ (.agg (p.aP.flatMap eV ++ (p.aCorners.map eI ++ (p.aNormals.flatMap eV ++ [J p.Skin])))) rfl rfl rfl ?_)
 intro i1 H2 n3 h4 k5
 have z6 := Mono.free m0 n3
 have m7 := Mono.new m0 n3 k5
 refine C rfl (bx_ (.agg [.str s.Name, J s.Mat, J s.Levels, J s.Unit, J s.Tex, J s.Height]) rfl rfl rfl ?_)
 intro i8 H9 n10 h11 k12
 have e13 := ne_new h4 n10
 have z14 := Mono.free m7 n10
 have h15 := keep k12 (ne_new h4 n10) h4
 have m16 := Mono.new m7 n10 k12
 refine C rfl (al_ rfl tz_38 ?_)
 intro i17 H18 n19 h20 k21
 have e22 := ne_new h15 n19
 have e23 := ne_new h11 n19
 have z24 := Mono.free m16 n19
 have h25 := keep k21 (ne_new h15 n19) h15
 have h26 := keep k21 (ne_new h11 n19) h11
 have m27 := Mono.new m16 n19 k21
 refine A rfl rfl ?_
 refine AWP.seq ?_
 refine AWP.seq ?_
 refine fz_ 5 h25 z6 rfl m27 fun H28 m29 k30 => ?_
 have h31 := (k30 _ (Ne.symm e13)).trans h26
 have h32 := (k30 _ (Ne.symm e22)).trans h20
 refine fz_ 8 h31 z14 rfl m29 fun H33 m34 k35 => ?_
 have h36 := (k35 _ (Ne.symm e23)).trans h32
 refine AWP.region rfl ?_
 refine F rfl rfl fl_30_3 (L rfl rfl ty_3 rfl (B rfl rfl rfl rfl (V rfl rfl ?_)))
 by_cases b37 : s.Unit < 1
 refine N rfl rfl (decide_eq_true b37) (N rfl rfl (decide_eq_true b37) (N rfl rfl (decide_eq_true b37) (C rfl (Pt _ rfl rfl (decide_eq_true b37) rfl (V rfl rfl (N rfl rfl rfl (N rfl rfl rfl (N rfl rfl rfl (C rfl (Pt _ rfl rfl rfl rfl (V rfl rfl (N rfl rfl rfl (N rfl rfl rfl (N rfl rfl rfl (C rfl (Pt _ rfl rfl rfl rfl (V rfl rfl (N rfl rfl rfl (N rfl rfl rfl (N rfl rfl rfl ?_))))))))))))))))))))
 refine N rfl rfl rfl (N rfl rfl rfl (C rfl (Pt _ rfl rfl rfl rfl ?_)))
 refine ct_ rfl rfl ?_
 refine Sr ?_
 refine C rfl (Bl (cells := [.snil, .snil, .snil]) rfl tz_38 pl_38 rfl rfl (C rfl (Sw rfl rfl ts_38 h36 rfl rfl rfl ?_)))
 intro H38 h39 k40
 have m42 := Mono.set m34 z24 k40
 refine A rfl rfl ?_
 refine rt_ ?_
 refine Fin.frzCell 0 (Own.nil H0 H38 1) h39 z24 rfl (NotId.nil _) m42 fun H43 h44 m45 k46 => ?_
 have h47 : H43 i17 = some (.row 0 ([.sl 0 ([]), .snil, .snil])) := h44
 refine Fin.frzCell 1 (Own.nil H0 H43 1) h47 z24 rfl (NotId.nil _) m45 fun H48 h49 m50 k51 => ?_
 have h52 : H48 i17 = some (.row 0 ([.sl 0 ([]), .sl 0 ([]), .snil])) := h49
 refine Fin.frzCell 2 (Own.nil H0 H48 1) h52 z24 rfl (NotId.nil _) m50 fun H53 h54 m55 k56 => ?_
 have h57 : H53 i17 = some (.row 0 ([.sl 0 ([]), .sl 0 ([]), .sl 0 ([])])) := h54
 refine Rr (Res.list rfl rfl (.cell (v := .agg [.sl 0 ([]), .sl 0 ([]), .sl 0 ([])]) rfl ty_38 h57 rfl (.tmp rfl (.nil)))) ?_ m55
 exact congrArg AV.tup (lc (congrArg AV.agg (lc (congrArg (fun l : List VT => AV.sl l.length (l.flatMap eV)) (show ([] : List VT) = (((diceR p cage id s texs).1).Verts) from by first | (exfalso; omega) | (have hf11 := fine_11 (p := p) (s := s) (by omega); rw [dice_err (e := 11) (by unfold errD; split <;> omega) (by omega)] <;> rfl) | (rw [dice_err (e := 11) (by unfold errD; split <;> omega) (by omega)] <;> rfl))) (lc (congrArg (fun l : List KeyT => AV.sl l.length (l.flatMap eKey)) (show ([] : List KeyT) = (((diceR p cage id s texs).1).Keys) from by first | (exfalso; omega) | (have hf11 := fine_11 (p := p) (s := s) (by omega); rw [dice_err (e := 11) (by unfold errD; split <;> omega) (by omega)] <;> rfl) | (rw [dice_err (e := 11) (by unfold errD; split <;> omega) (by omega)] <;> rfl))) (lc (congrArg (fun l : List I3T => AV.sl l.length (l.flatMap eI3)) (show ([] : List I3T) = (((diceR p cage id s texs).1).Tris) from by first | (exfalso; omega) | (have hf11 := fine_11 (p := p) (s := s) (by omega); rw [dice_err (e := 11) (by unfold errD; split <;> omega) (by omega)] <;> rfl) | (rw [dice_err (e := 11) (by unfold errD; split <;> omega) (by omega)] <;> rfl))) rfl)))) (lc (congrArg (AV.int .i64) (show (11 : Int) = (diceR p cage id s texs).2 from by first | (exfalso; omega) | (have hf11 := fine_11 (p := p) (s := s) (by omega); rw [dice_err (e := 11) (by unfold errD; split <;> omega) (by omega)] <;> rfl) | (rw [dice_err (e := 11) (by unfold errD; split <;> omega) (by omega)] <;> rfl))) rfl))
 refine Y rfl rfl rfl (decide_eq_false b37) (Ff rfl rfl fl_30_5 (Y rfl rfl rfl (decide_eq_false b37) (Lf _ rfl rfl ty_3 rfl (Y rfl rfl rfl (decide_eq_false b37) (Bi _ rfl rfl rfl rfl (C rfl (Pf _ rfl rfl (decide_eq_false b37) rfl (V rfl rfl ?_))))))))
 by_cases b58 : s.Height < 0
 refine N rfl rfl (decide_eq_true b58) (N rfl rfl (decide_eq_true b58) (N rfl rfl (decide_eq_true b58) (C rfl (Pt _ rfl rfl (decide_eq_true b58) rfl (V rfl rfl (N rfl rfl rfl (N rfl rfl rfl (N rfl rfl rfl (C rfl (Pt _ rfl rfl rfl rfl (V rfl rfl (N rfl rfl rfl (N rfl rfl rfl (N rfl rfl rfl (N rfl rfl rfl (N rfl rfl rfl (C rfl (Pt _ rfl rfl rfl rfl ?_))))))))))))))))))
 refine ct_ rfl rfl ?_
 refine Sr ?_
 refine C rfl (Bl (cells := [.snil, .snil, .snil]) rfl tz_38 pl_38 rfl rfl (C rfl (Sw rfl rfl ts_38 h36 rfl rfl rfl ?_)))
 intro H59 h60 k61
 have m63 := Mono.set m34 z24 k61
 refine A rfl rfl ?_
 refine rt_ ?_
 refine Fin.frzCell 0 (Own.nil H0 H59 1) h60 z24 rfl (NotId.nil _) m63 fun H64 h65 m66 k67 => ?_
 have h68 : H64 i17 = some (.row 0 ([.sl 0 ([]), .snil, .snil])) := h65
 refine Fin.frzCell 1 (Own.nil H0 H64 1) h68 z24 rfl (NotId.nil _) m66 fun H69 h70 m71 k72 => ?_
 have h73 : H69 i17 = some (.row 0 ([.sl 0 ([]), .sl 0 ([]), .snil])) := h70
 refine Fin.frzCell 2 (Own.nil H0 H69 1) h73 z24 rfl (NotId.nil _) m71 fun H74 h75 m76 k77 => ?_
 have h78 : H74 i17 = some (.row 0 ([.sl 0 ([]), .sl 0 ([]), .sl 0 ([])])) := h75
 refine Rr (Res.list rfl rfl (.cell (v := .agg [.sl 0 ([]), .sl 0 ([]), .sl 0 ([])]) rfl ty_38 h78 rfl (.tmp rfl (.nil)))) ?_ m76
 exact congrArg AV.tup (lc (congrArg AV.agg (lc (congrArg (fun l : List VT => AV.sl l.length (l.flatMap eV)) (show ([] : List VT) = (((diceR p cage id s texs).1).Verts) from by first | (exfalso; omega) | (have hf11 := fine_11 (p := p) (s := s) (by omega); rw [dice_err (e := 11) (by unfold errD; split <;> omega) (by omega)] <;> rfl) | (rw [dice_err (e := 11) (by unfold errD; split <;> omega) (by omega)] <;> rfl))) (lc (congrArg (fun l : List KeyT => AV.sl l.length (l.flatMap eKey)) (show ([] : List KeyT) = (((diceR p cage id s texs).1).Keys) from by first | (exfalso; omega) | (have hf11 := fine_11 (p := p) (s := s) (by omega); rw [dice_err (e := 11) (by unfold errD; split <;> omega) (by omega)] <;> rfl) | (rw [dice_err (e := 11) (by unfold errD; split <;> omega) (by omega)] <;> rfl))) (lc (congrArg (fun l : List I3T => AV.sl l.length (l.flatMap eI3)) (show ([] : List I3T) = (((diceR p cage id s texs).1).Tris) from by first | (exfalso; omega) | (have hf11 := fine_11 (p := p) (s := s) (by omega); rw [dice_err (e := 11) (by unfold errD; split <;> omega) (by omega)] <;> rfl) | (rw [dice_err (e := 11) (by unfold errD; split <;> omega) (by omega)] <;> rfl))) rfl)))) (lc (congrArg (AV.int .i64) (show (11 : Int) = (diceR p cage id s texs).2 from by first | (exfalso; omega) | (have hf11 := fine_11 (p := p) (s := s) (by omega); rw [dice_err (e := 11) (by unfold errD; split <;> omega) (by omega)] <;> rfl) | (rw [dice_err (e := 11) (by unfold errD; split <;> omega) (by omega)] <;> rfl))) rfl))
 refine Y rfl rfl rfl (decide_eq_false b58) (Ff rfl rfl fl_30_5 (Y rfl rfl rfl (decide_eq_false b58) (Lf _ rfl rfl ty_3 rfl (Y rfl rfl rfl (decide_eq_false b58) (Bi _ rfl rfl rfl rfl (C rfl (Pf _ rfl rfl (decide_eq_false b58) rfl (V rfl rfl ?_))))))))
 by_cases b79 : s.Height > 255
 refine N rfl rfl (decide_eq_true b79) (N rfl rfl (decide_eq_true b79) (N rfl rfl (decide_eq_true b79) (C rfl (Pt _ rfl rfl (decide_eq_true b79) rfl (V rfl rfl (N rfl rfl rfl (N rfl rfl rfl (N rfl rfl rfl (N rfl rfl rfl (N rfl rfl rfl (C rfl (Pt _ rfl rfl rfl rfl ?_))))))))))))
 refine ct_ rfl rfl ?_
 refine Sr ?_
 refine C rfl (Bl (cells := [.snil, .snil, .snil]) rfl tz_38 pl_38 rfl rfl (C rfl (Sw rfl rfl ts_38 h36 rfl rfl rfl ?_)))
 intro H80 h81 k82
 have m84 := Mono.set m34 z24 k82
 refine A rfl rfl ?_
 refine rt_ ?_
 refine Fin.frzCell 0 (Own.nil H0 H80 1) h81 z24 rfl (NotId.nil _) m84 fun H85 h86 m87 k88 => ?_
 have h89 : H85 i17 = some (.row 0 ([.sl 0 ([]), .snil, .snil])) := h86
 refine Fin.frzCell 1 (Own.nil H0 H85 1) h89 z24 rfl (NotId.nil _) m87 fun H90 h91 m92 k93 => ?_
 have h94 : H90 i17 = some (.row 0 ([.sl 0 ([]), .sl 0 ([]), .snil])) := h91
 refine Fin.frzCell 2 (Own.nil H0 H90 1) h94 z24 rfl (NotId.nil _) m92 fun H95 h96 m97 k98 => ?_
 have h99 : H95 i17 = some (.row 0 ([.sl 0 ([]), .sl 0 ([]), .sl 0 ([])])) := h96
 refine Rr (Res.list rfl rfl (.cell (v := .agg [.sl 0 ([]), .sl 0 ([]), .sl 0 ([])]) rfl ty_38 h99 rfl (.tmp rfl (.nil)))) ?_ m97
 exact congrArg AV.tup (lc (congrArg AV.agg (lc (congrArg (fun l : List VT => AV.sl l.length (l.flatMap eV)) (show ([] : List VT) = (((diceR p cage id s texs).1).Verts) from by first | (exfalso; omega) | (have hf11 := fine_11 (p := p) (s := s) (by omega); rw [dice_err (e := 11) (by unfold errD; split <;> omega) (by omega)] <;> rfl) | (rw [dice_err (e := 11) (by unfold errD; split <;> omega) (by omega)] <;> rfl))) (lc (congrArg (fun l : List KeyT => AV.sl l.length (l.flatMap eKey)) (show ([] : List KeyT) = (((diceR p cage id s texs).1).Keys) from by first | (exfalso; omega) | (have hf11 := fine_11 (p := p) (s := s) (by omega); rw [dice_err (e := 11) (by unfold errD; split <;> omega) (by omega)] <;> rfl) | (rw [dice_err (e := 11) (by unfold errD; split <;> omega) (by omega)] <;> rfl))) (lc (congrArg (fun l : List I3T => AV.sl l.length (l.flatMap eI3)) (show ([] : List I3T) = (((diceR p cage id s texs).1).Tris) from by first | (exfalso; omega) | (have hf11 := fine_11 (p := p) (s := s) (by omega); rw [dice_err (e := 11) (by unfold errD; split <;> omega) (by omega)] <;> rfl) | (rw [dice_err (e := 11) (by unfold errD; split <;> omega) (by omega)] <;> rfl))) rfl)))) (lc (congrArg (AV.int .i64) (show (11 : Int) = (diceR p cage id s texs).2 from by first | (exfalso; omega) | (have hf11 := fine_11 (p := p) (s := s) (by omega); rw [dice_err (e := 11) (by unfold errD; split <;> omega) (by omega)] <;> rfl) | (rw [dice_err (e := 11) (by unfold errD; split <;> omega) (by omega)] <;> rfl))) rfl))
 refine Y rfl rfl rfl (decide_eq_false b79) (Ff rfl rfl fl_30_4 (Y rfl rfl rfl (decide_eq_false b79) (Lf _ rfl rfl ty_3 rfl (Y rfl rfl rfl (decide_eq_false b79) (Bi _ rfl rfl rfl rfl (C rfl (Pf _ rfl rfl (decide_eq_false b79) rfl (V rfl rfl ?_))))))))
 by_cases b100 : s.Tex < -1
 refine N rfl rfl (decide_eq_true b100) (N rfl rfl (decide_eq_true b100) (N rfl rfl (decide_eq_true b100) (N rfl rfl (decide_eq_true b100) (N rfl rfl (decide_eq_true b100) (C rfl (Pt _ rfl rfl (decide_eq_true b100) rfl ?_))))))
 refine ct_ rfl rfl ?_
 refine Sr ?_
 refine C rfl (Bl (cells := [.snil, .snil, .snil]) rfl tz_38 pl_38 rfl rfl (C rfl (Sw rfl rfl ts_38 h36 rfl rfl rfl ?_)))
 intro H101 h102 k103
 have m105 := Mono.set m34 z24 k103
 refine A rfl rfl ?_
 refine rt_ ?_
 refine Fin.frzCell 0 (Own.nil H0 H101 1) h102 z24 rfl (NotId.nil _) m105 fun H106 h107 m108 k109 => ?_
 have h110 : H106 i17 = some (.row 0 ([.sl 0 ([]), .snil, .snil])) := h107
 refine Fin.frzCell 1 (Own.nil H0 H106 1) h110 z24 rfl (NotId.nil _) m108 fun H111 h112 m113 k114 => ?_
 have h115 : H111 i17 = some (.row 0 ([.sl 0 ([]), .sl 0 ([]), .snil])) := h112
 refine Fin.frzCell 2 (Own.nil H0 H111 1) h115 z24 rfl (NotId.nil _) m113 fun H116 h117 m118 k119 => ?_
 have h120 : H116 i17 = some (.row 0 ([.sl 0 ([]), .sl 0 ([]), .sl 0 ([])])) := h117
 refine Rr (Res.list rfl rfl (.cell (v := .agg [.sl 0 ([]), .sl 0 ([]), .sl 0 ([])]) rfl ty_38 h120 rfl (.tmp rfl (.nil)))) ?_ m118
 exact congrArg AV.tup (lc (congrArg AV.agg (lc (congrArg (fun l : List VT => AV.sl l.length (l.flatMap eV)) (show ([] : List VT) = (((diceR p cage id s texs).1).Verts) from by first | (exfalso; omega) | (have hf11 := fine_11 (p := p) (s := s) (by omega); rw [dice_err (e := 11) (by unfold errD; split <;> omega) (by omega)] <;> rfl) | (rw [dice_err (e := 11) (by unfold errD; split <;> omega) (by omega)] <;> rfl))) (lc (congrArg (fun l : List KeyT => AV.sl l.length (l.flatMap eKey)) (show ([] : List KeyT) = (((diceR p cage id s texs).1).Keys) from by first | (exfalso; omega) | (have hf11 := fine_11 (p := p) (s := s) (by omega); rw [dice_err (e := 11) (by unfold errD; split <;> omega) (by omega)] <;> rfl) | (rw [dice_err (e := 11) (by unfold errD; split <;> omega) (by omega)] <;> rfl))) (lc (congrArg (fun l : List I3T => AV.sl l.length (l.flatMap eI3)) (show ([] : List I3T) = (((diceR p cage id s texs).1).Tris) from by first | (exfalso; omega) | (have hf11 := fine_11 (p := p) (s := s) (by omega); rw [dice_err (e := 11) (by unfold errD; split <;> omega) (by omega)] <;> rfl) | (rw [dice_err (e := 11) (by unfold errD; split <;> omega) (by omega)] <;> rfl))) rfl)))) (lc (congrArg (AV.int .i64) (show (11 : Int) = (diceR p cage id s texs).2 from by first | (exfalso; omega) | (have hf11 := fine_11 (p := p) (s := s) (by omega); rw [dice_err (e := 11) (by unfold errD; split <;> omega) (by omega)] <;> rfl) | (rw [dice_err (e := 11) (by unfold errD; split <;> omega) (by omega)] <;> rfl))) rfl))
 refine Y rfl rfl rfl (decide_eq_false b100) (Ff rfl rfl fl_30_4 (Y rfl rfl rfl (decide_eq_false b100) (Lf _ rfl rfl ty_3 rfl (Y rfl rfl rfl (decide_eq_false b100) (Mv _ rfl rfl (Y rfl rfl rfl (decide_eq_false b100) (AOp.len (m := texs.length) rfl rfl (.inr (.inl ⟨_, rfl⟩)) u_31 (Y rfl rfl rfl (decide_eq_false b100) (Bi _ rfl rfl rfl rfl (C rfl (Pf _ rfl rfl (decide_eq_false b100) rfl ?_)))))))))))
 refine AOps.nil ?_
 change AWP _ _ _ _ _ _
 by_cases b121 : s.Tex ≥ (texs.length : Int)
 refine ct_ rfl (decide_eq_true b121) ?_
 refine Sr ?_
 refine C rfl (Bl (cells := [.snil, .snil, .snil]) rfl tz_38 pl_38 rfl rfl (C rfl (Sw rfl rfl ts_38 h36 rfl rfl rfl ?_)))
 intro H122 h123 k124
 have m126 := Mono.set m34 z24 k124
 refine A rfl rfl ?_
 refine rt_ ?_
 refine Fin.frzCell 0 (Own.nil H0 H122 1) h123 z24 rfl (NotId.nil _) m126 fun H127 h128 m129 k130 => ?_
 have h131 : H127 i17 = some (.row 0 ([.sl 0 ([]), .snil, .snil])) := h128
 refine Fin.frzCell 1 (Own.nil H0 H127 1) h131 z24 rfl (NotId.nil _) m129 fun H132 h133 m134 k135 => ?_
 have h136 : H132 i17 = some (.row 0 ([.sl 0 ([]), .sl 0 ([]), .snil])) := h133
 refine Fin.frzCell 2 (Own.nil H0 H132 1) h136 z24 rfl (NotId.nil _) m134 fun H137 h138 m139 k140 => ?_
 have h141 : H137 i17 = some (.row 0 ([.sl 0 ([]), .sl 0 ([]), .sl 0 ([])])) := h138
 refine Rr (Res.list rfl rfl (.cell (v := .agg [.sl 0 ([]), .sl 0 ([]), .sl 0 ([])]) rfl ty_38 h141 rfl (.tmp rfl (.nil)))) ?_ m139
 exact congrArg AV.tup (lc (congrArg AV.agg (lc (congrArg (fun l : List VT => AV.sl l.length (l.flatMap eV)) (show ([] : List VT) = (((diceR p cage id s texs).1).Verts) from by first | (exfalso; omega) | (have hf11 := fine_11 (p := p) (s := s) (by omega); rw [dice_err (e := 11) (by unfold errD; split <;> omega) (by omega)] <;> rfl) | (rw [dice_err (e := 11) (by unfold errD; split <;> omega) (by omega)] <;> rfl))) (lc (congrArg (fun l : List KeyT => AV.sl l.length (l.flatMap eKey)) (show ([] : List KeyT) = (((diceR p cage id s texs).1).Keys) from by first | (exfalso; omega) | (have hf11 := fine_11 (p := p) (s := s) (by omega); rw [dice_err (e := 11) (by unfold errD; split <;> omega) (by omega)] <;> rfl) | (rw [dice_err (e := 11) (by unfold errD; split <;> omega) (by omega)] <;> rfl))) (lc (congrArg (fun l : List I3T => AV.sl l.length (l.flatMap eI3)) (show ([] : List I3T) = (((diceR p cage id s texs).1).Tris) from by first | (exfalso; omega) | (have hf11 := fine_11 (p := p) (s := s) (by omega); rw [dice_err (e := 11) (by unfold errD; split <;> omega) (by omega)] <;> rfl) | (rw [dice_err (e := 11) (by unfold errD; split <;> omega) (by omega)] <;> rfl))) rfl)))) (lc (congrArg (AV.int .i64) (show (11 : Int) = (diceR p cage id s texs).2 from by first | (exfalso; omega) | (have hf11 := fine_11 (p := p) (s := s) (by omega); rw [dice_err (e := 11) (by unfold errD; split <;> omega) (by omega)] <;> rfl) | (rw [dice_err (e := 11) (by unfold errD; split <;> omega) (by omega)] <;> rfl))) rfl))
 refine cf_ rfl (decide_eq_false b121) ?_
 refine AWP.skip ?_
 refine Sr ?_
 refine L rfl rfl ty_28 (ld_all (len_app (m := 48) (n := 17) (k := 65) (lenM eV_len p.lP rfl) (len_app (m := 4) (n := 13) (k := 17) (len1 p.lCorners) (len_app (m := 12) (n := 1) (k := 13) (lenM eV_len p.lNormals rfl) rfl rfl) rfl) rfl)) (L rfl rfl ty_30 rfl (C rfl (Pc («as» := [.agg (p.aP.flatMap eV ++ (p.aCorners.map eI ++ (p.aNormals.flatMap eV ++ [J p.Skin]))), .agg [.str s.Name, J s.Mat, J s.Levels, J s.Unit, J s.Tex, J s.Height]]) rfl rfl (rfl) tf_30 (c_ref15_fine p s) ?_)))
 intro H142 m143
 have h144 := m143 _ _ h36
 have m145 := m34.trans m143
 refine A rfl rfl ?_
 refine AWP.seq ?_
 refine Sr ?_
 refine V rfl rfl (B rfl rfl rfl ine ?_)
 refine AOps.nil ?_
 change AWP _ _ _ _ _ _
 by_cases b146 : R_mesh_fine p s = 0
 refine cf_ rfl (nb (decide_eq_true b146)) ?_
 refine AWP.skip ?_
 refine AWP.seq ?_
 have h0 : errD p s texs = 0 := by unfold errD; split <;> omega
 refine AWP.region rfl ?_
 refine F rfl rfl fl_28_0 (L rfl rfl ty_24 (ld_fst (fun h => by first | rfl | cases h) (ld_all (lenM eV_len p.lP rfl))) (F rfl rfl fl_30_3 (L rfl rfl ty_3 rfl (C rfl (Pc («as» := [.agg (p.aP.flatMap eV), J s.Unit]) rfl rfl (rfl) tf_31 ((by have hz := c_ref12_Sides p.aP p.lP s.Unit; rw [sides_same] at hz; exact hz)) ?_)))))
 intro H147 m148
 have h149 := m148 _ _ h144
 have m150 := m145.trans m148
 refine C rfl (al_ rfl tz_25 ?_)
 intro i151 H152 n153 h154 k155
 have e156 := ne_new h149 n153
 have z157 := Mono.free m150 n153
 have h158 := keep k155 (ne_new h149 n153) h149
 have m159 := Mono.new m150 n153 k155
 refine C rfl (So (cells' := (R_rate_Sides p.aP s.Unit).map eI) (.agg ((R_rate_Sides p.aP s.Unit).map eI)) rfl rfl ts_25 h154 (by simp only [AV.cells, List.all_append, List.all_cons, List.all_nil, Bool.and_true, Bool.and_eq_true]; exact (all_one1 eI_one _)) (show (AV.cells (.agg ((R_rate_Sides p.aP s.Unit).map eI))).length = 4 from (len1 (R_rate_Sides_len p.aP s.Unit))) rfl (wr_all rfl (len1 (R_rate_Sides_len p.aP s.Unit))) ?_)
 intro H160 h161 k162
 have h163 := keep k162 e156 h158
 have m165 := Mono.set m159 z157 k162
 refine AWP.seq ?_
 refine fz_ 13 h161 z157 rfl m165 fun H166 m167 k168 => ?_
 have h169 := (k168 _ e156).trans h163
 refine AWP.region rfl ?_
 refine L rfl rfl ty_25 (ld_all (len1 (R_rate_Sides_len p.aP s.Unit))) (C rfl (Pc («as» := [.agg ((R_rate_Sides p.aP s.Unit).map eI)]) rfl rfl (rfl) tf_32 (c_ref13_Weave (R_rate_Sides p.aP s.Unit) (R_rate_Sides_len p.aP s.Unit)) ?_))
 intro H170 m171
 have h172 := m171 _ _ h169
 have m173 := m167.trans m171
 refine V rfl rfl (E rfl rfl rfl (E rfl rfl rfl (E rfl rfl rfl (A rfl rfl (A rfl rfl (A rfl rfl ?_))))))
 refine Sr ?_
 refine V rfl rfl (C rfl (Bl (cells := [.snil, .snil, .sl ((weaveR (R_rate_Sides p.aP s.Unit)).2.1).length (((weaveR (R_rate_Sides p.aP s.Unit)).2.1).flatMap eI3)]) rfl tz_38 pl_38 rfl rfl (C rfl (al_ rfl tz_38 ?_))))
 intro i174 H175 n176 h177 k178
 have e179 := ne_new h172 n176
 have z180 := Mono.free m173 n176
 have h181 := keep k178 (ne_new h172 n176) h172
 have m182 := Mono.new m173 n176 k178
 refine C rfl (Sw rfl rfl ts_38 h177 rfl rfl rfl ?_)
 intro H183 h184 k185
 have h186 := keep k185 e179 h181
 have m188 := Mono.set m182 z180 k185
 refine AWP.seq ?_
 refine AWP.seq ?_
 have hwl := weave_len (R_rate_Sides_len p.aP s.Unit)
 refine AWP.region rfl ?_
 refine A rfl rfl ?_
 refine bk_ ?_
 refine AWP.loop (fun q189 fq Hq => ∃ (i : Int) (w17_0 : AV) (w17_1 : AV), q189 = (((weaveR (R_rate_Sides p.aP s.Unit)).1.length : Int) - i).toNat ∧ fq 18 = J i ∧ fq 1 = J cage ∧ fq 2 = J id ∧ fq 4 = .sl texs.length (texs.flatMap eTex) ∧ fq 5 = .fptr ((p.aP.flatMap eV) ++ ((p.aCorners.map eI) ++ ((p.aNormals.flatMap eV) ++ ([J p.Skin] : List AV)))) 0 ∧ fq 8 = .fptr [.str s.Name, J s.Mat, J s.Levels, J s.Unit, J s.Tex, J s.Height] 0 ∧ fq 10 = .ptr i17 0 0 ∧ fq 13 = .fptr ((R_rate_Sides p.aP s.Unit).map eI) 0 ∧ fq 14 = .sl ((weaveR (R_rate_Sides p.aP s.Unit)).1).length (((weaveR (R_rate_Sides p.aP s.Unit)).1).flatMap eSpot) ∧ fq 17 = .ptr i174 0 0 ∧ Own H0 Hq 3 w17_0 (((weaveR (R_rate_Sides p.aP s.Unit)).1.take i.toNat).map (fD p cage id s texs)).length ((((weaveR (R_rate_Sides p.aP s.Unit)).1.take i.toNat).map (fD p cage id s texs)).flatMap eV) ∧ Own H0 Hq 5 w17_1 (((weaveR (R_rate_Sides p.aP s.Unit)).1.take i.toNat).map (kD p cage id s)).length ((((weaveR (R_rate_Sides p.aP s.Unit)).1.take i.toNat).map (kD p cage id s)).flatMap eKey) ∧ NotId w17_0 i17 ∧ NotId w17_0 i174 ∧ NotId w17_1 i17 ∧ NotId w17_1 i174 ∧ Sep w17_0 w17_1 ∧ Hq i17 = some (.row 0 ([.snil, .snil, .snil])) ∧ Hq i174 = some (.row 0 ([w17_0, w17_1, .sl ((weaveR (R_rate_Sides p.aP s.Unit)).2.1).length (((weaveR (R_rate_Sides p.aP s.Unit)).2.1).flatMap eI3)])) ∧ Mono H0 Hq ∧ (0 ≤ i) ∧ (i ≤ ((weaveR (R_rate_Sides p.aP s.Unit)).1.length : Int)) ∧ (∀ j : Int, 0 ≤ j → j < i → (plT s texs (vtxD p cage id s (at_ (weaveR (R_rate_Sides p.aP s.Unit)).1 j))).isSome = true)) (k := (((weaveR (R_rate_Sides p.aP s.Unit)).1.length : Int) - 0).toNat) ?_ ?_
 exact ⟨0, .snil, .snil, rfl, rfl, rfl, rfl, rfl, rfl, rfl, rfl, rfl, rfl, rfl, Own.nil _ _ _, Own.nil _ _ _, (NotId.nil _), (NotId.nil _), (NotId.nil _), (NotId.nil _), (Sep.nilL _), h186, h184, m188, by omega, by omega, by intro j; omega⟩
 rintro _ f191 H190 ⟨i, w17_0, w17_1, rfl, s192, s193, s194, s195, s196, s197, s198, s199, s200, s201, o202, o203, no204, no205, no206, no207, sp208, h209, h210, m211, hi0, hi1, pre⟩
 refine AWP.seq ?_
 refine Sr ?_
 refine V rfl s192 (V rfl s200 (C rfl (AOp.len (m := ((weaveR (R_rate_Sides p.aP s.Unit)).1).length) rfl rfl (.inr (.inl ⟨_, rfl⟩)) u_68 (B rfl rfl rfl rfl ?_))))
 refine AOps.nil ?_
 change AWP _ _ _ _ _ _
 by_cases b212 : i < ((((weaveR (R_rate_Sides p.aP s.Unit)).1).length) : Int)
 refine ct_ rfl (decide_eq_true b212) ?_
 refine AWP.skip ?_
 refine AWP.seq ?_
 refine bk_ ?_
 refine AWP.seq ?_
 obtain ⟨hr, hm, hx⟩ := weave_mem (R_rate_Sides_len p.aP s.Unit) (at_mem (l := (weaveR (R_rate_Sides p.aP s.Unit)).1) (i := i) (by omega) (by omega))
 refine AWP.freshN fun b213 hb214 => ?_
 obtain ⟨i215, e216⟩ : ∃ x, x = b213 + 0 := ⟨_, rfl⟩
 have n217 := hb214 0; rw [← e216] at n217
 obtain ⟨i218, e219⟩ : ∃ x, x = b213 + 1 := ⟨_, rfl⟩
 have n220 := hb214 1; rw [← e219] at n220
 obtain ⟨i221, e222⟩ : ∃ x, x = b213 + 2 := ⟨_, rfl⟩
 have n223 := hb214 2; rw [← e222] at n223
 refine AWP.region_strA mixed (by kernel_rfl) [(13, i215, .row 0 ([J 0, J 0, J 0])), (14, i218, .row 0 ([J 0, J 0, J 0])), (15, i221, .row 0 ([J 0, J 0, J 0, J 0, J 0]))] [0, 1, 2, 3, 4, 5, 6, 7, 8, 9, 10, 11, 12, 13, 14, 15] [(16, some [11, 12]), (17, some [12])] [18] (by kernel_rfl) (by kernel_rfl) ⟨n217, ⟨⟨rfl, (by show i218 ≠ i215; omega)⟩, ⟨⟨rfl, (by show i221 ≠ i215; omega)⟩, trivial⟩⟩, ⟨n220, ⟨⟨rfl, (by show i221 ≠ i218; omega)⟩, trivial⟩, ⟨n223, trivial, trivial⟩⟩⟩ ?_
 have e224 := ne_new h209 n217
 have e225 := ne_new h210 n217
 have z226 := Mono.free m211 n217
 have no227 := Own.notnew o202 n217
 have no228 := Own.notnew o203 n217
 have e229 := ne_new h209 n220
 have e230 := ne_new h210 n220
 have z231 := Mono.free m211 n220
 have no232 := Own.notnew o202 n220
 have no233 := Own.notnew o203 n220
 have e234 := ne_new h209 n223
 have e235 := ne_new h210 n223
 have z236 := Mono.free m211 n223
 have no237 := Own.notnew o202 n223
 have no238 := Own.notnew o203 n223
 have e239 : i215 ≠ i218 := by omega
 have e240 : i215 ≠ i221 := by omega
 have e241 : i218 ≠ i221 := by omega
 refine STRN.op rfl rfl rfl (.inl ⟨rfl, fun H1 f' H' hf hN hM => Lf _ rfl ((hf 5 rfl).trans s196) ty_28 (ld_all (len_app (m := 48) (n := 17) (k := 65) (lenM eV_len p.lP rfl) (len_app (m := 4) (n := 13) (k := 17) (len1 p.lCorners) (len_app (m := 12) (n := 1) (k := 13) (lenM eV_len p.lNormals rfl) rfl rfl) rfl) rfl)) ⟨rfl, hN⟩⟩) ?_
 refine STRN.op rfl rfl rfl (.inl ⟨rfl, fun H1 f' H' hf hN hM => Mv _ rfl ((hf 1 rfl).trans s193) ⟨rfl, hN⟩⟩) ?_
 refine STRN.op rfl rfl rfl (.inl ⟨rfl, fun H1 f' H' hf hN hM => Mv _ rfl ((hf 2 rfl).trans s194) ⟨rfl, hN⟩⟩) ?_
 refine STRN.op rfl rfl rfl (.inl ⟨rfl, fun H1 f' H' hf hN hM => Lf _ rfl ((hf 13 rfl).trans s199) ty_25 (ld_all (len1 (R_rate_Sides_len p.aP s.Unit))) ⟨rfl, hN⟩⟩) ?_
 refine STRN.op rfl rfl rfl (.inl ⟨rfl, fun H1 f' H' hf hN hM => Mv _ rfl ((hf 14 rfl).trans s200) ⟨rfl, hN⟩⟩) ?_
 refine STRN.op rfl rfl rfl (.inl ⟨rfl, fun H1 f' H' hf hN hM => Mv _ rfl ((hf 18 rfl).trans s192) ⟨rfl, hN⟩⟩) ?_
 refine STRN.op rfl rfl rfl (.inl ⟨rfl, fun H1 f' H' hf hN hM => iS_ rfl ((hf 81 rfl).trans rfl) ((hf 82 rfl).trans rfl) sl_68 (by omega) (by omega) ⟨rfl, hN⟩⟩) ?_
 refine STRN.op rfl rfl rfl (.inl ⟨rfl, fun H1 f' H' hf hN hM => Lf _ rfl ((hf 83 rfl).trans rfl) ty_76 (ldM eSpot_len (by omega) (by omega)) ⟨rfl, hN⟩⟩) ?_
 refine STRN.op rfl rfl rfl (.inl ⟨rfl, fun H1 f' H' hf hN hM => Pc («as» := [.agg (p.aP.flatMap eV ++ (p.aCorners.map eI ++ (p.aNormals.flatMap eV ++ [J p.Skin]))), J cage, J id, .agg ((R_rate_Sides p.aP s.Unit).map eI), .agg [J ((at_ ((weaveR (R_rate_Sides p.aP s.Unit)).1) i).Kind), J ((at_ ((weaveR (R_rate_Sides p.aP s.Unit)).1) i).A), J ((at_ ((weaveR (R_rate_Sides p.aP s.Unit)).1) i).B)]]) rfl rfl (lapp (lcons ((hf 77 rfl).trans rfl) (lcons ((hf 78 rfl).trans rfl) (lcons ((hf 79 rfl).trans rfl) (lcons ((hf 80 rfl).trans rfl) (lcons ((hf 84 rfl).trans rfl) rfl))))) rfl) tf_33 ((by have hz := c_ref15_spot p cage id (R_rate_Sides p.aP s.Unit) (R_rate_Sides_len p.aP s.Unit) (at_ ((weaveR (R_rate_Sides p.aP s.Unit)).1) i) hr hm hx; rw [spot_same p cage id (R_rate_Sides_len p.aP s.Unit) (at_ ((weaveR (R_rate_Sides p.aP s.Unit)).1) i)] at hz; exact hz)) fun H2 m2 => ⟨rfl, hN.trans m2⟩⟩) ?_
 refine STRN.op rfl rfl rfl (.inl ⟨rfl, fun H1 f' H' hf hN hM => Mv _ rfl ((hf 85 rfl).trans rfl) ⟨rfl, hN⟩⟩) ?_
 refine STRN.op rfl rfl rfl (.inl ⟨rfl, fun H1 f' H' hf hN hM => Ex _ rfl ((hf 76 rfl).trans rfl) rfl ⟨rfl, hN⟩⟩) ?_
 refine STRN.op rfl rfl rfl (.inl ⟨rfl, fun H1 f' H' hf hN hM => Ex _ rfl ((hf 76 rfl).trans rfl) rfl ⟨rfl, hN⟩⟩) ?_
 refine STRN.op rfl rfl rfl (.inl ⟨rfl, fun H1 f' H' hf hN hM => Ex _ rfl ((hf 76 rfl).trans rfl) rfl ⟨rfl, hN⟩⟩) ?_
 refine STRN.alloc (id := i215) (Z := [J 0, J 0, J 0]) (.head _) rfl rfl rfl rfl rfl tz_23 ?_
 refine STRN.alloc (id := i218) (Z := [J 0, J 0, J 0]) (.tail _ (.head _)) rfl rfl rfl rfl rfl tz_23 ?_
 refine STRN.alloc (id := i221) (Z := [J 0, J 0, J 0, J 0, J 0]) (.tail _ (.tail _ (.head _))) rfl rfl rfl rfl rfl tz_58 ?_
 refine STRN.done fun H242 m243 hu244 => ?_
 have h245 := m243 _ _ h209
 have h246 := m243 _ _ h210
 have o247 := Own.mono o202 m243
 have o248 := Own.mono o203 m243
 have m249 := m211.trans m243
 have h250 : H242 i215 = some (.row 0 ([J 0, J 0, J 0])) := hu244 _ (.head _)
 have h251 : H242 i218 = some (.row 0 ([J 0, J 0, J 0])) := hu244 _ (.tail _ (.head _))
 have h252 : H242 i221 = some (.row 0 ([J 0, J 0, J 0, J 0, J 0])) := hu244 _ (.tail _ (.tail _ (.head _)))
 refine STR.st rfl rfl rfl fun f253 H254 hf255 m256 => ?_
 have h257 := m256 _ _ h245
 have h258 := m256 _ _ h246
 have h259 := m256 _ _ h250
 have h260 := m256 _ _ h251
 have h261 := m256 _ _ h252
 have o262 := Own.mono o247 m256
 have o263 := Own.mono o248 m256
 have m264 := m249.trans m256
 refine So (cells' := [J (((Yref15_Dice_0 p cage id s i).atF).X), J (((Yref15_Dice_0 p cage id s i).atF).Y), J (((Yref15_Dice_0 p cage id s i).atF).Z)]) (.agg [J (((Yref15_Dice_0 p cage id s i).atF).X), J (((Yref15_Dice_0 p cage id s i).atF).Y), J (((Yref15_Dice_0 p cage id s i).atF).Z)]) ((hf255 19 rfl).trans rfl) ((hf255 86 rfl).trans rfl) ts_23 h259 rfl rfl rfl rfl ?_
 intro H265 h266 k267
 have h268 := keep k267 e224 h257
 have h269 := keep k267 e225 h258
 have h271 := keep k267 (Ne.symm e239) h260
 have h272 := keep k267 (Ne.symm e240) h261
 have o273 := Own.keep o262 k267 no227
 have o274 := Own.keep o263 k267 no228
 have m275 := Mono.set m264 z226 k267
 refine ⟨rfl, .inr (RevR.skip rfl (RevR.skip rfl (RevR.skip rfl (RevR.cons rfl (.inl ⟨rfl, fun H1 f' H' hf hN hM => Ex _ rfl ((hf 76 rfl).trans rfl) rfl ⟨rfl, hN⟩⟩) (RevR.cons rfl (.inl ⟨rfl, fun H1 f' H' hf hN hM => Ex _ rfl ((hf 76 rfl).trans rfl) rfl ⟨rfl, hN⟩⟩) (RevR.skip rfl (RevR.skip rfl (RevR.skip rfl (RevR.skip rfl (RevR.skip rfl (RevR.skip rfl (RevR.skip rfl (RevR.skip rfl (RevR.skip rfl (RevR.skip rfl (RevR.skip rfl RevR.nil)))))))))))))))), ?_⟩
 refine STR.st rfl rfl rfl fun f276 H277 hf278 m279 => ?_
 have h280 := m279 _ _ h268
 have h281 := m279 _ _ h269
 have h282 := m279 _ _ h271
 have h283 := m279 _ _ h272
 have h284 := m279 _ _ h266
 have o285 := Own.mono o273 m279
 have o286 := Own.mono o274 m279
 have m287 := m275.trans m279
 refine So (cells' := [J (((Yref15_Dice_0 p cage id s i).up).X), J (((Yref15_Dice_0 p cage id s i).up).Y), J (((Yref15_Dice_0 p cage id s i).up).Z)]) (.agg [J (((Yref15_Dice_0 p cage id s i).up).X), J (((Yref15_Dice_0 p cage id s i).up).Y), J (((Yref15_Dice_0 p cage id s i).up).Z)]) ((hf278 20 rfl).trans rfl) ((hf278 87 rfl).trans rfl) ts_23 h282 rfl rfl rfl rfl ?_
 intro H288 h289 k290
 have h291 := keep k290 e229 h280
 have h292 := keep k290 e230 h281
 have h294 := keep k290 (Ne.symm e241) h283
 have h295 := keep k290 e239 h284
 have o296 := Own.keep o285 k290 no232
 have o297 := Own.keep o286 k290 no233
 have m298 := Mono.set m287 z231 k290
 refine ⟨rfl, .inr (RevR.skip rfl (RevR.skip rfl (RevR.skip rfl (RevR.skip rfl (RevR.cons rfl (.inl ⟨rfl, fun H1 f' H' hf hN hM => Ex _ rfl ((hf 76 rfl).trans rfl) rfl ⟨rfl, hN⟩⟩) (RevR.skip rfl (RevR.skip rfl (RevR.skip rfl (RevR.skip rfl (RevR.skip rfl (RevR.skip rfl (RevR.skip rfl (RevR.skip rfl (RevR.skip rfl (RevR.skip rfl (RevR.skip rfl (RevR.skip rfl RevR.nil))))))))))))))))), ?_⟩
 refine STR.done fun H299 m300 => ?_
 have h301 := m300 _ _ h291
 have h302 := m300 _ _ h292
 have h303 := m300 _ _ h294
 have h304 := m300 _ _ h295
 have h305 := m300 _ _ h289
 have o306 := Own.mono o296 m300
 have o307 := Own.mono o297 m300
 have m308 := m298.trans m300
 refine C rfl (Sw rfl rfl ts_58 h303 rfl rfl rfl ?_)
 intro H309 h310 k311
 have h312 := keep k311 e234 h301
 have h313 := keep k311 e235 h302
 have h315 := keep k311 e240 h304
 have h316 := keep k311 e241 h305
 have o317 := Own.keep o306 k311 no237
 have o318 := Own.keep o307 k311 no238
 have m319 := Mono.set m308 z236 k311
 refine AWP.seq ?_
 refine AWP.seq ?_
 refine fz_ 20 h316 z231 rfl m319 fun H320 m321 k322 => ?_
 have h323 := (k322 _ e229).trans h312
 have h324 := (k322 _ e230).trans h313
 have h325 := (k322 _ e239).trans h315
 have h326 := (k322 _ (Ne.symm e241)).trans h310
 have o327 := Own.keep o317 k322 no232
 have o328 := Own.keep o318 k322 no233
 refine fz_ 21 h326 z236 rfl m321 fun H329 m330 k331 => ?_
 have h332 := (k331 _ e234).trans h323
 have h333 := (k331 _ e235).trans h324
 have h334 := (k331 _ e240).trans h325
 have o335 := Own.keep o327 k331 no237
 have o336 := Own.keep o328 k331 no238
 refine AWP.region rfl ?_
 refine F rfl s197 fl_30_4 (L rfl rfl ty_3 rfl (B rfl rfl rfl rfl (V rfl rfl ?_)))
 by_cases b337 : s.Tex ≥ 0
 refine Y rfl rfl rfl (decide_eq_true b337) (Ff rfl s197 fl_30_5 (Y rfl rfl rfl (decide_eq_true b337) (Lf _ rfl rfl ty_3 rfl (Y rfl rfl rfl (decide_eq_true b337) (Bi _ rfl rfl rfl rfl (C rfl (Pt _ rfl rfl (decide_eq_true b337) rfl ?_)))))))
 refine AOps.nil ?_
 change AWP _ _ _ _ _ _
 by_cases b338 : s.Height > 0
 refine ct_ rfl (decide_eq_true b338) ?_
 refine AWP.seq ?_
 have htr := htx _ (at_mem (i := s.Tex) (l := texs) (by omega) (by omega))
 refine AWP.region_quiet mixed (by kernel_rfl) 12 [] rfl (by kernel_rfl) (Mono H329) (Mono.refl _) ?_
 refine QV rfl s195 (QF rfl s197 fl_30_4 (QL rfl rfl ty_3 rfl (Q rfl (fun _ _ φ ψ => iS_ rfl (φ 98 rfl) (φ 100 rfl) sl_31 (by omega) (by omega) ⟨rfl, ψ⟩) (QL rfl rfl ty_65 (ldM eTex_len (by omega) (by omega)) (Q rfl (fun _ _ φ ψ => Ld _ rfl (φ 19 rfl) ty_23 (ψ _ _ h334) rfl ⟨rfl, ψ⟩) (Q rfl (fun _ _ φ ψ => Pc («as» := [.agg [.str ((at_ texs s.Tex).Name), J ((at_ texs s.Tex).W), J ((at_ texs s.Tex).H), .sl ((at_ texs s.Tex).Rows).length (((at_ texs s.Tex).Rows).map eI)], .agg [J (((Yref15_Dice_0 p cage id s i).atF).X), J (((Yref15_Dice_0 p cage id s i).atF).Y), J (((Yref15_Dice_0 p cage id s i).atF).Z)]]) rfl rfl (lapp (lcons (φ 102 rfl) (lcons (φ 103 rfl) rfl)) rfl) tf_34 ((by have hz := c_ref14_Texel (at_ texs s.Tex) ((Yref15_Dice_0 p cage id s i).atF) (by first | assumption | omega); rw [texel_same] at hz; exact hz)) fun H2 m2 => ⟨rfl, ψ.trans m2⟩) (QV rfl rfl (Q rfl (fun _ _ φ ψ => Ex _ rfl (φ 97 rfl) rfl ⟨rfl, ψ⟩) (Q rfl (fun _ _ φ ψ => Ex _ rfl (φ 97 rfl) rfl ⟨rfl, ψ⟩) (Q rfl (fun _ _ φ ψ => As _ rfl (φ 105 rfl) ⟨rfl, ψ⟩) (Q rfl (fun _ _ φ ψ => As _ rfl (φ 106 rfl) ⟨rfl, ψ⟩) ?_)))))))))))
 refine QE.done fun H339 m340 => ?_
 have h341 := m340 _ _ h332
 have h342 := m340 _ _ h333
 have h343 := m340 _ _ h334
 have o344 := Own.mono o335 m340
 have o345 := Own.mono o336 m340
 have m346 := m330.trans m340
 refine AWP.seq ?_
 refine Sr ?_
 refine V rfl rfl (C rfl (AOp.not rfl rfl ?_))
 refine AOps.nil ?_
 change AWP _ _ _ _ _ _
 rcases Bool.eq_false_or_eq_true ((R_relief_Texel (at_ texs s.Tex) ((Yref15_Dice_0 p cage id s i).atF)).2) with b347 | b347
 refine cf_ rfl (nb b347) ?_
 refine AWP.skip ?_
 refine AWP.region rfl ?_
 refine C rfl (Ld _ rfl rfl ty_23 h343 rfl (L rfl rfl ty_23 rfl (V rfl rfl (F rfl s197 fl_30_5 (L rfl rfl ty_3 rfl (C rfl (Pc («as» := [.agg [J (((Yref15_Dice_0 p cage id s i).atF).X), J (((Yref15_Dice_0 p cage id s i).atF).Y), J (((Yref15_Dice_0 p cage id s i).atF).Z)], .agg [J (((Yref15_Dice_0 p cage id s i).up).X), J (((Yref15_Dice_0 p cage id s i).up).Y), J (((Yref15_Dice_0 p cage id s i).up).Z)], J ((R_relief_Texel (at_ texs s.Tex) ((Yref15_Dice_0 p cage id s i).atF)).1), J s.Height]) rfl rfl (rfl) tf_35 ((by have hz := c_ref14_Lift ((Yref15_Dice_0 p cage id s i).atF) ((Yref15_Dice_0 p cage id s i).up) ((R_relief_Texel (at_ texs s.Tex) ((Yref15_Dice_0 p cage id s i).atF)).1) s.Height; rw [lift_same] at hz; exact hz)) ?_)))))))
 intro H348 m349
 have h350 := m349 _ _ h341
 have h351 := m349 _ _ h342
 have h352 := m349 _ _ h343
 have o353 := Own.mono o344 m349
 have o354 := Own.mono o345 m349
 have m355 := m346.trans m349
 refine V rfl rfl (E rfl rfl rfl (E rfl rfl rfl (C rfl (Sw rfl rfl ts_23 h352 rfl rfl rfl ?_))))
 intro H356 h357 k358
 have h359 := keep k358 e224 h350
 have h360 := keep k358 e225 h351
 have o362 := Own.keep o353 k358 no227
 have o363 := Own.keep o354 k358 no228
 have m364 := Mono.set m355 z226 k358
 refine AWP.seq ?_
 have hpl : plT s texs (vtxD p cage id s (at_ (weaveR (R_rate_Sides p.aP s.Unit)).1 i)) = some (Yref15_Dice_1 p cage id s texs i) := by unfold plT vtxD; rw [if_pos ⟨by omega, by omega⟩, if_pos b347] <;> rfl
 have hq1 : (((weaveR (R_rate_Sides p.aP s.Unit)).1.take i.toNat).map (fD p cage id s texs)).length ≤ 400 := by simp only [List.length_map, List.length_take]; omega
 have hq2 : (((weaveR (R_rate_Sides p.aP s.Unit)).1.take i.toNat).map (kD p cage id s)).length ≤ 400 := by simp only [List.length_map, List.length_take]; omega
 refine AWP.region rfl ?_
 refine C rfl (Fa rfl s201 fl_38_0 ?_ (hid := ⟨_, h360⟩))
 refine C rfl (Ld _ rfl rfl ty_34 h360 rfl (C rfl (Ld _ rfl rfl ty_23 h357 rfl (C rfl (AOp.buildSlice (cells := [J ((Yref15_Dice_1 p cage id s texs i).X), J ((Yref15_Dice_1 p cage id s texs i).Y), J ((Yref15_Dice_1 p cage id s texs i).Z)]) rfl u_34 ts_23 tz_23 rfl rfl rfl ?_)))))
 intro i365 H366 n367 h368 k369
 have h374 := keep k369 (ne_new h359 n367) h359
 have h375 := keep k369 (ne_new h360 n367) h360
 have h376 := keep k369 (ne_new h357 n367) h357
 have o377 := Own.keep o362 k369 (Own.notnew o362 n367)
 have o379 := Own.keep o363 k369 (Own.notnew o363 n367)
 have m381 := Mono.new m364 n367 k369
 refine C rfl (AOp.append_own (es := 3) (m := 1) (len := ((((weaveR (R_rate_Sides p.aP s.Unit)).1.take i.toNat).map (fD p cage id s texs)).length)) (old := (((weaveR (R_rate_Sides p.aP s.Unit)).1.take i.toNat).map (fD p cage id s texs)).flatMap eV) (cells := [J ((Yref15_Dice_1 p cage id s texs i).X), J ((Yref15_Dice_1 p cage id s texs i).Y), J ((Yref15_Dice_1 p cage id s texs i).Z)]) rfl u_34 ts_23 tzn_23 tb_23 (by decide) ni_34 rfl o377 m381 rfl (.slm h368 rfl) (one_of rfl) (by decide) (by first | omega | (simp; omega)) ?_)
 intro v382 H383 o384 m385 k386 j387
 have o388 := Own.snocM (xs := ((((weaveR (R_rate_Sides p.aP s.Unit)).1.take i.toNat).map (fD p cage id s texs)) : List VT)) (y := (Yref15_Dice_1 p cage id s texs i)) (e := eV) (by simp) o384
 have h389 := (k386 _ no204 (by rw [h374]; simp)).trans h374
 have no390 := j387 _ no204 (by rw [h374]; simp)
 have h391 := (k386 _ no205 (by rw [h375]; simp)).trans h375
 have no392 := j387 _ no205 (by rw [h375]; simp)
 have h393 := (k386 _ no227 (by rw [h376]; simp)).trans h376
 have no394 := j387 _ no227 (by rw [h376]; simp)
 have sp396 := Own.sep o379 (Sep.symm sp208) j387
 have o395 := Own.stay o379 (Sep.symm sp208) k386
 refine C rfl (Fa rfl s201 fl_38_0 ?_ (hid := ⟨_, h391⟩))
 refine C rfl (AOp.storeO (cells' := [v382, w17_1, .sl ((weaveR (R_rate_Sides p.aP s.Unit)).2.1).length (((weaveR (R_rate_Sides p.aP s.Unit)).2.1).flatMap eI3)]) rfl rfl o388 ts_34 h391 rfl rfl ?_)
 intro H397 h398 k399
 have h400 := keep k399 e179 h389
 have h402 := keep k399 (Ne.symm e225) h393
 have o403 := Own.keep o395 k399 no207
 have o404 := Own.keep o388 k399 no392
 have m405 := Mono.set m385 z180 k399
 refine AWP.region rfl ?_
 refine C rfl (Fa rfl s201 fl_38_1 ?_ (hid := ⟨_, h398⟩))
 refine C rfl (Ld _ rfl rfl ty_35 h398 rfl (L rfl rfl ty_58 rfl (C rfl (AOp.buildSlice (cells := [J (((Yref15_Dice_0 p cage id s i).key).Kind), J (((Yref15_Dice_0 p cage id s i).key).Of), J (((Yref15_Dice_0 p cage id s i).key).A), J (((Yref15_Dice_0 p cage id s i).key).B), J (((Yref15_Dice_0 p cage id s i).key).N)]) rfl u_35 ts_58 tz_58 rfl rfl rfl ?_))))
 intro i406 H407 n408 h409 k410
 have h415 := keep k410 (ne_new h400 n408) h400
 have h416 := keep k410 (ne_new h402 n408) h402
 have h417 := keep k410 (ne_new h398 n408) h398
 have o418 := Own.keep o403 k410 (Own.notnew o403 n408)
 have o420 := Own.keep o404 k410 (Own.notnew o404 n408)
 have m422 := Mono.new m405 n408 k410
 refine C rfl (AOp.append_own (es := 5) (m := 1) (len := ((((weaveR (R_rate_Sides p.aP s.Unit)).1.take i.toNat).map (kD p cage id s)).length)) (old := (((weaveR (R_rate_Sides p.aP s.Unit)).1.take i.toNat).map (kD p cage id s)).flatMap eKey) (cells := [J (((Yref15_Dice_0 p cage id s i).key).Kind), J (((Yref15_Dice_0 p cage id s i).key).Of), J (((Yref15_Dice_0 p cage id s i).key).A), J (((Yref15_Dice_0 p cage id s i).key).B), J (((Yref15_Dice_0 p cage id s i).key).N)]) rfl u_35 ts_58 tzn_58 tb_58 (by decide) ni_35 rfl o418 m422 rfl (.slm h409 rfl) (one_of rfl) (by decide) (by first | omega | (simp; omega)) ?_)
 intro v423 H424 o425 m426 k427 j428
 have o429 := Own.snocM (xs := ((((weaveR (R_rate_Sides p.aP s.Unit)).1.take i.toNat).map (kD p cage id s)) : List KeyT)) (y := ((Yref15_Dice_0 p cage id s i).key)) (e := eKey) (by simp) o425
 have h430 := (k427 _ no206 (by rw [h415]; simp)).trans h415
 have no431 := j428 _ no206 (by rw [h415]; simp)
 have no433 := j428 _ no228 (by rw [h416]; simp)
 have h434 := (k427 _ no207 (by rw [h417]; simp)).trans h417
 have no435 := j428 _ no207 (by rw [h417]; simp)
 have sp437 := Own.sep o420 (Sep.symm sp396) j428
 have o436 := Own.stay o420 (Sep.symm sp396) k427
 refine C rfl (Fa rfl s201 fl_38_1 ?_ (hid := ⟨_, h434⟩))
 refine C rfl (AOp.storeO (cells' := [v382, v423, .sl ((weaveR (R_rate_Sides p.aP s.Unit)).2.1).length (((weaveR (R_rate_Sides p.aP s.Unit)).2.1).flatMap eI3)]) rfl rfl o429 ts_35 h434 rfl rfl ?_)
 intro H438 h439 k440
 have h441 := keep k440 e179 h430
 have o444 := Own.keep o436 k440 no392
 have o445 := Own.keep o429 k440 no435
 have m446 := Mono.set m426 z180 k440
 refine AWP.region rfl ?_
 refine V rfl s192 (B rfl rfl rfl (iadd (by omega)) (A rfl rfl ?_))
 refine AOps.nil ?_
 exact ⟨_, by omega, i + 1, v382, v423, rfl, rfl, s193, s194, s195, s196, s197, s198, s199, s200, s201, (have hx : (((((weaveR (R_rate_Sides p.aP s.Unit)).1.take i.toNat).map (fD p cage id s texs)) ++ [(Yref15_Dice_1 p cage id s texs i)]) : List VT) = ((weaveR (R_rate_Sides p.aP s.Unit)).1.take (i + 1).toNat).map (fD p cage id s texs) := (by exact map_step hi0 (by omega) (fD_of hpl)); Own.re o444 (congrArg List.length hx) (congrArg (fun l : List VT => l.flatMap eV) hx)), (have hx : (((((weaveR (R_rate_Sides p.aP s.Unit)).1.take i.toNat).map (kD p cage id s)) ++ [((Yref15_Dice_0 p cage id s i).key)]) : List KeyT) = ((weaveR (R_rate_Sides p.aP s.Unit)).1.take (i + 1).toNat).map (kD p cage id s) := (by exact map_step hi0 (by omega) rfl); Own.re o445 (congrArg List.length hx) (congrArg (fun l : List KeyT => l.flatMap eKey) hx)), no390, no392, no431, no435, sp437, h441, h439, m446, by omega, by omega, by exact fa_step pre (by rw [hpl]; rfl)⟩
 refine ct_ rfl (nb b347) ?_
 refine Sr ?_
 refine C rfl (Bl (cells := [.snil, .snil, .snil]) rfl tz_38 pl_38 rfl rfl (C rfl (Sw s198 rfl ts_38 h341 rfl rfl rfl ?_)))
 intro H447 h448 k449
 have o453 := Own.keep o344 k449 no204
 have o454 := Own.keep o345 k449 no206
 have m455 := Mono.set m346 z24 k449
 refine A rfl rfl ?_
 refine rt_ ?_
 refine Fin.frzCell 0 (Own.nil H0 H447 1) h448 z24 rfl (NotId.nil _) m455 fun H456 h457 m458 k459 => ?_
 have o462 := Own.stay2 o453 (Sep.nilR _) no204 k459
 have o463 := Own.stay2 o454 (Sep.nilR _) no206 k459
 have h464 : H456 i17 = some (.row 0 ([.sl 0 ([]), .snil, .snil])) := h457
 refine Fin.frzCell 1 (Own.nil H0 H456 1) h464 z24 rfl (NotId.nil _) m458 fun H465 h466 m467 k468 => ?_
 have o471 := Own.stay2 o462 (Sep.nilR _) no204 k468
 have o472 := Own.stay2 o463 (Sep.nilR _) no206 k468
 have h473 : H465 i17 = some (.row 0 ([.sl 0 ([]), .sl 0 ([]), .snil])) := h466
 refine Fin.frzCell 2 (Own.nil H0 H465 1) h473 z24 rfl (NotId.nil _) m467 fun H474 h475 m476 k477 => ?_
 have o480 := Own.stay2 o471 (Sep.nilR _) no204 k477
 have o481 := Own.stay2 o472 (Sep.nilR _) no206 k477
 have h482 : H474 i17 = some (.row 0 ([.sl 0 ([]), .sl 0 ([]), .sl 0 ([])])) := h475
 refine Rr (Res.list rfl rfl (.cell (v := .agg [.sl 0 ([]), .sl 0 ([]), .sl 0 ([])]) s198 ty_38 h482 rfl (.tmp rfl (.nil)))) ?_ m476
 exact congrArg AV.tup (lc (congrArg AV.agg (lc (congrArg (fun l : List VT => AV.sl l.length (l.flatMap eV)) (show ([] : List VT) = (((diceR p cage id s texs).1).Verts) from by first | (exfalso; omega) | rw [dice_bad h0 hi0 (by omega) (show plT s texs (vtxD p cage id s (at_ (weaveR (R_rate_Sides p.aP s.Unit)).1 i)) = none by unfold plT vtxD; rw [if_pos ⟨by omega, by omega⟩, if_neg (ff b347)])])) (lc (congrArg (fun l : List KeyT => AV.sl l.length (l.flatMap eKey)) (show ([] : List KeyT) = (((diceR p cage id s texs).1).Keys) from by first | (exfalso; omega) | rw [dice_bad h0 hi0 (by omega) (show plT s texs (vtxD p cage id s (at_ (weaveR (R_rate_Sides p.aP s.Unit)).1 i)) = none by unfold plT vtxD; rw [if_pos ⟨by omega, by omega⟩, if_neg (ff b347)])])) (lc (congrArg (fun l : List I3T => AV.sl l.length (l.flatMap eI3)) (show ([] : List I3T) = (((diceR p cage id s texs).1).Tris) from by first | (exfalso; omega) | rw [dice_bad h0 hi0 (by omega) (show plT s texs (vtxD p cage id s (at_ (weaveR (R_rate_Sides p.aP s.Unit)).1 i)) = none by unfold plT vtxD; rw [if_pos ⟨by omega, by omega⟩, if_neg (ff b347)])])) rfl)))) (lc (congrArg (AV.int .i64) (show (11 : Int) = (diceR p cage id s texs).2 from by first | (exfalso; omega) | rw [dice_bad h0 hi0 (by omega) (show plT s texs (vtxD p cage id s (at_ (weaveR (R_rate_Sides p.aP s.Unit)).1 i)) = none by unfold plT vtxD; rw [if_pos ⟨by omega, by omega⟩, if_neg (ff b347)])])) rfl))
 refine cf_ rfl (decide_eq_false b338) ?_
 refine AWP.skip ?_
 refine AWP.seq ?_
 have hpl : plT s texs (vtxD p cage id s (at_ (weaveR (R_rate_Sides p.aP s.Unit)).1 i)) = some ((Yref15_Dice_0 p cage id s i).atF) := by unfold plT vtxD; rw [if_neg (by omega)] <;> rfl
 have hq1 : (((weaveR (R_rate_Sides p.aP s.Unit)).1.take i.toNat).map (fD p cage id s texs)).length ≤ 400 := by simp only [List.length_map, List.length_take]; omega
 have hq2 : (((weaveR (R_rate_Sides p.aP s.Unit)).1.take i.toNat).map (kD p cage id s)).length ≤ 400 := by simp only [List.length_map, List.length_take]; omega
 refine AWP.region rfl ?_
 refine C rfl (Fa rfl s201 fl_38_0 ?_ (hid := ⟨_, h333⟩))
 refine C rfl (Ld _ rfl rfl ty_34 h333 rfl (C rfl (Ld _ rfl rfl ty_23 h334 rfl (C rfl (AOp.buildSlice (cells := [J (((Yref15_Dice_0 p cage id s i).atF).X), J (((Yref15_Dice_0 p cage id s i).atF).Y), J (((Yref15_Dice_0 p cage id s i).atF).Z)]) rfl u_34 ts_23 tz_23 rfl rfl rfl ?_)))))
 intro i483 H484 n485 h486 k487
 have h492 := keep k487 (ne_new h332 n485) h332
 have h493 := keep k487 (ne_new h333 n485) h333
 have h494 := keep k487 (ne_new h334 n485) h334
 have o495 := Own.keep o335 k487 (Own.notnew o335 n485)
 have o497 := Own.keep o336 k487 (Own.notnew o336 n485)
 have m499 := Mono.new m330 n485 k487
 refine C rfl (AOp.append_own (es := 3) (m := 1) (len := ((((weaveR (R_rate_Sides p.aP s.Unit)).1.take i.toNat).map (fD p cage id s texs)).length)) (old := (((weaveR (R_rate_Sides p.aP s.Unit)).1.take i.toNat).map (fD p cage id s texs)).flatMap eV) (cells := [J (((Yref15_Dice_0 p cage id s i).atF).X), J (((Yref15_Dice_0 p cage id s i).atF).Y), J (((Yref15_Dice_0 p cage id s i).atF).Z)]) rfl u_34 ts_23 tzn_23 tb_23 (by decide) ni_34 rfl o495 m499 rfl (.slm h486 rfl) (one_of rfl) (by decide) (by first | omega | (simp; omega)) ?_)
 intro v500 H501 o502 m503 k504 j505
 have o506 := Own.snocM (xs := ((((weaveR (R_rate_Sides p.aP s.Unit)).1.take i.toNat).map (fD p cage id s texs)) : List VT)) (y := ((Yref15_Dice_0 p cage id s i).atF)) (e := eV) (by simp) o502
 have h507 := (k504 _ no204 (by rw [h492]; simp)).trans h492
 have no508 := j505 _ no204 (by rw [h492]; simp)
 have h509 := (k504 _ no205 (by rw [h493]; simp)).trans h493
 have no510 := j505 _ no205 (by rw [h493]; simp)
 have h511 := (k504 _ no227 (by rw [h494]; simp)).trans h494
 have no512 := j505 _ no227 (by rw [h494]; simp)
 have sp514 := Own.sep o497 (Sep.symm sp208) j505
 have o513 := Own.stay o497 (Sep.symm sp208) k504
 refine C rfl (Fa rfl s201 fl_38_0 ?_ (hid := ⟨_, h509⟩))
 refine C rfl (AOp.storeO (cells' := [v500, w17_1, .sl ((weaveR (R_rate_Sides p.aP s.Unit)).2.1).length (((weaveR (R_rate_Sides p.aP s.Unit)).2.1).flatMap eI3)]) rfl rfl o506 ts_34 h509 rfl rfl ?_)
 intro H515 h516 k517
 have h518 := keep k517 e179 h507
 have h520 := keep k517 (Ne.symm e225) h511
 have o521 := Own.keep o513 k517 no207
 have o522 := Own.keep o506 k517 no510
 have m523 := Mono.set m503 z180 k517
 refine AWP.region rfl ?_
 refine C rfl (Fa rfl s201 fl_38_1 ?_ (hid := ⟨_, h516⟩))
 refine C rfl (Ld _ rfl rfl ty_35 h516 rfl (L rfl rfl ty_58 rfl (C rfl (AOp.buildSlice (cells := [J (((Yref15_Dice_0 p cage id s i).key).Kind), J (((Yref15_Dice_0 p cage id s i).key).Of), J (((Yref15_Dice_0 p cage id s i).key).A), J (((Yref15_Dice_0 p cage id s i).key).B), J (((Yref15_Dice_0 p cage id s i).key).N)]) rfl u_35 ts_58 tz_58 rfl rfl rfl ?_))))
 intro i524 H525 n526 h527 k528
 have h533 := keep k528 (ne_new h518 n526) h518
 have h534 := keep k528 (ne_new h520 n526) h520
 have h535 := keep k528 (ne_new h516 n526) h516
 have o536 := Own.keep o521 k528 (Own.notnew o521 n526)
 have o538 := Own.keep o522 k528 (Own.notnew o522 n526)
 have m540 := Mono.new m523 n526 k528
 refine C rfl (AOp.append_own (es := 5) (m := 1) (len := ((((weaveR (R_rate_Sides p.aP s.Unit)).1.take i.toNat).map (kD p cage id s)).length)) (old := (((weaveR (R_rate_Sides p.aP s.Unit)).1.take i.toNat).map (kD p cage id s)).flatMap eKey) (cells := [J (((Yref15_Dice_0 p cage id s i).key).Kind), J (((Yref15_Dice_0 p cage id s i).key).Of), J (((Yref15_Dice_0 p cage id s i).key).A), J (((Yref15_Dice_0 p cage id s i).key).B), J (((Yref15_Dice_0 p cage id s i).key).N)]) rfl u_35 ts_58 tzn_58 tb_58 (by decide) ni_35 rfl o536 m540 rfl (.slm h527 rfl) (one_of rfl) (by decide) (by first | omega | (simp; omega)) ?_)
 intro v541 H542 o543 m544 k545 j546
 have o547 := Own.snocM (xs := ((((weaveR (R_rate_Sides p.aP s.Unit)).1.take i.toNat).map (kD p cage id s)) : List KeyT)) (y := ((Yref15_Dice_0 p cage id s i).key)) (e := eKey) (by simp) o543
 have h548 := (k545 _ no206 (by rw [h533]; simp)).trans h533
 have no549 := j546 _ no206 (by rw [h533]; simp)
 have no551 := j546 _ no228 (by rw [h534]; simp)
 have h552 := (k545 _ no207 (by rw [h535]; simp)).trans h535
 have no553 := j546 _ no207 (by rw [h535]; simp)
 have sp555 := Own.sep o538 (Sep.symm sp514) j546
 have o554 := Own.stay o538 (Sep.symm sp514) k545
 refine C rfl (Fa rfl s201 fl_38_1 ?_ (hid := ⟨_, h552⟩))
 refine C rfl (AOp.storeO (cells' := [v500, v541, .sl ((weaveR (R_rate_Sides p.aP s.Unit)).2.1).length (((weaveR (R_rate_Sides p.aP s.Unit)).2.1).flatMap eI3)]) rfl rfl o547 ts_35 h552 rfl rfl ?_)
 intro H556 h557 k558
 have h559 := keep k558 e179 h548
 have o562 := Own.keep o554 k558 no510
 have o563 := Own.keep o547 k558 no553
 have m564 := Mono.set m544 z180 k558
 refine AWP.region rfl ?_
 refine V rfl s192 (B rfl rfl rfl (iadd (by omega)) (A rfl rfl ?_))
 refine AOps.nil ?_
 exact ⟨_, by omega, i + 1, v500, v541, rfl, rfl, s193, s194, s195, s196, s197, s198, s199, s200, s201, (have hx : (((((weaveR (R_rate_Sides p.aP s.Unit)).1.take i.toNat).map (fD p cage id s texs)) ++ [((Yref15_Dice_0 p cage id s i).atF)]) : List VT) = ((weaveR (R_rate_Sides p.aP s.Unit)).1.take (i + 1).toNat).map (fD p cage id s texs) := (by exact map_step hi0 (by omega) (fD_of hpl)); Own.re o562 (congrArg List.length hx) (congrArg (fun l : List VT => l.flatMap eV) hx)), (have hx : (((((weaveR (R_rate_Sides p.aP s.Unit)).1.take i.toNat).map (kD p cage id s)) ++ [((Yref15_Dice_0 p cage id s i).key)]) : List KeyT) = ((weaveR (R_rate_Sides p.aP s.Unit)).1.take (i + 1).toNat).map (kD p cage id s) := (by exact map_step hi0 (by omega) rfl); Own.re o563 (congrArg List.length hx) (congrArg (fun l : List KeyT => l.flatMap eKey) hx)), no508, no510, no549, no553, sp555, h559, h557, m564, by omega, by omega, by exact fa_step pre (by rw [hpl]; rfl)⟩
 refine N rfl rfl (decide_eq_false b337) (N rfl rfl (decide_eq_false b337) (N rfl rfl (decide_eq_false b337) (C rfl (Pf _ rfl rfl (decide_eq_false b337) rfl ?_))))
 refine cf_ rfl rfl ?_
 refine AWP.skip ?_
 refine AWP.seq ?_
 have hpl : plT s texs (vtxD p cage id s (at_ (weaveR (R_rate_Sides p.aP s.Unit)).1 i)) = some ((Yref15_Dice_0 p cage id s i).atF) := by unfold plT vtxD; rw [if_neg (by omega)] <;> rfl
 have hq1 : (((weaveR (R_rate_Sides p.aP s.Unit)).1.take i.toNat).map (fD p cage id s texs)).length ≤ 400 := by simp only [List.length_map, List.length_take]; omega
 have hq2 : (((weaveR (R_rate_Sides p.aP s.Unit)).1.take i.toNat).map (kD p cage id s)).length ≤ 400 := by simp only [List.length_map, List.length_take]; omega
 refine AWP.region rfl ?_
 refine C rfl (Fa rfl s201 fl_38_0 ?_ (hid := ⟨_, h333⟩))
 refine C rfl (Ld _ rfl rfl ty_34 h333 rfl (C rfl (Ld _ rfl rfl ty_23 h334 rfl (C rfl (AOp.buildSlice (cells := [J (((Yref15_Dice_0 p cage id s i).atF).X), J (((Yref15_Dice_0 p cage id s i).atF).Y), J (((Yref15_Dice_0 p cage id s i).atF).Z)]) rfl u_34 ts_23 tz_23 rfl rfl rfl ?_)))))
 intro i565 H566 n567 h568 k569
 have h574 := keep k569 (ne_new h332 n567) h332
 have h575 := keep k569 (ne_new h333 n567) h333
 have h576 := keep k569 (ne_new h334 n567) h334
 have o577 := Own.keep o335 k569 (Own.notnew o335 n567)
 have o579 := Own.keep o336 k569 (Own.notnew o336 n567)
 have m581 := Mono.new m330 n567 k569
 refine C rfl (AOp.append_own (es := 3) (m := 1) (len := ((((weaveR (R_rate_Sides p.aP s.Unit)).1.take i.toNat).map (fD p cage id s texs)).length)) (old := (((weaveR (R_rate_Sides p.aP s.Unit)).1.take i.toNat).map (fD p cage id s texs)).flatMap eV) (cells := [J (((Yref15_Dice_0 p cage id s i).atF).X), J (((Yref15_Dice_0 p cage id s i).atF).Y), J (((Yref15_Dice_0 p cage id s i).atF).Z)]) rfl u_34 ts_23 tzn_23 tb_23 (by decide) ni_34 rfl o577 m581 rfl (.slm h568 rfl) (one_of rfl) (by decide) (by first | omega | (simp; omega)) ?_)
 intro v582 H583 o584 m585 k586 j587
 have o588 := Own.snocM (xs := ((((weaveR (R_rate_Sides p.aP s.Unit)).1.take i.toNat).map (fD p cage id s texs)) : List VT)) (y := ((Yref15_Dice_0 p cage id s i).atF)) (e := eV) (by simp) o584
 have h589 := (k586 _ no204 (by rw [h574]; simp)).trans h574
 have no590 := j587 _ no204 (by rw [h574]; simp)
 have h591 := (k586 _ no205 (by rw [h575]; simp)).trans h575
 have no592 := j587 _ no205 (by rw [h575]; simp)
 have h593 := (k586 _ no227 (by rw [h576]; simp)).trans h576
 have no594 := j587 _ no227 (by rw [h576]; simp)
 have sp596 := Own.sep o579 (Sep.symm sp208) j587
 have o595 := Own.stay o579 (Sep.symm sp208) k586
 refine C rfl (Fa rfl s201 fl_38_0 ?_ (hid := ⟨_, h591⟩))
 refine C rfl (AOp.storeO (cells' := [v582, w17_1, .sl ((weaveR (R_rate_Sides p.aP s.Unit)).2.1).length (((weaveR (R_rate_Sides p.aP s.Unit)).2.1).flatMap eI3)]) rfl rfl o588 ts_34 h591 rfl rfl ?_)
 intro H597 h598 k599
 have h600 := keep k599 e179 h589
 have h602 := keep k599 (Ne.symm e225) h593
 have o603 := Own.keep o595 k599 no207
 have o604 := Own.keep o588 k599 no592
 have m605 := Mono.set m585 z180 k599
 refine AWP.region rfl ?_
 refine C rfl (Fa rfl s201 fl_38_1 ?_ (hid := ⟨_, h598⟩))
 refine C rfl (Ld _ rfl rfl ty_35 h598 rfl (L rfl rfl ty_58 rfl (C rfl (AOp.buildSlice (cells := [J (((Yref15_Dice_0 p cage id s i).key).Kind), J (((Yref15_Dice_0 p cage id s i).key).Of), J (((Yref15_Dice_0 p cage id s i).key).A), J (((Yref15_Dice_0 p cage id s i).key).B), J (((Yref15_Dice_0 p cage id s i).key).N)]) rfl u_35 ts_58 tz_58 rfl rfl rfl ?_))))
 intro i606 H607 n608 h609 k610
 have h615 := keep k610 (ne_new h600 n608) h600
 have h616 := keep k610 (ne_new h602 n608) h602
 have h617 := keep k610 (ne_new h598 n608) h598
 have o618 := Own.keep o603 k610 (Own.notnew o603 n608)
 have o620 := Own.keep o604 k610 (Own.notnew o604 n608)
 have m622 := Mono.new m605 n608 k610
 refine C rfl (AOp.append_own (es := 5) (m := 1) (len := ((((weaveR (R_rate_Sides p.aP s.Unit)).1.take i.toNat).map (kD p cage id s)).length)) (old := (((weaveR (R_rate_Sides p.aP s.Unit)).1.take i.toNat).map (kD p cage id s)).flatMap eKey) (cells := [J (((Yref15_Dice_0 p cage id s i).key).Kind), J (((Yref15_Dice_0 p cage id s i).key).Of), J (((Yref15_Dice_0 p cage id s i).key).A), J (((Yref15_Dice_0 p cage id s i).key).B), J (((Yref15_Dice_0 p cage id s i).key).N)]) rfl u_35 ts_58 tzn_58 tb_58 (by decide) ni_35 rfl o618 m622 rfl (.slm h609 rfl) (one_of rfl) (by decide) (by first | omega | (simp; omega)) ?_)
 intro v623 H624 o625 m626 k627 j628
 have o629 := Own.snocM (xs := ((((weaveR (R_rate_Sides p.aP s.Unit)).1.take i.toNat).map (kD p cage id s)) : List KeyT)) (y := ((Yref15_Dice_0 p cage id s i).key)) (e := eKey) (by simp) o625
 have h630 := (k627 _ no206 (by rw [h615]; simp)).trans h615
 have no631 := j628 _ no206 (by rw [h615]; simp)
 have no633 := j628 _ no228 (by rw [h616]; simp)
 have h634 := (k627 _ no207 (by rw [h617]; simp)).trans h617
 have no635 := j628 _ no207 (by rw [h617]; simp)
 have sp637 := Own.sep o620 (Sep.symm sp596) j628
 have o636 := Own.stay o620 (Sep.symm sp596) k627
 refine C rfl (Fa rfl s201 fl_38_1 ?_ (hid := ⟨_, h634⟩))
 refine C rfl (AOp.storeO (cells' := [v582, v623, .sl ((weaveR (R_rate_Sides p.aP s.Unit)).2.1).length (((weaveR (R_rate_Sides p.aP s.Unit)).2.1).flatMap eI3)]) rfl rfl o629 ts_35 h634 rfl rfl ?_)
 intro H638 h639 k640
 have h641 := keep k640 e179 h630
 have o644 := Own.keep o636 k640 no592
 have o645 := Own.keep o629 k640 no635
 have m646 := Mono.set m626 z180 k640
 refine AWP.region rfl ?_
 refine V rfl s192 (B rfl rfl rfl (iadd (by omega)) (A rfl rfl ?_))
 refine AOps.nil ?_
 exact ⟨_, by omega, i + 1, v582, v623, rfl, rfl, s193, s194, s195, s196, s197, s198, s199, s200, s201, (have hx : (((((weaveR (R_rate_Sides p.aP s.Unit)).1.take i.toNat).map (fD p cage id s texs)) ++ [((Yref15_Dice_0 p cage id s i).atF)]) : List VT) = ((weaveR (R_rate_Sides p.aP s.Unit)).1.take (i + 1).toNat).map (fD p cage id s texs) := (by exact map_step hi0 (by omega) (fD_of hpl)); Own.re o644 (congrArg List.length hx) (congrArg (fun l : List VT => l.flatMap eV) hx)), (have hx : (((((weaveR (R_rate_Sides p.aP s.Unit)).1.take i.toNat).map (kD p cage id s)) ++ [((Yref15_Dice_0 p cage id s i).key)]) : List KeyT) = ((weaveR (R_rate_Sides p.aP s.Unit)).1.take (i + 1).toNat).map (kD p cage id s) := (by exact map_step hi0 (by omega) rfl); Own.re o645 (congrArg List.length hx) (congrArg (fun l : List KeyT => l.flatMap eKey) hx)), no590, no592, no631, no635, sp637, h641, h639, m646, by omega, by omega, by exact fa_step pre (by rw [hpl]; rfl)⟩
 refine cf_ rfl (decide_eq_false b212) ?_
 refine AWP.exit ?_
 change AWP _ _ _ _ _ _
 refine Sr ?_
 refine C rfl (Ld _ rfl s201 ty_38 h210 rfl (C rfl (So (cells' := [w17_0, w17_1, .sl ((weaveR (R_rate_Sides p.aP s.Unit)).2.1).length (((weaveR (R_rate_Sides p.aP s.Unit)).2.1).flatMap eI3)]) (.agg [w17_0, w17_1, .sl ((weaveR (R_rate_Sides p.aP s.Unit)).2.1).length (((weaveR (R_rate_Sides p.aP s.Unit)).2.1).flatMap eI3)]) s198 rfl ts_38 h209 (by simp only [AV.cells, List.all_cons, List.all_nil, Own.one_ o202, Own.one_ o203]; rfl) rfl rfl rfl ?_)))
 intro H647 h648 k649
 have o652 := Own.keep o202 k649 no204
 have o653 := Own.keep o203 k649 no206
 have m654 := Mono.set m211 z24 k649
 refine A rfl rfl ?_
 refine rt_ ?_
 refine Fin.frzCell 0 o652 h648 z24 rfl no204 m654 fun H655 h656 m657 k658 => ?_
 have o660 := Own.stay2 o653 (Sep.symm sp208) no206 k658
 have h661 : H655 i17 = some (.row 0 ([.sl (((weaveR (R_rate_Sides p.aP s.Unit)).1.take i.toNat).map (fD p cage id s texs)).length ((((weaveR (R_rate_Sides p.aP s.Unit)).1.take i.toNat).map (fD p cage id s texs)).flatMap eV), w17_1, .sl ((weaveR (R_rate_Sides p.aP s.Unit)).2.1).length (((weaveR (R_rate_Sides p.aP s.Unit)).2.1).flatMap eI3)])) := h656
 refine Fin.frzCell 1 o660 h661 z24 rfl no206 m657 fun H662 h663 m664 k665 => ?_
 have h667 : H662 i17 = some (.row 0 ([.sl (((weaveR (R_rate_Sides p.aP s.Unit)).1.take i.toNat).map (fD p cage id s texs)).length ((((weaveR (R_rate_Sides p.aP s.Unit)).1.take i.toNat).map (fD p cage id s texs)).flatMap eV), .sl (((weaveR (R_rate_Sides p.aP s.Unit)).1.take i.toNat).map (kD p cage id s)).length ((((weaveR (R_rate_Sides p.aP s.Unit)).1.take i.toNat).map (kD p cage id s)).flatMap eKey), .sl ((weaveR (R_rate_Sides p.aP s.Unit)).2.1).length (((weaveR (R_rate_Sides p.aP s.Unit)).2.1).flatMap eI3)])) := h663
 refine Rr (Res.list rfl rfl (.cell (v := .agg [.sl (((weaveR (R_rate_Sides p.aP s.Unit)).1.take i.toNat).map (fD p cage id s texs)).length ((((weaveR (R_rate_Sides p.aP s.Unit)).1.take i.toNat).map (fD p cage id s texs)).flatMap eV), .sl (((weaveR (R_rate_Sides p.aP s.Unit)).1.take i.toNat).map (kD p cage id s)).length ((((weaveR (R_rate_Sides p.aP s.Unit)).1.take i.toNat).map (kD p cage id s)).flatMap eKey), .sl ((weaveR (R_rate_Sides p.aP s.Unit)).2.1).length (((weaveR (R_rate_Sides p.aP s.Unit)).2.1).flatMap eI3)]) s198 ty_38 h667 rfl (.tmp rfl (.nil)))) ?_ m664
 exact congrArg AV.tup (lc (congrArg AV.agg (lc (congrArg (fun l : List VT => AV.sl l.length (l.flatMap eV)) (show ((((weaveR (R_rate_Sides p.aP s.Unit)).1.take i.toNat).map (fD p cage id s texs)) : List VT) = (((diceR p cage id s texs).1).Verts) from by first | (exfalso; omega) | rw [dice_ok h0 (by omega) pre])) (lc (congrArg (fun l : List KeyT => AV.sl l.length (l.flatMap eKey)) (show ((((weaveR (R_rate_Sides p.aP s.Unit)).1.take i.toNat).map (kD p cage id s)) : List KeyT) = (((diceR p cage id s texs).1).Keys) from by first | (exfalso; omega) | rw [dice_ok h0 (by omega) pre])) (lc (congrArg (fun l : List I3T => AV.sl l.length (l.flatMap eI3)) (show ((weaveR (R_rate_Sides p.aP s.Unit)).2.1 : List I3T) = (((diceR p cage id s texs).1).Tris) from by first | (exfalso; omega) | rw [dice_ok h0 (by omega) pre])) rfl)))) (lc (congrArg (AV.int .i64) (show (0 : Int) = (diceR p cage id s texs).2 from by first | (exfalso; omega) | rw [dice_ok h0 (by omega) pre])) rfl))
 refine ct_ rfl (nb (decide_eq_false b146)) ?_
 refine Sr ?_
 refine C rfl (Bl (cells := [.snil, .snil, .snil]) rfl tz_38 pl_38 rfl rfl (V rfl rfl (C rfl (Sw rfl rfl ts_38 h144 rfl rfl rfl ?_))))
 intro H668 h669 k670
 have m672 := Mono.set m145 z24 k670
 refine A rfl rfl ?_
 refine rt_ ?_
 refine Fin.frzCell 0 (Own.nil H0 H668 1) h669 z24 rfl (NotId.nil _) m672 fun H673 h674 m675 k676 => ?_
 have h677 : H673 i17 = some (.row 0 ([.sl 0 ([]), .snil, .snil])) := h674
 refine Fin.frzCell 1 (Own.nil H0 H673 1) h677 z24 rfl (NotId.nil _) m675 fun H678 h679 m680 k681 => ?_
 have h682 : H678 i17 = some (.row 0 ([.sl 0 ([]), .sl 0 ([]), .snil])) := h679
 refine Fin.frzCell 2 (Own.nil H0 H678 1) h682 z24 rfl (NotId.nil _) m680 fun H683 h684 m685 k686 => ?_
 have h687 : H683 i17 = some (.row 0 ([.sl 0 ([]), .sl 0 ([]), .sl 0 ([])])) := h684
 refine Rr (Res.list rfl rfl (.cell (v := .agg [.sl 0 ([]), .sl 0 ([]), .sl 0 ([])]) rfl ty_38 h687 rfl (.tmp rfl (.nil)))) ?_ m685
 exact congrArg AV.tup (lc (congrArg AV.agg (lc (congrArg (fun l : List VT => AV.sl l.length (l.flatMap eV)) (show ([] : List VT) = (((diceR p cage id s texs).1).Verts) from by first | (exfalso; omega) | (rw [dice_err (e := R_mesh_fine p s) (by unfold errD; split <;> omega) (by omega)] <;> rfl))) (lc (congrArg (fun l : List KeyT => AV.sl l.length (l.flatMap eKey)) (show ([] : List KeyT) = (((diceR p cage id s texs).1).Keys) from by first | (exfalso; omega) | (rw [dice_err (e := R_mesh_fine p s) (by unfold errD; split <;> omega) (by omega)] <;> rfl))) (lc (congrArg (fun l : List I3T => AV.sl l.length (l.flatMap eI3)) (show ([] : List I3T) = (((diceR p cage id s texs).1).Tris) from by first | (exfalso; omega) | (rw [dice_err (e := R_mesh_fine p s) (by unfold errD; split <;> omega) (by omega)] <;> rfl))) rfl)))) (lc (congrArg (AV.int .i64) (show (R_mesh_fine p s : Int) = (diceR p cage id s texs).2 from by first | (exfalso; omega) | (rw [dice_err (e := R_mesh_fine p s) (by unfold errD; split <;> omega) (by omega)] <;> rfl))) rfl))
end Go.Proofs.M
namespace Go.Proofs.M
open Go Go.AH
set_option maxRecDepth 4000
set_option linter.unusedSimpArgs false
set_option linter.unusedVariables false
set_option maxHeartbeats 4000000
abbrev ZMeshDices_0 (p : PatchT) (cage : Int) (id : Int) (s : SkinT) (texs : List TexT) := (R_mesh_Tri ((diceR p cage id s texs).1) id).1
theorem c_MeshDices (p : PatchT) (cage id : Int) (s : SkinT) (texs : List TexT) (htl : texs.length ≤ 1048576) (htx : ∀ t ∈ texs, t.Rows.length ≤ 1048576) (hpc : ∀ c ∈ p.aCorners, inR c) (hca : inR cage) (hid : inR id) : PC Tryd.prog 3 [.agg (p.aP.flatMap eV ++ (p.aCorners.map eI ++ (p.aNormals.flatMap eV ++ [J p.Skin]))), J cage, J id, .agg [.str s.Name, J s.Mat, J s.Levels, J s.Unit, J s.Tex, J s.Height], .sl texs.length (texs.flatMap eTex)] (.bool true) := by
 intro H0
 refine ACalls.of_body' (n := 97) rfl rfl rfl rfl ?_
 have m0 := Mono.refl H0
 refine Sr ?_
 refine C rfl (bx_ (.agg (p.aP.flatMap eV ++ (p.aCorners.map eI ++ (p.aNormals.flatMap eV ++ [J p.Skin])))) rfl rfl rfl ?_)
 intro i1 H2 n3 h4 k5
 have z6 := Mono.free m0 n3
 have m7 := Mono.new m0 n3 k5
 refine C rfl (bx_ (.agg [.str s.Name, J s.Mat, J s.Levels, J s.Unit, J s.Tex, J s.Height]) rfl rfl rfl ?_)
 intro i8 H9 n10 h11 k12
 have e13 := ne_new h4 n10
 have z14 := Mono.free m7 n10
 have h15 := keep k12 (ne_new h4 n10) h4
 have m16 := Mono.new m7 n10 k12
 refine A rfl rfl ?_
 refine AWP.seq ?_
 refine AWP.seq ?_
 refine fz_ 5 h15 z6 rfl m16 fun H17 m18 k19 => ?_
 have h20 := (k19 _ (Ne.symm e13)).trans h11
 refine fz_ 8 h20 z14 rfl m18 fun H21 m22 k23 => ?_
 refine AWP.region rfl ?_
 refine C rfl (Pc («as» := []) rfl rfl (rfl) tf_9 (c_alive) ?_)
 intro H24 m25
 have m26 := m22.trans m25
 refine C rfl (AOp.not rfl rfl ?_)
 refine cf_ rfl rfl ?_
 refine AWP.skip ?_
 refine AWP.seq ?_
 refine Sr ?_
 refine V rfl rfl (C rfl (Pc («as» := [.sl texs.length (texs.flatMap eTex)]) rfl rfl (rfl) tf_10 (c_long texs (by first | assumption | omega) (by assumption)) ?_))
 intro H27 m28
 have m29 := m26.trans m28
 refine AOps.nil ?_
 change AWP _ _ _ _ _ _
 rcases Bool.eq_false_or_eq_true (longS texs) with b30 | b30
 refine ct_ rfl b30 ?_
 refine Sr ?_
 refine A rfl rfl ?_
 refine rt_ ?_
 refine Rr (Res.one rfl rfl) ?_ m29
 exact rfl
 refine cf_ rfl b30 ?_
 refine AWP.skip ?_
 refine Sr ?_
 refine L rfl rfl ty_28 (ld_all (len_app (m := 48) (n := 17) (k := 65) (lenM eV_len p.lP rfl) (len_app (m := 4) (n := 13) (k := 17) (len1 p.lCorners) (len_app (m := 12) (n := 1) (k := 13) (lenM eV_len p.lNormals rfl) rfl rfl) rfl) rfl)) (V rfl rfl (V rfl rfl (L rfl rfl ty_30 rfl (V rfl rfl (C rfl (Pc («as» := [.agg (p.aP.flatMap eV ++ (p.aCorners.map eI ++ (p.aNormals.flatMap eV ++ [J p.Skin]))), J cage, J id, .agg [.str s.Name, J s.Mat, J s.Levels, J s.Unit, J s.Tex, J s.Height], .sl texs.length (texs.flatMap eTex)]) rfl rfl (rfl) tf_11 (c_mesh_Dice p cage id s texs (by first | assumption | simp) (by first | assumption | simp)) ?_))))))
 intro H31 m32
 have m33 := m29.trans m32
 refine V rfl rfl (E rfl rfl rfl (E rfl rfl rfl (C rfl (al_ rfl tz_38 ?_))))
 intro i34 H35 n36 h37 k38
 have z39 := Mono.free m33 n36
 have m40 := Mono.new m33 n36 k38
 refine C rfl (Sw rfl rfl ts_38 h37 rfl rfl rfl ?_)
 intro H41 h42 k43
 have m45 := Mono.set m40 z39 k43
 refine A rfl rfl ?_
 refine AWP.seq ?_
 refine fz_ 11 h42 z39 rfl m45 fun H46 m47 k48 => ?_
 refine AWP.region rfl ?_
 refine L rfl rfl ty_28 (ld_all (len_app (m := 48) (n := 17) (k := 65) (lenM eV_len p.lP rfl) (len_app (m := 4) (n := 13) (k := 17) (len1 p.lCorners) (len_app (m := 12) (n := 1) (k := 13) (lenM eV_len p.lNormals rfl) rfl rfl) rfl) rfl)) (V rfl rfl (V rfl rfl (L rfl rfl ty_30 rfl (V rfl rfl (C rfl (Pc («as» := [.agg (p.aP.flatMap eV ++ (p.aCorners.map eI ++ (p.aNormals.flatMap eV ++ [J p.Skin]))), J cage, J id, .agg [.str s.Name, J s.Mat, J s.Levels, J s.Unit, J s.Tex, J s.Height], .sl texs.length (texs.flatMap eTex)]) rfl rfl (rfl) tf_12 (c_ref15_Dice p cage id s texs (by first | assumption | simp) (by first | assumption | simp)) ?_))))))
 intro H49 m50
 have m51 := m47.trans m50
 refine V rfl rfl (E rfl rfl rfl (E rfl rfl rfl (C rfl (al_ rfl tz_38 ?_))))
 intro i52 H53 n54 h55 k56
 have z57 := Mono.free m51 n54
 have m58 := Mono.new m51 n54 k56
 refine C rfl (Sw rfl rfl ts_38 h55 rfl rfl rfl ?_)
 intro H59 h60 k61
 have m63 := Mono.set m58 z57 k61
 refine A rfl rfl ?_
 refine AWP.seq ?_
 refine fz_ 13 h60 z57 rfl m63 fun H64 m65 k66 => ?_
 refine AWP.region rfl ?_
 refine L rfl rfl ty_28 (ld_all (len_app (m := 48) (n := 17) (k := 65) (lenM eV_len p.lP rfl) (len_app (m := 4) (n := 13) (k := 17) (len1 p.lCorners) (len_app (m := 12) (n := 1) (k := 13) (lenM eV_len p.lNormals rfl) rfl rfl) rfl) rfl)) (L rfl rfl ty_30 rfl (C rfl (Pc («as» := [.agg (p.aP.flatMap eV ++ (p.aCorners.map eI ++ (p.aNormals.flatMap eV ++ [J p.Skin]))), .agg [.str s.Name, J s.Mat, J s.Levels, J s.Unit, J s.Tex, J s.Height]]) rfl rfl (rfl) tf_13 (c_mesh_Bounds p s) ?_)))
 intro H67 m68
 have m69 := m65.trans m68
 refine V rfl rfl (E rfl rfl rfl (E rfl rfl rfl (C rfl (al_ rfl tz_43 ?_))))
 intro i70 H71 n72 h73 k74
 have z75 := Mono.free m69 n72
 have m76 := Mono.new m69 n72 k74
 refine C rfl (Sw rfl rfl ts_43 h73 rfl rfl rfl ?_)
 intro H77 h78 k79
 have m81 := Mono.set m76 z75 k79
 refine A rfl rfl ?_
 refine AWP.seq ?_
 refine fz_ 15 h78 z75 rfl m81 fun H82 m83 k84 => ?_
 refine AWP.region rfl ?_
 refine L rfl rfl ty_28 (ld_all (len_app (m := 48) (n := 17) (k := 65) (lenM eV_len p.lP rfl) (len_app (m := 4) (n := 13) (k := 17) (len1 p.lCorners) (len_app (m := 12) (n := 1) (k := 13) (lenM eV_len p.lNormals rfl) rfl rfl) rfl) rfl)) (L rfl rfl ty_30 rfl (C rfl (Pc («as» := [.agg (p.aP.flatMap eV ++ (p.aCorners.map eI ++ (p.aNormals.flatMap eV ++ [J p.Skin]))), .agg [.str s.Name, J s.Mat, J s.Levels, J s.Unit, J s.Tex, J s.Height]]) rfl rfl (rfl) tf_14 ((by have hz := c_ref15_Bounds p s; rw [bounds_same] at hz; exact hz)) ?_)))
 intro H85 m86
 have m87 := m83.trans m86
 refine V rfl rfl (E rfl rfl rfl (E rfl rfl rfl (C rfl (al_ rfl tz_43 ?_))))
 intro i88 H89 n90 h91 k92
 have z93 := Mono.free m87 n90
 have m94 := Mono.new m87 n90 k92
 refine C rfl (Sw rfl rfl ts_43 h91 rfl rfl rfl ?_)
 intro H95 h96 k97
 have m99 := Mono.set m94 z93 k97
 refine A rfl rfl ?_
 refine AWP.seq ?_
 refine fz_ 17 h96 z93 rfl m99 fun H100 m101 k102 => ?_
 have hla := dice_len p cage id s texs
 refine AWP.region rfl ?_
 refine L rfl rfl ty_38 rfl (V rfl rfl (C rfl (Pc («as» := [.agg [.sl (((diceR p cage id s texs).1).Verts).length ((((diceR p cage id s texs).1).Verts).flatMap eV), .sl (((diceR p cage id s texs).1).Keys).length ((((diceR p cage id s texs).1).Keys).flatMap eKey), .sl (((diceR p cage id s texs).1).Tris).length ((((diceR p cage id s texs).1).Tris).flatMap eI3)], J id]) rfl rfl (rfl) tf_15 (c_mesh_Tri ((diceR p cage id s texs).1) id (by first | assumption | omega) (by first | assumption | omega)) ?_)))
 intro H103 m104
 have m105 := m101.trans m104
 refine V rfl rfl (E rfl rfl rfl (E rfl rfl rfl (C rfl (al_ rfl tz_47 ?_))))
 intro i106 H107 n108 h109 k110
 have z111 := Mono.free m105 n108
 have m112 := Mono.new m105 n108 k110
 refine C rfl (Sw rfl rfl ts_47 h109 rfl rfl rfl ?_)
 intro H113 h114 k115
 have m117 := Mono.set m112 z111 k115
 refine A rfl rfl ?_
 refine AWP.seq ?_
 refine fz_ 19 h114 z111 rfl m117 fun H118 m119 k120 => ?_
 refine AWP.region rfl ?_
 refine L rfl rfl ty_38 rfl (V rfl rfl (C rfl (Pc («as» := [.agg [.sl (((diceR p cage id s texs).1).Verts).length ((((diceR p cage id s texs).1).Verts).flatMap eV), .sl (((diceR p cage id s texs).1).Keys).length ((((diceR p cage id s texs).1).Keys).flatMap eKey), .sl (((diceR p cage id s texs).1).Tris).length ((((diceR p cage id s texs).1).Tris).flatMap eI3)], J id]) rfl rfl (rfl) tf_16 ((by have hz := c_ref15_Tri ((diceR p cage id s texs).1) id (by first | omega | assumption) (by first | omega | assumption); rw [tri_same] at hz; exact hz)) ?_)))
 intro H121 m122
 have m123 := m119.trans m122
 refine V rfl rfl (E rfl rfl rfl (E rfl rfl rfl (C rfl (al_ rfl tz_47 ?_))))
 intro i124 H125 n126 h127 k128
 have z129 := Mono.free m123 n126
 have m130 := Mono.new m123 n126 k128
 refine C rfl (Sw rfl rfl ts_47 h127 rfl rfl rfl ?_)
 intro H131 h132 k133
 have m135 := Mono.set m130 z129 k133
 refine A rfl rfl ?_
 refine AWP.seq ?_
 refine fz_ 21 h132 z129 rfl m135 fun H136 m137 k138 => ?_
 have q1 : (diceR p cage id s texs).1.Verts.length ≤ 1048576 := by omega
 have q2 : (diceR p cage id s texs).1.Keys.length ≤ 1048576 := by omega
 have q3 : (diceR p cage id s texs).1.Tris.length ≤ 1048576 := by omega
 have q6 : ranM (diceR p cage id s texs).1 := ranM_dice hca hid hpc
 refine AWP.region rfl ?_
 refine L rfl rfl ty_38 rfl (L rfl rfl ty_38 rfl (C rfl (Pc («as» := [.agg [.sl (((diceR p cage id s texs).1).Verts).length ((((diceR p cage id s texs).1).Verts).flatMap eV), .sl (((diceR p cage id s texs).1).Keys).length ((((diceR p cage id s texs).1).Keys).flatMap eKey), .sl (((diceR p cage id s texs).1).Tris).length ((((diceR p cage id s texs).1).Tris).flatMap eI3)], .agg [.sl (((diceR p cage id s texs).1).Verts).length ((((diceR p cage id s texs).1).Verts).flatMap eV), .sl (((diceR p cage id s texs).1).Keys).length ((((diceR p cage id s texs).1).Keys).flatMap eKey), .sl (((diceR p cage id s texs).1).Tris).length ((((diceR p cage id s texs).1).Tris).flatMap eI3)]]) rfl rfl (rfl) tf_17 (c_SameMesh ((diceR p cage id s texs).1) ((diceR p cage id s texs).1) (by assumption) (by assumption) (by assumption) (by assumption) (by assumption) (by assumption) (by assumption) (by assumption)) ?_)))
 intro H139 m140
 have m141 := m137.trans m140
 refine V rfl rfl (Y rfl rfl rfl (decide_eq_true (⟨rfl, rfl, rfl⟩)) (Mv _ rfl rfl (Y rfl rfl rfl (decide_eq_true (⟨rfl, rfl, rfl⟩)) (Mv _ rfl rfl (Y rfl rfl rfl (decide_eq_true (⟨rfl, rfl, rfl⟩)) (Bi _ rfl rfl rfl ieq (C rfl (Pt _ rfl rfl (decide_eq_true (⟨rfl, rfl, rfl⟩)) rfl (V rfl rfl (Y rfl rfl rfl (decide_eq_true rfl) (Lf _ rfl rfl ty_43 rfl (Y rfl rfl rfl (decide_eq_true rfl) (Lf _ rfl rfl ty_43 rfl (Y rfl rfl rfl (decide_eq_true rfl) (AOp.eqAggD rfl rfl rfl teq43 (kokB (ranB_bounds p s)) (kokB (ranB_bounds p s)) (eBox_iff ((R_mesh_Bounds p s).1) ((R_mesh_Bounds p s).1)) (C rfl (Pt _ rfl rfl (decide_eq_true rfl) rfl (V rfl rfl (Y rfl rfl rfl (decide_eq_true rfl) (Mv _ rfl rfl (Y rfl rfl rfl (decide_eq_true rfl) (Mv _ rfl rfl (Y rfl rfl rfl (decide_eq_true rfl) (Bi _ rfl rfl rfl ieq (C rfl (Pt _ rfl rfl (decide_eq_true rfl) rfl (V rfl rfl (Y rfl rfl rfl (decide_eq_true rfl) (Lf _ rfl rfl ty_47 rfl (Y rfl rfl rfl (decide_eq_true rfl) (Lf _ rfl rfl ty_47 rfl ?_)))))))))))))))))))))))))))))))
 refine Y rfl rfl rfl (decide_eq_true rfl) (AOp.eqAggD rfl rfl rfl teq47 (kokT (ranT_tri id q6.1)) (kokT (ranT_tri id q6.1)) (eTri_iff (ZMeshDices_0 p cage id s texs) (ZMeshDices_0 p cage id s texs)) (C rfl (Pt _ rfl rfl (decide_eq_true rfl) rfl (V rfl rfl (Y rfl rfl rfl (decide_eq_true rfl) (Mv _ rfl rfl (Y rfl rfl rfl (decide_eq_true rfl) (Mv _ rfl rfl (Y rfl rfl rfl (decide_eq_true rfl) (AOp.beq rfl rfl rfl u_4 (C rfl (Pt _ rfl rfl (decide_eq_true rfl) rfl (A rfl rfl ?_)))))))))))))
 refine rt_ ?_
 refine Rr (Res.one rfl rfl) ?_ m141
 exact (congrArg AV.bool (show (((R_mesh_Tri ((diceR p cage id s texs).1) id).2) == ((R_mesh_Tri ((diceR p cage id s texs).1) id).2) : Bool) = true from by first | rfl | exact beq_self_eq_true _ | omega))
end Go.Proofs.M
