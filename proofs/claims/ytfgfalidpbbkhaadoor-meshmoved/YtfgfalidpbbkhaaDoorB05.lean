/- A part of the proof that a law answers true for every input of its row: own work, by an AI agent. -/
import Derived.Test.YtfgfalidpbbkhaaDoorB04
import Derived.Test.YtfgfalidpbbkhaaDoorB01
set_option linter.unusedSimpArgs false
set_option linter.unusedVariables false
namespace Go.Proofs.M
open Go Go.AH
set_option maxRecDepth 4000
set_option linter.unusedSimpArgs false
set_option linter.unusedVariables false
set_option maxHeartbeats 4000000
theorem c_mesh_DiceO {H0 : Heap} (p : PatchT) (cage id : Int) (s : SkinT) (texs : List TexT) (htl : texs.length ≤ 1048576) (htx : ∀ t ∈ texs, t.Rows.length ≤ 1048576) : ACalls Tryd.prog 11 [.agg (p.aP.flatMap eV ++ (p.aCorners.map eI ++ (p.aNormals.flatMap eV ++ [J p.Skin]))), J cage, J id, .agg [.str s.Name, J s.Mat, J s.Levels, J s.Unit, J s.Tex, J s.Height], .sl texs.length (texs.flatMap eTex)] H0 fun r H' => ∃ v, Own H0 H' 3 v ((((diceR p cage id s texs).1).Verts)).length (((((diceR p cage id s texs).1).Verts)).flatMap eV) ∧ r = (.tup [.agg [v, .sl (((diceR p cage id s texs).1).Keys).length ((((diceR p cage id s texs).1).Keys).flatMap eKey), .sl (((diceR p cage id s texs).1).Tris).length ((((diceR p cage id s texs).1).Tris).flatMap eI3)], J ((diceR p cage id s texs).2)]) ∧ Mono H0 H' := by
 refine ACalls.of_body' (n := 125) rfl rfl rfl rfl ?_
 have m0 := Mono.refl H0
 refine AWP.seq (AWP.region rfl ?_)
 refine AOps.cons rfl rfl (AOp.box (.agg (p.aP.flatMap eV ++ (p.aCorners.map eI ++ (p.aNormals.flatMap eV ++ [J p.Skin])))) rfl rfl rfl ?_)
 intro i1 H2 n3 h4 k5
 have z6 := Mono.free m0 n3
 have m7 := Mono.new m0 n3 k5
 refine AOps.cons rfl rfl (AOp.box (.agg [.str s.Name, J s.Mat, J s.Levels, J s.Unit, J s.Tex, J s.Height]) rfl rfl rfl ?_)
 intro i8 H9 n10 h11 k12
 have e13 := ne_new h4 n10
 have z14 := Mono.free m7 n10
 have h15 := keep k12 (ne_new h4 n10) h4
 have m16 := Mono.new m7 n10 k12
 refine AOps.cons rfl rfl (AOp.alloc rfl tz_38 ?_)
 intro i17 H18 n19 h20 k21
 have e22 := ne_new h15 n19
 have e23 := ne_new h11 n19
 have z24 := Mono.free m16 n19
 have h25 := keep k21 (ne_new h15 n19) h15
 have h26 := keep k21 (ne_new h11 n19) h11
 have m27 := Mono.new m16 n19 k21
 refine AOps.cons rfl rfl (AOp.assign _ rfl rfl ?_)
 refine AWP.seq ?_
 refine AWP.frzP 5 h25 z6 rfl m27 fun H28 m29 k30 => ?_
 have h31 := (k30 _ (Ne.symm e13)).trans h26
 have h32 := (k30 _ (Ne.symm e22)).trans h20
 refine AWP.frzP 8 h31 z14 rfl m29 fun H33 m34 k35 => ?_
 have h36 := (k35 _ (Ne.symm e23)).trans h32
 refine AWP.region rfl ?_
 refine AOps.cons rfl rfl (AOp.loadF _ rfl rfl ty_28 (ld_all (len_app (m := 48) (n := 17) (k := 65) (lenM eV_len p.lP rfl) (len_app (m := 4) (n := 13) (k := 17) (len1 p.lCorners) (len_app (m := 12) (n := 1) (k := 13) (lenM eV_len p.lNormals rfl) rfl rfl) rfl) rfl)) (AOps.cons rfl rfl (AOp.loadF _ rfl rfl ty_30 rfl (AOps.cons rfl rfl (AOp.pcall («as» := [.agg (p.aP.flatMap eV ++ (p.aCorners.map eI ++ (p.aNormals.flatMap eV ++ [J p.Skin]))), .agg [.str s.Name, J s.Mat, J s.Levels, J s.Unit, J s.Tex, J s.Height]]) rfl rfl (rfl) tf_23 (c_mesh_fine p s) ?_)))))
 intro H37 m38
 have h39 := m38 _ _ h36
 have m40 := m34.trans m38
 refine AOps.cons rfl rfl (AOp.assign _ rfl rfl ?_)
 refine AWP.seq ?_
 refine AWP.seq (AWP.region rfl ?_)
 refine AOps.cons rfl rfl (AOp.move _ rfl rfl (AOps.cons rfl rfl (AOp.bin _ rfl rfl rfl ine (AOps.cons rfl rfl (AOp.move _ rfl rfl ?_)))))
 by_cases b41 : R_mesh_fine p s = 11
 refine AOps.no rfl rfl rfl rfl rfl rfl rfl (ble_of (nb (decide_eq_true b41)) (by decide)) (AOps.no rfl rfl rfl rfl rfl rfl rfl (ble_of (nb (decide_eq_true b41)) (by decide)) (AOps.no rfl rfl rfl rfl rfl rfl rfl (ble_of (nb (decide_eq_true b41)) (by decide)) (AOps.no rfl rfl rfl rfl rfl rfl rfl (ble_of (nb (decide_eq_true b41)) (by decide)) (AOps.un rfl rfl rfl rfl rfl rfl rfl (AOps.un rfl rfl rfl rfl rfl rfl rfl ?_)))))
 refine AOps.un rfl rfl rfl rfl rfl rfl rfl (AOps.un rfl rfl rfl rfl rfl rfl rfl (AOps.un rfl rfl rfl rfl rfl rfl rfl (AOps.no rfl rfl rfl rfl rfl rfl rfl (ble_of (nb (decide_eq_true b41)) (by decide)) (AOps.cons rfl rfl (AOp.pickF _ rfl rfl (nb (decide_eq_true b41)) rfl ?_)))))
 refine AWP.condF rfl rfl ?_
 refine AWP.skip ?_
 refine AWP.seq ?_
 refine AWP.seq (AWP.region rfl ?_)
 refine AOps.cons rfl rfl (AOp.move _ rfl rfl (AOps.cons rfl rfl (AOp.bin _ rfl rfl rfl ine ?_)))
 refine AOps.nil ?_
 change AWP _ _ _ _ _ _
 by_cases b42 : R_mesh_fine p s = 0
 refine AWP.condF rfl (nb (decide_eq_true b42)) ?_
 refine AWP.skip ?_
 refine AWP.seq ?_
 have h0 : errD p s texs = 0 := by unfold errD; split <;> omega
 refine AWP.region rfl ?_
 refine AOps.cons rfl rfl (AOp.fieldAddrF rfl rfl fl_28_0 (AOps.cons rfl rfl (AOp.loadF _ rfl rfl ty_24 (ld_fst (fun h => by first | rfl | cases h) (ld_all (lenM eV_len p.lP rfl))) (AOps.cons rfl rfl (AOp.fieldAddrF rfl rfl fl_30_3 (AOps.cons rfl rfl (AOp.loadF _ rfl rfl ty_3 rfl (AOps.cons rfl rfl (AOp.pcall («as» := [.agg (p.aP.flatMap eV), J s.Unit]) rfl rfl (rfl) tf_24 (c_rate_Sides p.aP p.lP s.Unit) ?_)))))))))
 intro H43 m44
 have h45 := m44 _ _ h39
 have m46 := m40.trans m44
 refine AOps.cons rfl rfl (AOp.alloc rfl tz_25 ?_)
 intro i47 H48 n49 h50 k51
 have e52 := ne_new h45 n49
 have z53 := Mono.free m46 n49
 have h54 := keep k51 (ne_new h45 n49) h45
 have m55 := Mono.new m46 n49 k51
 refine AOps.cons rfl rfl (AOp.store' (cells' := (R_rate_Sides p.aP s.Unit).map eI) (.agg ((R_rate_Sides p.aP s.Unit).map eI)) rfl rfl ts_25 h50 (by simp only [AV.cells, List.all_append, List.all_cons, List.all_nil, Bool.and_true, Bool.and_eq_true]; exact (all_one1 eI_one _)) (show (AV.cells (.agg ((R_rate_Sides p.aP s.Unit).map eI))).length = 4 from (len1 (R_rate_Sides_len p.aP s.Unit))) rfl (wr_all rfl (len1 (R_rate_Sides_len p.aP s.Unit))) ?_)
 intro H56 h57 k58
 have h59 := keep k58 e52 h54
 have m61 := Mono.set m55 z53 k58
 refine AWP.seq ?_
 refine AWP.frzP 13 h57 z53 rfl m61 fun H62 m63 k64 => ?_
 have h65 := (k64 _ e52).trans h59
 refine AWP.region rfl ?_
 refine AOps.cons rfl rfl (AOp.loadF _ rfl rfl ty_25 (ld_all (len1 (R_rate_Sides_len p.aP s.Unit))) (AOps.cons rfl rfl (AOp.pcall («as» := [.agg ((R_rate_Sides p.aP s.Unit).map eI)]) rfl rfl (rfl) tf_25 (c_Weave (R_rate_Sides p.aP s.Unit) (R_rate_Sides_len p.aP s.Unit)) ?_)))
 intro H66 m67
 have h68 := m67 _ _ h65
 have m69 := m63.trans m67
 refine AOps.cons rfl rfl (AOp.move _ rfl rfl (AOps.cons rfl rfl (AOp.extract _ rfl rfl rfl (AOps.cons rfl rfl (AOp.extract _ rfl rfl rfl (AOps.cons rfl rfl (AOp.extract _ rfl rfl rfl (AOps.cons rfl rfl (AOp.assign _ rfl rfl (AOps.cons rfl rfl (AOp.assign _ rfl rfl ?_)))))))))))
 refine AOps.cons rfl rfl (AOp.assign _ rfl rfl ?_)
 refine AWP.seq ?_
 have hrl := R_rate_Sides_len p.aP s.Unit
 refine AWP.region_quiet mixed (by kernel_rfl) 7 [7, 8] rfl (by kernel_rfl) (Mono H66) (Mono.refl _) ?_
 refine QE.op rfl rfl (.inl ⟨rfl, fun f' H' hf hM => AOp.loadF _ rfl ((hf 5 rfl).trans rfl) ty_28 (ld_all (len_app (m := 48) (n := 17) (k := 65) (lenM eV_len p.lP rfl) (len_app (m := 4) (n := 13) (k := 17) (len1 p.lCorners) (len_app (m := 12) (n := 1) (k := 13) (lenM eV_len p.lNormals rfl) rfl rfl) rfl) rfl)) ⟨rfl, hM⟩⟩) ?_
 refine QE.op rfl rfl (.inl ⟨rfl, fun f' H' hf hM => AOp.move _ rfl ((hf 1 rfl).trans rfl) ⟨rfl, hM⟩⟩) ?_
 refine QE.op rfl rfl (.inl ⟨rfl, fun f' H' hf hM => AOp.move _ rfl ((hf 2 rfl).trans rfl) ⟨rfl, hM⟩⟩) ?_
 refine QE.op rfl rfl (.inl ⟨rfl, fun f' H' hf hM => AOp.loadF _ rfl ((hf 13 rfl).trans rfl) ty_25 (ld_all (len1 (R_rate_Sides_len p.aP s.Unit))) ⟨rfl, hM⟩⟩) ?_
 refine QE.op rfl rfl (.inl ⟨rfl, fun f' H' hf hM => AOp.sliceAF rfl ((hf 13 rfl).trans rfl) ar_25 (R_rate_Sides_len p.aP s.Unit) SubAt.all ⟨rfl, hM⟩⟩) ?_
 refine QE.op rfl rfl (.inl ⟨rfl, fun f' H' hf hM => AOp.pcall («as» := [.sl (R_rate_Sides p.aP s.Unit).length ((R_rate_Sides p.aP s.Unit).map eI)]) rfl rfl (lapp (lcons ((hf 60 rfl).trans rfl) rfl) rfl) tf_26 (c_Max (R_rate_Sides p.aP s.Unit) (by first | (have := (R_rate_Sides_len p.aP s.Unit); omega) | simp) (by first | omega | assumption | (constructor <;> omega) | simp)) fun H2 m2 => ⟨rfl, hM.trans m2⟩⟩) ?_
 refine QE.op rfl rfl (.inl ⟨rfl, fun f' H' hf hM => AOp.build (ps := [(0, .agg (p.aP.flatMap eV ++ (p.aCorners.map eI ++ (p.aNormals.flatMap eV ++ [J p.Skin])))), (1, J cage), (2, J id), (3, .agg ((R_rate_Sides p.aP s.Unit).map eI)), (4, J (maxL (R_rate_Sides p.aP s.Unit)))]) (cells := p.aP.flatMap eV ++ (p.aCorners.map eI ++ (p.aNormals.flatMap eV ++ ([J p.Skin, J cage, J id] ++ ((R_rate_Sides p.aP s.Unit).map eI ++ [J (maxL (R_rate_Sides p.aP s.Unit))]))))) rfl tz_74 pl_74 (lconsP ((hf 56 rfl).trans rfl) (lconsP ((hf 57 rfl).trans rfl) (lconsP ((hf 58 rfl).trans rfl) (lconsP ((hf 59 rfl).trans rfl) (lconsP ((hf 61 rfl).trans rfl) rfl))))) (fill_step (c' := ((p.aP.flatMap eV : List AV) ++ ((p.aCorners.map eI : List AV) ++ ((p.aNormals.flatMap eV : List AV) ++ ([J p.Skin, J 0, J 0, J 0, J 0, J 0, J 0, J 0] : List AV))))) rfl rfl (show (AV.cells (.agg (p.aP.flatMap eV ++ (p.aCorners.map eI ++ (p.aNormals.flatMap eV ++ [J p.Skin]))))).length = 65 from (len_app (m := 48) (n := 17) (k := 65) (lenM eV_len p.lP rfl) (len_app (m := 4) (n := 13) (k := 17) (len1 p.lCorners) (len_app (m := 12) (n := 1) (k := 13) (lenM eV_len p.lNormals rfl) rfl rfl) rfl) rfl)) rfl (wr_pre (len_app (m := 48) (n := 17) (k := 65) (lenM eV_len p.lP rfl) (len_app (m := 4) (n := 13) (k := 17) (len1 p.lCorners) (len_app (m := 12) (n := 1) (k := 13) (lenM eV_len p.lNormals rfl) rfl rfl) rfl) rfl)) (fill_step (c' := ((p.aP.flatMap eV : List AV) ++ ((p.aCorners.map eI : List AV) ++ ((p.aNormals.flatMap eV : List AV) ++ ([J p.Skin, J cage, J 0, J 0, J 0, J 0, J 0, J 0] : List AV))))) rfl rfl rfl (blelen (len_app (m := 48) (n := 24) (k := 72) (lenM eV_len p.lP rfl) (len_app (m := 4) (n := 20) (k := 24) (len1 p.lCorners) (len_app (m := 12) (n := 8) (k := 20) (lenM eV_len p.lNormals rfl) rfl rfl) rfl) rfl) (by omega)) (wr_skip (off' := 17) (lenM eV_len p.lP rfl) (by omega) (wr_skip (off' := 13) (len1 p.lCorners) (by omega) (wr_skip (off' := 1) (lenM eV_len p.lNormals rfl) (by omega) rfl))) (fill_step (c' := ((p.aP.flatMap eV : List AV) ++ ((p.aCorners.map eI : List AV) ++ ((p.aNormals.flatMap eV : List AV) ++ ([J p.Skin, J cage, J id, J 0, J 0, J 0, J 0, J 0] : List AV))))) rfl rfl rfl (blelen (len_app (m := 48) (n := 24) (k := 72) (lenM eV_len p.lP rfl) (len_app (m := 4) (n := 20) (k := 24) (len1 p.lCorners) (len_app (m := 12) (n := 8) (k := 20) (lenM eV_len p.lNormals rfl) rfl rfl) rfl) rfl) (by omega)) (wr_skip (off' := 18) (lenM eV_len p.lP rfl) (by omega) (wr_skip (off' := 14) (len1 p.lCorners) (by omega) (wr_skip (off' := 2) (lenM eV_len p.lNormals rfl) (by omega) rfl))) (fill_step (c' := ((p.aP.flatMap eV : List AV) ++ ((p.aCorners.map eI : List AV) ++ ((p.aNormals.flatMap eV : List AV) ++ (([J p.Skin, J cage, J id] : List AV) ++ (((R_rate_Sides p.aP s.Unit).map eI : List AV) ++ ([J 0] : List AV))))))) rfl rfl (show (AV.cells (.agg ((R_rate_Sides p.aP s.Unit).map eI))).length = 4 from (len1 (R_rate_Sides_len p.aP s.Unit))) (blelen (len_app (m := 48) (n := 24) (k := 72) (lenM eV_len p.lP rfl) (len_app (m := 4) (n := 20) (k := 24) (len1 p.lCorners) (len_app (m := 12) (n := 8) (k := 20) (lenM eV_len p.lNormals rfl) rfl rfl) rfl) rfl) (by omega)) (wr_skip (off' := 19) (lenM eV_len p.lP rfl) (by omega) (wr_skip (off' := 15) (len1 p.lCorners) (by omega) (wr_skip (off' := 3) (lenM eV_len p.lNormals rfl) (by omega) (wr_skip (A := ([J p.Skin, J cage, J id] : List AV)) (B := ([J 0, J 0, J 0, J 0, J 0] : List AV)) (n := 3) (off' := 0) rfl (by omega) (wr_pre (len1 (R_rate_Sides_len p.aP s.Unit))))))) (fill_step (c' := ((p.aP.flatMap eV : List AV) ++ ((p.aCorners.map eI : List AV) ++ ((p.aNormals.flatMap eV : List AV) ++ (([J p.Skin, J cage, J id] : List AV) ++ (((R_rate_Sides p.aP s.Unit).map eI : List AV) ++ ([J (maxL (R_rate_Sides p.aP s.Unit))] : List AV))))))) rfl rfl rfl (blelen (len_app (m := 48) (n := 24) (k := 72) (lenM eV_len p.lP rfl) (len_app (m := 4) (n := 20) (k := 24) (len1 p.lCorners) (len_app (m := 12) (n := 8) (k := 20) (lenM eV_len p.lNormals rfl) (len_app (m := 3) (n := 5) (k := 8) rfl (len_app (m := 4) (n := 1) (k := 5) (len1 (R_rate_Sides_len p.aP s.Unit)) rfl rfl) rfl) rfl) rfl) rfl) (by omega)) (wr_skip (off' := 23) (lenM eV_len p.lP rfl) (by omega) (wr_skip (off' := 19) (len1 p.lCorners) (by omega) (wr_skip (off' := 7) (lenM eV_len p.lNormals rfl) (by omega) (wr_skip (off' := 4) (n := 3) rfl (by omega) (wr_skip (off' := 0) (len1 (R_rate_Sides_len p.aP s.Unit)) (by omega) rfl))))) (rfl)))))) ⟨rfl, hM⟩⟩) ?_
 refine QE.done fun H70 m71 => ?_
 have h72 := m71 _ _ h68
 have m73 := m69.trans m71
 refine AOps.cons rfl rfl (AOp.box (.agg (p.aP.flatMap eV ++ (p.aCorners.map eI ++ (p.aNormals.flatMap eV ++ ([J p.Skin, J cage, J id] ++ ((R_rate_Sides p.aP s.Unit).map eI ++ [J (maxL (R_rate_Sides p.aP s.Unit))])))))) rfl rfl rfl ?_)
 intro i74 H75 n76 h77 k78
 have e79 := ne_new h72 n76
 have z80 := Mono.free m73 n76
 have h81 := keep k78 (ne_new h72 n76) h72
 have m82 := Mono.new m73 n76 k78
 refine AOps.cons rfl rfl (AOp.assign _ rfl rfl ?_)
 refine AWP.seq ?_
 refine AWP.frzP 17 h77 z80 rfl m82 fun H83 m84 k85 => ?_
 have h86 := (k85 _ e79).trans h81
 refine AWP.region rfl ?_
 refine AOps.cons rfl rfl (AOp.move _ rfl rfl (AOps.cons rfl rfl (AOp.build (cells := [.snil, .snil, .sl ((weaveR (R_rate_Sides p.aP s.Unit)).2.1).length (((weaveR (R_rate_Sides p.aP s.Unit)).2.1).flatMap eI3)]) rfl tz_38 pl_38 rfl rfl (AOps.cons rfl rfl (AOp.alloc rfl tz_38 ?_)))))
 intro i87 H88 n89 h90 k91
 have e92 := ne_new h86 n89
 have z93 := Mono.free m84 n89
 have h94 := keep k91 (ne_new h86 n89) h86
 have m95 := Mono.new m84 n89 k91
 refine AOps.cons rfl rfl (AOp.store' (cells' := [.snil, .snil, .sl ((weaveR (R_rate_Sides p.aP s.Unit)).2.1).length (((weaveR (R_rate_Sides p.aP s.Unit)).2.1).flatMap eI3)]) (.agg [.snil, .snil, .sl ((weaveR (R_rate_Sides p.aP s.Unit)).2.1).length (((weaveR (R_rate_Sides p.aP s.Unit)).2.1).flatMap eI3)]) rfl rfl ts_38 h90 rfl rfl rfl rfl ?_)
 intro H96 h97 k98
 have h99 := keep k98 e92 h94
 have m101 := Mono.set m95 z93 k98
 refine AWP.seq ?_
 refine AWP.seq ?_
 have hwl := weave_len (R_rate_Sides_len p.aP s.Unit)
 refine AWP.region rfl ?_
 refine AOps.cons rfl rfl (AOp.move _ rfl rfl (AOps.cons rfl rfl (AOp.len (m := ((weaveR (R_rate_Sides p.aP s.Unit)).1).length) rfl rfl (.inr (.inl ⟨_, rfl⟩)) u_68 (AOps.cons rfl rfl (AOp.move _ rfl rfl ?_)))))
 refine AWP.block ?_
 refine AWP.loop (fun q102 fq Hq => ∃ (i : Int) (w18_0 : AV) (w18_1 : AV), q102 = (((weaveR (R_rate_Sides p.aP s.Unit)).1.length : Int) - i).toNat ∧ fq 68 = J i ∧ fq 4 = .sl texs.length (texs.flatMap eTex) ∧ fq 8 = .fptr [.str s.Name, J s.Mat, J s.Levels, J s.Unit, J s.Tex, J s.Height] 0 ∧ fq 10 = .ptr i17 0 0 ∧ fq 17 = .fptr ((p.aP.flatMap eV) ++ ((p.aCorners.map eI) ++ ((p.aNormals.flatMap eV) ++ (([J p.Skin, J cage, J id] : List AV) ++ (((R_rate_Sides p.aP s.Unit).map eI) ++ ([J (maxL (R_rate_Sides p.aP s.Unit))] : List AV)))))) 0 ∧ fq 18 = .ptr i87 0 0 ∧ fq 66 = .sl ((weaveR (R_rate_Sides p.aP s.Unit)).1).length (((weaveR (R_rate_Sides p.aP s.Unit)).1).flatMap eSpot) ∧ fq 67 = J ((((weaveR (R_rate_Sides p.aP s.Unit)).1).length) : Int) ∧ Own H0 Hq 3 w18_0 (((weaveR (R_rate_Sides p.aP s.Unit)).1.take i.toNat).map (fD p cage id s texs)).length ((((weaveR (R_rate_Sides p.aP s.Unit)).1.take i.toNat).map (fD p cage id s texs)).flatMap eV) ∧ Own H0 Hq 5 w18_1 (((weaveR (R_rate_Sides p.aP s.Unit)).1.take i.toNat).map (kD p cage id s)).length ((((weaveR (R_rate_Sides p.aP s.Unit)).1.take i.toNat).map (kD p cage id s)).flatMap eKey) ∧ NotId w18_0 i17 ∧ NotId w18_0 i87 ∧ NotId w18_1 i17 ∧ NotId w18_1 i87 ∧ Sep w18_0 w18_1 ∧ Hq i17 = some (.row 0 ([.snil, .snil, .snil])) ∧ Hq i87 = some (.row 0 ([w18_0, w18_1, .sl ((weaveR (R_rate_Sides p.aP s.Unit)).2.1).length (((weaveR (R_rate_Sides p.aP s.Unit)).2.1).flatMap eI3)])) ∧ Mono H0 Hq ∧ (0 ≤ i) ∧ (i ≤ ((weaveR (R_rate_Sides p.aP s.Unit)).1.length : Int)) ∧ (∀ j : Int, 0 ≤ j → j < i → (plT s texs (vtxD p cage id s (at_ (weaveR (R_rate_Sides p.aP s.Unit)).1 j))).isSome = true)) (k := (((weaveR (R_rate_Sides p.aP s.Unit)).1.length : Int) - 0).toNat) ?_ ?_
 exact ⟨0, .snil, .snil, rfl, rfl, rfl, rfl, rfl, rfl, rfl, rfl, rfl, Own.nil _ _ _, Own.nil _ _ _, (NotId.nil _), (NotId.nil _), (NotId.nil _), (NotId.nil _), (Sep.nilL _), h99, h97, m101, by omega, by omega, by intro j; omega⟩
 rintro _ f104 H103 ⟨i, w18_0, w18_1, rfl, s105, s106, s107, s108, s109, s110, s111, s112, o113, o114, no115, no116, no117, no118, sp119, h120, h121, m122, hi0, hi1, pre⟩
 refine AWP.seq (AWP.region rfl ?_)
 refine AOps.cons rfl rfl (AOp.bin _ rfl s105 s112 rfl ?_)
 refine AWP.seq ?_
 by_cases b123 : i < ((((weaveR (R_rate_Sides p.aP s.Unit)).1).length) : Int)
 refine AWP.condT rfl (decide_eq_true b123) ?_
 refine AWP.skip ?_
 refine AWP.seq ?_
 refine AWP.block ?_
 refine AWP.seq (AWP.region rfl ?_)
 refine AOps.cons rfl rfl (AOp.indexAddrS rfl s111 s105 sl_68 (by omega) (by omega) (AOps.cons rfl rfl (AOp.loadF _ rfl rfl ty_76 (ldM eSpot_len (by omega) (by omega)) (AOps.cons rfl rfl (AOp.alloc rfl tz_76 ?_)))))
 intro i124 H125 n126 h127 k128
 have e129 := ne_new h120 n126
 have e130 := ne_new h121 n126
 have z131 := Mono.free m122 n126
 have h132 := keep k128 (ne_new h120 n126) h120
 have h133 := keep k128 (ne_new h121 n126) h121
 have o134 := Own.keep o113 k128 (Own.notnew o113 n126)
 have no135 := Own.notnew o113 n126
 have o136 := Own.keep o114 k128 (Own.notnew o114 n126)
 have no137 := Own.notnew o114 n126
 have m138 := Mono.new m122 n126 k128
 refine AOps.cons rfl rfl (AOp.store' (cells' := [J ((at_ ((weaveR (R_rate_Sides p.aP s.Unit)).1) i).Kind), J ((at_ ((weaveR (R_rate_Sides p.aP s.Unit)).1) i).A), J ((at_ ((weaveR (R_rate_Sides p.aP s.Unit)).1) i).B)]) (.agg [J ((at_ ((weaveR (R_rate_Sides p.aP s.Unit)).1) i).Kind), J ((at_ ((weaveR (R_rate_Sides p.aP s.Unit)).1) i).A), J ((at_ ((weaveR (R_rate_Sides p.aP s.Unit)).1) i).B)]) rfl rfl ts_76 h127 rfl rfl rfl rfl ?_)
 intro H139 h140 k141
 have h142 := keep k141 e129 h132
 have h143 := keep k141 e130 h133
 have o145 := Own.keep o134 k141 no135
 have o146 := Own.keep o136 k141 no137
 have m147 := Mono.set m138 z131 k141
 refine AWP.seq ?_
 refine AWP.frzP 20 h140 z131 rfl m147 fun H148 m149 k150 => ?_
 have h151 := (k150 _ e129).trans h142
 have h152 := (k150 _ e130).trans h143
 have o153 := Own.keep o145 k150 no135
 have o154 := Own.keep o146 k150 no137
 obtain ⟨hr, hm, hx⟩ := weave_mem (R_rate_Sides_len p.aP s.Unit) (at_mem (l := (weaveR (R_rate_Sides p.aP s.Unit)).1) (i := i) (by omega) (by omega))
 refine AWP.region rfl ?_
 refine AOps.cons rfl rfl (AOp.move _ rfl s109 (AOps.cons rfl rfl (AOp.loadF _ rfl rfl ty_76 rfl (AOps.cons rfl rfl (AOp.pcall («as» := [.fptr ((p.aP.flatMap eV) ++ ((p.aCorners.map eI) ++ ((p.aNormals.flatMap eV) ++ (([J p.Skin, J cage, J id] : List AV) ++ (((R_rate_Sides p.aP s.Unit).map eI) ++ ([J (maxL (R_rate_Sides p.aP s.Unit))] : List AV)))))) 0, .agg [J ((at_ ((weaveR (R_rate_Sides p.aP s.Unit)).1) i).Kind), J ((at_ ((weaveR (R_rate_Sides p.aP s.Unit)).1) i).A), J ((at_ ((weaveR (R_rate_Sides p.aP s.Unit)).1) i).B)]]) rfl rfl (rfl) tf_27 (c_mesh_vertex p cage id (R_rate_Sides p.aP s.Unit) (R_rate_Sides_len p.aP s.Unit) (maxL (R_rate_Sides p.aP s.Unit)) (at_ ((weaveR (R_rate_Sides p.aP s.Unit)).1) i) (by first | omega | assumption | (constructor <;> omega)) (by first | omega | assumption | (constructor <;> omega)) (by first | omega | assumption | (constructor <;> omega))) ?_)))))
 intro H155 m156
 have h157 := m156 _ _ h151
 have h158 := m156 _ _ h152
 have o159 := Own.mono o153 m156
 have o160 := Own.mono o154 m156
 have m161 := m149.trans m156
 refine AOps.cons rfl rfl (AOp.alloc rfl tz_78 ?_)
 intro i162 H163 n164 h165 k166
 have e167 := ne_new h157 n164
 have e168 := ne_new h158 n164
 have z169 := Mono.free m161 n164
 have h170 := keep k166 (ne_new h157 n164) h157
 have h171 := keep k166 (ne_new h158 n164) h158
 have o172 := Own.keep o159 k166 (Own.notnew o159 n164)
 have no173 := Own.notnew o159 n164
 have o174 := Own.keep o160 k166 (Own.notnew o160 n164)
 have no175 := Own.notnew o160 n164
 have m176 := Mono.new m161 n164 k166
 refine AOps.cons rfl rfl (AOp.store' (cells' := [J (((R_mesh_vertex p cage id (R_rate_Sides p.aP s.Unit) (maxL (R_rate_Sides p.aP s.Unit)) (at_ ((weaveR (R_rate_Sides p.aP s.Unit)).1) i)).atF).X), J (((R_mesh_vertex p cage id (R_rate_Sides p.aP s.Unit) (maxL (R_rate_Sides p.aP s.Unit)) (at_ ((weaveR (R_rate_Sides p.aP s.Unit)).1) i)).atF).Y), J (((R_mesh_vertex p cage id (R_rate_Sides p.aP s.Unit) (maxL (R_rate_Sides p.aP s.Unit)) (at_ ((weaveR (R_rate_Sides p.aP s.Unit)).1) i)).atF).Z), J (((R_mesh_vertex p cage id (R_rate_Sides p.aP s.Unit) (maxL (R_rate_Sides p.aP s.Unit)) (at_ ((weaveR (R_rate_Sides p.aP s.Unit)).1) i)).up).X), J (((R_mesh_vertex p cage id (R_rate_Sides p.aP s.Unit) (maxL (R_rate_Sides p.aP s.Unit)) (at_ ((weaveR (R_rate_Sides p.aP s.Unit)).1) i)).up).Y), J (((R_mesh_vertex p cage id (R_rate_Sides p.aP s.Unit) (maxL (R_rate_Sides p.aP s.Unit)) (at_ ((weaveR (R_rate_Sides p.aP s.Unit)).1) i)).up).Z), J (((R_mesh_vertex p cage id (R_rate_Sides p.aP s.Unit) (maxL (R_rate_Sides p.aP s.Unit)) (at_ ((weaveR (R_rate_Sides p.aP s.Unit)).1) i)).key).Kind), J (((R_mesh_vertex p cage id (R_rate_Sides p.aP s.Unit) (maxL (R_rate_Sides p.aP s.Unit)) (at_ ((weaveR (R_rate_Sides p.aP s.Unit)).1) i)).key).Of), J (((R_mesh_vertex p cage id (R_rate_Sides p.aP s.Unit) (maxL (R_rate_Sides p.aP s.Unit)) (at_ ((weaveR (R_rate_Sides p.aP s.Unit)).1) i)).key).A), J (((R_mesh_vertex p cage id (R_rate_Sides p.aP s.Unit) (maxL (R_rate_Sides p.aP s.Unit)) (at_ ((weaveR (R_rate_Sides p.aP s.Unit)).1) i)).key).B), J (((R_mesh_vertex p cage id (R_rate_Sides p.aP s.Unit) (maxL (R_rate_Sides p.aP s.Unit)) (at_ ((weaveR (R_rate_Sides p.aP s.Unit)).1) i)).key).N)]) (.agg [J (((R_mesh_vertex p cage id (R_rate_Sides p.aP s.Unit) (maxL (R_rate_Sides p.aP s.Unit)) (at_ ((weaveR (R_rate_Sides p.aP s.Unit)).1) i)).atF).X), J (((R_mesh_vertex p cage id (R_rate_Sides p.aP s.Unit) (maxL (R_rate_Sides p.aP s.Unit)) (at_ ((weaveR (R_rate_Sides p.aP s.Unit)).1) i)).atF).Y), J (((R_mesh_vertex p cage id (R_rate_Sides p.aP s.Unit) (maxL (R_rate_Sides p.aP s.Unit)) (at_ ((weaveR (R_rate_Sides p.aP s.Unit)).1) i)).atF).Z), J (((R_mesh_vertex p cage id (R_rate_Sides p.aP s.Unit) (maxL (R_rate_Sides p.aP s.Unit)) (at_ ((weaveR (R_rate_Sides p.aP s.Unit)).1) i)).up).X), J (((R_mesh_vertex p cage id (R_rate_Sides p.aP s.Unit) (maxL (R_rate_Sides p.aP s.Unit)) (at_ ((weaveR (R_rate_Sides p.aP s.Unit)).1) i)).up).Y), J (((R_mesh_vertex p cage id (R_rate_Sides p.aP s.Unit) (maxL (R_rate_Sides p.aP s.Unit)) (at_ ((weaveR (R_rate_Sides p.aP s.Unit)).1) i)).up).Z), J (((R_mesh_vertex p cage id (R_rate_Sides p.aP s.Unit) (maxL (R_rate_Sides p.aP s.Unit)) (at_ ((weaveR (R_rate_Sides p.aP s.Unit)).1) i)).key).Kind), J (((R_mesh_vertex p cage id (R_rate_Sides p.aP s.Unit) (maxL (R_rate_Sides p.aP s.Unit)) (at_ ((weaveR (R_rate_Sides p.aP s.Unit)).1) i)).key).Of), J (((R_mesh_vertex p cage id (R_rate_Sides p.aP s.Unit) (maxL (R_rate_Sides p.aP s.Unit)) (at_ ((weaveR (R_rate_Sides p.aP s.Unit)).1) i)).key).A), J (((R_mesh_vertex p cage id (R_rate_Sides p.aP s.Unit) (maxL (R_rate_Sides p.aP s.Unit)) (at_ ((weaveR (R_rate_Sides p.aP s.Unit)).1) i)).key).B), J (((R_mesh_vertex p cage id (R_rate_Sides p.aP s.Unit) (maxL (R_rate_Sides p.aP s.Unit)) (at_ ((weaveR (R_rate_Sides p.aP s.Unit)).1) i)).key).N)]) rfl rfl ts_78 h165 rfl rfl rfl rfl ?_)
 intro H177 h178 k179
 have h180 := keep k179 e167 h170
 have h181 := keep k179 e168 h171
 have o183 := Own.keep o172 k179 no173
 have o184 := Own.keep o174 k179 no175
 have m185 := Mono.set m176 z169 k179
 refine AWP.seq ?_
 refine AWP.seq (AWP.region rfl ?_)
 refine AOps.cons rfl rfl (AOp.fieldAddrF rfl s107 fl_30_4 (AOps.cons rfl rfl (AOp.loadF _ rfl rfl ty_3 rfl (AOps.cons rfl rfl (AOp.bin _ rfl rfl rfl rfl (AOps.cons rfl rfl (AOp.move _ rfl rfl ?_)))))))
 by_cases b186 : s.Tex ≥ 0
 refine AOps.yes rfl rfl rfl rfl rfl rfl rfl (decide_eq_true b186) (AOp.fieldAddrF rfl s107 fl_30_5 (AOps.yes rfl rfl rfl rfl rfl rfl rfl (decide_eq_true b186) (AOp.loadF _ rfl rfl ty_3 rfl (AOps.yes rfl rfl rfl rfl rfl rfl rfl (decide_eq_true b186) (AOp.bin _ rfl rfl rfl rfl (AOps.cons rfl rfl (AOp.pickT _ rfl rfl (decide_eq_true b186) rfl ?_)))))))
 refine AOps.nil ?_
 change AWP _ _ _ _ _ _
 by_cases b187 : s.Height > 0
 refine AWP.condT rfl (decide_eq_true b187) ?_
 refine AWP.seq ?_
 have htr := htx _ (at_mem (i := s.Tex) (l := texs) (by omega) (by omega))
 refine AWP.region_quiet mixed (by kernel_rfl) 13 [] rfl (by kernel_rfl) (Mono H177) (Mono.refl _) ?_
 refine QE.op rfl rfl (.inl ⟨rfl, fun f' H' hf hM => AOp.move _ rfl ((hf 4 rfl).trans s106) ⟨rfl, hM⟩⟩) ?_
 refine QE.op rfl rfl (.inl ⟨rfl, fun f' H' hf hM => AOp.fieldAddrF rfl ((hf 8 rfl).trans s107) fl_30_4 ⟨rfl, hM⟩⟩) ?_
 refine QE.op rfl rfl (.inl ⟨rfl, fun f' H' hf hM => AOp.loadF _ rfl ((hf 85 rfl).trans rfl) ty_3 rfl ⟨rfl, hM⟩⟩) ?_
 refine QE.op rfl rfl (.inl ⟨rfl, fun f' H' hf hM => AOp.indexAddrS rfl ((hf 84 rfl).trans rfl) ((hf 86 rfl).trans rfl) sl_31 (by omega) (by omega) ⟨rfl, hM⟩⟩) ?_
 refine QE.op rfl rfl (.inl ⟨rfl, fun f' H' hf hM => AOp.loadF _ rfl ((hf 87 rfl).trans rfl) ty_65 (ldM eTex_len (by omega) (by omega)) ⟨rfl, hM⟩⟩) ?_
 refine QE.op rfl rfl (.inl ⟨rfl, fun f' H' hf hM => AOp.fieldAddr rfl ((hf 21 rfl).trans rfl) fl_78_0 ⟨rfl, hM⟩ (hid := ⟨_, (hM _ _ h178)⟩)⟩) ?_
 refine QE.op rfl rfl (.inl ⟨rfl, fun f' H' hf hM => AOp.load _ rfl ((hf 89 rfl).trans rfl) ty_23 (hM _ _ h178) rfl ⟨rfl, hM⟩⟩) ?_
 refine QE.op rfl rfl (.inl ⟨rfl, fun f' H' hf hM => AOp.pcall («as» := [.agg [.str ((at_ texs s.Tex).Name), J ((at_ texs s.Tex).W), J ((at_ texs s.Tex).H), .sl ((at_ texs s.Tex).Rows).length (((at_ texs s.Tex).Rows).map eI)], .agg [J (((R_mesh_vertex p cage id (R_rate_Sides p.aP s.Unit) (maxL (R_rate_Sides p.aP s.Unit)) (at_ ((weaveR (R_rate_Sides p.aP s.Unit)).1) i)).atF).X), J (((R_mesh_vertex p cage id (R_rate_Sides p.aP s.Unit) (maxL (R_rate_Sides p.aP s.Unit)) (at_ ((weaveR (R_rate_Sides p.aP s.Unit)).1) i)).atF).Y), J (((R_mesh_vertex p cage id (R_rate_Sides p.aP s.Unit) (maxL (R_rate_Sides p.aP s.Unit)) (at_ ((weaveR (R_rate_Sides p.aP s.Unit)).1) i)).atF).Z)]]) rfl rfl (lapp (lcons ((hf 88 rfl).trans rfl) (lcons ((hf 90 rfl).trans rfl) rfl)) rfl) tf_28 (c_relief_Texel (at_ texs s.Tex) ((R_mesh_vertex p cage id (R_rate_Sides p.aP s.Unit) (maxL (R_rate_Sides p.aP s.Unit)) (at_ ((weaveR (R_rate_Sides p.aP s.Unit)).1) i)).atF) (by first | omega | assumption)) fun H2 m2 => ⟨rfl, hM.trans m2⟩⟩) ?_
 refine QE.op rfl rfl (.inl ⟨rfl, fun f' H' hf hM => AOp.move _ rfl ((hf 91 rfl).trans rfl) ⟨rfl, hM⟩⟩) ?_
 refine QE.op rfl rfl (.inl ⟨rfl, fun f' H' hf hM => AOp.extract _ rfl ((hf 83 rfl).trans rfl) rfl ⟨rfl, hM⟩⟩) ?_
 refine QE.op rfl rfl (.inl ⟨rfl, fun f' H' hf hM => AOp.extract _ rfl ((hf 83 rfl).trans rfl) rfl ⟨rfl, hM⟩⟩) ?_
 refine QE.op rfl rfl (.inl ⟨rfl, fun f' H' hf hM => AOp.assign _ rfl ((hf 92 rfl).trans rfl) ⟨rfl, hM⟩⟩) ?_
 refine QE.op rfl rfl (.inl ⟨rfl, fun f' H' hf hM => AOp.assign _ rfl ((hf 93 rfl).trans rfl) ⟨rfl, hM⟩⟩) ?_
 refine QE.done fun H188 m189 => ?_
 have h190 := m189 _ _ h180
 have h191 := m189 _ _ h181
 have h192 := m189 _ _ h178
 have o193 := Own.mono o183 m189
 have o194 := Own.mono o184 m189
 have m195 := m185.trans m189
 refine AWP.seq ?_
 refine AWP.seq (AWP.region rfl ?_)
 refine AOps.cons rfl rfl (AOp.move _ rfl rfl (AOps.cons rfl rfl (AOp.not rfl rfl ?_)))
 refine AOps.nil ?_
 change AWP _ _ _ _ _ _
 rcases Bool.eq_false_or_eq_true ((R_relief_Texel (at_ texs s.Tex) ((R_mesh_vertex p cage id (R_rate_Sides p.aP s.Unit) (maxL (R_rate_Sides p.aP s.Unit)) (at_ ((weaveR (R_rate_Sides p.aP s.Unit)).1) i)).atF)).2) with b196 | b196
 refine AWP.condF rfl (nb b196) ?_
 refine AWP.skip ?_
 refine AWP.region rfl ?_
 refine AOps.cons rfl rfl (AOp.fieldAddr rfl rfl fl_78_0 ?_ (hid := ⟨_, h192⟩))
 refine AOps.cons rfl rfl (AOp.load _ rfl rfl ty_23 h192 rfl ?_)
 refine AOps.cons rfl rfl (AOp.fieldAddr rfl rfl fl_78_1 ?_ (hid := ⟨_, h192⟩))
 refine AOps.cons rfl rfl (AOp.load _ rfl rfl ty_23 h192 rfl (AOps.cons rfl rfl (AOp.move _ rfl rfl (AOps.cons rfl rfl (AOp.fieldAddrF rfl s107 fl_30_5 (AOps.cons rfl rfl (AOp.loadF _ rfl rfl ty_3 rfl (AOps.cons rfl rfl (AOp.pcall («as» := [.agg [J (((R_mesh_vertex p cage id (R_rate_Sides p.aP s.Unit) (maxL (R_rate_Sides p.aP s.Unit)) (at_ ((weaveR (R_rate_Sides p.aP s.Unit)).1) i)).atF).X), J (((R_mesh_vertex p cage id (R_rate_Sides p.aP s.Unit) (maxL (R_rate_Sides p.aP s.Unit)) (at_ ((weaveR (R_rate_Sides p.aP s.Unit)).1) i)).atF).Y), J (((R_mesh_vertex p cage id (R_rate_Sides p.aP s.Unit) (maxL (R_rate_Sides p.aP s.Unit)) (at_ ((weaveR (R_rate_Sides p.aP s.Unit)).1) i)).atF).Z)], .agg [J (((R_mesh_vertex p cage id (R_rate_Sides p.aP s.Unit) (maxL (R_rate_Sides p.aP s.Unit)) (at_ ((weaveR (R_rate_Sides p.aP s.Unit)).1) i)).up).X), J (((R_mesh_vertex p cage id (R_rate_Sides p.aP s.Unit) (maxL (R_rate_Sides p.aP s.Unit)) (at_ ((weaveR (R_rate_Sides p.aP s.Unit)).1) i)).up).Y), J (((R_mesh_vertex p cage id (R_rate_Sides p.aP s.Unit) (maxL (R_rate_Sides p.aP s.Unit)) (at_ ((weaveR (R_rate_Sides p.aP s.Unit)).1) i)).up).Z)], J ((R_relief_Texel (at_ texs s.Tex) ((R_mesh_vertex p cage id (R_rate_Sides p.aP s.Unit) (maxL (R_rate_Sides p.aP s.Unit)) (at_ ((weaveR (R_rate_Sides p.aP s.Unit)).1) i)).atF)).1), J s.Height]) rfl rfl (rfl) tf_29 (c_relief_Lift ((R_mesh_vertex p cage id (R_rate_Sides p.aP s.Unit) (maxL (R_rate_Sides p.aP s.Unit)) (at_ ((weaveR (R_rate_Sides p.aP s.Unit)).1) i)).atF) ((R_mesh_vertex p cage id (R_rate_Sides p.aP s.Unit) (maxL (R_rate_Sides p.aP s.Unit)) (at_ ((weaveR (R_rate_Sides p.aP s.Unit)).1) i)).up) ((R_relief_Texel (at_ texs s.Tex) ((R_mesh_vertex p cage id (R_rate_Sides p.aP s.Unit) (maxL (R_rate_Sides p.aP s.Unit)) (at_ ((weaveR (R_rate_Sides p.aP s.Unit)).1) i)).atF)).1) s.Height) ?_)))))))))
 intro H197 m198
 have h199 := m198 _ _ h190
 have h200 := m198 _ _ h191
 have h201 := m198 _ _ h192
 have o202 := Own.mono o193 m198
 have o203 := Own.mono o194 m198
 have m204 := m195.trans m198
 refine AOps.cons rfl rfl (AOp.move _ rfl rfl (AOps.cons rfl rfl (AOp.extract _ rfl rfl rfl (AOps.cons rfl rfl (AOp.extract _ rfl rfl rfl ?_)))))
 refine AOps.cons rfl rfl (AOp.fieldAddr rfl rfl fl_78_0 ?_ (hid := ⟨_, h201⟩))
 refine AOps.cons rfl rfl (AOp.store' (cells' := [J (((R_relief_Lift ((R_mesh_vertex p cage id (R_rate_Sides p.aP s.Unit) (maxL (R_rate_Sides p.aP s.Unit)) (at_ ((weaveR (R_rate_Sides p.aP s.Unit)).1) i)).atF) ((R_mesh_vertex p cage id (R_rate_Sides p.aP s.Unit) (maxL (R_rate_Sides p.aP s.Unit)) (at_ ((weaveR (R_rate_Sides p.aP s.Unit)).1) i)).up) ((R_relief_Texel (at_ texs s.Tex) ((R_mesh_vertex p cage id (R_rate_Sides p.aP s.Unit) (maxL (R_rate_Sides p.aP s.Unit)) (at_ ((weaveR (R_rate_Sides p.aP s.Unit)).1) i)).atF)).1) s.Height).1).X), J (((R_relief_Lift ((R_mesh_vertex p cage id (R_rate_Sides p.aP s.Unit) (maxL (R_rate_Sides p.aP s.Unit)) (at_ ((weaveR (R_rate_Sides p.aP s.Unit)).1) i)).atF) ((R_mesh_vertex p cage id (R_rate_Sides p.aP s.Unit) (maxL (R_rate_Sides p.aP s.Unit)) (at_ ((weaveR (R_rate_Sides p.aP s.Unit)).1) i)).up) ((R_relief_Texel (at_ texs s.Tex) ((R_mesh_vertex p cage id (R_rate_Sides p.aP s.Unit) (maxL (R_rate_Sides p.aP s.Unit)) (at_ ((weaveR (R_rate_Sides p.aP s.Unit)).1) i)).atF)).1) s.Height).1).Y), J (((R_relief_Lift ((R_mesh_vertex p cage id (R_rate_Sides p.aP s.Unit) (maxL (R_rate_Sides p.aP s.Unit)) (at_ ((weaveR (R_rate_Sides p.aP s.Unit)).1) i)).atF) ((R_mesh_vertex p cage id (R_rate_Sides p.aP s.Unit) (maxL (R_rate_Sides p.aP s.Unit)) (at_ ((weaveR (R_rate_Sides p.aP s.Unit)).1) i)).up) ((R_relief_Texel (at_ texs s.Tex) ((R_mesh_vertex p cage id (R_rate_Sides p.aP s.Unit) (maxL (R_rate_Sides p.aP s.Unit)) (at_ ((weaveR (R_rate_Sides p.aP s.Unit)).1) i)).atF)).1) s.Height).1).Z), J (((R_mesh_vertex p cage id (R_rate_Sides p.aP s.Unit) (maxL (R_rate_Sides p.aP s.Unit)) (at_ ((weaveR (R_rate_Sides p.aP s.Unit)).1) i)).up).X), J (((R_mesh_vertex p cage id (R_rate_Sides p.aP s.Unit) (maxL (R_rate_Sides p.aP s.Unit)) (at_ ((weaveR (R_rate_Sides p.aP s.Unit)).1) i)).up).Y), J (((R_mesh_vertex p cage id (R_rate_Sides p.aP s.Unit) (maxL (R_rate_Sides p.aP s.Unit)) (at_ ((weaveR (R_rate_Sides p.aP s.Unit)).1) i)).up).Z), J (((R_mesh_vertex p cage id (R_rate_Sides p.aP s.Unit) (maxL (R_rate_Sides p.aP s.Unit)) (at_ ((weaveR (R_rate_Sides p.aP s.Unit)).1) i)).key).Kind), J (((R_mesh_vertex p cage id (R_rate_Sides p.aP s.Unit) (maxL (R_rate_Sides p.aP s.Unit)) (at_ ((weaveR (R_rate_Sides p.aP s.Unit)).1) i)).key).Of), J (((R_mesh_vertex p cage id (R_rate_Sides p.aP s.Unit) (maxL (R_rate_Sides p.aP s.Unit)) (at_ ((weaveR (R_rate_Sides p.aP s.Unit)).1) i)).key).A), J (((R_mesh_vertex p cage id (R_rate_Sides p.aP s.Unit) (maxL (R_rate_Sides p.aP s.Unit)) (at_ ((weaveR (R_rate_Sides p.aP s.Unit)).1) i)).key).B), J (((R_mesh_vertex p cage id (R_rate_Sides p.aP s.Unit) (maxL (R_rate_Sides p.aP s.Unit)) (at_ ((weaveR (R_rate_Sides p.aP s.Unit)).1) i)).key).N)]) (.agg [J (((R_relief_Lift ((R_mesh_vertex p cage id (R_rate_Sides p.aP s.Unit) (maxL (R_rate_Sides p.aP s.Unit)) (at_ ((weaveR (R_rate_Sides p.aP s.Unit)).1) i)).atF) ((R_mesh_vertex p cage id (R_rate_Sides p.aP s.Unit) (maxL (R_rate_Sides p.aP s.Unit)) (at_ ((weaveR (R_rate_Sides p.aP s.Unit)).1) i)).up) ((R_relief_Texel (at_ texs s.Tex) ((R_mesh_vertex p cage id (R_rate_Sides p.aP s.Unit) (maxL (R_rate_Sides p.aP s.Unit)) (at_ ((weaveR (R_rate_Sides p.aP s.Unit)).1) i)).atF)).1) s.Height).1).X), J (((R_relief_Lift ((R_mesh_vertex p cage id (R_rate_Sides p.aP s.Unit) (maxL (R_rate_Sides p.aP s.Unit)) (at_ ((weaveR (R_rate_Sides p.aP s.Unit)).1) i)).atF) ((R_mesh_vertex p cage id (R_rate_Sides p.aP s.Unit) (maxL (R_rate_Sides p.aP s.Unit)) (at_ ((weaveR (R_rate_Sides p.aP s.Unit)).1) i)).up) ((R_relief_Texel (at_ texs s.Tex) ((R_mesh_vertex p cage id (R_rate_Sides p.aP s.Unit) (maxL (R_rate_Sides p.aP s.Unit)) (at_ ((weaveR (R_rate_Sides p.aP s.Unit)).1) i)).atF)).1) s.Height).1).Y), J (((R_relief_Lift ((R_mesh_vertex p cage id (R_rate_Sides p.aP s.Unit) (maxL (R_rate_Sides p.aP s.Unit)) (at_ ((weaveR (R_rate_Sides p.aP s.Unit)).1) i)).atF) ((R_mesh_vertex p cage id (R_rate_Sides p.aP s.Unit) (maxL (R_rate_Sides p.aP s.Unit)) (at_ ((weaveR (R_rate_Sides p.aP s.Unit)).1) i)).up) ((R_relief_Texel (at_ texs s.Tex) ((R_mesh_vertex p cage id (R_rate_Sides p.aP s.Unit) (maxL (R_rate_Sides p.aP s.Unit)) (at_ ((weaveR (R_rate_Sides p.aP s.Unit)).1) i)).atF)).1) s.Height).1).Z)]) rfl rfl ts_23 h201 rfl rfl rfl rfl ?_)
 intro H205 h206 k207
 have h208 := keep k207 e167 h199
 have h209 := keep k207 e168 h200
 have o211 := Own.keep o202 k207 no173
 have o212 := Own.keep o203 k207 no175
 have m213 := Mono.set m204 z169 k207
 refine AWP.seq ?_
 have hpl : plT s texs (vtxD p cage id s (at_ (weaveR (R_rate_Sides p.aP s.Unit)).1 i)) = some ((R_relief_Lift ((R_mesh_vertex p cage id (R_rate_Sides p.aP s.Unit) (maxL (R_rate_Sides p.aP s.Unit)) (at_ ((weaveR (R_rate_Sides p.aP s.Unit)).1) i)).atF) ((R_mesh_vertex p cage id (R_rate_Sides p.aP s.Unit) (maxL (R_rate_Sides p.aP s.Unit)) (at_ ((weaveR (R_rate_Sides p.aP s.Unit)).1) i)).up) ((R_relief_Texel (at_ texs s.Tex) ((R_mesh_vertex p cage id (R_rate_Sides p.aP s.Unit) (maxL (R_rate_Sides p.aP s.Unit)) (at_ ((weaveR (R_rate_Sides p.aP s.Unit)).1) i)).atF)).1) s.Height).1) := by unfold plT vtxD; rw [if_pos ⟨by omega, by omega⟩, if_pos b196] <;> rfl
 have hq1 : (((weaveR (R_rate_Sides p.aP s.Unit)).1.take i.toNat).map (fD p cage id s texs)).length ≤ 400 := by simp only [List.length_map, List.length_take]; omega
 have hq2 : (((weaveR (R_rate_Sides p.aP s.Unit)).1.take i.toNat).map (kD p cage id s)).length ≤ 400 := by simp only [List.length_map, List.length_take]; omega
 refine AWP.region rfl ?_
 refine AOps.cons rfl rfl (AOp.fieldAddr rfl s110 fl_38_0 ?_ (hid := ⟨_, h209⟩))
 refine AOps.cons rfl rfl (AOp.load _ rfl rfl ty_34 h209 rfl ?_)
 refine AOps.cons rfl rfl (AOp.fieldAddr rfl rfl fl_78_0 ?_ (hid := ⟨_, h206⟩))
 refine AOps.cons rfl rfl (AOp.load _ rfl rfl ty_23 h206 rfl (AOps.cons rfl rfl (AOp.buildSlice (cells := [J (((R_relief_Lift ((R_mesh_vertex p cage id (R_rate_Sides p.aP s.Unit) (maxL (R_rate_Sides p.aP s.Unit)) (at_ ((weaveR (R_rate_Sides p.aP s.Unit)).1) i)).atF) ((R_mesh_vertex p cage id (R_rate_Sides p.aP s.Unit) (maxL (R_rate_Sides p.aP s.Unit)) (at_ ((weaveR (R_rate_Sides p.aP s.Unit)).1) i)).up) ((R_relief_Texel (at_ texs s.Tex) ((R_mesh_vertex p cage id (R_rate_Sides p.aP s.Unit) (maxL (R_rate_Sides p.aP s.Unit)) (at_ ((weaveR (R_rate_Sides p.aP s.Unit)).1) i)).atF)).1) s.Height).1).X), J (((R_relief_Lift ((R_mesh_vertex p cage id (R_rate_Sides p.aP s.Unit) (maxL (R_rate_Sides p.aP s.Unit)) (at_ ((weaveR (R_rate_Sides p.aP s.Unit)).1) i)).atF) ((R_mesh_vertex p cage id (R_rate_Sides p.aP s.Unit) (maxL (R_rate_Sides p.aP s.Unit)) (at_ ((weaveR (R_rate_Sides p.aP s.Unit)).1) i)).up) ((R_relief_Texel (at_ texs s.Tex) ((R_mesh_vertex p cage id (R_rate_Sides p.aP s.Unit) (maxL (R_rate_Sides p.aP s.Unit)) (at_ ((weaveR (R_rate_Sides p.aP s.Unit)).1) i)).atF)).1) s.Height).1).Y), J (((R_relief_Lift ((R_mesh_vertex p cage id (R_rate_Sides p.aP s.Unit) (maxL (R_rate_Sides p.aP s.Unit)) (at_ ((weaveR (R_rate_Sides p.aP s.Unit)).1) i)).atF) ((R_mesh_vertex p cage id (R_rate_Sides p.aP s.Unit) (maxL (R_rate_Sides p.aP s.Unit)) (at_ ((weaveR (R_rate_Sides p.aP s.Unit)).1) i)).up) ((R_relief_Texel (at_ texs s.Tex) ((R_mesh_vertex p cage id (R_rate_Sides p.aP s.Unit) (maxL (R_rate_Sides p.aP s.Unit)) (at_ ((weaveR (R_rate_Sides p.aP s.Unit)).1) i)).atF)).1) s.Height).1).Z)]) rfl u_34 ts_23 tz_23 rfl rfl rfl ?_)))
 intro i214 H215 n216 h217 k218
 have h223 := keep k218 (ne_new h208 n216) h208
 have h224 := keep k218 (ne_new h209 n216) h209
 have h225 := keep k218 (ne_new h206 n216) h206
 have o226 := Own.keep o211 k218 (Own.notnew o211 n216)
 have o228 := Own.keep o212 k218 (Own.notnew o212 n216)
 have m230 := Mono.new m213 n216 k218
 refine AOps.cons rfl rfl (AOp.append_own (es := 3) (m := 1) (len := ((((weaveR (R_rate_Sides p.aP s.Unit)).1.take i.toNat).map (fD p cage id s texs)).length)) (old := (((weaveR (R_rate_Sides p.aP s.Unit)).1.take i.toNat).map (fD p cage id s texs)).flatMap eV) (cells := [J (((R_relief_Lift ((R_mesh_vertex p cage id (R_rate_Sides p.aP s.Unit) (maxL (R_rate_Sides p.aP s.Unit)) (at_ ((weaveR (R_rate_Sides p.aP s.Unit)).1) i)).atF) ((R_mesh_vertex p cage id (R_rate_Sides p.aP s.Unit) (maxL (R_rate_Sides p.aP s.Unit)) (at_ ((weaveR (R_rate_Sides p.aP s.Unit)).1) i)).up) ((R_relief_Texel (at_ texs s.Tex) ((R_mesh_vertex p cage id (R_rate_Sides p.aP s.Unit) (maxL (R_rate_Sides p.aP s.Unit)) (at_ ((weaveR (R_rate_Sides p.aP s.Unit)).1) i)).atF)).1) s.Height).1).X), J (((R_relief_Lift ((R_mesh_vertex p cage id (R_rate_Sides p.aP s.Unit) (maxL (R_rate_Sides p.aP s.Unit)) (at_ ((weaveR (R_rate_Sides p.aP s.Unit)).1) i)).atF) ((R_mesh_vertex p cage id (R_rate_Sides p.aP s.Unit) (maxL (R_rate_Sides p.aP s.Unit)) (at_ ((weaveR (R_rate_Sides p.aP s.Unit)).1) i)).up) ((R_relief_Texel (at_ texs s.Tex) ((R_mesh_vertex p cage id (R_rate_Sides p.aP s.Unit) (maxL (R_rate_Sides p.aP s.Unit)) (at_ ((weaveR (R_rate_Sides p.aP s.Unit)).1) i)).atF)).1) s.Height).1).Y), J (((R_relief_Lift ((R_mesh_vertex p cage id (R_rate_Sides p.aP s.Unit) (maxL (R_rate_Sides p.aP s.Unit)) (at_ ((weaveR (R_rate_Sides p.aP s.Unit)).1) i)).atF) ((R_mesh_vertex p cage id (R_rate_Sides p.aP s.Unit) (maxL (R_rate_Sides p.aP s.Unit)) (at_ ((weaveR (R_rate_Sides p.aP s.Unit)).1) i)).up) ((R_relief_Texel (at_ texs s.Tex) ((R_mesh_vertex p cage id (R_rate_Sides p.aP s.Unit) (maxL (R_rate_Sides p.aP s.Unit)) (at_ ((weaveR (R_rate_Sides p.aP s.Unit)).1) i)).atF)).1) s.Height).1).Z)]) rfl u_34 ts_23 tzn_23 tb_23 (by decide) ni_34 rfl o226 m230 rfl (.slm h217 rfl) (one_of rfl) (by decide) (by first | omega | (simp; omega)) ?_)
 intro v231 H232 o233 m234 k235 j236
 have o237 := Own.snocM (xs := ((((weaveR (R_rate_Sides p.aP s.Unit)).1.take i.toNat).map (fD p cage id s texs)) : List VT)) (y := ((R_relief_Lift ((R_mesh_vertex p cage id (R_rate_Sides p.aP s.Unit) (maxL (R_rate_Sides p.aP s.Unit)) (at_ ((weaveR (R_rate_Sides p.aP s.Unit)).1) i)).atF) ((R_mesh_vertex p cage id (R_rate_Sides p.aP s.Unit) (maxL (R_rate_Sides p.aP s.Unit)) (at_ ((weaveR (R_rate_Sides p.aP s.Unit)).1) i)).up) ((R_relief_Texel (at_ texs s.Tex) ((R_mesh_vertex p cage id (R_rate_Sides p.aP s.Unit) (maxL (R_rate_Sides p.aP s.Unit)) (at_ ((weaveR (R_rate_Sides p.aP s.Unit)).1) i)).atF)).1) s.Height).1)) (e := eV) (by simp) o233
 have h238 := (k235 _ no115 (by rw [h223]; simp)).trans h223
 have no239 := j236 _ no115 (by rw [h223]; simp)
 have h240 := (k235 _ no116 (by rw [h224]; simp)).trans h224
 have no241 := j236 _ no116 (by rw [h224]; simp)
 have h242 := (k235 _ no173 (by rw [h225]; simp)).trans h225
 have no243 := j236 _ no173 (by rw [h225]; simp)
 have sp245 := Own.sep o228 (Sep.symm sp119) j236
 have o244 := Own.stay o228 (Sep.symm sp119) k235
 refine AOps.cons rfl rfl (AOp.fieldAddr rfl s110 fl_38_0 ?_ (hid := ⟨_, h240⟩))
 refine AOps.cons rfl rfl (AOp.storeO (cells' := [v231, w18_1, .sl ((weaveR (R_rate_Sides p.aP s.Unit)).2.1).length (((weaveR (R_rate_Sides p.aP s.Unit)).2.1).flatMap eI3)]) rfl rfl o237 ts_34 h240 rfl rfl ?_)
 intro H246 h247 k248
 have h249 := keep k248 e92 h238
 have h251 := keep k248 (Ne.symm e168) h242
 have o252 := Own.keep o244 k248 no118
 have o253 := Own.keep o237 k248 no241
 have m254 := Mono.set m234 z93 k248
 refine AWP.region rfl ?_
 refine AOps.cons rfl rfl (AOp.fieldAddr rfl s110 fl_38_1 ?_ (hid := ⟨_, h247⟩))
 refine AOps.cons rfl rfl (AOp.load _ rfl rfl ty_35 h247 rfl ?_)
 refine AOps.cons rfl rfl (AOp.fieldAddr rfl rfl fl_78_2 ?_ (hid := ⟨_, h251⟩))
 refine AOps.cons rfl rfl (AOp.load _ rfl rfl ty_58 h251 rfl (AOps.cons rfl rfl (AOp.buildSlice (cells := [J (((R_mesh_vertex p cage id (R_rate_Sides p.aP s.Unit) (maxL (R_rate_Sides p.aP s.Unit)) (at_ ((weaveR (R_rate_Sides p.aP s.Unit)).1) i)).key).Kind), J (((R_mesh_vertex p cage id (R_rate_Sides p.aP s.Unit) (maxL (R_rate_Sides p.aP s.Unit)) (at_ ((weaveR (R_rate_Sides p.aP s.Unit)).1) i)).key).Of), J (((R_mesh_vertex p cage id (R_rate_Sides p.aP s.Unit) (maxL (R_rate_Sides p.aP s.Unit)) (at_ ((weaveR (R_rate_Sides p.aP s.Unit)).1) i)).key).A), J (((R_mesh_vertex p cage id (R_rate_Sides p.aP s.Unit) (maxL (R_rate_Sides p.aP s.Unit)) (at_ ((weaveR (R_rate_Sides p.aP s.Unit)).1) i)).key).B), J (((R_mesh_vertex p cage id (R_rate_Sides p.aP s.Unit) (maxL (R_rate_Sides p.aP s.Unit)) (at_ ((weaveR (R_rate_Sides p.aP s.Unit)).1) i)).key).N)]) rfl u_35 ts_58 tz_58 rfl rfl rfl ?_)))
 intro i255 H256 n257 h258 k259
 have h264 := keep k259 (ne_new h249 n257) h249
 have h265 := keep k259 (ne_new h251 n257) h251
 have h266 := keep k259 (ne_new h247 n257) h247
 have o267 := Own.keep o252 k259 (Own.notnew o252 n257)
 have o269 := Own.keep o253 k259 (Own.notnew o253 n257)
 have m271 := Mono.new m254 n257 k259
 refine AOps.cons rfl rfl (AOp.append_own (es := 5) (m := 1) (len := ((((weaveR (R_rate_Sides p.aP s.Unit)).1.take i.toNat).map (kD p cage id s)).length)) (old := (((weaveR (R_rate_Sides p.aP s.Unit)).1.take i.toNat).map (kD p cage id s)).flatMap eKey) (cells := [J (((R_mesh_vertex p cage id (R_rate_Sides p.aP s.Unit) (maxL (R_rate_Sides p.aP s.Unit)) (at_ ((weaveR (R_rate_Sides p.aP s.Unit)).1) i)).key).Kind), J (((R_mesh_vertex p cage id (R_rate_Sides p.aP s.Unit) (maxL (R_rate_Sides p.aP s.Unit)) (at_ ((weaveR (R_rate_Sides p.aP s.Unit)).1) i)).key).Of), J (((R_mesh_vertex p cage id (R_rate_Sides p.aP s.Unit) (maxL (R_rate_Sides p.aP s.Unit)) (at_ ((weaveR (R_rate_Sides p.aP s.Unit)).1) i)).key).A), J (((R_mesh_vertex p cage id (R_rate_Sides p.aP s.Unit) (maxL (R_rate_Sides p.aP s.Unit)) (at_ ((weaveR (R_rate_Sides p.aP s.Unit)).1) i)).key).B), J (((R_mesh_vertex p cage id (R_rate_Sides p.aP s.Unit) (maxL (R_rate_Sides p.aP s.Unit)) (at_ ((weaveR (R_rate_Sides p.aP s.Unit)).1) i)).key).N)]) rfl u_35 ts_58 tzn_58 tb_58 (by decide) ni_35 rfl o267 m271 rfl (.slm h258 rfl) (one_of rfl) (by decide) (by first | omega | (simp; omega)) ?_)
 intro v272 H273 o274 m275 k276 j277
 have o278 := Own.snocM (xs := ((((weaveR (R_rate_Sides p.aP s.Unit)).1.take i.toNat).map (kD p cage id s)) : List KeyT)) (y := ((R_mesh_vertex p cage id (R_rate_Sides p.aP s.Unit) (maxL (R_rate_Sides p.aP s.Unit)) (at_ ((weaveR (R_rate_Sides p.aP s.Unit)).1) i)).key)) (e := eKey) (by simp) o274
 have h279 := (k276 _ no117 (by rw [h264]; simp)).trans h264
 have no280 := j277 _ no117 (by rw [h264]; simp)
 have no282 := j277 _ no175 (by rw [h265]; simp)
 have h283 := (k276 _ no118 (by rw [h266]; simp)).trans h266
 have no284 := j277 _ no118 (by rw [h266]; simp)
 have sp286 := Own.sep o269 (Sep.symm sp245) j277
 have o285 := Own.stay o269 (Sep.symm sp245) k276
 refine AOps.cons rfl rfl (AOp.fieldAddr rfl s110 fl_38_1 ?_ (hid := ⟨_, h283⟩))
 refine AOps.cons rfl rfl (AOp.storeO (cells' := [v231, v272, .sl ((weaveR (R_rate_Sides p.aP s.Unit)).2.1).length (((weaveR (R_rate_Sides p.aP s.Unit)).2.1).flatMap eI3)]) rfl rfl o278 ts_35 h283 rfl rfl ?_)
 intro H287 h288 k289
 have h290 := keep k289 e92 h279
 have o293 := Own.keep o285 k289 no241
 have o294 := Own.keep o278 k289 no284
 have m295 := Mono.set m275 z93 k289
 refine AWP.region rfl ?_
 refine AOps.cons rfl rfl (AOp.bin _ rfl s105 rfl (iadd (by omega)) (AOps.cons rfl rfl (AOp.move _ rfl rfl ?_)))
 refine AOps.nil ?_
 exact ⟨_, by omega, i + 1, v231, v272, rfl, rfl, s106, s107, s108, s109, s110, s111, s112, (have hx : (((((weaveR (R_rate_Sides p.aP s.Unit)).1.take i.toNat).map (fD p cage id s texs)) ++ [((R_relief_Lift ((R_mesh_vertex p cage id (R_rate_Sides p.aP s.Unit) (maxL (R_rate_Sides p.aP s.Unit)) (at_ ((weaveR (R_rate_Sides p.aP s.Unit)).1) i)).atF) ((R_mesh_vertex p cage id (R_rate_Sides p.aP s.Unit) (maxL (R_rate_Sides p.aP s.Unit)) (at_ ((weaveR (R_rate_Sides p.aP s.Unit)).1) i)).up) ((R_relief_Texel (at_ texs s.Tex) ((R_mesh_vertex p cage id (R_rate_Sides p.aP s.Unit) (maxL (R_rate_Sides p.aP s.Unit)) (at_ ((weaveR (R_rate_Sides p.aP s.Unit)).1) i)).atF)).1) s.Height).1)]) : List VT) = ((weaveR (R_rate_Sides p.aP s.Unit)).1.take (i + 1).toNat).map (fD p cage id s texs) := (by exact map_step hi0 (by omega) (fD_of hpl)); Own.re o293 (congrArg List.length hx) (congrArg (fun l : List VT => l.flatMap eV) hx)), (have hx : (((((weaveR (R_rate_Sides p.aP s.Unit)).1.take i.toNat).map (kD p cage id s)) ++ [((R_mesh_vertex p cage id (R_rate_Sides p.aP s.Unit) (maxL (R_rate_Sides p.aP s.Unit)) (at_ ((weaveR (R_rate_Sides p.aP s.Unit)).1) i)).key)]) : List KeyT) = ((weaveR (R_rate_Sides p.aP s.Unit)).1.take (i + 1).toNat).map (kD p cage id s) := (by exact map_step hi0 (by omega) rfl); Own.re o294 (congrArg List.length hx) (congrArg (fun l : List KeyT => l.flatMap eKey) hx)), no239, no241, no280, no284, sp286, h290, h288, m295, by omega, by omega, by exact fa_step pre (by rw [hpl]; rfl)⟩
 refine AWP.condT rfl (nb b196) ?_
 refine AWP.seq (AWP.region rfl ?_)
 refine AOps.cons rfl rfl (AOp.build (cells := [.snil, .snil, .snil]) rfl tz_38 pl_38 rfl rfl (AOps.cons rfl rfl (AOp.store' (cells' := [.snil, .snil, .snil]) (.agg [.snil, .snil, .snil]) s108 rfl ts_38 h190 rfl rfl rfl rfl ?_)))
 intro H296 h297 k298
 have o302 := Own.keep o193 k298 no115
 have o303 := Own.keep o194 k298 no117
 have m304 := Mono.set m195 z24 k298
 refine AOps.cons rfl rfl (AOp.assign _ rfl rfl ?_)
 refine AWP.ret ?_
 refine Fin.frzCell 1 (Own.nil H0 H296 1) h297 z24 rfl (NotId.nil _) m304 fun H305 h306 m307 k308 => ?_
 have o311 := Own.stay2 o302 (Sep.nilR _) no115 k308
 have o312 := Own.stay2 o303 (Sep.nilR _) no117 k308
 have h313 : H305 i17 = some (.row 0 ([.snil, .sl 0 ([]), .snil])) := h306
 refine Fin.frzCell 2 (Own.nil H0 H305 1) h313 z24 rfl (NotId.nil _) m307 fun H314 h315 m316 k317 => ?_
 have o320 := Own.stay2 o311 (Sep.nilR _) no115 k317
 have o321 := Own.stay2 o312 (Sep.nilR _) no117 k317
 have h322 : H314 i17 = some (.row 0 ([.snil, .sl 0 ([]), .sl 0 ([])])) := h315
 have hx : ([] : List VT) = (((diceR p cage id s texs).1).Verts) := (by first | (exfalso; omega) | rw [dice_bad h0 hi0 (by omega) (show plT s texs (vtxD p cage id s (at_ (weaveR (R_rate_Sides p.aP s.Unit)).1 i)) = none by unfold plT vtxD; rw [if_pos ⟨by omega, by omega⟩, if_neg (ff b196)])])
 refine ⟨_, _, Ghost.refl, .inr rfl, _, Res.list rfl rfl (.cell (v := .agg [.snil, .sl 0 ([]), .sl 0 ([])]) s108 ty_38 h322 rfl (.tmp rfl (.nil))), _, Own.re (Own.nil H0 _ 3) (congrArg List.length hx) (congrArg (fun l : List VT => l.flatMap eV) hx), ?_, m316⟩
 exact congrArg AV.tup (lc (congrArg AV.agg (lc rfl (lc (congrArg (fun l : List KeyT => AV.sl l.length (l.flatMap eKey)) (show ([] : List KeyT) = (((diceR p cage id s texs).1).Keys) from by first | (exfalso; omega) | rw [dice_bad h0 hi0 (by omega) (show plT s texs (vtxD p cage id s (at_ (weaveR (R_rate_Sides p.aP s.Unit)).1 i)) = none by unfold plT vtxD; rw [if_pos ⟨by omega, by omega⟩, if_neg (ff b196)])])) (lc (congrArg (fun l : List I3T => AV.sl l.length (l.flatMap eI3)) (show ([] : List I3T) = (((diceR p cage id s texs).1).Tris) from by first | (exfalso; omega) | rw [dice_bad h0 hi0 (by omega) (show plT s texs (vtxD p cage id s (at_ (weaveR (R_rate_Sides p.aP s.Unit)).1 i)) = none by unfold plT vtxD; rw [if_pos ⟨by omega, by omega⟩, if_neg (ff b196)])])) rfl)))) (lc (congrArg (AV.int .i64) (show (11 : Int) = (diceR p cage id s texs).2 from by first | (exfalso; omega) | rw [dice_bad h0 hi0 (by omega) (show plT s texs (vtxD p cage id s (at_ (weaveR (R_rate_Sides p.aP s.Unit)).1 i)) = none by unfold plT vtxD; rw [if_pos ⟨by omega, by omega⟩, if_neg (ff b196)])])) rfl))
 refine AWP.condF rfl (decide_eq_false b187) ?_
 refine AWP.skip ?_
 refine AWP.seq ?_
 have hpl : plT s texs (vtxD p cage id s (at_ (weaveR (R_rate_Sides p.aP s.Unit)).1 i)) = some ((R_mesh_vertex p cage id (R_rate_Sides p.aP s.Unit) (maxL (R_rate_Sides p.aP s.Unit)) (at_ ((weaveR (R_rate_Sides p.aP s.Unit)).1) i)).atF) := by unfold plT vtxD; rw [if_neg (by omega)] <;> rfl
 have hq1 : (((weaveR (R_rate_Sides p.aP s.Unit)).1.take i.toNat).map (fD p cage id s texs)).length ≤ 400 := by simp only [List.length_map, List.length_take]; omega
 have hq2 : (((weaveR (R_rate_Sides p.aP s.Unit)).1.take i.toNat).map (kD p cage id s)).length ≤ 400 := by simp only [List.length_map, List.length_take]; omega
 refine AWP.region rfl ?_
 refine AOps.cons rfl rfl (AOp.fieldAddr rfl s110 fl_38_0 ?_ (hid := ⟨_, h181⟩))
 refine AOps.cons rfl rfl (AOp.load _ rfl rfl ty_34 h181 rfl ?_)
 refine AOps.cons rfl rfl (AOp.fieldAddr rfl rfl fl_78_0 ?_ (hid := ⟨_, h178⟩))
 refine AOps.cons rfl rfl (AOp.load _ rfl rfl ty_23 h178 rfl (AOps.cons rfl rfl (AOp.buildSlice (cells := [J (((R_mesh_vertex p cage id (R_rate_Sides p.aP s.Unit) (maxL (R_rate_Sides p.aP s.Unit)) (at_ ((weaveR (R_rate_Sides p.aP s.Unit)).1) i)).atF).X), J (((R_mesh_vertex p cage id (R_rate_Sides p.aP s.Unit) (maxL (R_rate_Sides p.aP s.Unit)) (at_ ((weaveR (R_rate_Sides p.aP s.Unit)).1) i)).atF).Y), J (((R_mesh_vertex p cage id (R_rate_Sides p.aP s.Unit) (maxL (R_rate_Sides p.aP s.Unit)) (at_ ((weaveR (R_rate_Sides p.aP s.Unit)).1) i)).atF).Z)]) rfl u_34 ts_23 tz_23 rfl rfl rfl ?_)))
 intro i323 H324 n325 h326 k327
 have h332 := keep k327 (ne_new h180 n325) h180
 have h333 := keep k327 (ne_new h181 n325) h181
 have h334 := keep k327 (ne_new h178 n325) h178
 have o335 := Own.keep o183 k327 (Own.notnew o183 n325)
 have o337 := Own.keep o184 k327 (Own.notnew o184 n325)
 have m339 := Mono.new m185 n325 k327
 refine AOps.cons rfl rfl (AOp.append_own (es := 3) (m := 1) (len := ((((weaveR (R_rate_Sides p.aP s.Unit)).1.take i.toNat).map (fD p cage id s texs)).length)) (old := (((weaveR (R_rate_Sides p.aP s.Unit)).1.take i.toNat).map (fD p cage id s texs)).flatMap eV) (cells := [J (((R_mesh_vertex p cage id (R_rate_Sides p.aP s.Unit) (maxL (R_rate_Sides p.aP s.Unit)) (at_ ((weaveR (R_rate_Sides p.aP s.Unit)).1) i)).atF).X), J (((R_mesh_vertex p cage id (R_rate_Sides p.aP s.Unit) (maxL (R_rate_Sides p.aP s.Unit)) (at_ ((weaveR (R_rate_Sides p.aP s.Unit)).1) i)).atF).Y), J (((R_mesh_vertex p cage id (R_rate_Sides p.aP s.Unit) (maxL (R_rate_Sides p.aP s.Unit)) (at_ ((weaveR (R_rate_Sides p.aP s.Unit)).1) i)).atF).Z)]) rfl u_34 ts_23 tzn_23 tb_23 (by decide) ni_34 rfl o335 m339 rfl (.slm h326 rfl) (one_of rfl) (by decide) (by first | omega | (simp; omega)) ?_)
 intro v340 H341 o342 m343 k344 j345
 have o346 := Own.snocM (xs := ((((weaveR (R_rate_Sides p.aP s.Unit)).1.take i.toNat).map (fD p cage id s texs)) : List VT)) (y := ((R_mesh_vertex p cage id (R_rate_Sides p.aP s.Unit) (maxL (R_rate_Sides p.aP s.Unit)) (at_ ((weaveR (R_rate_Sides p.aP s.Unit)).1) i)).atF)) (e := eV) (by simp) o342
 have h347 := (k344 _ no115 (by rw [h332]; simp)).trans h332
 have no348 := j345 _ no115 (by rw [h332]; simp)
 have h349 := (k344 _ no116 (by rw [h333]; simp)).trans h333
 have no350 := j345 _ no116 (by rw [h333]; simp)
 have h351 := (k344 _ no173 (by rw [h334]; simp)).trans h334
 have no352 := j345 _ no173 (by rw [h334]; simp)
 have sp354 := Own.sep o337 (Sep.symm sp119) j345
 have o353 := Own.stay o337 (Sep.symm sp119) k344
 refine AOps.cons rfl rfl (AOp.fieldAddr rfl s110 fl_38_0 ?_ (hid := ⟨_, h349⟩))
 refine AOps.cons rfl rfl (AOp.storeO (cells' := [v340, w18_1, .sl ((weaveR (R_rate_Sides p.aP s.Unit)).2.1).length (((weaveR (R_rate_Sides p.aP s.Unit)).2.1).flatMap eI3)]) rfl rfl o346 ts_34 h349 rfl rfl ?_)
 intro H355 h356 k357
 have h358 := keep k357 e92 h347
 have h360 := keep k357 (Ne.symm e168) h351
 have o361 := Own.keep o353 k357 no118
 have o362 := Own.keep o346 k357 no350
 have m363 := Mono.set m343 z93 k357
 refine AWP.region rfl ?_
 refine AOps.cons rfl rfl (AOp.fieldAddr rfl s110 fl_38_1 ?_ (hid := ⟨_, h356⟩))
 refine AOps.cons rfl rfl (AOp.load _ rfl rfl ty_35 h356 rfl ?_)
 refine AOps.cons rfl rfl (AOp.fieldAddr rfl rfl fl_78_2 ?_ (hid := ⟨_, h360⟩))
 refine AOps.cons rfl rfl (AOp.load _ rfl rfl ty_58 h360 rfl (AOps.cons rfl rfl (AOp.buildSlice (cells := [J (((R_mesh_vertex p cage id (R_rate_Sides p.aP s.Unit) (maxL (R_rate_Sides p.aP s.Unit)) (at_ ((weaveR (R_rate_Sides p.aP s.Unit)).1) i)).key).Kind), J (((R_mesh_vertex p cage id (R_rate_Sides p.aP s.Unit) (maxL (R_rate_Sides p.aP s.Unit)) (at_ ((weaveR (R_rate_Sides p.aP s.Unit)).1) i)).key).Of), J (((R_mesh_vertex p cage id (R_rate_Sides p.aP s.Unit) (maxL (R_rate_Sides p.aP s.Unit)) (at_ ((weaveR (R_rate_Sides p.aP s.Unit)).1) i)).key).A), J (((R_mesh_vertex p cage id (R_rate_Sides p.aP s.Unit) (maxL (R_rate_Sides p.aP s.Unit)) (at_ ((weaveR (R_rate_Sides p.aP s.Unit)).1) i)).key).B), J (((R_mesh_vertex p cage id (R_rate_Sides p.aP s.Unit) (maxL (R_rate_Sides p.aP s.Unit)) (at_ ((weaveR (R_rate_Sides p.aP s.Unit)).1) i)).key).N)]) rfl u_35 ts_58 tz_58 rfl rfl rfl ?_)))
 intro i364 H365 n366 h367 k368
 have h373 := keep k368 (ne_new h358 n366) h358
 have h374 := keep k368 (ne_new h360 n366) h360
 have h375 := keep k368 (ne_new h356 n366) h356
 have o376 := Own.keep o361 k368 (Own.notnew o361 n366)
 have o378 := Own.keep o362 k368 (Own.notnew o362 n366)
 have m380 := Mono.new m363 n366 k368
 refine AOps.cons rfl rfl (AOp.append_own (es := 5) (m := 1) (len := ((((weaveR (R_rate_Sides p.aP s.Unit)).1.take i.toNat).map (kD p cage id s)).length)) (old := (((weaveR (R_rate_Sides p.aP s.Unit)).1.take i.toNat).map (kD p cage id s)).flatMap eKey) (cells := [J (((R_mesh_vertex p cage id (R_rate_Sides p.aP s.Unit) (maxL (R_rate_Sides p.aP s.Unit)) (at_ ((weaveR (R_rate_Sides p.aP s.Unit)).1) i)).key).Kind), J (((R_mesh_vertex p cage id (R_rate_Sides p.aP s.Unit) (maxL (R_rate_Sides p.aP s.Unit)) (at_ ((weaveR (R_rate_Sides p.aP s.Unit)).1) i)).key).Of), J (((R_mesh_vertex p cage id (R_rate_Sides p.aP s.Unit) (maxL (R_rate_Sides p.aP s.Unit)) (at_ ((weaveR (R_rate_Sides p.aP s.Unit)).1) i)).key).A), J (((R_mesh_vertex p cage id (R_rate_Sides p.aP s.Unit) (maxL (R_rate_Sides p.aP s.Unit)) (at_ ((weaveR (R_rate_Sides p.aP s.Unit)).1) i)).key).B), J (((R_mesh_vertex p cage id (R_rate_Sides p.aP s.Unit) (maxL (R_rate_Sides p.aP s.Unit)) (at_ ((weaveR (R_rate_Sides p.aP s.Unit)).1) i)).key).N)]) rfl u_35 ts_58 tzn_58 tb_58 (by decide) ni_35 rfl o376 m380 rfl (.slm h367 rfl) (one_of rfl) (by decide) (by first | omega | (simp; omega)) ?_)
 intro v381 H382 o383 m384 k385 j386
 have o387 := Own.snocM (xs := ((((weaveR (R_rate_Sides p.aP s.Unit)).1.take i.toNat).map (kD p cage id s)) : List KeyT)) (y := ((R_mesh_vertex p cage id (R_rate_Sides p.aP s.Unit) (maxL (R_rate_Sides p.aP s.Unit)) (at_ ((weaveR (R_rate_Sides p.aP s.Unit)).1) i)).key)) (e := eKey) (by simp) o383
 have h388 := (k385 _ no117 (by rw [h373]; simp)).trans h373
 have no389 := j386 _ no117 (by rw [h373]; simp)
 have no391 := j386 _ no175 (by rw [h374]; simp)
 have h392 := (k385 _ no118 (by rw [h375]; simp)).trans h375
 have no393 := j386 _ no118 (by rw [h375]; simp)
 have sp395 := Own.sep o378 (Sep.symm sp354) j386
 have o394 := Own.stay o378 (Sep.symm sp354) k385
 refine AOps.cons rfl rfl (AOp.fieldAddr rfl s110 fl_38_1 ?_ (hid := ⟨_, h392⟩))
 refine AOps.cons rfl rfl (AOp.storeO (cells' := [v340, v381, .sl ((weaveR (R_rate_Sides p.aP s.Unit)).2.1).length (((weaveR (R_rate_Sides p.aP s.Unit)).2.1).flatMap eI3)]) rfl rfl o387 ts_35 h392 rfl rfl ?_)
 intro H396 h397 k398
 have h399 := keep k398 e92 h388
 have o402 := Own.keep o394 k398 no350
 have o403 := Own.keep o387 k398 no393
 have m404 := Mono.set m384 z93 k398
 refine AWP.region rfl ?_
 refine AOps.cons rfl rfl (AOp.bin _ rfl s105 rfl (iadd (by omega)) (AOps.cons rfl rfl (AOp.move _ rfl rfl ?_)))
 refine AOps.nil ?_
 exact ⟨_, by omega, i + 1, v340, v381, rfl, rfl, s106, s107, s108, s109, s110, s111, s112, (have hx : (((((weaveR (R_rate_Sides p.aP s.Unit)).1.take i.toNat).map (fD p cage id s texs)) ++ [((R_mesh_vertex p cage id (R_rate_Sides p.aP s.Unit) (maxL (R_rate_Sides p.aP s.Unit)) (at_ ((weaveR (R_rate_Sides p.aP s.Unit)).1) i)).atF)]) : List VT) = ((weaveR (R_rate_Sides p.aP s.Unit)).1.take (i + 1).toNat).map (fD p cage id s texs) := (by exact map_step hi0 (by omega) (fD_of hpl)); Own.re o402 (congrArg List.length hx) (congrArg (fun l : List VT => l.flatMap eV) hx)), (have hx : (((((weaveR (R_rate_Sides p.aP s.Unit)).1.take i.toNat).map (kD p cage id s)) ++ [((R_mesh_vertex p cage id (R_rate_Sides p.aP s.Unit) (maxL (R_rate_Sides p.aP s.Unit)) (at_ ((weaveR (R_rate_Sides p.aP s.Unit)).1) i)).key)]) : List KeyT) = ((weaveR (R_rate_Sides p.aP s.Unit)).1.take (i + 1).toNat).map (kD p cage id s) := (by exact map_step hi0 (by omega) rfl); Own.re o403 (congrArg List.length hx) (congrArg (fun l : List KeyT => l.flatMap eKey) hx)), no348, no350, no389, no393, sp395, h399, h397, m404, by omega, by omega, by exact fa_step pre (by rw [hpl]; rfl)⟩
 refine AOps.no rfl rfl rfl rfl rfl rfl rfl (ble_of (decide_eq_false b186) (by decide)) (AOps.no rfl rfl rfl rfl rfl rfl rfl (ble_of (decide_eq_false b186) (by decide)) (AOps.no rfl rfl rfl rfl rfl rfl rfl (ble_of (decide_eq_false b186) (by decide)) (AOps.cons rfl rfl (AOp.pickF _ rfl rfl (decide_eq_false b186) rfl ?_))))
 refine AWP.condF rfl rfl ?_
 refine AWP.skip ?_
 refine AWP.seq ?_
 have hpl : plT s texs (vtxD p cage id s (at_ (weaveR (R_rate_Sides p.aP s.Unit)).1 i)) = some ((R_mesh_vertex p cage id (R_rate_Sides p.aP s.Unit) (maxL (R_rate_Sides p.aP s.Unit)) (at_ ((weaveR (R_rate_Sides p.aP s.Unit)).1) i)).atF) := by unfold plT vtxD; rw [if_neg (by omega)] <;> rfl
 have hq1 : (((weaveR (R_rate_Sides p.aP s.Unit)).1.take i.toNat).map (fD p cage id s texs)).length ≤ 400 := by simp only [List.length_map, List.length_take]; omega
 have hq2 : (((weaveR (R_rate_Sides p.aP s.Unit)).1.take i.toNat).map (kD p cage id s)).length ≤ 400 := by simp only [List.length_map, List.length_take]; omega
 refine AWP.region rfl ?_
 refine AOps.cons rfl rfl (AOp.fieldAddr rfl s110 fl_38_0 ?_ (hid := ⟨_, h181⟩))
 refine AOps.cons rfl rfl (AOp.load _ rfl rfl ty_34 h181 rfl ?_)
 refine AOps.cons rfl rfl (AOp.fieldAddr rfl rfl fl_78_0 ?_ (hid := ⟨_, h178⟩))
 refine AOps.cons rfl rfl (AOp.load _ rfl rfl ty_23 h178 rfl (AOps.cons rfl rfl (AOp.buildSlice (cells := [J (((R_mesh_vertex p cage id (R_rate_Sides p.aP s.Unit) (maxL (R_rate_Sides p.aP s.Unit)) (at_ ((weaveR (R_rate_Sides p.aP s.Unit)).1) i)).atF).X), J (((R_mesh_vertex p cage id (R_rate_Sides p.aP s.Unit) (maxL (R_rate_Sides p.aP s.Unit)) (at_ ((weaveR (R_rate_Sides p.aP s.Unit)).1) i)).atF).Y), J (((R_mesh_vertex p cage id (R_rate_Sides p.aP s.Unit) (maxL (R_rate_Sides p.aP s.Unit)) (at_ ((weaveR (R_rate_Sides p.aP s.Unit)).1) i)).atF).Z)]) rfl u_34 ts_23 tz_23 rfl rfl rfl ?_)))
 intro i405 H406 n407 h408 k409
 have h414 := keep k409 (ne_new h180 n407) h180
 have h415 := keep k409 (ne_new h181 n407) h181
 have h416 := keep k409 (ne_new h178 n407) h178
 have o417 := Own.keep o183 k409 (Own.notnew o183 n407)
 have o419 := Own.keep o184 k409 (Own.notnew o184 n407)
 have m421 := Mono.new m185 n407 k409
 refine AOps.cons rfl rfl (AOp.append_own (es := 3) (m := 1) (len := ((((weaveR (R_rate_Sides p.aP s.Unit)).1.take i.toNat).map (fD p cage id s texs)).length)) (old := (((weaveR (R_rate_Sides p.aP s.Unit)).1.take i.toNat).map (fD p cage id s texs)).flatMap eV) (cells := [J (((R_mesh_vertex p cage id (R_rate_Sides p.aP s.Unit) (maxL (R_rate_Sides p.aP s.Unit)) (at_ ((weaveR (R_rate_Sides p.aP s.Unit)).1) i)).atF).X), J (((R_mesh_vertex p cage id (R_rate_Sides p.aP s.Unit) (maxL (R_rate_Sides p.aP s.Unit)) (at_ ((weaveR (R_rate_Sides p.aP s.Unit)).1) i)).atF).Y), J (((R_mesh_vertex p cage id (R_rate_Sides p.aP s.Unit) (maxL (R_rate_Sides p.aP s.Unit)) (at_ ((weaveR (R_rate_Sides p.aP s.Unit)).1) i)).atF).Z)]) rfl u_34 ts_23 tzn_23 tb_23 (by decide) ni_34 rfl o417 m421 rfl (.slm h408 rfl) (one_of rfl) (by decide) (by first | omega | (simp; omega)) ?_)
 intro v422 H423 o424 m425 k426 j427
 have o428 := Own.snocM (xs := ((((weaveR (R_rate_Sides p.aP s.Unit)).1.take i.toNat).map (fD p cage id s texs)) : List VT)) (y := ((R_mesh_vertex p cage id (R_rate_Sides p.aP s.Unit) (maxL (R_rate_Sides p.aP s.Unit)) (at_ ((weaveR (R_rate_Sides p.aP s.Unit)).1) i)).atF)) (e := eV) (by simp) o424
 have h429 := (k426 _ no115 (by rw [h414]; simp)).trans h414
 have no430 := j427 _ no115 (by rw [h414]; simp)
 have h431 := (k426 _ no116 (by rw [h415]; simp)).trans h415
 have no432 := j427 _ no116 (by rw [h415]; simp)
 have h433 := (k426 _ no173 (by rw [h416]; simp)).trans h416
 have no434 := j427 _ no173 (by rw [h416]; simp)
 have sp436 := Own.sep o419 (Sep.symm sp119) j427
 have o435 := Own.stay o419 (Sep.symm sp119) k426
 refine AOps.cons rfl rfl (AOp.fieldAddr rfl s110 fl_38_0 ?_ (hid := ⟨_, h431⟩))
 refine AOps.cons rfl rfl (AOp.storeO (cells' := [v422, w18_1, .sl ((weaveR (R_rate_Sides p.aP s.Unit)).2.1).length (((weaveR (R_rate_Sides p.aP s.Unit)).2.1).flatMap eI3)]) rfl rfl o428 ts_34 h431 rfl rfl ?_)
 intro H437 h438 k439
 have h440 := keep k439 e92 h429
 have h442 := keep k439 (Ne.symm e168) h433
 have o443 := Own.keep o435 k439 no118
 have o444 := Own.keep o428 k439 no432
 have m445 := Mono.set m425 z93 k439
 refine AWP.region rfl ?_
 refine AOps.cons rfl rfl (AOp.fieldAddr rfl s110 fl_38_1 ?_ (hid := ⟨_, h438⟩))
 refine AOps.cons rfl rfl (AOp.load _ rfl rfl ty_35 h438 rfl ?_)
 refine AOps.cons rfl rfl (AOp.fieldAddr rfl rfl fl_78_2 ?_ (hid := ⟨_, h442⟩))
 refine AOps.cons rfl rfl (AOp.load _ rfl rfl ty_58 h442 rfl (AOps.cons rfl rfl (AOp.buildSlice (cells := [J (((R_mesh_vertex p cage id (R_rate_Sides p.aP s.Unit) (maxL (R_rate_Sides p.aP s.Unit)) (at_ ((weaveR (R_rate_Sides p.aP s.Unit)).1) i)).key).Kind), J (((R_mesh_vertex p cage id (R_rate_Sides p.aP s.Unit) (maxL (R_rate_Sides p.aP s.Unit)) (at_ ((weaveR (R_rate_Sides p.aP s.Unit)).1) i)).key).Of), J (((R_mesh_vertex p cage id (R_rate_Sides p.aP s.Unit) (maxL (R_rate_Sides p.aP s.Unit)) (at_ ((weaveR (R_rate_Sides p.aP s.Unit)).1) i)).key).A), J (((R_mesh_vertex p cage id (R_rate_Sides p.aP s.Unit) (maxL (R_rate_Sides p.aP s.Unit)) (at_ ((weaveR (R_rate_Sides p.aP s.Unit)).1) i)).key).B), J (((R_mesh_vertex p cage id (R_rate_Sides p.aP s.Unit) (maxL (R_rate_Sides p.aP s.Unit)) (at_ ((weaveR (R_rate_Sides p.aP s.Unit)).1) i)).key).N)]) rfl u_35 ts_58 tz_58 rfl rfl rfl ?_)))
 intro i446 H447 n448 h449 k450
 have h455 := keep k450 (ne_new h440 n448) h440
 have h456 := keep k450 (ne_new h442 n448) h442
 have h457 := keep k450 (ne_new h438 n448) h438
 have o458 := Own.keep o443 k450 (Own.notnew o443 n448)
 have o460 := Own.keep o444 k450 (Own.notnew o444 n448)
 have m462 := Mono.new m445 n448 k450
 refine AOps.cons rfl rfl (AOp.append_own (es := 5) (m := 1) (len := ((((weaveR (R_rate_Sides p.aP s.Unit)).1.take i.toNat).map (kD p cage id s)).length)) (old := (((weaveR (R_rate_Sides p.aP s.Unit)).1.take i.toNat).map (kD p cage id s)).flatMap eKey) (cells := [J (((R_mesh_vertex p cage id (R_rate_Sides p.aP s.Unit) (maxL (R_rate_Sides p.aP s.Unit)) (at_ ((weaveR (R_rate_Sides p.aP s.Unit)).1) i)).key).Kind), J (((R_mesh_vertex p cage id (R_rate_Sides p.aP s.Unit) (maxL (R_rate_Sides p.aP s.Unit)) (at_ ((weaveR (R_rate_Sides p.aP s.Unit)).1) i)).key).Of), J (((R_mesh_vertex p cage id (R_rate_Sides p.aP s.Unit) (maxL (R_rate_Sides p.aP s.Unit)) (at_ ((weaveR (R_rate_Sides p.aP s.Unit)).1) i)).key).A), J (((R_mesh_vertex p cage id (R_rate_Sides p.aP s.Unit) (maxL (R_rate_Sides p.aP s.Unit)) (at_ ((weaveR (R_rate_Sides p.aP s.Unit)).1) i)).key).B), J (((R_mesh_vertex p cage id (R_rate_Sides p.aP s.Unit) (maxL (R_rate_Sides p.aP s.Unit)) (at_ ((weaveR (R_rate_Sides p.aP s.Unit)).1) i)).key).N)]) rfl u_35 ts_58 tzn_58 tb_58 (by decide) ni_35 rfl o458 m462 rfl (.slm h449 rfl) (one_of rfl) (by decide) (by first | omega | (simp; omega)) ?_)
 intro v463 H464 o465 m466 k467 j468
 have o469 := Own.snocM (xs := ((((weaveR (R_rate_Sides p.aP s.Unit)).1.take i.toNat).map (kD p cage id s)) : List KeyT)) (y := ((R_mesh_vertex p cage id (R_rate_Sides p.aP s.Unit) (maxL (R_rate_Sides p.aP s.Unit)) (at_ ((weaveR (R_rate_Sides p.aP s.Unit)).1) i)).key)) (e := eKey) (by simp) o465
 have h470 := (k467 _ no117 (by rw [h455]; simp)).trans h455
 have no471 := j468 _ no117 (by rw [h455]; simp)
 have no473 := j468 _ no175 (by rw [h456]; simp)
 have h474 := (k467 _ no118 (by rw [h457]; simp)).trans h457
 have no475 := j468 _ no118 (by rw [h457]; simp)
 have sp477 := Own.sep o460 (Sep.symm sp436) j468
 have o476 := Own.stay o460 (Sep.symm sp436) k467
 refine AOps.cons rfl rfl (AOp.fieldAddr rfl s110 fl_38_1 ?_ (hid := ⟨_, h474⟩))
 refine AOps.cons rfl rfl (AOp.storeO (cells' := [v422, v463, .sl ((weaveR (R_rate_Sides p.aP s.Unit)).2.1).length (((weaveR (R_rate_Sides p.aP s.Unit)).2.1).flatMap eI3)]) rfl rfl o469 ts_35 h474 rfl rfl ?_)
 intro H478 h479 k480
 have h481 := keep k480 e92 h470
 have o484 := Own.keep o476 k480 no432
 have o485 := Own.keep o469 k480 no475
 have m486 := Mono.set m466 z93 k480
 refine AWP.region rfl ?_
 refine AOps.cons rfl rfl (AOp.bin _ rfl s105 rfl (iadd (by omega)) (AOps.cons rfl rfl (AOp.move _ rfl rfl ?_)))
 refine AOps.nil ?_
 exact ⟨_, by omega, i + 1, v422, v463, rfl, rfl, s106, s107, s108, s109, s110, s111, s112, (have hx : (((((weaveR (R_rate_Sides p.aP s.Unit)).1.take i.toNat).map (fD p cage id s texs)) ++ [((R_mesh_vertex p cage id (R_rate_Sides p.aP s.Unit) (maxL (R_rate_Sides p.aP s.Unit)) (at_ ((weaveR (R_rate_Sides p.aP s.Unit)).1) i)).atF)]) : List VT) = ((weaveR (R_rate_Sides p.aP s.Unit)).1.take (i + 1).toNat).map (fD p cage id s texs) := (by exact map_step hi0 (by omega) (fD_of hpl)); Own.re o484 (congrArg List.length hx) (congrArg (fun l : List VT => l.flatMap eV) hx)), (have hx : (((((weaveR (R_rate_Sides p.aP s.Unit)).1.take i.toNat).map (kD p cage id s)) ++ [((R_mesh_vertex p cage id (R_rate_Sides p.aP s.Unit) (maxL (R_rate_Sides p.aP s.Unit)) (at_ ((weaveR (R_rate_Sides p.aP s.Unit)).1) i)).key)]) : List KeyT) = ((weaveR (R_rate_Sides p.aP s.Unit)).1.take (i + 1).toNat).map (kD p cage id s) := (by exact map_step hi0 (by omega) rfl); Own.re o485 (congrArg List.length hx) (congrArg (fun l : List KeyT => l.flatMap eKey) hx)), no430, no432, no471, no475, sp477, h481, h479, m486, by omega, by omega, by exact fa_step pre (by rw [hpl]; rfl)⟩
 refine AWP.condF rfl (decide_eq_false b123) ?_
 refine AWP.exit ?_
 change AWP _ _ _ _ _ _
 refine AWP.seq (AWP.region rfl ?_)
 refine AOps.cons rfl rfl (AOp.load _ rfl s110 ty_38 h121 rfl (AOps.cons rfl rfl (AOp.store' (cells' := [w18_0, w18_1, .sl ((weaveR (R_rate_Sides p.aP s.Unit)).2.1).length (((weaveR (R_rate_Sides p.aP s.Unit)).2.1).flatMap eI3)]) (.agg [w18_0, w18_1, .sl ((weaveR (R_rate_Sides p.aP s.Unit)).2.1).length (((weaveR (R_rate_Sides p.aP s.Unit)).2.1).flatMap eI3)]) s108 rfl ts_38 h120 (by simp only [AV.cells, List.all_cons, List.all_nil, Own.one_ o113, Own.one_ o114]; rfl) rfl rfl rfl ?_)))
 intro H487 h488 k489
 have o492 := Own.keep o113 k489 no115
 have o493 := Own.keep o114 k489 no117
 have m494 := Mono.set m122 z24 k489
 refine AOps.cons rfl rfl (AOp.assign _ rfl rfl ?_)
 refine AWP.ret ?_
 refine Fin.frzCell 1 o493 h488 z24 rfl no117 m494 fun H495 h496 m497 k498 => ?_
 have o500 := Own.stay2 o492 sp119 no115 k498
 have h501 : H495 i17 = some (.row 0 ([w18_0, .sl (((weaveR (R_rate_Sides p.aP s.Unit)).1.take i.toNat).map (kD p cage id s)).length ((((weaveR (R_rate_Sides p.aP s.Unit)).1.take i.toNat).map (kD p cage id s)).flatMap eKey), .sl ((weaveR (R_rate_Sides p.aP s.Unit)).2.1).length (((weaveR (R_rate_Sides p.aP s.Unit)).2.1).flatMap eI3)])) := h496
 have hx : ((((weaveR (R_rate_Sides p.aP s.Unit)).1.take i.toNat).map (fD p cage id s texs)) : List VT) = (((diceR p cage id s texs).1).Verts) := (by first | (exfalso; omega) | rw [dice_ok h0 (by omega) pre])
 refine ⟨_, _, Ghost.refl, .inr rfl, _, Res.list rfl rfl (.cell (v := .agg [w18_0, .sl (((weaveR (R_rate_Sides p.aP s.Unit)).1.take i.toNat).map (kD p cage id s)).length ((((weaveR (R_rate_Sides p.aP s.Unit)).1.take i.toNat).map (kD p cage id s)).flatMap eKey), .sl ((weaveR (R_rate_Sides p.aP s.Unit)).2.1).length (((weaveR (R_rate_Sides p.aP s.Unit)).2.1).flatMap eI3)]) s108 ty_38 h501 rfl (.tmp rfl (.nil))), _, Own.re o500 (congrArg List.length hx) (congrArg (fun l : List VT => l.flatMap eV) hx), ?_, m497⟩
 exact congrArg AV.tup (lc (congrArg AV.agg (lc rfl (lc (congrArg (fun l : List KeyT => AV.sl l.length (l.flatMap eKey)) (show ((((weaveR (R_rate_Sides p.aP s.Unit)).1.take i.toNat).map (kD p cage id s)) : List KeyT) = (((diceR p cage id s texs).1).Keys) from by first | (exfalso; omega) | rw [dice_ok h0 (by omega) pre])) (lc (congrArg (fun l : List I3T => AV.sl l.length (l.flatMap eI3)) (show ((weaveR (R_rate_Sides p.aP s.Unit)).2.1 : List I3T) = (((diceR p cage id s texs).1).Tris) from by first | (exfalso; omega) | rw [dice_ok h0 (by omega) pre])) rfl)))) (lc (congrArg (AV.int .i64) (show (0 : Int) = (diceR p cage id s texs).2 from by first | (exfalso; omega) | rw [dice_ok h0 (by omega) pre])) rfl))
 refine AWP.condT rfl (nb (decide_eq_false b42)) ?_
 refine AWP.seq (AWP.region rfl ?_)
 refine AOps.cons rfl rfl (AOp.build (cells := [.snil, .snil, .snil]) rfl tz_38 pl_38 rfl rfl (AOps.cons rfl rfl (AOp.move _ rfl rfl (AOps.cons rfl rfl (AOp.store' (cells' := [.snil, .snil, .snil]) (.agg [.snil, .snil, .snil]) rfl rfl ts_38 h39 rfl rfl rfl rfl ?_)))))
 intro H502 h503 k504
 have m506 := Mono.set m40 z24 k504
 refine AOps.cons rfl rfl (AOp.assign _ rfl rfl ?_)
 refine AWP.ret ?_
 refine Fin.frzCell 1 (Own.nil H0 H502 1) h503 z24 rfl (NotId.nil _) m506 fun H507 h508 m509 k510 => ?_
 have h511 : H507 i17 = some (.row 0 ([.snil, .sl 0 ([]), .snil])) := h508
 refine Fin.frzCell 2 (Own.nil H0 H507 1) h511 z24 rfl (NotId.nil _) m509 fun H512 h513 m514 k515 => ?_
 have h516 : H512 i17 = some (.row 0 ([.snil, .sl 0 ([]), .sl 0 ([])])) := h513
 have hx : ([] : List VT) = (((diceR p cage id s texs).1).Verts) := (by first | (exfalso; omega) | (rw [dice_err (e := R_mesh_fine p s) (by unfold errD; split <;> omega) (by omega)] <;> rfl))
 refine ⟨_, _, Ghost.refl, .inr rfl, _, Res.list rfl rfl (.cell (v := .agg [.snil, .sl 0 ([]), .sl 0 ([])]) rfl ty_38 h516 rfl (.tmp rfl (.nil))), _, Own.re (Own.nil H0 _ 3) (congrArg List.length hx) (congrArg (fun l : List VT => l.flatMap eV) hx), ?_, m514⟩
 exact congrArg AV.tup (lc (congrArg AV.agg (lc rfl (lc (congrArg (fun l : List KeyT => AV.sl l.length (l.flatMap eKey)) (show ([] : List KeyT) = (((diceR p cage id s texs).1).Keys) from by first | (exfalso; omega) | (rw [dice_err (e := R_mesh_fine p s) (by unfold errD; split <;> omega) (by omega)] <;> rfl))) (lc (congrArg (fun l : List I3T => AV.sl l.length (l.flatMap eI3)) (show ([] : List I3T) = (((diceR p cage id s texs).1).Tris) from by first | (exfalso; omega) | (rw [dice_err (e := R_mesh_fine p s) (by unfold errD; split <;> omega) (by omega)] <;> rfl))) rfl)))) (lc (congrArg (AV.int .i64) (show (R_mesh_fine p s : Int) = (diceR p cage id s texs).2 from by first | (exfalso; omega) | (rw [dice_err (e := R_mesh_fine p s) (by unfold errD; split <;> omega) (by omega)] <;> rfl))) rfl))
 refine AOps.yes rfl rfl rfl rfl rfl rfl rfl (nb (decide_eq_false b41)) (AOp.fieldAddrF rfl rfl fl_30_4 (AOps.yes rfl rfl rfl rfl rfl rfl rfl (nb (decide_eq_false b41)) (AOp.loadF _ rfl rfl ty_3 rfl (AOps.yes rfl rfl rfl rfl rfl rfl rfl (nb (decide_eq_false b41)) (AOp.bin _ rfl rfl rfl rfl (AOps.yes rfl rfl rfl rfl rfl rfl rfl (nb (decide_eq_false b41)) (AOp.move _ rfl rfl ?_)))))))
 by_cases b517 : s.Tex < -1
 refine AOps.no rfl rfl rfl rfl rfl rfl rfl (ble_of (decide_eq_true b517) (by decide)) (AOps.no rfl rfl rfl rfl rfl rfl rfl (ble_of (decide_eq_true b517) (by decide)) (AOps.no rfl rfl rfl rfl rfl rfl rfl (ble_of (decide_eq_true b517) (by decide)) (AOps.no rfl rfl rfl rfl rfl rfl rfl (ble_of (decide_eq_true b517) (by decide)) (AOps.no rfl rfl rfl rfl rfl rfl rfl (ble_of (decide_eq_true b517) (by decide)) (AOps.yes rfl rfl rfl rfl rfl rfl rfl (nb (decide_eq_false b41)) (AOp.pickT _ rfl rfl (decide_eq_true b517) rfl ?_))))))
 refine AOps.cons rfl rfl (AOp.pickT _ rfl rfl (nb (decide_eq_false b41)) rfl ?_)
 refine AWP.condT rfl rfl ?_
 refine AWP.region rfl ?_
 refine AOps.cons rfl rfl (AOp.assign _ rfl rfl ?_)
 refine AWP.seq ?_
 refine AWP.seq (AWP.region rfl ?_)
 refine AOps.cons rfl rfl (AOp.move _ rfl rfl (AOps.cons rfl rfl (AOp.bin _ rfl rfl rfl ine ?_)))
 refine AWP.condT rfl (nb (decide_eq_false (by decide))) ?_
 refine AWP.seq (AWP.region rfl ?_)
 refine AOps.cons rfl rfl (AOp.build (cells := [.snil, .snil, .snil]) rfl tz_38 pl_38 rfl rfl (AOps.cons rfl rfl (AOp.move _ rfl rfl (AOps.cons rfl rfl (AOp.store' (cells' := [.snil, .snil, .snil]) (.agg [.snil, .snil, .snil]) rfl rfl ts_38 h39 rfl rfl rfl rfl ?_)))))
 intro H518 h519 k520
 have m522 := Mono.set m40 z24 k520
 refine AOps.cons rfl rfl (AOp.assign _ rfl rfl ?_)
 refine AWP.ret ?_
 refine Fin.frzCell 1 (Own.nil H0 H518 1) h519 z24 rfl (NotId.nil _) m522 fun H523 h524 m525 k526 => ?_
 have h527 : H523 i17 = some (.row 0 ([.snil, .sl 0 ([]), .snil])) := h524
 refine Fin.frzCell 2 (Own.nil H0 H523 1) h527 z24 rfl (NotId.nil _) m525 fun H528 h529 m530 k531 => ?_
 have h532 : H528 i17 = some (.row 0 ([.snil, .sl 0 ([]), .sl 0 ([])])) := h529
 have hx : ([] : List VT) = (((diceR p cage id s texs).1).Verts) := (by first | (exfalso; omega) | (rw [dice_err (e := 11) (by unfold errD; split <;> omega) (by omega)] <;> rfl))
 refine ⟨_, _, Ghost.refl, .inr rfl, _, Res.list rfl rfl (.cell (v := .agg [.snil, .sl 0 ([]), .sl 0 ([])]) rfl ty_38 h532 rfl (.tmp rfl (.nil))), _, Own.re (Own.nil H0 _ 3) (congrArg List.length hx) (congrArg (fun l : List VT => l.flatMap eV) hx), ?_, m530⟩
 exact congrArg AV.tup (lc (congrArg AV.agg (lc rfl (lc (congrArg (fun l : List KeyT => AV.sl l.length (l.flatMap eKey)) (show ([] : List KeyT) = (((diceR p cage id s texs).1).Keys) from by first | (exfalso; omega) | (rw [dice_err (e := 11) (by unfold errD; split <;> omega) (by omega)] <;> rfl))) (lc (congrArg (fun l : List I3T => AV.sl l.length (l.flatMap eI3)) (show ([] : List I3T) = (((diceR p cage id s texs).1).Tris) from by first | (exfalso; omega) | (rw [dice_err (e := 11) (by unfold errD; split <;> omega) (by omega)] <;> rfl))) rfl)))) (lc (congrArg (AV.int .i64) (show (11 : Int) = (diceR p cage id s texs).2 from by first | (exfalso; omega) | (rw [dice_err (e := 11) (by unfold errD; split <;> omega) (by omega)] <;> rfl))) rfl))
 refine AOps.yes rfl rfl rfl rfl rfl rfl rfl (decide_eq_false b517) (AOp.fieldAddrF rfl rfl fl_30_4 (AOps.yes rfl rfl rfl rfl rfl rfl rfl (decide_eq_false b517) (AOp.loadF _ rfl rfl ty_3 rfl (AOps.yes rfl rfl rfl rfl rfl rfl rfl (decide_eq_false b517) (AOp.move _ rfl rfl (AOps.yes rfl rfl rfl rfl rfl rfl rfl (decide_eq_false b517) (AOp.len (m := texs.length) rfl rfl (.inr (.inl ⟨_, rfl⟩)) u_31 (AOps.yes rfl rfl rfl rfl rfl rfl rfl (decide_eq_false b517) (AOp.bin _ rfl rfl rfl rfl (AOps.yes rfl rfl rfl rfl rfl rfl rfl (nb (decide_eq_false b41)) (AOp.pickF _ rfl rfl (decide_eq_false b517) rfl ?_)))))))))))
 refine AOps.cons rfl rfl (AOp.pickT _ rfl rfl (nb (decide_eq_false b41)) rfl ?_)
 refine AOps.nil ?_
 change AWP _ _ _ _ _ _
 by_cases b533 : s.Tex ≥ (texs.length : Int)
 refine AWP.condT rfl (decide_eq_true b533) ?_
 refine AWP.region rfl ?_
 refine AOps.cons rfl rfl (AOp.assign _ rfl rfl ?_)
 refine AWP.seq ?_
 refine AWP.seq (AWP.region rfl ?_)
 refine AOps.cons rfl rfl (AOp.move _ rfl rfl (AOps.cons rfl rfl (AOp.bin _ rfl rfl rfl ine ?_)))
 refine AWP.condT rfl (nb (decide_eq_false (by decide))) ?_
 refine AWP.seq (AWP.region rfl ?_)
 refine AOps.cons rfl rfl (AOp.build (cells := [.snil, .snil, .snil]) rfl tz_38 pl_38 rfl rfl (AOps.cons rfl rfl (AOp.move _ rfl rfl (AOps.cons rfl rfl (AOp.store' (cells' := [.snil, .snil, .snil]) (.agg [.snil, .snil, .snil]) rfl rfl ts_38 h39 rfl rfl rfl rfl ?_)))))
 intro H534 h535 k536
 have m538 := Mono.set m40 z24 k536
 refine AOps.cons rfl rfl (AOp.assign _ rfl rfl ?_)
 refine AWP.ret ?_
 refine Fin.frzCell 1 (Own.nil H0 H534 1) h535 z24 rfl (NotId.nil _) m538 fun H539 h540 m541 k542 => ?_
 have h543 : H539 i17 = some (.row 0 ([.snil, .sl 0 ([]), .snil])) := h540
 refine Fin.frzCell 2 (Own.nil H0 H539 1) h543 z24 rfl (NotId.nil _) m541 fun H544 h545 m546 k547 => ?_
 have h548 : H544 i17 = some (.row 0 ([.snil, .sl 0 ([]), .sl 0 ([])])) := h545
 have hx : ([] : List VT) = (((diceR p cage id s texs).1).Verts) := (by first | (exfalso; omega) | (rw [dice_err (e := 11) (by unfold errD; split <;> omega) (by omega)] <;> rfl))
 refine ⟨_, _, Ghost.refl, .inr rfl, _, Res.list rfl rfl (.cell (v := .agg [.snil, .sl 0 ([]), .sl 0 ([])]) rfl ty_38 h548 rfl (.tmp rfl (.nil))), _, Own.re (Own.nil H0 _ 3) (congrArg List.length hx) (congrArg (fun l : List VT => l.flatMap eV) hx), ?_, m546⟩
 exact congrArg AV.tup (lc (congrArg AV.agg (lc rfl (lc (congrArg (fun l : List KeyT => AV.sl l.length (l.flatMap eKey)) (show ([] : List KeyT) = (((diceR p cage id s texs).1).Keys) from by first | (exfalso; omega) | (rw [dice_err (e := 11) (by unfold errD; split <;> omega) (by omega)] <;> rfl))) (lc (congrArg (fun l : List I3T => AV.sl l.length (l.flatMap eI3)) (show ([] : List I3T) = (((diceR p cage id s texs).1).Tris) from by first | (exfalso; omega) | (rw [dice_err (e := 11) (by unfold errD; split <;> omega) (by omega)] <;> rfl))) rfl)))) (lc (congrArg (AV.int .i64) (show (11 : Int) = (diceR p cage id s texs).2 from by first | (exfalso; omega) | (rw [dice_err (e := 11) (by unfold errD; split <;> omega) (by omega)] <;> rfl))) rfl))
 refine AWP.condF rfl (decide_eq_false b533) ?_
 refine AWP.skip ?_
 refine AWP.seq ?_
 refine AWP.seq (AWP.region rfl ?_)
 refine AOps.cons rfl rfl (AOp.move _ rfl rfl (AOps.cons rfl rfl (AOp.bin _ rfl rfl rfl ine ?_)))
 refine AOps.nil ?_
 change AWP _ _ _ _ _ _
 by_cases b549 : R_mesh_fine p s = 0
 refine AWP.condF rfl (nb (decide_eq_true b549)) ?_
 refine AWP.skip ?_
 refine AWP.seq ?_
 have h0 : errD p s texs = 0 := by unfold errD; split <;> omega
 refine AWP.region rfl ?_
 refine AOps.cons rfl rfl (AOp.fieldAddrF rfl rfl fl_28_0 (AOps.cons rfl rfl (AOp.loadF _ rfl rfl ty_24 (ld_fst (fun h => by first | rfl | cases h) (ld_all (lenM eV_len p.lP rfl))) (AOps.cons rfl rfl (AOp.fieldAddrF rfl rfl fl_30_3 (AOps.cons rfl rfl (AOp.loadF _ rfl rfl ty_3 rfl (AOps.cons rfl rfl (AOp.pcall («as» := [.agg (p.aP.flatMap eV), J s.Unit]) rfl rfl (rfl) tf_24 (c_rate_Sides p.aP p.lP s.Unit) ?_)))))))))
 intro H550 m551
 have h552 := m551 _ _ h39
 have m553 := m40.trans m551
 refine AOps.cons rfl rfl (AOp.alloc rfl tz_25 ?_)
 intro i554 H555 n556 h557 k558
 have e559 := ne_new h552 n556
 have z560 := Mono.free m553 n556
 have h561 := keep k558 (ne_new h552 n556) h552
 have m562 := Mono.new m553 n556 k558
 refine AOps.cons rfl rfl (AOp.store' (cells' := (R_rate_Sides p.aP s.Unit).map eI) (.agg ((R_rate_Sides p.aP s.Unit).map eI)) rfl rfl ts_25 h557 (by simp only [AV.cells, List.all_append, List.all_cons, List.all_nil, Bool.and_true, Bool.and_eq_true]; exact (all_one1 eI_one _)) (show (AV.cells (.agg ((R_rate_Sides p.aP s.Unit).map eI))).length = 4 from (len1 (R_rate_Sides_len p.aP s.Unit))) rfl (wr_all rfl (len1 (R_rate_Sides_len p.aP s.Unit))) ?_)
 intro H563 h564 k565
 have h566 := keep k565 e559 h561
 have m568 := Mono.set m562 z560 k565
 refine AWP.seq ?_
 refine AWP.frzP 13 h564 z560 rfl m568 fun H569 m570 k571 => ?_
 have h572 := (k571 _ e559).trans h566
 refine AWP.region rfl ?_
 refine AOps.cons rfl rfl (AOp.loadF _ rfl rfl ty_25 (ld_all (len1 (R_rate_Sides_len p.aP s.Unit))) (AOps.cons rfl rfl (AOp.pcall («as» := [.agg ((R_rate_Sides p.aP s.Unit).map eI)]) rfl rfl (rfl) tf_25 (c_Weave (R_rate_Sides p.aP s.Unit) (R_rate_Sides_len p.aP s.Unit)) ?_)))
 intro H573 m574
 have h575 := m574 _ _ h572
 have m576 := m570.trans m574
 refine AOps.cons rfl rfl (AOp.move _ rfl rfl (AOps.cons rfl rfl (AOp.extract _ rfl rfl rfl (AOps.cons rfl rfl (AOp.extract _ rfl rfl rfl (AOps.cons rfl rfl (AOp.extract _ rfl rfl rfl (AOps.cons rfl rfl (AOp.assign _ rfl rfl (AOps.cons rfl rfl (AOp.assign _ rfl rfl ?_)))))))))))
 refine AOps.cons rfl rfl (AOp.assign _ rfl rfl ?_)
 refine AWP.seq ?_
 have hrl := R_rate_Sides_len p.aP s.Unit
 refine AWP.region_quiet mixed (by kernel_rfl) 7 [7, 8] rfl (by kernel_rfl) (Mono H573) (Mono.refl _) ?_
 refine QE.op rfl rfl (.inl ⟨rfl, fun f' H' hf hM => AOp.loadF _ rfl ((hf 5 rfl).trans rfl) ty_28 (ld_all (len_app (m := 48) (n := 17) (k := 65) (lenM eV_len p.lP rfl) (len_app (m := 4) (n := 13) (k := 17) (len1 p.lCorners) (len_app (m := 12) (n := 1) (k := 13) (lenM eV_len p.lNormals rfl) rfl rfl) rfl) rfl)) ⟨rfl, hM⟩⟩) ?_
 refine QE.op rfl rfl (.inl ⟨rfl, fun f' H' hf hM => AOp.move _ rfl ((hf 1 rfl).trans rfl) ⟨rfl, hM⟩⟩) ?_
 refine QE.op rfl rfl (.inl ⟨rfl, fun f' H' hf hM => AOp.move _ rfl ((hf 2 rfl).trans rfl) ⟨rfl, hM⟩⟩) ?_
 refine QE.op rfl rfl (.inl ⟨rfl, fun f' H' hf hM => AOp.loadF _ rfl ((hf 13 rfl).trans rfl) ty_25 (ld_all (len1 (R_rate_Sides_len p.aP s.Unit))) ⟨rfl, hM⟩⟩) ?_
 refine QE.op rfl rfl (.inl ⟨rfl, fun f' H' hf hM => AOp.sliceAF rfl ((hf 13 rfl).trans rfl) ar_25 (R_rate_Sides_len p.aP s.Unit) SubAt.all ⟨rfl, hM⟩⟩) ?_
 refine QE.op rfl rfl (.inl ⟨rfl, fun f' H' hf hM => AOp.pcall («as» := [.sl (R_rate_Sides p.aP s.Unit).length ((R_rate_Sides p.aP s.Unit).map eI)]) rfl rfl (lapp (lcons ((hf 60 rfl).trans rfl) rfl) rfl) tf_26 (c_Max (R_rate_Sides p.aP s.Unit) (by first | (have := (R_rate_Sides_len p.aP s.Unit); omega) | simp) (by first | omega | assumption | (constructor <;> omega) | simp)) fun H2 m2 => ⟨rfl, hM.trans m2⟩⟩) ?_
 refine QE.op rfl rfl (.inl ⟨rfl, fun f' H' hf hM => AOp.build (ps := [(0, .agg (p.aP.flatMap eV ++ (p.aCorners.map eI ++ (p.aNormals.flatMap eV ++ [J p.Skin])))), (1, J cage), (2, J id), (3, .agg ((R_rate_Sides p.aP s.Unit).map eI)), (4, J (maxL (R_rate_Sides p.aP s.Unit)))]) (cells := p.aP.flatMap eV ++ (p.aCorners.map eI ++ (p.aNormals.flatMap eV ++ ([J p.Skin, J cage, J id] ++ ((R_rate_Sides p.aP s.Unit).map eI ++ [J (maxL (R_rate_Sides p.aP s.Unit))]))))) rfl tz_74 pl_74 (lconsP ((hf 56 rfl).trans rfl) (lconsP ((hf 57 rfl).trans rfl) (lconsP ((hf 58 rfl).trans rfl) (lconsP ((hf 59 rfl).trans rfl) (lconsP ((hf 61 rfl).trans rfl) rfl))))) (fill_step (c' := ((p.aP.flatMap eV : List AV) ++ ((p.aCorners.map eI : List AV) ++ ((p.aNormals.flatMap eV : List AV) ++ ([J p.Skin, J 0, J 0, J 0, J 0, J 0, J 0, J 0] : List AV))))) rfl rfl (show (AV.cells (.agg (p.aP.flatMap eV ++ (p.aCorners.map eI ++ (p.aNormals.flatMap eV ++ [J p.Skin]))))).length = 65 from (len_app (m := 48) (n := 17) (k := 65) (lenM eV_len p.lP rfl) (len_app (m := 4) (n := 13) (k := 17) (len1 p.lCorners) (len_app (m := 12) (n := 1) (k := 13) (lenM eV_len p.lNormals rfl) rfl rfl) rfl) rfl)) rfl (wr_pre (len_app (m := 48) (n := 17) (k := 65) (lenM eV_len p.lP rfl) (len_app (m := 4) (n := 13) (k := 17) (len1 p.lCorners) (len_app (m := 12) (n := 1) (k := 13) (lenM eV_len p.lNormals rfl) rfl rfl) rfl) rfl)) (fill_step (c' := ((p.aP.flatMap eV : List AV) ++ ((p.aCorners.map eI : List AV) ++ ((p.aNormals.flatMap eV : List AV) ++ ([J p.Skin, J cage, J 0, J 0, J 0, J 0, J 0, J 0] : List AV))))) rfl rfl rfl (blelen (len_app (m := 48) (n := 24) (k := 72) (lenM eV_len p.lP rfl) (len_app (m := 4) (n := 20) (k := 24) (len1 p.lCorners) (len_app (m := 12) (n := 8) (k := 20) (lenM eV_len p.lNormals rfl) rfl rfl) rfl) rfl) (by omega)) (wr_skip (off' := 17) (lenM eV_len p.lP rfl) (by omega) (wr_skip (off' := 13) (len1 p.lCorners) (by omega) (wr_skip (off' := 1) (lenM eV_len p.lNormals rfl) (by omega) rfl))) (fill_step (c' := ((p.aP.flatMap eV : List AV) ++ ((p.aCorners.map eI : List AV) ++ ((p.aNormals.flatMap eV : List AV) ++ ([J p.Skin, J cage, J id, J 0, J 0, J 0, J 0, J 0] : List AV))))) rfl rfl rfl (blelen (len_app (m := 48) (n := 24) (k := 72) (lenM eV_len p.lP rfl) (len_app (m := 4) (n := 20) (k := 24) (len1 p.lCorners) (len_app (m := 12) (n := 8) (k := 20) (lenM eV_len p.lNormals rfl) rfl rfl) rfl) rfl) (by omega)) (wr_skip (off' := 18) (lenM eV_len p.lP rfl) (by omega) (wr_skip (off' := 14) (len1 p.lCorners) (by omega) (wr_skip (off' := 2) (lenM eV_len p.lNormals rfl) (by omega) rfl))) (fill_step (c' := ((p.aP.flatMap eV : List AV) ++ ((p.aCorners.map eI : List AV) ++ ((p.aNormals.flatMap eV : List AV) ++ (([J p.Skin, J cage, J id] : List AV) ++ (((R_rate_Sides p.aP s.Unit).map eI : List AV) ++ ([J 0] : List AV))))))) rfl rfl (show (AV.cells (.agg ((R_rate_Sides p.aP s.Unit).map eI))).length = 4 from (len1 (R_rate_Sides_len p.aP s.Unit))) (blelen (len_app (m := 48) (n := 24) (k := 72) (lenM eV_len p.lP rfl) (len_app (m := 4) (n := 20) (k := 24) (len1 p.lCorners) (len_app (m := 12) (n := 8) (k := 20) (lenM eV_len p.lNormals rfl) rfl rfl) rfl) rfl) (by omega)) (wr_skip (off' := 19) (lenM eV_len p.lP rfl) (by omega) (wr_skip (off' := 15) (len1 p.lCorners) (by omega) (wr_skip (off' := 3) (lenM eV_len p.lNormals rfl) (by omega) (wr_skip (A := ([J p.Skin, J cage, J id] : List AV)) (B := ([J 0, J 0, J 0, J 0, J 0] : List AV)) (n := 3) (off' := 0) rfl (by omega) (wr_pre (len1 (R_rate_Sides_len p.aP s.Unit))))))) (fill_step (c' := ((p.aP.flatMap eV : List AV) ++ ((p.aCorners.map eI : List AV) ++ ((p.aNormals.flatMap eV : List AV) ++ (([J p.Skin, J cage, J id] : List AV) ++ (((R_rate_Sides p.aP s.Unit).map eI : List AV) ++ ([J (maxL (R_rate_Sides p.aP s.Unit))] : List AV))))))) rfl rfl rfl (blelen (len_app (m := 48) (n := 24) (k := 72) (lenM eV_len p.lP rfl) (len_app (m := 4) (n := 20) (k := 24) (len1 p.lCorners) (len_app (m := 12) (n := 8) (k := 20) (lenM eV_len p.lNormals rfl) (len_app (m := 3) (n := 5) (k := 8) rfl (len_app (m := 4) (n := 1) (k := 5) (len1 (R_rate_Sides_len p.aP s.Unit)) rfl rfl) rfl) rfl) rfl) rfl) (by omega)) (wr_skip (off' := 23) (lenM eV_len p.lP rfl) (by omega) (wr_skip (off' := 19) (len1 p.lCorners) (by omega) (wr_skip (off' := 7) (lenM eV_len p.lNormals rfl) (by omega) (wr_skip (off' := 4) (n := 3) rfl (by omega) (wr_skip (off' := 0) (len1 (R_rate_Sides_len p.aP s.Unit)) (by omega) rfl))))) (rfl)))))) ⟨rfl, hM⟩⟩) ?_
 refine QE.done fun H577 m578 => ?_
 have h579 := m578 _ _ h575
 have m580 := m576.trans m578
 refine AOps.cons rfl rfl (AOp.box (.agg (p.aP.flatMap eV ++ (p.aCorners.map eI ++ (p.aNormals.flatMap eV ++ ([J p.Skin, J cage, J id] ++ ((R_rate_Sides p.aP s.Unit).map eI ++ [J (maxL (R_rate_Sides p.aP s.Unit))])))))) rfl rfl rfl ?_)
 intro i581 H582 n583 h584 k585
 have e586 := ne_new h579 n583
 have z587 := Mono.free m580 n583
 have h588 := keep k585 (ne_new h579 n583) h579
 have m589 := Mono.new m580 n583 k585
 refine AOps.cons rfl rfl (AOp.assign _ rfl rfl ?_)
 refine AWP.seq ?_
 refine AWP.frzP 17 h584 z587 rfl m589 fun H590 m591 k592 => ?_
 have h593 := (k592 _ e586).trans h588
 refine AWP.region rfl ?_
 refine AOps.cons rfl rfl (AOp.move _ rfl rfl (AOps.cons rfl rfl (AOp.build (cells := [.snil, .snil, .sl ((weaveR (R_rate_Sides p.aP s.Unit)).2.1).length (((weaveR (R_rate_Sides p.aP s.Unit)).2.1).flatMap eI3)]) rfl tz_38 pl_38 rfl rfl (AOps.cons rfl rfl (AOp.alloc rfl tz_38 ?_)))))
 intro i594 H595 n596 h597 k598
 have e599 := ne_new h593 n596
 have z600 := Mono.free m591 n596
 have h601 := keep k598 (ne_new h593 n596) h593
 have m602 := Mono.new m591 n596 k598
 refine AOps.cons rfl rfl (AOp.store' (cells' := [.snil, .snil, .sl ((weaveR (R_rate_Sides p.aP s.Unit)).2.1).length (((weaveR (R_rate_Sides p.aP s.Unit)).2.1).flatMap eI3)]) (.agg [.snil, .snil, .sl ((weaveR (R_rate_Sides p.aP s.Unit)).2.1).length (((weaveR (R_rate_Sides p.aP s.Unit)).2.1).flatMap eI3)]) rfl rfl ts_38 h597 rfl rfl rfl rfl ?_)
 intro H603 h604 k605
 have h606 := keep k605 e599 h601
 have m608 := Mono.set m602 z600 k605
 refine AWP.seq ?_
 refine AWP.seq ?_
 have hwl := weave_len (R_rate_Sides_len p.aP s.Unit)
 refine AWP.region rfl ?_
 refine AOps.cons rfl rfl (AOp.move _ rfl rfl (AOps.cons rfl rfl (AOp.len (m := ((weaveR (R_rate_Sides p.aP s.Unit)).1).length) rfl rfl (.inr (.inl ⟨_, rfl⟩)) u_68 (AOps.cons rfl rfl (AOp.move _ rfl rfl ?_)))))
 refine AWP.block ?_
 refine AWP.loop (fun q609 fq Hq => ∃ (i : Int) (w18_0 : AV) (w18_1 : AV), q609 = (((weaveR (R_rate_Sides p.aP s.Unit)).1.length : Int) - i).toNat ∧ fq 68 = J i ∧ fq 4 = .sl texs.length (texs.flatMap eTex) ∧ fq 8 = .fptr [.str s.Name, J s.Mat, J s.Levels, J s.Unit, J s.Tex, J s.Height] 0 ∧ fq 10 = .ptr i17 0 0 ∧ fq 17 = .fptr ((p.aP.flatMap eV) ++ ((p.aCorners.map eI) ++ ((p.aNormals.flatMap eV) ++ (([J p.Skin, J cage, J id] : List AV) ++ (((R_rate_Sides p.aP s.Unit).map eI) ++ ([J (maxL (R_rate_Sides p.aP s.Unit))] : List AV)))))) 0 ∧ fq 18 = .ptr i594 0 0 ∧ fq 66 = .sl ((weaveR (R_rate_Sides p.aP s.Unit)).1).length (((weaveR (R_rate_Sides p.aP s.Unit)).1).flatMap eSpot) ∧ fq 67 = J ((((weaveR (R_rate_Sides p.aP s.Unit)).1).length) : Int) ∧ Own H0 Hq 3 w18_0 (((weaveR (R_rate_Sides p.aP s.Unit)).1.take i.toNat).map (fD p cage id s texs)).length ((((weaveR (R_rate_Sides p.aP s.Unit)).1.take i.toNat).map (fD p cage id s texs)).flatMap eV) ∧ Own H0 Hq 5 w18_1 (((weaveR (R_rate_Sides p.aP s.Unit)).1.take i.toNat).map (kD p cage id s)).length ((((weaveR (R_rate_Sides p.aP s.Unit)).1.take i.toNat).map (kD p cage id s)).flatMap eKey) ∧ NotId w18_0 i17 ∧ NotId w18_0 i594 ∧ NotId w18_1 i17 ∧ NotId w18_1 i594 ∧ Sep w18_0 w18_1 ∧ Hq i17 = some (.row 0 ([.snil, .snil, .snil])) ∧ Hq i594 = some (.row 0 ([w18_0, w18_1, .sl ((weaveR (R_rate_Sides p.aP s.Unit)).2.1).length (((weaveR (R_rate_Sides p.aP s.Unit)).2.1).flatMap eI3)])) ∧ Mono H0 Hq ∧ (0 ≤ i) ∧ (i ≤ ((weaveR (R_rate_Sides p.aP s.Unit)).1.length : Int)) ∧ (∀ j : Int, 0 ≤ j → j < i → (plT s texs (vtxD p cage id s (at_ (weaveR (R_rate_Sides p.aP s.Unit)).1 j))).isSome = true)) (k := (((weaveR (R_rate_Sides p.aP s.Unit)).1.length : Int) - 0).toNat) ?_ ?_
 exact ⟨0, .snil, .snil, rfl, rfl, rfl, rfl, rfl, rfl, rfl, rfl, rfl, Own.nil _ _ _, Own.nil _ _ _, (NotId.nil _), (NotId.nil _), (NotId.nil _), (NotId.nil _), (Sep.nilL _), h606, h604, m608, by omega, by omega, by intro j; omega⟩
 rintro _ f611 H610 ⟨i, w18_0, w18_1, rfl, s612, s613, s614, s615, s616, s617, s618, s619, o620, o621, no622, no623, no624, no625, sp626, h627, h628, m629, hi0, hi1, pre⟩
 refine AWP.seq (AWP.region rfl ?_)
 refine AOps.cons rfl rfl (AOp.bin _ rfl s612 s619 rfl ?_)
 refine AWP.seq ?_
 by_cases b630 : i < ((((weaveR (R_rate_Sides p.aP s.Unit)).1).length) : Int)
 refine AWP.condT rfl (decide_eq_true b630) ?_
 refine AWP.skip ?_
 refine AWP.seq ?_
 refine AWP.block ?_
 refine AWP.seq (AWP.region rfl ?_)
 refine AOps.cons rfl rfl (AOp.indexAddrS rfl s618 s612 sl_68 (by omega) (by omega) (AOps.cons rfl rfl (AOp.loadF _ rfl rfl ty_76 (ldM eSpot_len (by omega) (by omega)) (AOps.cons rfl rfl (AOp.alloc rfl tz_76 ?_)))))
 intro i631 H632 n633 h634 k635
 have e636 := ne_new h627 n633
 have e637 := ne_new h628 n633
 have z638 := Mono.free m629 n633
 have h639 := keep k635 (ne_new h627 n633) h627
 have h640 := keep k635 (ne_new h628 n633) h628
 have o641 := Own.keep o620 k635 (Own.notnew o620 n633)
 have no642 := Own.notnew o620 n633
 have o643 := Own.keep o621 k635 (Own.notnew o621 n633)
 have no644 := Own.notnew o621 n633
 have m645 := Mono.new m629 n633 k635
 refine AOps.cons rfl rfl (AOp.store' (cells' := [J ((at_ ((weaveR (R_rate_Sides p.aP s.Unit)).1) i).Kind), J ((at_ ((weaveR (R_rate_Sides p.aP s.Unit)).1) i).A), J ((at_ ((weaveR (R_rate_Sides p.aP s.Unit)).1) i).B)]) (.agg [J ((at_ ((weaveR (R_rate_Sides p.aP s.Unit)).1) i).Kind), J ((at_ ((weaveR (R_rate_Sides p.aP s.Unit)).1) i).A), J ((at_ ((weaveR (R_rate_Sides p.aP s.Unit)).1) i).B)]) rfl rfl ts_76 h634 rfl rfl rfl rfl ?_)
 intro H646 h647 k648
 have h649 := keep k648 e636 h639
 have h650 := keep k648 e637 h640
 have o652 := Own.keep o641 k648 no642
 have o653 := Own.keep o643 k648 no644
 have m654 := Mono.set m645 z638 k648
 refine AWP.seq ?_
 refine AWP.frzP 20 h647 z638 rfl m654 fun H655 m656 k657 => ?_
 have h658 := (k657 _ e636).trans h649
 have h659 := (k657 _ e637).trans h650
 have o660 := Own.keep o652 k657 no642
 have o661 := Own.keep o653 k657 no644
 obtain ⟨hr, hm, hx⟩ := weave_mem (R_rate_Sides_len p.aP s.Unit) (at_mem (l := (weaveR (R_rate_Sides p.aP s.Unit)).1) (i := i) (by omega) (by omega))
 refine AWP.region rfl ?_
 refine AOps.cons rfl rfl (AOp.move _ rfl s616 (AOps.cons rfl rfl (AOp.loadF _ rfl rfl ty_76 rfl (AOps.cons rfl rfl (AOp.pcall («as» := [.fptr ((p.aP.flatMap eV) ++ ((p.aCorners.map eI) ++ ((p.aNormals.flatMap eV) ++ (([J p.Skin, J cage, J id] : List AV) ++ (((R_rate_Sides p.aP s.Unit).map eI) ++ ([J (maxL (R_rate_Sides p.aP s.Unit))] : List AV)))))) 0, .agg [J ((at_ ((weaveR (R_rate_Sides p.aP s.Unit)).1) i).Kind), J ((at_ ((weaveR (R_rate_Sides p.aP s.Unit)).1) i).A), J ((at_ ((weaveR (R_rate_Sides p.aP s.Unit)).1) i).B)]]) rfl rfl (rfl) tf_27 (c_mesh_vertex p cage id (R_rate_Sides p.aP s.Unit) (R_rate_Sides_len p.aP s.Unit) (maxL (R_rate_Sides p.aP s.Unit)) (at_ ((weaveR (R_rate_Sides p.aP s.Unit)).1) i) (by first | omega | assumption | (constructor <;> omega)) (by first | omega | assumption | (constructor <;> omega)) (by first | omega | assumption | (constructor <;> omega))) ?_)))))
 intro H662 m663
 have h664 := m663 _ _ h658
 have h665 := m663 _ _ h659
 have o666 := Own.mono o660 m663
 have o667 := Own.mono o661 m663
 have m668 := m656.trans m663
 refine AOps.cons rfl rfl (AOp.alloc rfl tz_78 ?_)
 intro i669 H670 n671 h672 k673
 have e674 := ne_new h664 n671
 have e675 := ne_new h665 n671
 have z676 := Mono.free m668 n671
 have h677 := keep k673 (ne_new h664 n671) h664
 have h678 := keep k673 (ne_new h665 n671) h665
 have o679 := Own.keep o666 k673 (Own.notnew o666 n671)
 have no680 := Own.notnew o666 n671
 have o681 := Own.keep o667 k673 (Own.notnew o667 n671)
 have no682 := Own.notnew o667 n671
 have m683 := Mono.new m668 n671 k673
 refine AOps.cons rfl rfl (AOp.store' (cells' := [J (((R_mesh_vertex p cage id (R_rate_Sides p.aP s.Unit) (maxL (R_rate_Sides p.aP s.Unit)) (at_ ((weaveR (R_rate_Sides p.aP s.Unit)).1) i)).atF).X), J (((R_mesh_vertex p cage id (R_rate_Sides p.aP s.Unit) (maxL (R_rate_Sides p.aP s.Unit)) (at_ ((weaveR (R_rate_Sides p.aP s.Unit)).1) i)).atF).Y), J (((R_mesh_vertex p cage id (R_rate_Sides p.aP s.Unit) (maxL (R_rate_Sides p.aP s.Unit)) (at_ ((weaveR (R_rate_Sides p.aP s.Unit)).1) i)).atF).Z), J (((R_mesh_vertex p cage id (R_rate_Sides p.aP s.Unit) (maxL (R_rate_Sides p.aP s.Unit)) (at_ ((weaveR (R_rate_Sides p.aP s.Unit)).1) i)).up).X), J (((R_mesh_vertex p cage id (R_rate_Sides p.aP s.Unit) (maxL (R_rate_Sides p.aP s.Unit)) (at_ ((weaveR (R_rate_Sides p.aP s.Unit)).1) i)).up).Y), J (((R_mesh_vertex p cage id (R_rate_Sides p.aP s.Unit) (maxL (R_rate_Sides p.aP s.Unit)) (at_ ((weaveR (R_rate_Sides p.aP s.Unit)).1) i)).up).Z), J (((R_mesh_vertex p cage id (R_rate_Sides p.aP s.Unit) (maxL (R_rate_Sides p.aP s.Unit)) (at_ ((weaveR (R_rate_Sides p.aP s.Unit)).1) i)).key).Kind), J (((R_mesh_vertex p cage id (R_rate_Sides p.aP s.Unit) (maxL (R_rate_Sides p.aP s.Unit)) (at_ ((weaveR (R_rate_Sides p.aP s.Unit)).1) i)).key).Of), J (((R_mesh_vertex p cage id (R_rate_Sides p.aP s.Unit) (maxL (R_rate_Sides p.aP s.Unit)) (at_ ((weaveR (R_rate_Sides p.aP s.Unit)).1) i)).key).A), J (((R_mesh_vertex p cage id (R_rate_Sides p.aP s.Unit) (maxL (R_rate_Sides p.aP s.Unit)) (at_ ((weaveR (R_rate_Sides p.aP s.Unit)).1) i)).key).B), J (((R_mesh_vertex p cage id (R_rate_Sides p.aP s.Unit) (maxL (R_rate_Sides p.aP s.Unit)) (at_ ((weaveR (R_rate_Sides p.aP s.Unit)).1) i)).key).N)]) (.agg [J (((R_mesh_vertex p cage id (R_rate_Sides p.aP s.Unit) (maxL (R_rate_Sides p.aP s.Unit)) (at_ ((weaveR (R_rate_Sides p.aP s.Unit)).1) i)).atF).X), J (((R_mesh_vertex p cage id (R_rate_Sides p.aP s.Unit) (maxL (R_rate_Sides p.aP s.Unit)) (at_ ((weaveR (R_rate_Sides p.aP s.Unit)).1) i)).atF).Y), J (((R_mesh_vertex p cage id (R_rate_Sides p.aP s.Unit) (maxL (R_rate_Sides p.aP s.Unit)) (at_ ((weaveR (R_rate_Sides p.aP s.Unit)).1) i)).atF).Z), J (((R_mesh_vertex p cage id (R_rate_Sides p.aP s.Unit) (maxL (R_rate_Sides p.aP s.Unit)) (at_ ((weaveR (R_rate_Sides p.aP s.Unit)).1) i)).up).X), J (((R_mesh_vertex p cage id (R_rate_Sides p.aP s.Unit) (maxL (R_rate_Sides p.aP s.Unit)) (at_ ((weaveR (R_rate_Sides p.aP s.Unit)).1) i)).up).Y), J (((R_mesh_vertex p cage id (R_rate_Sides p.aP s.Unit) (maxL (R_rate_Sides p.aP s.Unit)) (at_ ((weaveR (R_rate_Sides p.aP s.Unit)).1) i)).up).Z), J (((R_mesh_vertex p cage id (R_rate_Sides p.aP s.Unit) (maxL (R_rate_Sides p.aP s.Unit)) (at_ ((weaveR (R_rate_Sides p.aP s.Unit)).1) i)).key).Kind), J (((R_mesh_vertex p cage id (R_rate_Sides p.aP s.Unit) (maxL (R_rate_Sides p.aP s.Unit)) (at_ ((weaveR (R_rate_Sides p.aP s.Unit)).1) i)).key).Of), J (((R_mesh_vertex p cage id (R_rate_Sides p.aP s.Unit) (maxL (R_rate_Sides p.aP s.Unit)) (at_ ((weaveR (R_rate_Sides p.aP s.Unit)).1) i)).key).A), J (((R_mesh_vertex p cage id (R_rate_Sides p.aP s.Unit) (maxL (R_rate_Sides p.aP s.Unit)) (at_ ((weaveR (R_rate_Sides p.aP s.Unit)).1) i)).key).B), J (((R_mesh_vertex p cage id (R_rate_Sides p.aP s.Unit) (maxL (R_rate_Sides p.aP s.Unit)) (at_ ((weaveR (R_rate_Sides p.aP s.Unit)).1) i)).key).N)]) rfl rfl ts_78 h672 rfl rfl rfl rfl ?_)
 intro H684 h685 k686
 have h687 := keep k686 e674 h677
 have h688 := keep k686 e675 h678
 have o690 := Own.keep o679 k686 no680
 have o691 := Own.keep o681 k686 no682
 have m692 := Mono.set m683 z676 k686
 refine AWP.seq ?_
 refine AWP.seq (AWP.region rfl ?_)
 refine AOps.cons rfl rfl (AOp.fieldAddrF rfl s614 fl_30_4 (AOps.cons rfl rfl (AOp.loadF _ rfl rfl ty_3 rfl (AOps.cons rfl rfl (AOp.bin _ rfl rfl rfl rfl (AOps.cons rfl rfl (AOp.move _ rfl rfl ?_)))))))
 by_cases b693 : s.Tex ≥ 0
 refine AOps.yes rfl rfl rfl rfl rfl rfl rfl (decide_eq_true b693) (AOp.fieldAddrF rfl s614 fl_30_5 (AOps.yes rfl rfl rfl rfl rfl rfl rfl (decide_eq_true b693) (AOp.loadF _ rfl rfl ty_3 rfl (AOps.yes rfl rfl rfl rfl rfl rfl rfl (decide_eq_true b693) (AOp.bin _ rfl rfl rfl rfl (AOps.cons rfl rfl (AOp.pickT _ rfl rfl (decide_eq_true b693) rfl ?_)))))))
 refine AOps.nil ?_
 change AWP _ _ _ _ _ _
 by_cases b694 : s.Height > 0
 refine AWP.condT rfl (decide_eq_true b694) ?_
 refine AWP.seq ?_
 have htr := htx _ (at_mem (i := s.Tex) (l := texs) (by omega) (by omega))
 refine AWP.region_quiet mixed (by kernel_rfl) 13 [] rfl (by kernel_rfl) (Mono H684) (Mono.refl _) ?_
 refine QE.op rfl rfl (.inl ⟨rfl, fun f' H' hf hM => AOp.move _ rfl ((hf 4 rfl).trans s613) ⟨rfl, hM⟩⟩) ?_
 refine QE.op rfl rfl (.inl ⟨rfl, fun f' H' hf hM => AOp.fieldAddrF rfl ((hf 8 rfl).trans s614) fl_30_4 ⟨rfl, hM⟩⟩) ?_
 refine QE.op rfl rfl (.inl ⟨rfl, fun f' H' hf hM => AOp.loadF _ rfl ((hf 85 rfl).trans rfl) ty_3 rfl ⟨rfl, hM⟩⟩) ?_
 refine QE.op rfl rfl (.inl ⟨rfl, fun f' H' hf hM => AOp.indexAddrS rfl ((hf 84 rfl).trans rfl) ((hf 86 rfl).trans rfl) sl_31 (by omega) (by omega) ⟨rfl, hM⟩⟩) ?_
 refine QE.op rfl rfl (.inl ⟨rfl, fun f' H' hf hM => AOp.loadF _ rfl ((hf 87 rfl).trans rfl) ty_65 (ldM eTex_len (by omega) (by omega)) ⟨rfl, hM⟩⟩) ?_
 refine QE.op rfl rfl (.inl ⟨rfl, fun f' H' hf hM => AOp.fieldAddr rfl ((hf 21 rfl).trans rfl) fl_78_0 ⟨rfl, hM⟩ (hid := ⟨_, (hM _ _ h685)⟩)⟩) ?_
 refine QE.op rfl rfl (.inl ⟨rfl, fun f' H' hf hM => AOp.load _ rfl ((hf 89 rfl).trans rfl) ty_23 (hM _ _ h685) rfl ⟨rfl, hM⟩⟩) ?_
 refine QE.op rfl rfl (.inl ⟨rfl, fun f' H' hf hM => AOp.pcall («as» := [.agg [.str ((at_ texs s.Tex).Name), J ((at_ texs s.Tex).W), J ((at_ texs s.Tex).H), .sl ((at_ texs s.Tex).Rows).length (((at_ texs s.Tex).Rows).map eI)], .agg [J (((R_mesh_vertex p cage id (R_rate_Sides p.aP s.Unit) (maxL (R_rate_Sides p.aP s.Unit)) (at_ ((weaveR (R_rate_Sides p.aP s.Unit)).1) i)).atF).X), J (((R_mesh_vertex p cage id (R_rate_Sides p.aP s.Unit) (maxL (R_rate_Sides p.aP s.Unit)) (at_ ((weaveR (R_rate_Sides p.aP s.Unit)).1) i)).atF).Y), J (((R_mesh_vertex p cage id (R_rate_Sides p.aP s.Unit) (maxL (R_rate_Sides p.aP s.Unit)) (at_ ((weaveR (R_rate_Sides p.aP s.Unit)).1) i)).atF).Z)]]) rfl rfl (lapp (lcons ((hf 88 rfl).trans rfl) (lcons ((hf 90 rfl).trans rfl) rfl)) rfl) tf_28 (c_relief_Texel (at_ texs s.Tex) ((R_mesh_vertex p cage id (R_rate_Sides p.aP s.Unit) (maxL (R_rate_Sides p.aP s.Unit)) (at_ ((weaveR (R_rate_Sides p.aP s.Unit)).1) i)).atF) (by first | omega | assumption)) fun H2 m2 => ⟨rfl, hM.trans m2⟩⟩) ?_
 refine QE.op rfl rfl (.inl ⟨rfl, fun f' H' hf hM => AOp.move _ rfl ((hf 91 rfl).trans rfl) ⟨rfl, hM⟩⟩) ?_
 refine QE.op rfl rfl (.inl ⟨rfl, fun f' H' hf hM => AOp.extract _ rfl ((hf 83 rfl).trans rfl) rfl ⟨rfl, hM⟩⟩) ?_
 refine QE.op rfl rfl (.inl ⟨rfl, fun f' H' hf hM => AOp.extract _ rfl ((hf 83 rfl).trans rfl) rfl ⟨rfl, hM⟩⟩) ?_
 refine QE.op rfl rfl (.inl ⟨rfl, fun f' H' hf hM => AOp.assign _ rfl ((hf 92 rfl).trans rfl) ⟨rfl, hM⟩⟩) ?_
 refine QE.op rfl rfl (.inl ⟨rfl, fun f' H' hf hM => AOp.assign _ rfl ((hf 93 rfl).trans rfl) ⟨rfl, hM⟩⟩) ?_
 refine QE.done fun H695 m696 => ?_
 have h697 := m696 _ _ h687
 have h698 := m696 _ _ h688
 have h699 := m696 _ _ h685
 have o700 := Own.mono o690 m696
 have o701 := Own.mono o691 m696
 have m702 := m692.trans m696
 refine AWP.seq ?_
 refine AWP.seq (AWP.region rfl ?_)
 refine AOps.cons rfl rfl (AOp.move _ rfl rfl (AOps.cons rfl rfl (AOp.not rfl rfl ?_)))
 refine AOps.nil ?_
 change AWP _ _ _ _ _ _
 rcases Bool.eq_false_or_eq_true ((R_relief_Texel (at_ texs s.Tex) ((R_mesh_vertex p cage id (R_rate_Sides p.aP s.Unit) (maxL (R_rate_Sides p.aP s.Unit)) (at_ ((weaveR (R_rate_Sides p.aP s.Unit)).1) i)).atF)).2) with b703 | b703
 refine AWP.condF rfl (nb b703) ?_
 refine AWP.skip ?_
 refine AWP.region rfl ?_
 refine AOps.cons rfl rfl (AOp.fieldAddr rfl rfl fl_78_0 ?_ (hid := ⟨_, h699⟩))
 refine AOps.cons rfl rfl (AOp.load _ rfl rfl ty_23 h699 rfl ?_)
 refine AOps.cons rfl rfl (AOp.fieldAddr rfl rfl fl_78_1 ?_ (hid := ⟨_, h699⟩))
 refine AOps.cons rfl rfl (AOp.load _ rfl rfl ty_23 h699 rfl (AOps.cons rfl rfl (AOp.move _ rfl rfl (AOps.cons rfl rfl (AOp.fieldAddrF rfl s614 fl_30_5 (AOps.cons rfl rfl (AOp.loadF _ rfl rfl ty_3 rfl (AOps.cons rfl rfl (AOp.pcall («as» := [.agg [J (((R_mesh_vertex p cage id (R_rate_Sides p.aP s.Unit) (maxL (R_rate_Sides p.aP s.Unit)) (at_ ((weaveR (R_rate_Sides p.aP s.Unit)).1) i)).atF).X), J (((R_mesh_vertex p cage id (R_rate_Sides p.aP s.Unit) (maxL (R_rate_Sides p.aP s.Unit)) (at_ ((weaveR (R_rate_Sides p.aP s.Unit)).1) i)).atF).Y), J (((R_mesh_vertex p cage id (R_rate_Sides p.aP s.Unit) (maxL (R_rate_Sides p.aP s.Unit)) (at_ ((weaveR (R_rate_Sides p.aP s.Unit)).1) i)).atF).Z)], .agg [J (((R_mesh_vertex p cage id (R_rate_Sides p.aP s.Unit) (maxL (R_rate_Sides p.aP s.Unit)) (at_ ((weaveR (R_rate_Sides p.aP s.Unit)).1) i)).up).X), J (((R_mesh_vertex p cage id (R_rate_Sides p.aP s.Unit) (maxL (R_rate_Sides p.aP s.Unit)) (at_ ((weaveR (R_rate_Sides p.aP s.Unit)).1) i)).up).Y), J (((R_mesh_vertex p cage id (R_rate_Sides p.aP s.Unit) (maxL (R_rate_Sides p.aP s.Unit)) (at_ ((weaveR (R_rate_Sides p.aP s.Unit)).1) i)).up).Z)], J ((R_relief_Texel (at_ texs s.Tex) ((R_mesh_vertex p cage id (R_rate_Sides p.aP s.Unit) (maxL (R_rate_Sides p.aP s.Unit)) (at_ ((weaveR (R_rate_Sides p.aP s.Unit)).1) i)).atF)).1), J s.Height]) rfl rfl (rfl) tf_29 (c_relief_Lift ((R_mesh_vertex p cage id (R_rate_Sides p.aP s.Unit) (maxL (R_rate_Sides p.aP s.Unit)) (at_ ((weaveR (R_rate_Sides p.aP s.Unit)).1) i)).atF) ((R_mesh_vertex p cage id (R_rate_Sides p.aP s.Unit) (maxL (R_rate_Sides p.aP s.Unit)) (at_ ((weaveR (R_rate_Sides p.aP s.Unit)).1) i)).up) ((R_relief_Texel (at_ texs s.Tex) ((R_mesh_vertex p cage id (R_rate_Sides p.aP s.Unit) (maxL (R_rate_Sides p.aP s.Unit)) (at_ ((weaveR (R_rate_Sides p.aP s.Unit)).1) i)).atF)).1) s.Height) ?_)))))))))
 intro H704 m705
 have h706 := m705 _ _ h697
 have h707 := m705 _ _ h698
 have h708 := m705 _ _ h699
 have o709 := Own.mono o700 m705
 have o710 := Own.mono o701 m705
 have m711 := m702.trans m705
 refine AOps.cons rfl rfl (AOp.move _ rfl rfl (AOps.cons rfl rfl (AOp.extract _ rfl rfl rfl (AOps.cons rfl rfl (AOp.extract _ rfl rfl rfl ?_)))))
 refine AOps.cons rfl rfl (AOp.fieldAddr rfl rfl fl_78_0 ?_ (hid := ⟨_, h708⟩))
 refine AOps.cons rfl rfl (AOp.store' (cells' := [J (((R_relief_Lift ((R_mesh_vertex p cage id (R_rate_Sides p.aP s.Unit) (maxL (R_rate_Sides p.aP s.Unit)) (at_ ((weaveR (R_rate_Sides p.aP s.Unit)).1) i)).atF) ((R_mesh_vertex p cage id (R_rate_Sides p.aP s.Unit) (maxL (R_rate_Sides p.aP s.Unit)) (at_ ((weaveR (R_rate_Sides p.aP s.Unit)).1) i)).up) ((R_relief_Texel (at_ texs s.Tex) ((R_mesh_vertex p cage id (R_rate_Sides p.aP s.Unit) (maxL (R_rate_Sides p.aP s.Unit)) (at_ ((weaveR (R_rate_Sides p.aP s.Unit)).1) i)).atF)).1) s.Height).1).X), J (((R_relief_Lift ((R_mesh_vertex p cage id (R_rate_Sides p.aP s.Unit) (maxL (R_rate_Sides p.aP s.Unit)) (at_ ((weaveR (R_rate_Sides p.aP s.Unit)).1) i)).atF) ((R_mesh_vertex p cage id (R_rate_Sides p.aP s.Unit) (maxL (R_rate_Sides p.aP s.Unit)) (at_ ((weaveR (R_rate_Sides p.aP s.Unit)).1) i)).up) ((R_relief_Texel (at_ texs s.Tex) ((R_mesh_vertex p cage id (R_rate_Sides p.aP s.Unit) (maxL (R_rate_Sides p.aP s.Unit)) (at_ ((weaveR (R_rate_Sides p.aP s.Unit)).1) i)).atF)).1) s.Height).1).Y), J (((R_relief_Lift ((R_mesh_vertex p cage id (R_rate_Sides p.aP s.Unit) (maxL (R_rate_Sides p.aP s.Unit)) (at_ ((weaveR (R_rate_Sides p.aP s.Unit)).1) i)).atF) ((R_mesh_vertex p cage id (R_rate_Sides p.aP s.Unit) (maxL (R_rate_Sides p.aP s.Unit)) (at_ ((weaveR (R_rate_Sides p.aP s.Unit)).1) i)).up) ((R_relief_Texel (at_ texs s.Tex) ((R_mesh_vertex p cage id (R_rate_Sides p.aP s.Unit) (maxL (R_rate_Sides p.aP s.Unit)) (at_ ((weaveR (R_rate_Sides p.aP s.Unit)).1) i)).atF)).1) s.Height).1).Z), J (((R_mesh_vertex p cage id (R_rate_Sides p.aP s.Unit) (maxL (R_rate_Sides p.aP s.Unit)) (at_ ((weaveR (R_rate_Sides p.aP s.Unit)).1) i)).up).X), J (((R_mesh_vertex p cage id (R_rate_Sides p.aP s.Unit) (maxL (R_rate_Sides p.aP s.Unit)) (at_ ((weaveR (R_rate_Sides p.aP s.Unit)).1) i)).up).Y), J (((R_mesh_vertex p cage id (R_rate_Sides p.aP s.Unit) (maxL (R_rate_Sides p.aP s.Unit)) (at_ ((weaveR (R_rate_Sides p.aP s.Unit)).1) i)).up).Z), J (((R_mesh_vertex p cage id (R_rate_Sides p.aP s.Unit) (maxL (R_rate_Sides p.aP s.Unit)) (at_ ((weaveR (R_rate_Sides p.aP s.Unit)).1) i)).key).Kind), J (((R_mesh_vertex p cage id (R_rate_Sides p.aP s.Unit) (maxL (R_rate_Sides p.aP s.Unit)) (at_ ((weaveR (R_rate_Sides p.aP s.Unit)).1) i)).key).Of), J (((R_mesh_vertex p cage id (R_rate_Sides p.aP s.Unit) (maxL (R_rate_Sides p.aP s.Unit)) (at_ ((weaveR (R_rate_Sides p.aP s.Unit)).1) i)).key).A), J (((R_mesh_vertex p cage id (R_rate_Sides p.aP s.Unit) (maxL (R_rate_Sides p.aP s.Unit)) (at_ ((weaveR (R_rate_Sides p.aP s.Unit)).1) i)).key).B), J (((R_mesh_vertex p cage id (R_rate_Sides p.aP s.Unit) (maxL (R_rate_Sides p.aP s.Unit)) (at_ ((weaveR (R_rate_Sides p.aP s.Unit)).1) i)).key).N)]) (.agg [J (((R_relief_Lift ((R_mesh_vertex p cage id (R_rate_Sides p.aP s.Unit) (maxL (R_rate_Sides p.aP s.Unit)) (at_ ((weaveR (R_rate_Sides p.aP s.Unit)).1) i)).atF) ((R_mesh_vertex p cage id (R_rate_Sides p.aP s.Unit) (maxL (R_rate_Sides p.aP s.Unit)) (at_ ((weaveR (R_rate_Sides p.aP s.Unit)).1) i)).up) ((R_relief_Texel (at_ texs s.Tex) ((R_mesh_vertex p cage id (R_rate_Sides p.aP s.Unit) (maxL (R_rate_Sides p.aP s.Unit)) (at_ ((weaveR (R_rate_Sides p.aP s.Unit)).1) i)).atF)).1) s.Height).1).X), J (((R_relief_Lift ((R_mesh_vertex p cage id (R_rate_Sides p.aP s.Unit) (maxL (R_rate_Sides p.aP s.Unit)) (at_ ((weaveR (R_rate_Sides p.aP s.Unit)).1) i)).atF) ((R_mesh_vertex p cage id (R_rate_Sides p.aP s.Unit) (maxL (R_rate_Sides p.aP s.Unit)) (at_ ((weaveR (R_rate_Sides p.aP s.Unit)).1) i)).up) ((R_relief_Texel (at_ texs s.Tex) ((R_mesh_vertex p cage id (R_rate_Sides p.aP s.Unit) (maxL (R_rate_Sides p.aP s.Unit)) (at_ ((weaveR (R_rate_Sides p.aP s.Unit)).1) i)).atF)).1) s.Height).1).Y), J (((R_relief_Lift ((R_mesh_vertex p cage id (R_rate_Sides p.aP s.Unit) (maxL (R_rate_Sides p.aP s.Unit)) (at_ ((weaveR (R_rate_Sides p.aP s.Unit)).1) i)).atF) ((R_mesh_vertex p cage id (R_rate_Sides p.aP s.Unit) (maxL (R_rate_Sides p.aP s.Unit)) (at_ ((weaveR (R_rate_Sides p.aP s.Unit)).1) i)).up) ((R_relief_Texel (at_ texs s.Tex) ((R_mesh_vertex p cage id (R_rate_Sides p.aP s.Unit) (maxL (R_rate_Sides p.aP s.Unit)) (at_ ((weaveR (R_rate_Sides p.aP s.Unit)).1) i)).atF)).1) s.Height).1).Z)]) rfl rfl ts_23 h708 rfl rfl rfl rfl ?_)
 intro H712 h713 k714
 have h715 := keep k714 e674 h706
 have h716 := keep k714 e675 h707
 have o718 := Own.keep o709 k714 no680
 have o719 := Own.keep o710 k714 no682
 have m720 := Mono.set m711 z676 k714
 refine AWP.seq ?_
 have hpl : plT s texs (vtxD p cage id s (at_ (weaveR (R_rate_Sides p.aP s.Unit)).1 i)) = some ((R_relief_Lift ((R_mesh_vertex p cage id (R_rate_Sides p.aP s.Unit) (maxL (R_rate_Sides p.aP s.Unit)) (at_ ((weaveR (R_rate_Sides p.aP s.Unit)).1) i)).atF) ((R_mesh_vertex p cage id (R_rate_Sides p.aP s.Unit) (maxL (R_rate_Sides p.aP s.Unit)) (at_ ((weaveR (R_rate_Sides p.aP s.Unit)).1) i)).up) ((R_relief_Texel (at_ texs s.Tex) ((R_mesh_vertex p cage id (R_rate_Sides p.aP s.Unit) (maxL (R_rate_Sides p.aP s.Unit)) (at_ ((weaveR (R_rate_Sides p.aP s.Unit)).1) i)).atF)).1) s.Height).1) := by unfold plT vtxD; rw [if_pos ⟨by omega, by omega⟩, if_pos b703] <;> rfl
 have hq1 : (((weaveR (R_rate_Sides p.aP s.Unit)).1.take i.toNat).map (fD p cage id s texs)).length ≤ 400 := by simp only [List.length_map, List.length_take]; omega
 have hq2 : (((weaveR (R_rate_Sides p.aP s.Unit)).1.take i.toNat).map (kD p cage id s)).length ≤ 400 := by simp only [List.length_map, List.length_take]; omega
 refine AWP.region rfl ?_
 refine AOps.cons rfl rfl (AOp.fieldAddr rfl s617 fl_38_0 ?_ (hid := ⟨_, h716⟩))
 refine AOps.cons rfl rfl (AOp.load _ rfl rfl ty_34 h716 rfl ?_)
 refine AOps.cons rfl rfl (AOp.fieldAddr rfl rfl fl_78_0 ?_ (hid := ⟨_, h713⟩))
 refine AOps.cons rfl rfl (AOp.load _ rfl rfl ty_23 h713 rfl (AOps.cons rfl rfl (AOp.buildSlice (cells := [J (((R_relief_Lift ((R_mesh_vertex p cage id (R_rate_Sides p.aP s.Unit) (maxL (R_rate_Sides p.aP s.Unit)) (at_ ((weaveR (R_rate_Sides p.aP s.Unit)).1) i)).atF) ((R_mesh_vertex p cage id (R_rate_Sides p.aP s.Unit) (maxL (R_rate_Sides p.aP s.Unit)) (at_ ((weaveR (R_rate_Sides p.aP s.Unit)).1) i)).up) ((R_relief_Texel (at_ texs s.Tex) ((R_mesh_vertex p cage id (R_rate_Sides p.aP s.Unit) (maxL (R_rate_Sides p.aP s.Unit)) (at_ ((weaveR (R_rate_Sides p.aP s.Unit)).1) i)).atF)).1) s.Height).1).X), J (((R_relief_Lift ((R_mesh_vertex p cage id (R_rate_Sides p.aP s.Unit) (maxL (R_rate_Sides p.aP s.Unit)) (at_ ((weaveR (R_rate_Sides p.aP s.Unit)).1) i)).atF) ((R_mesh_vertex p cage id (R_rate_Sides p.aP s.Unit) (maxL (R_rate_Sides p.aP s.Unit)) (at_ ((weaveR (R_rate_Sides p.aP s.Unit)).1) i)).up) ((R_relief_Texel (at_ texs s.Tex) ((R_mesh_vertex p cage id (R_rate_Sides p.aP s.Unit) (maxL (R_rate_Sides p.aP s.Unit)) (at_ ((weaveR (R_rate_Sides p.aP s.Unit)).1) i)).atF)).1) s.Height).1).Y), J (((R_relief_Lift ((R_mesh_vertex p cage id (R_rate_Sides p.aP s.Unit) (maxL (R_rate_Sides p.aP s.Unit)) (at_ ((weaveR (R_rate_Sides p.aP s.Unit)).1) i)).atF) ((R_mesh_vertex p cage id (R_rate_Sides p.aP s.Unit) (maxL (R_rate_Sides p.aP s.Unit)) (at_ ((weaveR (R_rate_Sides p.aP s.Unit)).1) i)).up) ((R_relief_Texel (at_ texs s.Tex) ((R_mesh_vertex p cage id (R_rate_Sides p.aP s.Unit) (maxL (R_rate_Sides p.aP s.Unit)) (at_ ((weaveR (R_rate_Sides p.aP s.Unit)).1) i)).atF)).1) s.Height).1).Z)]) rfl u_34 ts_23 tz_23 rfl rfl rfl ?_)))
 intro i721 H722 n723 h724 k725
 have h730 := keep k725 (ne_new h715 n723) h715
 have h731 := keep k725 (ne_new h716 n723) h716
 have h732 := keep k725 (ne_new h713 n723) h713
 have o733 := Own.keep o718 k725 (Own.notnew o718 n723)
 have o735 := Own.keep o719 k725 (Own.notnew o719 n723)
 have m737 := Mono.new m720 n723 k725
 refine AOps.cons rfl rfl (AOp.append_own (es := 3) (m := 1) (len := ((((weaveR (R_rate_Sides p.aP s.Unit)).1.take i.toNat).map (fD p cage id s texs)).length)) (old := (((weaveR (R_rate_Sides p.aP s.Unit)).1.take i.toNat).map (fD p cage id s texs)).flatMap eV) (cells := [J (((R_relief_Lift ((R_mesh_vertex p cage id (R_rate_Sides p.aP s.Unit) (maxL (R_rate_Sides p.aP s.Unit)) (at_ ((weaveR (R_rate_Sides p.aP s.Unit)).1) i)).atF) ((R_mesh_vertex p cage id (R_rate_Sides p.aP s.Unit) (maxL (R_rate_Sides p.aP s.Unit)) (at_ ((weaveR (R_rate_Sides p.aP s.Unit)).1) i)).up) ((R_relief_Texel (at_ texs s.Tex) ((R_mesh_vertex p cage id (R_rate_Sides p.aP s.Unit) (maxL (R_rate_Sides p.aP s.Unit)) (at_ ((weaveR (R_rate_Sides p.aP s.Unit)).1) i)).atF)).1) s.Height).1).X), J (((R_relief_Lift ((R_mesh_vertex p cage id (R_rate_Sides p.aP s.Unit) (maxL (R_rate_Sides p.aP s.Unit)) (at_ ((weaveR (R_rate_Sides p.aP s.Unit)).1) i)).atF) ((R_mesh_vertex p cage id (R_rate_Sides p.aP s.Unit) (maxL (R_rate_Sides p.aP s.Unit)) (at_ ((weaveR (R_rate_Sides p.aP s.Unit)).1) i)).up) ((R_relief_Texel (at_ texs s.Tex) ((R_mesh_vertex p cage id (R_rate_Sides p.aP s.Unit) (maxL (R_rate_Sides p.aP s.Unit)) (at_ ((weaveR (R_rate_Sides p.aP s.Unit)).1) i)).atF)).1) s.Height).1).Y), J (((R_relief_Lift ((R_mesh_vertex p cage id (R_rate_Sides p.aP s.Unit) (maxL (R_rate_Sides p.aP s.Unit)) (at_ ((weaveR (R_rate_Sides p.aP s.Unit)).1) i)).atF) ((R_mesh_vertex p cage id (R_rate_Sides p.aP s.Unit) (maxL (R_rate_Sides p.aP s.Unit)) (at_ ((weaveR (R_rate_Sides p.aP s.Unit)).1) i)).up) ((R_relief_Texel (at_ texs s.Tex) ((R_mesh_vertex p cage id (R_rate_Sides p.aP s.Unit) (maxL (R_rate_Sides p.aP s.Unit)) (at_ ((weaveR (R_rate_Sides p.aP s.Unit)).1) i)).atF)).1) s.Height).1).Z)]) rfl u_34 ts_23 tzn_23 tb_23 (by decide) ni_34 rfl o733 m737 rfl (.slm h724 rfl) (one_of rfl) (by decide) (by first | omega | (simp; omega)) ?_)
 intro v738 H739 o740 m741 k742 j743
 have o744 := Own.snocM (xs := ((((weaveR (R_rate_Sides p.aP s.Unit)).1.take i.toNat).map (fD p cage id s texs)) : List VT)) (y := ((R_relief_Lift ((R_mesh_vertex p cage id (R_rate_Sides p.aP s.Unit) (maxL (R_rate_Sides p.aP s.Unit)) (at_ ((weaveR (R_rate_Sides p.aP s.Unit)).1) i)).atF) ((R_mesh_vertex p cage id (R_rate_Sides p.aP s.Unit) (maxL (R_rate_Sides p.aP s.Unit)) (at_ ((weaveR (R_rate_Sides p.aP s.Unit)).1) i)).up) ((R_relief_Texel (at_ texs s.Tex) ((R_mesh_vertex p cage id (R_rate_Sides p.aP s.Unit) (maxL (R_rate_Sides p.aP s.Unit)) (at_ ((weaveR (R_rate_Sides p.aP s.Unit)).1) i)).atF)).1) s.Height).1)) (e := eV) (by simp) o740
 have h745 := (k742 _ no622 (by rw [h730]; simp)).trans h730
 have no746 := j743 _ no622 (by rw [h730]; simp)
 have h747 := (k742 _ no623 (by rw [h731]; simp)).trans h731
 have no748 := j743 _ no623 (by rw [h731]; simp)
 have h749 := (k742 _ no680 (by rw [h732]; simp)).trans h732
 have no750 := j743 _ no680 (by rw [h732]; simp)
 have sp752 := Own.sep o735 (Sep.symm sp626) j743
 have o751 := Own.stay o735 (Sep.symm sp626) k742
 refine AOps.cons rfl rfl (AOp.fieldAddr rfl s617 fl_38_0 ?_ (hid := ⟨_, h747⟩))
 refine AOps.cons rfl rfl (AOp.storeO (cells' := [v738, w18_1, .sl ((weaveR (R_rate_Sides p.aP s.Unit)).2.1).length (((weaveR (R_rate_Sides p.aP s.Unit)).2.1).flatMap eI3)]) rfl rfl o744 ts_34 h747 rfl rfl ?_)
 intro H753 h754 k755
 have h756 := keep k755 e599 h745
 have h758 := keep k755 (Ne.symm e675) h749
 have o759 := Own.keep o751 k755 no625
 have o760 := Own.keep o744 k755 no748
 have m761 := Mono.set m741 z600 k755
 refine AWP.region rfl ?_
 refine AOps.cons rfl rfl (AOp.fieldAddr rfl s617 fl_38_1 ?_ (hid := ⟨_, h754⟩))
 refine AOps.cons rfl rfl (AOp.load _ rfl rfl ty_35 h754 rfl ?_)
 refine AOps.cons rfl rfl (AOp.fieldAddr rfl rfl fl_78_2 ?_ (hid := ⟨_, h758⟩))
 refine AOps.cons rfl rfl (AOp.load _ rfl rfl ty_58 h758 rfl (AOps.cons rfl rfl (AOp.buildSlice (cells := [J (((R_mesh_vertex p cage id (R_rate_Sides p.aP s.Unit) (maxL (R_rate_Sides p.aP s.Unit)) (at_ ((weaveR (R_rate_Sides p.aP s.Unit)).1) i)).key).Kind), J (((R_mesh_vertex p cage id (R_rate_Sides p.aP s.Unit) (maxL (R_rate_Sides p.aP s.Unit)) (at_ ((weaveR (R_rate_Sides p.aP s.Unit)).1) i)).key).Of), J (((R_mesh_vertex p cage id (R_rate_Sides p.aP s.Unit) (maxL (R_rate_Sides p.aP s.Unit)) (at_ ((weaveR (R_rate_Sides p.aP s.Unit)).1) i)).key).A), J (((R_mesh_vertex p cage id (R_rate_Sides p.aP s.Unit) (maxL (R_rate_Sides p.aP s.Unit)) (at_ ((weaveR (R_rate_Sides p.aP s.Unit)).1) i)).key).B), J (((R_mesh_vertex p cage id (R_rate_Sides p.aP s.Unit) (maxL (R_rate_Sides p.aP s.Unit)) (at_ ((weaveR (R_rate_Sides p.aP s.Unit)).1) i)).key).N)]) rfl u_35 ts_58 tz_58 rfl rfl rfl ?_)))
 intro i762 H763 n764 h765 k766
 have h771 := keep k766 (ne_new h756 n764) h756
 have h772 := keep k766 (ne_new h758 n764) h758
 have h773 := keep k766 (ne_new h754 n764) h754
 have o774 := Own.keep o759 k766 (Own.notnew o759 n764)
 have o776 := Own.keep o760 k766 (Own.notnew o760 n764)
 have m778 := Mono.new m761 n764 k766
 refine AOps.cons rfl rfl (AOp.append_own (es := 5) (m := 1) (len := ((((weaveR (R_rate_Sides p.aP s.Unit)).1.take i.toNat).map (kD p cage id s)).length)) (old := (((weaveR (R_rate_Sides p.aP s.Unit)).1.take i.toNat).map (kD p cage id s)).flatMap eKey) (cells := [J (((R_mesh_vertex p cage id (R_rate_Sides p.aP s.Unit) (maxL (R_rate_Sides p.aP s.Unit)) (at_ ((weaveR (R_rate_Sides p.aP s.Unit)).1) i)).key).Kind), J (((R_mesh_vertex p cage id (R_rate_Sides p.aP s.Unit) (maxL (R_rate_Sides p.aP s.Unit)) (at_ ((weaveR (R_rate_Sides p.aP s.Unit)).1) i)).key).Of), J (((R_mesh_vertex p cage id (R_rate_Sides p.aP s.Unit) (maxL (R_rate_Sides p.aP s.Unit)) (at_ ((weaveR (R_rate_Sides p.aP s.Unit)).1) i)).key).A), J (((R_mesh_vertex p cage id (R_rate_Sides p.aP s.Unit) (maxL (R_rate_Sides p.aP s.Unit)) (at_ ((weaveR (R_rate_Sides p.aP s.Unit)).1) i)).key).B), J (((R_mesh_vertex p cage id (R_rate_Sides p.aP s.Unit) (maxL (R_rate_Sides p.aP s.Unit)) (at_ ((weaveR (R_rate_Sides p.aP s.Unit)).1) i)).key).N)]) rfl u_35 ts_58 tzn_58 tb_58 (by decide) ni_35 rfl o774 m778 rfl (.slm h765 rfl) (one_of rfl) (by decide) (by first | omega | (simp; omega)) ?_)
 intro v779 H780 o781 m782 k783 j784
 have o785 := Own.snocM (xs := ((((weaveR (R_rate_Sides p.aP s.Unit)).1.take i.toNat).map (kD p cage id s)) : List KeyT)) (y := ((R_mesh_vertex p cage id (R_rate_Sides p.aP s.Unit) (maxL (R_rate_Sides p.aP s.Unit)) (at_ ((weaveR (R_rate_Sides p.aP s.Unit)).1) i)).key)) (e := eKey) (by simp) o781
 have h786 := (k783 _ no624 (by rw [h771]; simp)).trans h771
 have no787 := j784 _ no624 (by rw [h771]; simp)
 have no789 := j784 _ no682 (by rw [h772]; simp)
 have h790 := (k783 _ no625 (by rw [h773]; simp)).trans h773
 have no791 := j784 _ no625 (by rw [h773]; simp)
 have sp793 := Own.sep o776 (Sep.symm sp752) j784
 have o792 := Own.stay o776 (Sep.symm sp752) k783
 refine AOps.cons rfl rfl (AOp.fieldAddr rfl s617 fl_38_1 ?_ (hid := ⟨_, h790⟩))
 refine AOps.cons rfl rfl (AOp.storeO (cells' := [v738, v779, .sl ((weaveR (R_rate_Sides p.aP s.Unit)).2.1).length (((weaveR (R_rate_Sides p.aP s.Unit)).2.1).flatMap eI3)]) rfl rfl o785 ts_35 h790 rfl rfl ?_)
 intro H794 h795 k796
 have h797 := keep k796 e599 h786
 have o800 := Own.keep o792 k796 no748
 have o801 := Own.keep o785 k796 no791
 have m802 := Mono.set m782 z600 k796
 refine AWP.region rfl ?_
 refine AOps.cons rfl rfl (AOp.bin _ rfl s612 rfl (iadd (by omega)) (AOps.cons rfl rfl (AOp.move _ rfl rfl ?_)))
 refine AOps.nil ?_
 exact ⟨_, by omega, i + 1, v738, v779, rfl, rfl, s613, s614, s615, s616, s617, s618, s619, (have hx : (((((weaveR (R_rate_Sides p.aP s.Unit)).1.take i.toNat).map (fD p cage id s texs)) ++ [((R_relief_Lift ((R_mesh_vertex p cage id (R_rate_Sides p.aP s.Unit) (maxL (R_rate_Sides p.aP s.Unit)) (at_ ((weaveR (R_rate_Sides p.aP s.Unit)).1) i)).atF) ((R_mesh_vertex p cage id (R_rate_Sides p.aP s.Unit) (maxL (R_rate_Sides p.aP s.Unit)) (at_ ((weaveR (R_rate_Sides p.aP s.Unit)).1) i)).up) ((R_relief_Texel (at_ texs s.Tex) ((R_mesh_vertex p cage id (R_rate_Sides p.aP s.Unit) (maxL (R_rate_Sides p.aP s.Unit)) (at_ ((weaveR (R_rate_Sides p.aP s.Unit)).1) i)).atF)).1) s.Height).1)]) : List VT) = ((weaveR (R_rate_Sides p.aP s.Unit)).1.take (i + 1).toNat).map (fD p cage id s texs) := (by exact map_step hi0 (by omega) (fD_of hpl)); Own.re o800 (congrArg List.length hx) (congrArg (fun l : List VT => l.flatMap eV) hx)), (have hx : (((((weaveR (R_rate_Sides p.aP s.Unit)).1.take i.toNat).map (kD p cage id s)) ++ [((R_mesh_vertex p cage id (R_rate_Sides p.aP s.Unit) (maxL (R_rate_Sides p.aP s.Unit)) (at_ ((weaveR (R_rate_Sides p.aP s.Unit)).1) i)).key)]) : List KeyT) = ((weaveR (R_rate_Sides p.aP s.Unit)).1.take (i + 1).toNat).map (kD p cage id s) := (by exact map_step hi0 (by omega) rfl); Own.re o801 (congrArg List.length hx) (congrArg (fun l : List KeyT => l.flatMap eKey) hx)), no746, no748, no787, no791, sp793, h797, h795, m802, by omega, by omega, by exact fa_step pre (by rw [hpl]; rfl)⟩
 refine AWP.condT rfl (nb b703) ?_
 refine AWP.seq (AWP.region rfl ?_)
 refine AOps.cons rfl rfl (AOp.build (cells := [.snil, .snil, .snil]) rfl tz_38 pl_38 rfl rfl (AOps.cons rfl rfl (AOp.store' (cells' := [.snil, .snil, .snil]) (.agg [.snil, .snil, .snil]) s615 rfl ts_38 h697 rfl rfl rfl rfl ?_)))
 intro H803 h804 k805
 have o809 := Own.keep o700 k805 no622
 have o810 := Own.keep o701 k805 no624
 have m811 := Mono.set m702 z24 k805
 refine AOps.cons rfl rfl (AOp.assign _ rfl rfl ?_)
 refine AWP.ret ?_
 refine Fin.frzCell 1 (Own.nil H0 H803 1) h804 z24 rfl (NotId.nil _) m811 fun H812 h813 m814 k815 => ?_
 have o818 := Own.stay2 o809 (Sep.nilR _) no622 k815
 have o819 := Own.stay2 o810 (Sep.nilR _) no624 k815
 have h820 : H812 i17 = some (.row 0 ([.snil, .sl 0 ([]), .snil])) := h813
 refine Fin.frzCell 2 (Own.nil H0 H812 1) h820 z24 rfl (NotId.nil _) m814 fun H821 h822 m823 k824 => ?_
 have o827 := Own.stay2 o818 (Sep.nilR _) no622 k824
 have o828 := Own.stay2 o819 (Sep.nilR _) no624 k824
 have h829 : H821 i17 = some (.row 0 ([.snil, .sl 0 ([]), .sl 0 ([])])) := h822
 have hx : ([] : List VT) = (((diceR p cage id s texs).1).Verts) := (by first | (exfalso; omega) | rw [dice_bad h0 hi0 (by omega) (show plT s texs (vtxD p cage id s (at_ (weaveR (R_rate_Sides p.aP s.Unit)).1 i)) = none by unfold plT vtxD; rw [if_pos ⟨by omega, by omega⟩, if_neg (ff b703)])])
 refine ⟨_, _, Ghost.refl, .inr rfl, _, Res.list rfl rfl (.cell (v := .agg [.snil, .sl 0 ([]), .sl 0 ([])]) s615 ty_38 h829 rfl (.tmp rfl (.nil))), _, Own.re (Own.nil H0 _ 3) (congrArg List.length hx) (congrArg (fun l : List VT => l.flatMap eV) hx), ?_, m823⟩
 exact congrArg AV.tup (lc (congrArg AV.agg (lc rfl (lc (congrArg (fun l : List KeyT => AV.sl l.length (l.flatMap eKey)) (show ([] : List KeyT) = (((diceR p cage id s texs).1).Keys) from by first | (exfalso; omega) | rw [dice_bad h0 hi0 (by omega) (show plT s texs (vtxD p cage id s (at_ (weaveR (R_rate_Sides p.aP s.Unit)).1 i)) = none by unfold plT vtxD; rw [if_pos ⟨by omega, by omega⟩, if_neg (ff b703)])])) (lc (congrArg (fun l : List I3T => AV.sl l.length (l.flatMap eI3)) (show ([] : List I3T) = (((diceR p cage id s texs).1).Tris) from by first | (exfalso; omega) | rw [dice_bad h0 hi0 (by omega) (show plT s texs (vtxD p cage id s (at_ (weaveR (R_rate_Sides p.aP s.Unit)).1 i)) = none by unfold plT vtxD; rw [if_pos ⟨by omega, by omega⟩, if_neg (ff b703)])])) rfl)))) (lc (congrArg (AV.int .i64) (show (11 : Int) = (diceR p cage id s texs).2 from by first | (exfalso; omega) | rw [dice_bad h0 hi0 (by omega) (show plT s texs (vtxD p cage id s (at_ (weaveR (R_rate_Sides p.aP s.Unit)).1 i)) = none by unfold plT vtxD; rw [if_pos ⟨by omega, by omega⟩, if_neg (ff b703)])])) rfl))
 refine AWP.condF rfl (decide_eq_false b694) ?_
 refine AWP.skip ?_
 refine AWP.seq ?_
 have hpl : plT s texs (vtxD p cage id s (at_ (weaveR (R_rate_Sides p.aP s.Unit)).1 i)) = some ((R_mesh_vertex p cage id (R_rate_Sides p.aP s.Unit) (maxL (R_rate_Sides p.aP s.Unit)) (at_ ((weaveR (R_rate_Sides p.aP s.Unit)).1) i)).atF) := by unfold plT vtxD; rw [if_neg (by omega)] <;> rfl
 have hq1 : (((weaveR (R_rate_Sides p.aP s.Unit)).1.take i.toNat).map (fD p cage id s texs)).length ≤ 400 := by simp only [List.length_map, List.length_take]; omega
 have hq2 : (((weaveR (R_rate_Sides p.aP s.Unit)).1.take i.toNat).map (kD p cage id s)).length ≤ 400 := by simp only [List.length_map, List.length_take]; omega
 refine AWP.region rfl ?_
 refine AOps.cons rfl rfl (AOp.fieldAddr rfl s617 fl_38_0 ?_ (hid := ⟨_, h688⟩))
 refine AOps.cons rfl rfl (AOp.load _ rfl rfl ty_34 h688 rfl ?_)
 refine AOps.cons rfl rfl (AOp.fieldAddr rfl rfl fl_78_0 ?_ (hid := ⟨_, h685⟩))
 refine AOps.cons rfl rfl (AOp.load _ rfl rfl ty_23 h685 rfl (AOps.cons rfl rfl (AOp.buildSlice (cells := [J (((R_mesh_vertex p cage id (R_rate_Sides p.aP s.Unit) (maxL (R_rate_Sides p.aP s.Unit)) (at_ ((weaveR (R_rate_Sides p.aP s.Unit)).1) i)).atF).X), J (((R_mesh_vertex p cage id (R_rate_Sides p.aP s.Unit) (maxL (R_rate_Sides p.aP s.Unit)) (at_ ((weaveR (R_rate_Sides p.aP s.Unit)).1) i)).atF).Y), J (((R_mesh_vertex p cage id (R_rate_Sides p.aP s.Unit) (maxL (R_rate_Sides p.aP s.Unit)) (at_ ((weaveR (R_rate_Sides p.aP s.Unit)).1) i)).atF).Z)]) rfl u_34 ts_23 tz_23 rfl rfl rfl ?_)))
 intro i830 H831 n832 h833 k834
 have h839 := keep k834 (ne_new h687 n832) h687
 have h840 := keep k834 (ne_new h688 n832) h688
 have h841 := keep k834 (ne_new h685 n832) h685
 have o842 := Own.keep o690 k834 (Own.notnew o690 n832)
 have o844 := Own.keep o691 k834 (Own.notnew o691 n832)
 have m846 := Mono.new m692 n832 k834
 refine AOps.cons rfl rfl (AOp.append_own (es := 3) (m := 1) (len := ((((weaveR (R_rate_Sides p.aP s.Unit)).1.take i.toNat).map (fD p cage id s texs)).length)) (old := (((weaveR (R_rate_Sides p.aP s.Unit)).1.take i.toNat).map (fD p cage id s texs)).flatMap eV) (cells := [J (((R_mesh_vertex p cage id (R_rate_Sides p.aP s.Unit) (maxL (R_rate_Sides p.aP s.Unit)) (at_ ((weaveR (R_rate_Sides p.aP s.Unit)).1) i)).atF).X), J (((R_mesh_vertex p cage id (R_rate_Sides p.aP s.Unit) (maxL (R_rate_Sides p.aP s.Unit)) (at_ ((weaveR (R_rate_Sides p.aP s.Unit)).1) i)).atF).Y), J (((R_mesh_vertex p cage id (R_rate_Sides p.aP s.Unit) (maxL (R_rate_Sides p.aP s.Unit)) (at_ ((weaveR (R_rate_Sides p.aP s.Unit)).1) i)).atF).Z)]) rfl u_34 ts_23 tzn_23 tb_23 (by decide) ni_34 rfl o842 m846 rfl (.slm h833 rfl) (one_of rfl) (by decide) (by first | omega | (simp; omega)) ?_)
 intro v847 H848 o849 m850 k851 j852
 have o853 := Own.snocM (xs := ((((weaveR (R_rate_Sides p.aP s.Unit)).1.take i.toNat).map (fD p cage id s texs)) : List VT)) (y := ((R_mesh_vertex p cage id (R_rate_Sides p.aP s.Unit) (maxL (R_rate_Sides p.aP s.Unit)) (at_ ((weaveR (R_rate_Sides p.aP s.Unit)).1) i)).atF)) (e := eV) (by simp) o849
 have h854 := (k851 _ no622 (by rw [h839]; simp)).trans h839
 have no855 := j852 _ no622 (by rw [h839]; simp)
 have h856 := (k851 _ no623 (by rw [h840]; simp)).trans h840
 have no857 := j852 _ no623 (by rw [h840]; simp)
 have h858 := (k851 _ no680 (by rw [h841]; simp)).trans h841
 have no859 := j852 _ no680 (by rw [h841]; simp)
 have sp861 := Own.sep o844 (Sep.symm sp626) j852
 have o860 := Own.stay o844 (Sep.symm sp626) k851
 refine AOps.cons rfl rfl (AOp.fieldAddr rfl s617 fl_38_0 ?_ (hid := ⟨_, h856⟩))
 refine AOps.cons rfl rfl (AOp.storeO (cells' := [v847, w18_1, .sl ((weaveR (R_rate_Sides p.aP s.Unit)).2.1).length (((weaveR (R_rate_Sides p.aP s.Unit)).2.1).flatMap eI3)]) rfl rfl o853 ts_34 h856 rfl rfl ?_)
 intro H862 h863 k864
 have h865 := keep k864 e599 h854
 have h867 := keep k864 (Ne.symm e675) h858
 have o868 := Own.keep o860 k864 no625
 have o869 := Own.keep o853 k864 no857
 have m870 := Mono.set m850 z600 k864
 refine AWP.region rfl ?_
 refine AOps.cons rfl rfl (AOp.fieldAddr rfl s617 fl_38_1 ?_ (hid := ⟨_, h863⟩))
 refine AOps.cons rfl rfl (AOp.load _ rfl rfl ty_35 h863 rfl ?_)
 refine AOps.cons rfl rfl (AOp.fieldAddr rfl rfl fl_78_2 ?_ (hid := ⟨_, h867⟩))
 refine AOps.cons rfl rfl (AOp.load _ rfl rfl ty_58 h867 rfl (AOps.cons rfl rfl (AOp.buildSlice (cells := [J (((R_mesh_vertex p cage id (R_rate_Sides p.aP s.Unit) (maxL (R_rate_Sides p.aP s.Unit)) (at_ ((weaveR (R_rate_Sides p.aP s.Unit)).1) i)).key).Kind), J (((R_mesh_vertex p cage id (R_rate_Sides p.aP s.Unit) (maxL (R_rate_Sides p.aP s.Unit)) (at_ ((weaveR (R_rate_Sides p.aP s.Unit)).1) i)).key).Of), J (((R_mesh_vertex p cage id (R_rate_Sides p.aP s.Unit) (maxL (R_rate_Sides p.aP s.Unit)) (at_ ((weaveR (R_rate_Sides p.aP s.Unit)).1) i)).key).A), J (((R_mesh_vertex p cage id (R_rate_Sides p.aP s.Unit) (maxL (R_rate_Sides p.aP s.Unit)) (at_ ((weaveR (R_rate_Sides p.aP s.Unit)).1) i)).key).B), J (((R_mesh_vertex p cage id (R_rate_Sides p.aP s.Unit) (maxL (R_rate_Sides p.aP s.Unit)) (at_ ((weaveR (R_rate_Sides p.aP s.Unit)).1) i)).key).N)]) rfl u_35 ts_58 tz_58 rfl rfl rfl ?_)))
 intro i871 H872 n873 h874 k875
 have h880 := keep k875 (ne_new h865 n873) h865
 have h881 := keep k875 (ne_new h867 n873) h867
 have h882 := keep k875 (ne_new h863 n873) h863
 have o883 := Own.keep o868 k875 (Own.notnew o868 n873)
 have o885 := Own.keep o869 k875 (Own.notnew o869 n873)
 have m887 := Mono.new m870 n873 k875
 refine AOps.cons rfl rfl (AOp.append_own (es := 5) (m := 1) (len := ((((weaveR (R_rate_Sides p.aP s.Unit)).1.take i.toNat).map (kD p cage id s)).length)) (old := (((weaveR (R_rate_Sides p.aP s.Unit)).1.take i.toNat).map (kD p cage id s)).flatMap eKey) (cells := [J (((R_mesh_vertex p cage id (R_rate_Sides p.aP s.Unit) (maxL (R_rate_Sides p.aP s.Unit)) (at_ ((weaveR (R_rate_Sides p.aP s.Unit)).1) i)).key).Kind), J (((R_mesh_vertex p cage id (R_rate_Sides p.aP s.Unit) (maxL (R_rate_Sides p.aP s.Unit)) (at_ ((weaveR (R_rate_Sides p.aP s.Unit)).1) i)).key).Of), J (((R_mesh_vertex p cage id (R_rate_Sides p.aP s.Unit) (maxL (R_rate_Sides p.aP s.Unit)) (at_ ((weaveR (R_rate_Sides p.aP s.Unit)).1) i)).key).A), J (((R_mesh_vertex p cage id (R_rate_Sides p.aP s.Unit) (maxL (R_rate_Sides p.aP s.Unit)) (at_ ((weaveR (R_rate_Sides p.aP s.Unit)).1) i)).key).B), J (((R_mesh_vertex p cage id (R_rate_Sides p.aP s.Unit) (maxL (R_rate_Sides p.aP s.Unit)) (at_ ((weaveR (R_rate_Sides p.aP s.Unit)).1) i)).key).N)]) rfl u_35 ts_58 tzn_58 tb_58 (by decide) ni_35 rfl o883 m887 rfl (.slm h874 rfl) (one_of rfl) (by decide) (by first | omega | (simp; omega)) ?_)
 intro v888 H889 o890 m891 k892 j893
 have o894 := Own.snocM (xs := ((((weaveR (R_rate_Sides p.aP s.Unit)).1.take i.toNat).map (kD p cage id s)) : List KeyT)) (y := ((R_mesh_vertex p cage id (R_rate_Sides p.aP s.Unit) (maxL (R_rate_Sides p.aP s.Unit)) (at_ ((weaveR (R_rate_Sides p.aP s.Unit)).1) i)).key)) (e := eKey) (by simp) o890
 have h895 := (k892 _ no624 (by rw [h880]; simp)).trans h880
 have no896 := j893 _ no624 (by rw [h880]; simp)
 have no898 := j893 _ no682 (by rw [h881]; simp)
 have h899 := (k892 _ no625 (by rw [h882]; simp)).trans h882
 have no900 := j893 _ no625 (by rw [h882]; simp)
 have sp902 := Own.sep o885 (Sep.symm sp861) j893
 have o901 := Own.stay o885 (Sep.symm sp861) k892
 refine AOps.cons rfl rfl (AOp.fieldAddr rfl s617 fl_38_1 ?_ (hid := ⟨_, h899⟩))
 refine AOps.cons rfl rfl (AOp.storeO (cells' := [v847, v888, .sl ((weaveR (R_rate_Sides p.aP s.Unit)).2.1).length (((weaveR (R_rate_Sides p.aP s.Unit)).2.1).flatMap eI3)]) rfl rfl o894 ts_35 h899 rfl rfl ?_)
 intro H903 h904 k905
 have h906 := keep k905 e599 h895
 have o909 := Own.keep o901 k905 no857
 have o910 := Own.keep o894 k905 no900
 have m911 := Mono.set m891 z600 k905
 refine AWP.region rfl ?_
 refine AOps.cons rfl rfl (AOp.bin _ rfl s612 rfl (iadd (by omega)) (AOps.cons rfl rfl (AOp.move _ rfl rfl ?_)))
 refine AOps.nil ?_
 exact ⟨_, by omega, i + 1, v847, v888, rfl, rfl, s613, s614, s615, s616, s617, s618, s619, (have hx : (((((weaveR (R_rate_Sides p.aP s.Unit)).1.take i.toNat).map (fD p cage id s texs)) ++ [((R_mesh_vertex p cage id (R_rate_Sides p.aP s.Unit) (maxL (R_rate_Sides p.aP s.Unit)) (at_ ((weaveR (R_rate_Sides p.aP s.Unit)).1) i)).atF)]) : List VT) = ((weaveR (R_rate_Sides p.aP s.Unit)).1.take (i + 1).toNat).map (fD p cage id s texs) := (by exact map_step hi0 (by omega) (fD_of hpl)); Own.re o909 (congrArg List.length hx) (congrArg (fun l : List VT => l.flatMap eV) hx)), (have hx : (((((weaveR (R_rate_Sides p.aP s.Unit)).1.take i.toNat).map (kD p cage id s)) ++ [((R_mesh_vertex p cage id (R_rate_Sides p.aP s.Unit) (maxL (R_rate_Sides p.aP s.Unit)) (at_ ((weaveR (R_rate_Sides p.aP s.Unit)).1) i)).key)]) : List KeyT) = ((weaveR (R_rate_Sides p.aP s.Unit)).1.take (i + 1).toNat).map (kD p cage id s) := (by exact map_step hi0 (by omega) rfl); Own.re o910 (congrArg List.length hx) (congrArg (fun l : List KeyT => l.flatMap eKey) hx)), no855, no857, no896, no900, sp902, h906, h904, m911, by omega, by omega, by exact fa_step pre (by rw [hpl]; rfl)⟩
 refine AOps.no rfl rfl rfl rfl rfl rfl rfl (ble_of (decide_eq_false b693) (by decide)) (AOps.no rfl rfl rfl rfl rfl rfl rfl (ble_of (decide_eq_false b693) (by decide)) (AOps.no rfl rfl rfl rfl rfl rfl rfl (ble_of (decide_eq_false b693) (by decide)) (AOps.cons rfl rfl (AOp.pickF _ rfl rfl (decide_eq_false b693) rfl ?_))))
 refine AWP.condF rfl rfl ?_
 refine AWP.skip ?_
 refine AWP.seq ?_
 have hpl : plT s texs (vtxD p cage id s (at_ (weaveR (R_rate_Sides p.aP s.Unit)).1 i)) = some ((R_mesh_vertex p cage id (R_rate_Sides p.aP s.Unit) (maxL (R_rate_Sides p.aP s.Unit)) (at_ ((weaveR (R_rate_Sides p.aP s.Unit)).1) i)).atF) := by unfold plT vtxD; rw [if_neg (by omega)] <;> rfl
 have hq1 : (((weaveR (R_rate_Sides p.aP s.Unit)).1.take i.toNat).map (fD p cage id s texs)).length ≤ 400 := by simp only [List.length_map, List.length_take]; omega
 have hq2 : (((weaveR (R_rate_Sides p.aP s.Unit)).1.take i.toNat).map (kD p cage id s)).length ≤ 400 := by simp only [List.length_map, List.length_take]; omega
 refine AWP.region rfl ?_
 refine AOps.cons rfl rfl (AOp.fieldAddr rfl s617 fl_38_0 ?_ (hid := ⟨_, h688⟩))
 refine AOps.cons rfl rfl (AOp.load _ rfl rfl ty_34 h688 rfl ?_)
 refine AOps.cons rfl rfl (AOp.fieldAddr rfl rfl fl_78_0 ?_ (hid := ⟨_, h685⟩))
 refine AOps.cons rfl rfl (AOp.load _ rfl rfl ty_23 h685 rfl (AOps.cons rfl rfl (AOp.buildSlice (cells := [J (((R_mesh_vertex p cage id (R_rate_Sides p.aP s.Unit) (maxL (R_rate_Sides p.aP s.Unit)) (at_ ((weaveR (R_rate_Sides p.aP s.Unit)).1) i)).atF).X), J (((R_mesh_vertex p cage id (R_rate_Sides p.aP s.Unit) (maxL (R_rate_Sides p.aP s.Unit)) (at_ ((weaveR (R_rate_Sides p.aP s.Unit)).1) i)).atF).Y), J (((R_mesh_vertex p cage id (R_rate_Sides p.aP s.Unit) (maxL (R_rate_Sides p.aP s.Unit)) (at_ ((weaveR (R_rate_Sides p.aP s.Unit)).1) i)).atF).Z)]) rfl u_34 ts_23 tz_23 rfl rfl rfl ?_)))
 intro i912 H913 n914 h915 k916
 have h921 := keep k916 (ne_new h687 n914) h687
 have h922 := keep k916 (ne_new h688 n914) h688
 have h923 := keep k916 (ne_new h685 n914) h685
 have o924 := Own.keep o690 k916 (Own.notnew o690 n914)
 have o926 := Own.keep o691 k916 (Own.notnew o691 n914)
 have m928 := Mono.new m692 n914 k916
 refine AOps.cons rfl rfl (AOp.append_own (es := 3) (m := 1) (len := ((((weaveR (R_rate_Sides p.aP s.Unit)).1.take i.toNat).map (fD p cage id s texs)).length)) (old := (((weaveR (R_rate_Sides p.aP s.Unit)).1.take i.toNat).map (fD p cage id s texs)).flatMap eV) (cells := [J (((R_mesh_vertex p cage id (R_rate_Sides p.aP s.Unit) (maxL (R_rate_Sides p.aP s.Unit)) (at_ ((weaveR (R_rate_Sides p.aP s.Unit)).1) i)).atF).X), J (((R_mesh_vertex p cage id (R_rate_Sides p.aP s.Unit) (maxL (R_rate_Sides p.aP s.Unit)) (at_ ((weaveR (R_rate_Sides p.aP s.Unit)).1) i)).atF).Y), J (((R_mesh_vertex p cage id (R_rate_Sides p.aP s.Unit) (maxL (R_rate_Sides p.aP s.Unit)) (at_ ((weaveR (R_rate_Sides p.aP s.Unit)).1) i)).atF).Z)]) rfl u_34 ts_23 tzn_23 tb_23 (by decide) ni_34 rfl o924 m928 rfl (.slm h915 rfl) (one_of rfl) (by decide) (by first | omega | (simp; omega)) ?_)
 intro v929 H930 o931 m932 k933 j934
 have o935 := Own.snocM (xs := ((((weaveR (R_rate_Sides p.aP s.Unit)).1.take i.toNat).map (fD p cage id s texs)) : List VT)) (y := ((R_mesh_vertex p cage id (R_rate_Sides p.aP s.Unit) (maxL (R_rate_Sides p.aP s.Unit)) (at_ ((weaveR (R_rate_Sides p.aP s.Unit)).1) i)).atF)) (e := eV) (by simp) o931
 have h936 := (k933 _ no622 (by rw [h921]; simp)).trans h921
 have no937 := j934 _ no622 (by rw [h921]; simp)
 have h938 := (k933 _ no623 (by rw [h922]; simp)).trans h922
 have no939 := j934 _ no623 (by rw [h922]; simp)
 have h940 := (k933 _ no680 (by rw [h923]; simp)).trans h923
 have no941 := j934 _ no680 (by rw [h923]; simp)
 have sp943 := Own.sep o926 (Sep.symm sp626) j934
 have o942 := Own.stay o926 (Sep.symm sp626) k933
 refine AOps.cons rfl rfl (AOp.fieldAddr rfl s617 fl_38_0 ?_ (hid := ⟨_, h938⟩))
 refine AOps.cons rfl rfl (AOp.storeO (cells' := [v929, w18_1, .sl ((weaveR (R_rate_Sides p.aP s.Unit)).2.1).length (((weaveR (R_rate_Sides p.aP s.Unit)).2.1).flatMap eI3)]) rfl rfl o935 ts_34 h938 rfl rfl ?_)
 intro H944 h945 k946
 have h947 := keep k946 e599 h936
 have h949 := keep k946 (Ne.symm e675) h940
 have o950 := Own.keep o942 k946 no625
 have o951 := Own.keep o935 k946 no939
 have m952 := Mono.set m932 z600 k946
 refine AWP.region rfl ?_
 refine AOps.cons rfl rfl (AOp.fieldAddr rfl s617 fl_38_1 ?_ (hid := ⟨_, h945⟩))
 refine AOps.cons rfl rfl (AOp.load _ rfl rfl ty_35 h945 rfl ?_)
 refine AOps.cons rfl rfl (AOp.fieldAddr rfl rfl fl_78_2 ?_ (hid := ⟨_, h949⟩))
 refine AOps.cons rfl rfl (AOp.load _ rfl rfl ty_58 h949 rfl (AOps.cons rfl rfl (AOp.buildSlice (cells := [J (((R_mesh_vertex p cage id (R_rate_Sides p.aP s.Unit) (maxL (R_rate_Sides p.aP s.Unit)) (at_ ((weaveR (R_rate_Sides p.aP s.Unit)).1) i)).key).Kind), J (((R_mesh_vertex p cage id (R_rate_Sides p.aP s.Unit) (maxL (R_rate_Sides p.aP s.Unit)) (at_ ((weaveR (R_rate_Sides p.aP s.Unit)).1) i)).key).Of), J (((R_mesh_vertex p cage id (R_rate_Sides p.aP s.Unit) (maxL (R_rate_Sides p.aP s.Unit)) (at_ ((weaveR (R_rate_Sides p.aP s.Unit)).1) i)).key).A), J (((R_mesh_vertex p cage id (R_rate_Sides p.aP s.Unit) (maxL (R_rate_Sides p.aP s.Unit)) (at_ ((weaveR (R_rate_Sides p.aP s.Unit)).1) i)).key).B), J (((R_mesh_vertex p cage id (R_rate_Sides p.aP s.Unit) (maxL (R_rate_Sides p.aP s.Unit)) (at_ ((weaveR (R_rate_Sides p.aP s.Unit)).1) i)).key).N)]) rfl u_35 ts_58 tz_58 rfl rfl rfl ?_)))
 intro i953 H954 n955 h956 k957
 have h962 := keep k957 (ne_new h947 n955) h947
 have h963 := keep k957 (ne_new h949 n955) h949
 have h964 := keep k957 (ne_new h945 n955) h945
 have o965 := Own.keep o950 k957 (Own.notnew o950 n955)
 have o967 := Own.keep o951 k957 (Own.notnew o951 n955)
 have m969 := Mono.new m952 n955 k957
 refine AOps.cons rfl rfl (AOp.append_own (es := 5) (m := 1) (len := ((((weaveR (R_rate_Sides p.aP s.Unit)).1.take i.toNat).map (kD p cage id s)).length)) (old := (((weaveR (R_rate_Sides p.aP s.Unit)).1.take i.toNat).map (kD p cage id s)).flatMap eKey) (cells := [J (((R_mesh_vertex p cage id (R_rate_Sides p.aP s.Unit) (maxL (R_rate_Sides p.aP s.Unit)) (at_ ((weaveR (R_rate_Sides p.aP s.Unit)).1) i)).key).Kind), J (((R_mesh_vertex p cage id (R_rate_Sides p.aP s.Unit) (maxL (R_rate_Sides p.aP s.Unit)) (at_ ((weaveR (R_rate_Sides p.aP s.Unit)).1) i)).key).Of), J (((R_mesh_vertex p cage id (R_rate_Sides p.aP s.Unit) (maxL (R_rate_Sides p.aP s.Unit)) (at_ ((weaveR (R_rate_Sides p.aP s.Unit)).1) i)).key).A), J (((R_mesh_vertex p cage id (R_rate_Sides p.aP s.Unit) (maxL (R_rate_Sides p.aP s.Unit)) (at_ ((weaveR (R_rate_Sides p.aP s.Unit)).1) i)).key).B), J (((R_mesh_vertex p cage id (R_rate_Sides p.aP s.Unit) (maxL (R_rate_Sides p.aP s.Unit)) (at_ ((weaveR (R_rate_Sides p.aP s.Unit)).1) i)).key).N)]) rfl u_35 ts_58 tzn_58 tb_58 (by decide) ni_35 rfl o965 m969 rfl (.slm h956 rfl) (one_of rfl) (by decide) (by first | omega | (simp; omega)) ?_)
 intro v970 H971 o972 m973 k974 j975
 have o976 := Own.snocM (xs := ((((weaveR (R_rate_Sides p.aP s.Unit)).1.take i.toNat).map (kD p cage id s)) : List KeyT)) (y := ((R_mesh_vertex p cage id (R_rate_Sides p.aP s.Unit) (maxL (R_rate_Sides p.aP s.Unit)) (at_ ((weaveR (R_rate_Sides p.aP s.Unit)).1) i)).key)) (e := eKey) (by simp) o972
 have h977 := (k974 _ no624 (by rw [h962]; simp)).trans h962
 have no978 := j975 _ no624 (by rw [h962]; simp)
 have no980 := j975 _ no682 (by rw [h963]; simp)
 have h981 := (k974 _ no625 (by rw [h964]; simp)).trans h964
 have no982 := j975 _ no625 (by rw [h964]; simp)
 have sp984 := Own.sep o967 (Sep.symm sp943) j975
 have o983 := Own.stay o967 (Sep.symm sp943) k974
 refine AOps.cons rfl rfl (AOp.fieldAddr rfl s617 fl_38_1 ?_ (hid := ⟨_, h981⟩))
 refine AOps.cons rfl rfl (AOp.storeO (cells' := [v929, v970, .sl ((weaveR (R_rate_Sides p.aP s.Unit)).2.1).length (((weaveR (R_rate_Sides p.aP s.Unit)).2.1).flatMap eI3)]) rfl rfl o976 ts_35 h981 rfl rfl ?_)
 intro H985 h986 k987
 have h988 := keep k987 e599 h977
 have o991 := Own.keep o983 k987 no939
 have o992 := Own.keep o976 k987 no982
 have m993 := Mono.set m973 z600 k987
 refine AWP.region rfl ?_
 refine AOps.cons rfl rfl (AOp.bin _ rfl s612 rfl (iadd (by omega)) (AOps.cons rfl rfl (AOp.move _ rfl rfl ?_)))
 refine AOps.nil ?_
 exact ⟨_, by omega, i + 1, v929, v970, rfl, rfl, s613, s614, s615, s616, s617, s618, s619, (have hx : (((((weaveR (R_rate_Sides p.aP s.Unit)).1.take i.toNat).map (fD p cage id s texs)) ++ [((R_mesh_vertex p cage id (R_rate_Sides p.aP s.Unit) (maxL (R_rate_Sides p.aP s.Unit)) (at_ ((weaveR (R_rate_Sides p.aP s.Unit)).1) i)).atF)]) : List VT) = ((weaveR (R_rate_Sides p.aP s.Unit)).1.take (i + 1).toNat).map (fD p cage id s texs) := (by exact map_step hi0 (by omega) (fD_of hpl)); Own.re o991 (congrArg List.length hx) (congrArg (fun l : List VT => l.flatMap eV) hx)), (have hx : (((((weaveR (R_rate_Sides p.aP s.Unit)).1.take i.toNat).map (kD p cage id s)) ++ [((R_mesh_vertex p cage id (R_rate_Sides p.aP s.Unit) (maxL (R_rate_Sides p.aP s.Unit)) (at_ ((weaveR (R_rate_Sides p.aP s.Unit)).1) i)).key)]) : List KeyT) = ((weaveR (R_rate_Sides p.aP s.Unit)).1.take (i + 1).toNat).map (kD p cage id s) := (by exact map_step hi0 (by omega) rfl); Own.re o992 (congrArg List.length hx) (congrArg (fun l : List KeyT => l.flatMap eKey) hx)), no937, no939, no978, no982, sp984, h988, h986, m993, by omega, by omega, by exact fa_step pre (by rw [hpl]; rfl)⟩
 refine AWP.condF rfl (decide_eq_false b630) ?_
 refine AWP.exit ?_
 change AWP _ _ _ _ _ _
 refine AWP.seq (AWP.region rfl ?_)
 refine AOps.cons rfl rfl (AOp.load _ rfl s617 ty_38 h628 rfl (AOps.cons rfl rfl (AOp.store' (cells' := [w18_0, w18_1, .sl ((weaveR (R_rate_Sides p.aP s.Unit)).2.1).length (((weaveR (R_rate_Sides p.aP s.Unit)).2.1).flatMap eI3)]) (.agg [w18_0, w18_1, .sl ((weaveR (R_rate_Sides p.aP s.Unit)).2.1).length (((weaveR (R_rate_Sides p.aP s.Unit)).2.1).flatMap eI3)]) s615 rfl ts_38 h627 (by simp only [AV.cells, List.all_cons, List.all_nil, Own.one_ o620, Own.one_ o621]; rfl) rfl rfl rfl ?_)))
 intro H994 h995 k996
 have o999 := Own.keep o620 k996 no622
 have o1000 := Own.keep o621 k996 no624
 have m1001 := Mono.set m629 z24 k996
 refine AOps.cons rfl rfl (AOp.assign _ rfl rfl ?_)
 refine AWP.ret ?_
 refine Fin.frzCell 1 o1000 h995 z24 rfl no624 m1001 fun H1002 h1003 m1004 k1005 => ?_
 have o1007 := Own.stay2 o999 sp626 no622 k1005
 have h1008 : H1002 i17 = some (.row 0 ([w18_0, .sl (((weaveR (R_rate_Sides p.aP s.Unit)).1.take i.toNat).map (kD p cage id s)).length ((((weaveR (R_rate_Sides p.aP s.Unit)).1.take i.toNat).map (kD p cage id s)).flatMap eKey), .sl ((weaveR (R_rate_Sides p.aP s.Unit)).2.1).length (((weaveR (R_rate_Sides p.aP s.Unit)).2.1).flatMap eI3)])) := h1003
 have hx : ((((weaveR (R_rate_Sides p.aP s.Unit)).1.take i.toNat).map (fD p cage id s texs)) : List VT) = (((diceR p cage id s texs).1).Verts) := (by first | (exfalso; omega) | rw [dice_ok h0 (by omega) pre])
 refine ⟨_, _, Ghost.refl, .inr rfl, _, Res.list rfl rfl (.cell (v := .agg [w18_0, .sl (((weaveR (R_rate_Sides p.aP s.Unit)).1.take i.toNat).map (kD p cage id s)).length ((((weaveR (R_rate_Sides p.aP s.Unit)).1.take i.toNat).map (kD p cage id s)).flatMap eKey), .sl ((weaveR (R_rate_Sides p.aP s.Unit)).2.1).length (((weaveR (R_rate_Sides p.aP s.Unit)).2.1).flatMap eI3)]) s615 ty_38 h1008 rfl (.tmp rfl (.nil))), _, Own.re o1007 (congrArg List.length hx) (congrArg (fun l : List VT => l.flatMap eV) hx), ?_, m1004⟩
 exact congrArg AV.tup (lc (congrArg AV.agg (lc rfl (lc (congrArg (fun l : List KeyT => AV.sl l.length (l.flatMap eKey)) (show ((((weaveR (R_rate_Sides p.aP s.Unit)).1.take i.toNat).map (kD p cage id s)) : List KeyT) = (((diceR p cage id s texs).1).Keys) from by first | (exfalso; omega) | rw [dice_ok h0 (by omega) pre])) (lc (congrArg (fun l : List I3T => AV.sl l.length (l.flatMap eI3)) (show ((weaveR (R_rate_Sides p.aP s.Unit)).2.1 : List I3T) = (((diceR p cage id s texs).1).Tris) from by first | (exfalso; omega) | rw [dice_ok h0 (by omega) pre])) rfl)))) (lc (congrArg (AV.int .i64) (show (0 : Int) = (diceR p cage id s texs).2 from by first | (exfalso; omega) | rw [dice_ok h0 (by omega) pre])) rfl))
 refine AWP.condT rfl (nb (decide_eq_false b549)) ?_
 refine AWP.seq (AWP.region rfl ?_)
 refine AOps.cons rfl rfl (AOp.build (cells := [.snil, .snil, .snil]) rfl tz_38 pl_38 rfl rfl (AOps.cons rfl rfl (AOp.move _ rfl rfl (AOps.cons rfl rfl (AOp.store' (cells' := [.snil, .snil, .snil]) (.agg [.snil, .snil, .snil]) rfl rfl ts_38 h39 rfl rfl rfl rfl ?_)))))
 intro H1009 h1010 k1011
 have m1013 := Mono.set m40 z24 k1011
 refine AOps.cons rfl rfl (AOp.assign _ rfl rfl ?_)
 refine AWP.ret ?_
 refine Fin.frzCell 1 (Own.nil H0 H1009 1) h1010 z24 rfl (NotId.nil _) m1013 fun H1014 h1015 m1016 k1017 => ?_
 have h1018 : H1014 i17 = some (.row 0 ([.snil, .sl 0 ([]), .snil])) := h1015
 refine Fin.frzCell 2 (Own.nil H0 H1014 1) h1018 z24 rfl (NotId.nil _) m1016 fun H1019 h1020 m1021 k1022 => ?_
 have h1023 : H1019 i17 = some (.row 0 ([.snil, .sl 0 ([]), .sl 0 ([])])) := h1020
 have hx : ([] : List VT) = (((diceR p cage id s texs).1).Verts) := (by first | (exfalso; omega) | (rw [dice_err (e := R_mesh_fine p s) (by unfold errD; split <;> omega) (by omega)] <;> rfl))
 refine ⟨_, _, Ghost.refl, .inr rfl, _, Res.list rfl rfl (.cell (v := .agg [.snil, .sl 0 ([]), .sl 0 ([])]) rfl ty_38 h1023 rfl (.tmp rfl (.nil))), _, Own.re (Own.nil H0 _ 3) (congrArg List.length hx) (congrArg (fun l : List VT => l.flatMap eV) hx), ?_, m1021⟩
 exact congrArg AV.tup (lc (congrArg AV.agg (lc rfl (lc (congrArg (fun l : List KeyT => AV.sl l.length (l.flatMap eKey)) (show ([] : List KeyT) = (((diceR p cage id s texs).1).Keys) from by first | (exfalso; omega) | (rw [dice_err (e := R_mesh_fine p s) (by unfold errD; split <;> omega) (by omega)] <;> rfl))) (lc (congrArg (fun l : List I3T => AV.sl l.length (l.flatMap eI3)) (show ([] : List I3T) = (((diceR p cage id s texs).1).Tris) from by first | (exfalso; omega) | (rw [dice_err (e := R_mesh_fine p s) (by unfold errD; split <;> omega) (by omega)] <;> rfl))) rfl)))) (lc (congrArg (AV.int .i64) (show (R_mesh_fine p s : Int) = (diceR p cage id s texs).2 from by first | (exfalso; omega) | (rw [dice_err (e := R_mesh_fine p s) (by unfold errD; split <;> omega) (by omega)] <;> rfl))) rfl))
end Go.Proofs.M
namespace Go.Proofs.M
open Go Go.AH
theorem dice_own {H0 : Heap} (p : PatchT) (cage id : Int) (s : SkinT) : ACalls Tryd.prog 11 [.agg (p.aP.flatMap eV ++ (p.aCorners.map eI ++ (p.aNormals.flatMap eV ++ [.int .i64 p.Skin]))), .int .i64 cage, .int .i64 id, .agg [.str s.Name, .int .i64 s.Mat, .int .i64 s.Levels, .int .i64 s.Unit, .int .i64 s.Tex, .int .i64 s.Height], .snil] H0 fun r H' => ∃ v, Own H0 H' 3 v ((((diceR p cage id s ([] : List TexT)).1).Verts)).length (((((diceR p cage id s ([] : List TexT)).1).Verts)).flatMap eV) ∧ r = (.tup [.agg [v, .sl (((diceR p cage id s ([] : List TexT)).1).Keys).length ((((diceR p cage id s ([] : List TexT)).1).Keys).flatMap eKey), .sl (((diceR p cage id s ([] : List TexT)).1).Tris).length ((((diceR p cage id s ([] : List TexT)).1).Tris).flatMap eI3)], .int .i64 ((diceR p cage id s ([] : List TexT)).2)]) ∧ Mono H0 H' := by
  have h := c_mesh_DiceO (H0 := H0) p cage id s [] (by simp) (by simp)
  refine ACalls.nilArg (pre := [_, _, _, _]) (post := []) ?_
  exact h
end Go.Proofs.M
namespace Go.AH
variable [Globs]
set_option linter.unusedSectionVars false
open Go
section
variable {H0 H H2 : Heap} {es len id ver : Nat} {v : AV} {cells cells' : List AV}
theorem Own.at_ (e : v = .slm id ver es 0 len) (h : Own H0 H es v len cells) : H id = some (.row ver cells) ∧ H0 id = none ∧ cells.length = len * es := by
  rcases h with ⟨h, _, _⟩ | ⟨i, w, h1, h2, h3, h4⟩
  · rw [e] at h; cases h
  · rw [e] at h1; cases h1; exact ⟨h2, h3, h4⟩
theorem Own.store {len' : Nat} (e : v = .slm id ver es 0 len) (h : Own H0 H es v len cells) (hs : H2 id = some (.row ver cells')) (hl : len' = len) (hc : cells'.length = len * es) : Own H0 H2 es v len' cells' := by
  subst hl
  exact .inr ⟨id, ver, e, hs, (h.at_ e).2.1, hc⟩
theorem NotId.ne {i : Nat} (h : NotId v i) (e : v = .slm id ver es 0 len) : i ≠ id := h _ _ _ _ _ e
end
end Go.AH
namespace Go.Proofs.M
open Go Go.AH
set_option maxRecDepth 4000
set_option linter.unusedSimpArgs false
set_option linter.unusedVariables false
set_option maxHeartbeats 4000000
theorem c_aliveO : PC Tryd.prog 9 [] (.bool true) := by
 intro H0
 refine ACalls.of_body' (n := 63) rfl rfl rfl rfl ?_
 have m0 := Mono.refl H0
 refine AWP.seq (AWP.region rfl ?_)
 refine AOps.cons rfl rfl (AOp.assign _ rfl rfl ?_)
 refine AWP.seq (AWP.region rfl ?_)
 refine AOps.cons rfl rfl (AOp.pcall («as» := []) rfl rfl (rfl) tf_22 (c_law15_flat ) ?_)
 intro H1 m2
 have m3 := m0.trans m2
 refine AOps.cons rfl rfl (AOp.build (cells := [.str ⟨#[]⟩, J 0, J 0, J 100, J (-1), J 0]) rfl tz_30 pl_30 rfl rfl (AOps.cons rfl rfl (AOp.xcall («as» := [.agg (((R_law15_flat).aP).flatMap eV ++ (((R_law15_flat).aCorners).map eI ++ (((R_law15_flat).aNormals).flatMap eV ++ [J ((R_law15_flat).Skin)]))), J 0, J 0, .agg [.str ⟨#[]⟩, J 0, J 0, J 100, J (-1), J 0], .snil]) rfl rfl (rfl) tf_11 (dice_own (R_law15_flat) 0 0 (SkinT.mk ⟨#[]⟩ 0 0 100 (-1) 0)) ?_)))
 rintro _ H5 ⟨v4, o6, rfl, m7⟩
 have o8 := Own.base o6 m3
 have m9 := m3.trans m7
 refine AOps.cons rfl rfl (AOp.move _ rfl rfl (AOps.cons rfl rfl (AOp.extract _ rfl rfl rfl (AOps.cons rfl rfl (AOp.extract _ rfl rfl rfl (AOps.cons rfl rfl (AOp.alloc rfl tz_38 ?_)))))))
 intro i10 H11 n12 h13 k14
 have z15 := Mono.free m9 n12
 have o16 := Own.keep o8 k14 (Own.notnew o8 n12)
 have no17 := Own.notnew o8 n12
 have m18 := Mono.new m9 n12 k14
 refine AOps.cons rfl rfl (AOp.store' (cells' := [v4, .sl (((diceR (R_law15_flat) 0 0 (SkinT.mk ⟨#[]⟩ 0 0 100 (-1) 0) ([] : List TexT)).1).Keys).length ((((diceR (R_law15_flat) 0 0 (SkinT.mk ⟨#[]⟩ 0 0 100 (-1) 0) ([] : List TexT)).1).Keys).flatMap eKey), .sl (((diceR (R_law15_flat) 0 0 (SkinT.mk ⟨#[]⟩ 0 0 100 (-1) 0) ([] : List TexT)).1).Tris).length ((((diceR (R_law15_flat) 0 0 (SkinT.mk ⟨#[]⟩ 0 0 100 (-1) 0) ([] : List TexT)).1).Tris).flatMap eI3)]) (.agg [v4, .sl (((diceR (R_law15_flat) 0 0 (SkinT.mk ⟨#[]⟩ 0 0 100 (-1) 0) ([] : List TexT)).1).Keys).length ((((diceR (R_law15_flat) 0 0 (SkinT.mk ⟨#[]⟩ 0 0 100 (-1) 0) ([] : List TexT)).1).Keys).flatMap eKey), .sl (((diceR (R_law15_flat) 0 0 (SkinT.mk ⟨#[]⟩ 0 0 100 (-1) 0) ([] : List TexT)).1).Tris).length ((((diceR (R_law15_flat) 0 0 (SkinT.mk ⟨#[]⟩ 0 0 100 (-1) 0) ([] : List TexT)).1).Tris).flatMap eI3)]) rfl rfl ts_38 h13 (by simp only [AV.cells, List.all_cons, List.all_nil, Own.one_ o16]; rfl) rfl rfl rfl ?_)
 intro H19 h20 k21
 have o23 := Own.keep o16 k21 no17
 have m24 := Mono.set m18 z15 k21
 refine AOps.cons rfl rfl (AOp.assign _ rfl rfl ?_)
 refine AWP.seq ?_
 have hdl := dice_len R_law15_flat 0 0 (SkinT.mk ⟨#[]⟩ 0 0 100 (-1) 0) ([] : List TexT)
 refine AWP.frzCell 0 o23 h20 z15 rfl no17 m24 fun H25 h26 m27 k28 => ?_
 have h29 : H25 i10 = some (.row 0 ([.sl ((((diceR (R_law15_flat) 0 0 (SkinT.mk ⟨#[]⟩ 0 0 100 (-1) 0) ([] : List TexT)).1).Verts)).length (((((diceR (R_law15_flat) 0 0 (SkinT.mk ⟨#[]⟩ 0 0 100 (-1) 0) ([] : List TexT)).1).Verts)).flatMap eV), .sl (((diceR (R_law15_flat) 0 0 (SkinT.mk ⟨#[]⟩ 0 0 100 (-1) 0) ([] : List TexT)).1).Keys).length ((((diceR (R_law15_flat) 0 0 (SkinT.mk ⟨#[]⟩ 0 0 100 (-1) 0) ([] : List TexT)).1).Keys).flatMap eKey), .sl (((diceR (R_law15_flat) 0 0 (SkinT.mk ⟨#[]⟩ 0 0 100 (-1) 0) ([] : List TexT)).1).Tris).length ((((diceR (R_law15_flat) 0 0 (SkinT.mk ⟨#[]⟩ 0 0 100 (-1) 0) ([] : List TexT)).1).Tris).flatMap eI3)])) := h26
 skip
 refine AWP.region rfl ?_
 refine AOps.cons rfl rfl (AOp.pcall («as» := []) rfl rfl (rfl) tf_22 (c_law15_flat ) ?_)
 intro H30 m31
 have h32 := m31 _ _ h29
 have m33 := m27.trans m31
 refine AOps.cons rfl rfl (AOp.build (cells := [.str ⟨#[]⟩, J 0, J 0, J 1, J 0, J 3]) rfl tz_30 pl_30 rfl rfl (AOps.cons rfl rfl (AOp.pcall («as» := [.agg (((R_law15_flat).aP).flatMap eV ++ (((R_law15_flat).aCorners).map eI ++ (((R_law15_flat).aNormals).flatMap eV ++ [J ((R_law15_flat).Skin)]))), .agg [.str ⟨#[]⟩, J 0, J 0, J 1, J 0, J 3]]) rfl rfl (rfl) tf_13 (c_mesh_Bounds (R_law15_flat) (SkinT.mk ⟨#[]⟩ 0 0 1 0 3)) ?_)))
 intro H34 m35
 have h36 := m35 _ _ h32
 have m37 := m33.trans m35
 refine AOps.cons rfl rfl (AOp.move _ rfl rfl (AOps.cons rfl rfl (AOp.extract _ rfl rfl rfl (AOps.cons rfl rfl (AOp.extract _ rfl rfl rfl (AOps.cons rfl rfl (AOp.alloc rfl tz_43 ?_)))))))
 intro i38 H39 n40 h41 k42
 have e43 := ne_new h36 n40
 have z44 := Mono.free m37 n40
 have h45 := keep k42 (ne_new h36 n40) h36
 have m46 := Mono.new m37 n40 k42
 refine AOps.cons rfl rfl (AOp.store' (cells' := [J ((((R_mesh_Bounds (R_law15_flat) (SkinT.mk ⟨#[]⟩ 0 0 1 0 3)).1).Lo).X), J ((((R_mesh_Bounds (R_law15_flat) (SkinT.mk ⟨#[]⟩ 0 0 1 0 3)).1).Lo).Y), J ((((R_mesh_Bounds (R_law15_flat) (SkinT.mk ⟨#[]⟩ 0 0 1 0 3)).1).Lo).Z), J ((((R_mesh_Bounds (R_law15_flat) (SkinT.mk ⟨#[]⟩ 0 0 1 0 3)).1).Hi).X), J ((((R_mesh_Bounds (R_law15_flat) (SkinT.mk ⟨#[]⟩ 0 0 1 0 3)).1).Hi).Y), J ((((R_mesh_Bounds (R_law15_flat) (SkinT.mk ⟨#[]⟩ 0 0 1 0 3)).1).Hi).Z)]) (.agg [J ((((R_mesh_Bounds (R_law15_flat) (SkinT.mk ⟨#[]⟩ 0 0 1 0 3)).1).Lo).X), J ((((R_mesh_Bounds (R_law15_flat) (SkinT.mk ⟨#[]⟩ 0 0 1 0 3)).1).Lo).Y), J ((((R_mesh_Bounds (R_law15_flat) (SkinT.mk ⟨#[]⟩ 0 0 1 0 3)).1).Lo).Z), J ((((R_mesh_Bounds (R_law15_flat) (SkinT.mk ⟨#[]⟩ 0 0 1 0 3)).1).Hi).X), J ((((R_mesh_Bounds (R_law15_flat) (SkinT.mk ⟨#[]⟩ 0 0 1 0 3)).1).Hi).Y), J ((((R_mesh_Bounds (R_law15_flat) (SkinT.mk ⟨#[]⟩ 0 0 1 0 3)).1).Hi).Z)]) rfl rfl ts_43 h41 rfl rfl rfl rfl ?_)
 intro H47 h48 k49
 have h50 := keep k49 e43 h45
 have m52 := Mono.set m46 z44 k49
 refine AOps.cons rfl rfl (AOp.assign _ rfl rfl ?_)
 refine AWP.seq ?_
 refine AWP.frzP 1 h50 z15 rfl m52 fun H53 m54 k55 => ?_
 have h56 := (k55 _ (Ne.symm e43)).trans h48
 refine AWP.frzP 3 h56 z44 rfl m54 fun H57 m58 k59 => ?_
 refine AWP.region rfl ?_
 refine AOps.cons rfl rfl (AOp.loadF _ rfl rfl ty_38 rfl (AOps.cons rfl rfl (AOp.pcall («as» := [.agg [.sl ((((diceR (R_law15_flat) 0 0 (SkinT.mk ⟨#[]⟩ 0 0 100 (-1) 0) ([] : List TexT)).1).Verts)).length (((((diceR (R_law15_flat) 0 0 (SkinT.mk ⟨#[]⟩ 0 0 100 (-1) 0) ([] : List TexT)).1).Verts)).flatMap eV), .sl (((diceR (R_law15_flat) 0 0 (SkinT.mk ⟨#[]⟩ 0 0 100 (-1) 0) ([] : List TexT)).1).Keys).length ((((diceR (R_law15_flat) 0 0 (SkinT.mk ⟨#[]⟩ 0 0 100 (-1) 0) ([] : List TexT)).1).Keys).flatMap eKey), .sl (((diceR (R_law15_flat) 0 0 (SkinT.mk ⟨#[]⟩ 0 0 100 (-1) 0) ([] : List TexT)).1).Tris).length ((((diceR (R_law15_flat) 0 0 (SkinT.mk ⟨#[]⟩ 0 0 100 (-1) 0) ([] : List TexT)).1).Tris).flatMap eI3)], J 1]) rfl rfl (rfl) tf_15 (c_mesh_Tri ((diceR (R_law15_flat) 0 0 (SkinT.mk ⟨#[]⟩ 0 0 100 (-1) 0) ([] : List TexT)).1) 1 (by first | assumption | omega) (by first | assumption | omega)) ?_)))
 intro H60 m61
 have m62 := m58.trans m61
 refine AOps.cons rfl rfl (AOp.move _ rfl rfl (AOps.cons rfl rfl (AOp.extract _ rfl rfl rfl (AOps.cons rfl rfl (AOp.extract _ rfl rfl rfl (AOps.cons rfl rfl (AOp.alloc rfl tz_47 ?_)))))))
 intro i63 H64 n65 h66 k67
 have z68 := Mono.free m62 n65
 have m69 := Mono.new m62 n65 k67
 refine AOps.cons rfl rfl (AOp.store' (cells' := [J ((((R_mesh_Tri ((diceR (R_law15_flat) 0 0 (SkinT.mk ⟨#[]⟩ 0 0 100 (-1) 0) ([] : List TexT)).1) 1).1).A).X), J ((((R_mesh_Tri ((diceR (R_law15_flat) 0 0 (SkinT.mk ⟨#[]⟩ 0 0 100 (-1) 0) ([] : List TexT)).1) 1).1).A).Y), J ((((R_mesh_Tri ((diceR (R_law15_flat) 0 0 (SkinT.mk ⟨#[]⟩ 0 0 100 (-1) 0) ([] : List TexT)).1) 1).1).A).Z), J ((((R_mesh_Tri ((diceR (R_law15_flat) 0 0 (SkinT.mk ⟨#[]⟩ 0 0 100 (-1) 0) ([] : List TexT)).1) 1).1).B).X), J ((((R_mesh_Tri ((diceR (R_law15_flat) 0 0 (SkinT.mk ⟨#[]⟩ 0 0 100 (-1) 0) ([] : List TexT)).1) 1).1).B).Y), J ((((R_mesh_Tri ((diceR (R_law15_flat) 0 0 (SkinT.mk ⟨#[]⟩ 0 0 100 (-1) 0) ([] : List TexT)).1) 1).1).B).Z), J ((((R_mesh_Tri ((diceR (R_law15_flat) 0 0 (SkinT.mk ⟨#[]⟩ 0 0 100 (-1) 0) ([] : List TexT)).1) 1).1).C).X), J ((((R_mesh_Tri ((diceR (R_law15_flat) 0 0 (SkinT.mk ⟨#[]⟩ 0 0 100 (-1) 0) ([] : List TexT)).1) 1).1).C).Y), J ((((R_mesh_Tri ((diceR (R_law15_flat) 0 0 (SkinT.mk ⟨#[]⟩ 0 0 100 (-1) 0) ([] : List TexT)).1) 1).1).C).Z)]) (.agg [J ((((R_mesh_Tri ((diceR (R_law15_flat) 0 0 (SkinT.mk ⟨#[]⟩ 0 0 100 (-1) 0) ([] : List TexT)).1) 1).1).A).X), J ((((R_mesh_Tri ((diceR (R_law15_flat) 0 0 (SkinT.mk ⟨#[]⟩ 0 0 100 (-1) 0) ([] : List TexT)).1) 1).1).A).Y), J ((((R_mesh_Tri ((diceR (R_law15_flat) 0 0 (SkinT.mk ⟨#[]⟩ 0 0 100 (-1) 0) ([] : List TexT)).1) 1).1).A).Z), J ((((R_mesh_Tri ((diceR (R_law15_flat) 0 0 (SkinT.mk ⟨#[]⟩ 0 0 100 (-1) 0) ([] : List TexT)).1) 1).1).B).X), J ((((R_mesh_Tri ((diceR (R_law15_flat) 0 0 (SkinT.mk ⟨#[]⟩ 0 0 100 (-1) 0) ([] : List TexT)).1) 1).1).B).Y), J ((((R_mesh_Tri ((diceR (R_law15_flat) 0 0 (SkinT.mk ⟨#[]⟩ 0 0 100 (-1) 0) ([] : List TexT)).1) 1).1).B).Z), J ((((R_mesh_Tri ((diceR (R_law15_flat) 0 0 (SkinT.mk ⟨#[]⟩ 0 0 100 (-1) 0) ([] : List TexT)).1) 1).1).C).X), J ((((R_mesh_Tri ((diceR (R_law15_flat) 0 0 (SkinT.mk ⟨#[]⟩ 0 0 100 (-1) 0) ([] : List TexT)).1) 1).1).C).Y), J ((((R_mesh_Tri ((diceR (R_law15_flat) 0 0 (SkinT.mk ⟨#[]⟩ 0 0 100 (-1) 0) ([] : List TexT)).1) 1).1).C).Z)]) rfl rfl ts_47 h66 rfl rfl rfl rfl ?_)
 intro H70 h71 k72
 have m74 := Mono.set m69 z68 k72
 refine AOps.cons rfl rfl (AOp.assign _ rfl rfl ?_)
 refine AWP.seq ?_
 refine AWP.frzP 5 h71 z68 rfl m74 fun H75 m76 k77 => ?_
 refine AWP.region rfl ?_
 refine AOps.cons rfl rfl (AOp.move _ rfl rfl (AOps.cons rfl rfl (AOp.bin _ rfl rfl rfl ieq (AOps.cons rfl rfl (AOp.move _ rfl rfl (AOps.yes rfl rfl rfl rfl rfl rfl rfl (decide_eq_true (al_d2)) (AOp.move _ rfl rfl (AOps.yes rfl rfl rfl rfl rfl rfl rfl (decide_eq_true (al_d2)) (AOp.bin _ rfl rfl rfl ieq (AOps.cons rfl rfl (AOp.pickT _ rfl rfl (decide_eq_true (al_d2)) rfl ?_)))))))))))
 refine AOps.cons rfl rfl (AOp.move _ rfl rfl (AOps.yes rfl rfl rfl rfl rfl rfl rfl (decide_eq_true (al_b2)) (AOp.move _ rfl rfl (AOps.cons rfl rfl (AOp.pickT _ rfl rfl (decide_eq_true (al_b2)) rfl (AOps.cons rfl rfl (AOp.move _ rfl rfl (AOps.yes rfl rfl rfl rfl rfl rfl rfl (al_t2) (AOp.fieldAddrF rfl rfl fl_38_0 (AOps.yes rfl rfl rfl rfl rfl rfl rfl (al_t2) (AOp.loadF _ rfl rfl ty_34 rfl ?_)))))))))))
 refine AOps.yes rfl rfl rfl rfl rfl rfl rfl (al_t2) (AOp.len (m := ((((diceR (R_law15_flat) 0 0 (SkinT.mk ⟨#[]⟩ 0 0 100 (-1) 0) ([] : List TexT)).1).Verts)).length) rfl rfl (.inr (.inl ⟨_, rfl⟩)) u_34 (AOps.yes rfl rfl rfl rfl rfl rfl rfl (al_t2) (AOp.bin _ rfl rfl rfl ieq (AOps.cons rfl rfl (AOp.pickT _ rfl rfl (al_t2) rfl (AOps.cons rfl rfl (AOp.move _ rfl rfl (AOps.yes rfl rfl rfl rfl rfl rfl rfl (decide_eq_true (al_v)) (AOp.fieldAddrF rfl rfl fl_38_1 (AOps.yes rfl rfl rfl rfl rfl rfl rfl (decide_eq_true (al_v)) (AOp.loadF _ rfl rfl ty_35 rfl ?_)))))))))))
 refine AOps.yes rfl rfl rfl rfl rfl rfl rfl (decide_eq_true (al_v)) (AOp.len (m := (((diceR (R_law15_flat) 0 0 (SkinT.mk ⟨#[]⟩ 0 0 100 (-1) 0) ([] : List TexT)).1).Keys).length) rfl rfl (.inr (.inl ⟨_, rfl⟩)) u_35 (AOps.yes rfl rfl rfl rfl rfl rfl rfl (decide_eq_true (al_v)) (AOp.bin _ rfl rfl rfl ieq (AOps.cons rfl rfl (AOp.pickT _ rfl rfl (decide_eq_true (al_v)) rfl (AOps.cons rfl rfl (AOp.move _ rfl rfl (AOps.yes rfl rfl rfl rfl rfl rfl rfl (decide_eq_true (al_k)) (AOp.fieldAddrF rfl rfl fl_38_2 (AOps.yes rfl rfl rfl rfl rfl rfl rfl (decide_eq_true (al_k)) (AOp.loadF _ rfl rfl ty_36 rfl ?_)))))))))))
 refine AOps.yes rfl rfl rfl rfl rfl rfl rfl (decide_eq_true (al_k)) (AOp.len (m := (((diceR (R_law15_flat) 0 0 (SkinT.mk ⟨#[]⟩ 0 0 100 (-1) 0) ([] : List TexT)).1).Tris).length) rfl rfl (.inr (.inl ⟨_, rfl⟩)) u_36 (AOps.yes rfl rfl rfl rfl rfl rfl rfl (decide_eq_true (al_k)) (AOp.bin _ rfl rfl rfl ieq (AOps.cons rfl rfl (AOp.pickT _ rfl rfl (decide_eq_true (al_k)) rfl (AOps.cons rfl rfl (AOp.move _ rfl rfl (AOps.yes rfl rfl rfl rfl rfl rfl rfl (decide_eq_true (al_t)) (AOp.fieldAddrF rfl rfl fl_43_1 (AOps.yes rfl rfl rfl rfl rfl rfl rfl (decide_eq_true (al_t)) (AOp.loadF _ rfl rfl ty_23 rfl ?_)))))))))))
 refine AOps.yes rfl rfl rfl rfl rfl rfl rfl (decide_eq_true (al_t)) (AOp.build (cells := [J 14, J 14, J 5]) rfl tz_23 pl_23 rfl rfl (AOps.yes rfl rfl rfl rfl rfl rfl rfl (decide_eq_true (al_t)) (AOp.eqAggD rfl rfl rfl teq23 (kokV (by rw [al_hi]; exact ranV_lit (by omega) (by omega) (by omega))) (kokV (ranV_lit (by omega) (by omega) (by omega))) (eV_iff (((R_mesh_Bounds (R_law15_flat) (SkinT.mk ⟨#[]⟩ 0 0 1 0 3)).1).Hi) (VT.mk 14 14 5)) (AOps.cons rfl rfl (AOp.pickT _ rfl rfl (decide_eq_true (al_t)) rfl (AOps.cons rfl rfl (AOp.move _ rfl rfl (AOps.yes rfl rfl rfl rfl rfl rfl rfl (decide_eq_true (al_hi)) (AOp.fieldAddrF rfl rfl fl_47_1 (AOps.yes rfl rfl rfl rfl rfl rfl rfl (decide_eq_true (al_hi)) (AOp.loadF _ rfl rfl ty_23 rfl ?_)))))))))))
 refine AOps.yes rfl rfl rfl rfl rfl rfl rfl (decide_eq_true (al_hi)) (AOp.build (cells := [J 9, J 9, J 0]) rfl tz_23 pl_23 rfl rfl (AOps.yes rfl rfl rfl rfl rfl rfl rfl (decide_eq_true (al_hi)) (AOp.eqAggD rfl rfl rfl teq23 (kokV (by rw [al_tb]; exact ranV_lit (by omega) (by omega) (by omega))) (kokV (ranV_lit (by omega) (by omega) (by omega))) (eV_iff (((R_mesh_Tri ((diceR (R_law15_flat) 0 0 (SkinT.mk ⟨#[]⟩ 0 0 100 (-1) 0) ([] : List TexT)).1) 1).1).B) (VT.mk 9 9 0)) (AOps.cons rfl rfl (AOp.pickT _ rfl rfl (decide_eq_true (al_hi)) rfl (AOps.cons rfl rfl (AOp.assign _ rfl rfl ?_)))))))
 refine AWP.ret ?_
 refine ⟨_, _, Ghost.refl, .inr rfl, _, Res.one rfl rfl, ?_, m76⟩
 exact (congrArg AV.bool (show (decide ((((R_mesh_Tri ((diceR (R_law15_flat) 0 0 (SkinT.mk ⟨#[]⟩ 0 0 100 (-1) 0) ([] : List TexT)).1) 1).1).B) = (VT.mk 9 9 0)) : Bool) = true from by first | rfl | omega | simp_all))
theorem c_MeshMoved (p : PatchT) (by_ : VT) (unit : Int) (hpc : ∀ c ∈ p.aCorners, inR c) (hby : ranV by_) : PC Tryd.prog 7 [.agg (p.aP.flatMap eV ++ (p.aCorners.map eI ++ (p.aNormals.flatMap eV ++ [.int .i64 p.Skin]))), .agg [.int .i64 by_.X, .int .i64 by_.Y, .int .i64 by_.Z], .int .i64 unit] (.bool true) := by
 intro H0
 refine ACalls.of_body' (n := 78) rfl rfl rfl rfl ?_
 have m0 := Mono.refl H0
 refine AWP.seq ?_
 refine AWP.region (l := [0, 1, 2]) rfl ?_
 refine AOps.cons rfl rfl (AOp.box (.agg (p.aP.flatMap eV ++ (p.aCorners.map eI ++ (p.aNormals.flatMap eV ++ [.int .i64 p.Skin])))) rfl rfl rfl ?_)
 intro i1 H2 n3 h4 k5
 have z6 := Mono.free m0 n3
 have m7 := Mono.new m0 n3 k5
 refine AOps.cons rfl rfl (AOp.box (.agg [.int .i64 by_.X, .int .i64 by_.Y, .int .i64 by_.Z]) rfl rfl rfl ?_)
 intro i8 H9 n10 h11 k12
 have e13 := ne_new h4 n10
 have z14 := Mono.free m7 n10
 have h15 := keep k12 (ne_new h4 n10) h4
 have m16 := Mono.new m7 n10 k12
 refine AOps.cons rfl rfl (AOp.assign (.bool false) rfl rfl ?_)
 refine AOps.nil ?_
 change AWP _ _ _ _ _ _
 refine AWP.seq ?_
 refine AWP.seq ?_
 refine AWP.frzP 3 h15 z6 rfl m16 fun H17 m18 k19 => ?_
 have h20 := (k19 _ (Ne.symm e13)).trans h11
 refine AWP.frzP 4 h20 z14 rfl m18 fun H21 m22 k23 => ?_
 refine AWP.region (l := [0, 1]) rfl ?_
 refine AOps.cons rfl rfl (AOp.pcall («as» := []) rfl rfl (rfl) tf_9 (c_aliveO) ?_)
 intro H24 m25
 have m26 := m22.trans m25
 refine AOps.cons rfl rfl (AOp.not rfl rfl ?_)
 refine AOps.nil ?_
 change AWP _ _ _ _ _ _
 refine AWP.condF rfl rfl ?_
 refine AWP.skip ?_
 change AWP _ _ _ _ _ _
 refine AWP.seq ?_
 refine AWP.seq ?_
 refine AWP.region (l := [0, 1, 2]) rfl ?_
 refine AOps.cons rfl rfl (AOp.loadF (.agg [.int .i64 by_.X, .int .i64 by_.Y, .int .i64 by_.Z]) rfl rfl ty_23 rfl ?_)
 refine AOps.cons rfl rfl (AOp.pcall («as» := [.agg [.int .i64 by_.X, .int .i64 by_.Y, .int .i64 by_.Z], .int .i64 16384]) rfl rfl (rfl) tf_18 (c_vec_Within by_ 16384 (by first | omega | assumption | (constructor <;> omega) | simp)) ?_)
 intro H27 m28
 have m29 := m26.trans m28
 refine AOps.cons rfl rfl (AOp.not rfl rfl ?_)
 refine AOps.nil ?_
 change AWP _ _ _ _ _ _
 rcases Bool.eq_false_or_eq_true (R_vec_Within by_ 16384) with b30 | b30
 ·
  have iv31 : inV 16384 by_ := withinvec_in b30
  refine AWP.condF rfl (nb b30) ?_
  refine AWP.skip ?_
  change AWP _ _ _ _ _ _
  refine AWP.seq ?_
  refine AWP.region (l := [0, 1, 2]) rfl ?_
  refine AOps.cons rfl rfl (AOp.loadF (.agg (p.aP.flatMap eV ++ (p.aCorners.map eI ++ (p.aNormals.flatMap eV ++ [.int .i64 p.Skin])))) rfl rfl ty_28 (ld_all (len_app (m := 48) (n := 17) (k := 65) (lenM eV_len p.lP rfl) (len_app (m := 4) (n := 13) (k := 17) (len1 p.lCorners) (len_app (m := 12) (n := 1) (k := 13) (lenM eV_len p.lNormals rfl) rfl rfl) rfl) rfl)) ?_)
  refine AOps.cons rfl rfl (AOp.alloc rfl tz_28 ?_)
  intro i32 H33 n34 h35 k36
  have z37 := Mono.free m29 n34
  have m38 := Mono.new m29 n34 k36
  refine AOps.cons rfl rfl (AOp.store' (cells' := p.aP.flatMap eV ++ (p.aCorners.map eI ++ (p.aNormals.flatMap eV ++ [.int .i64 p.Skin]))) (.agg (p.aP.flatMap eV ++ (p.aCorners.map eI ++ (p.aNormals.flatMap eV ++ [.int .i64 p.Skin])))) rfl rfl ts_28 h35 (by simp only [AV.cells, List.all_append, List.all_cons, List.all_nil, Bool.and_true, Bool.and_eq_true]; exact ⟨(all_one eV_one _), ⟨(all_one1 eI_one _), ⟨(all_one eV_one _), rfl⟩⟩⟩) (show (AV.cells (.agg (p.aP.flatMap eV ++ (p.aCorners.map eI ++ (p.aNormals.flatMap eV ++ [.int .i64 p.Skin]))))).length = 65 from (len_app (m := 48) (n := 17) (k := 65) (lenM eV_len p.lP rfl) (len_app (m := 4) (n := 13) (k := 17) (len1 p.lCorners) (len_app (m := 12) (n := 1) (k := 13) (lenM eV_len p.lNormals rfl) rfl rfl) rfl) rfl)) rfl (wr_all rfl (len_app (m := 48) (n := 17) (k := 65) (lenM eV_len p.lP rfl) (len_app (m := 4) (n := 13) (k := 17) (len1 p.lCorners) (len_app (m := 12) (n := 1) (k := 13) (lenM eV_len p.lNormals rfl) rfl rfl) rfl) rfl)) ?_)
  intro H39 h40 k41
  have m43 := Mono.set m38 z37 k41
  refine AOps.nil ?_
  change AWP _ _ _ _ _ _
  refine AWP.seq ?_
  refine AWP.seq ?_
  refine AWP.region (l := [0]) rfl ?_
  refine AOps.cons rfl rfl (AOp.assign (.int .i64 0) rfl rfl ?_)
  refine AOps.nil ?_
  change AWP _ _ _ _ _ _
  refine AWP.block ?_
  refine AWP.loop (fun q44 fq Hq => ∃ (i : Int), q44 = ((16 : Int) - i).toNat ∧ fq 8 = .int .i64 i ∧ fq 2 = .int .i64 unit ∧ fq 3 = .fptr ((p.aP.flatMap eV) ++ ((p.aCorners.map eI) ++ ((p.aNormals.flatMap eV) ++ ([.int .i64 p.Skin] : List AV)))) 0 ∧ fq 4 = .fptr [.int .i64 by_.X, .int .i64 by_.Y, .int .i64 by_.Z] 0 ∧ fq 7 = .ptr i32 0 0 ∧ Hq i32 = some (.row 0 (((mvP p by_ i).aP).flatMap eV ++ (((mvP p by_ i).aCorners).map eI ++ (((mvP p by_ i).aNormals).flatMap eV ++ [.int .i64 ((mvP p by_ i).Skin)])))) ∧ Mono H0 Hq ∧ (0 ≤ i) ∧ (i ≤ 16) ∧ (∀ j : Int, 0 ≤ j → j < i → inV 40000 (at_ p.aP j))) (k := ((16 : Int) - 0).toNat) ?_ ?_
  ·
   exact ⟨0, rfl, rfl, rfl, rfl, rfl, rfl, (h40.trans (congrArg (fun c => some (AB.row 0 c)) (show (p.aP.flatMap eV ++ (p.aCorners.map eI ++ (p.aNormals.flatMap eV ++ [.int .i64 p.Skin])) : List AV) = ((mvP p by_ 0).aP).flatMap eV ++ (((mvP p by_ 0).aCorners).map eI ++ (((mvP p by_ 0).aNormals).flatMap eV ++ [.int .i64 ((mvP p by_ 0).Skin)])) from by first | (rw [mvP_aP, mvL_0]; rfl) | (rw [mvP_aP, mvL_step hi0 (by have := p.lP; omega), ← mvP_aP]; rfl)))), m43, by omega, by omega, by intro j; omega⟩
  ·
   rintro _ f46 H45 ⟨i, rfl, s47, s48, s49, s50, s51, h52, m53, hi0, hi1, pre⟩
   refine AWP.seq ?_
   refine AWP.seq ?_
   refine AWP.region (l := [0, 1]) rfl ?_
   refine AOps.cons rfl rfl (AOp.move (.int .i64 i) rfl s47 ?_)
   refine AOps.cons rfl rfl (AOp.bin (.bool (decide (i < 16))) rfl rfl rfl rfl ?_)
   refine AOps.nil ?_
   change AWP _ _ _ _ _ _
   by_cases b54 : i < 16
   ·
    refine AWP.condT rfl (decide_eq_true b54) ?_
    refine AWP.skip ?_
    change AWP _ _ _ _ _ _
    refine AWP.seq ?_
    refine AWP.block ?_
    refine AWP.seq ?_
    refine AWP.seq ?_
    refine AWP.region (l := [0, 1, 2, 3, 4, 5]) rfl ?_
    refine AOps.cons rfl rfl (AOp.move (.int .i64 i) rfl s47 ?_)
    refine AOps.cons rfl rfl (AOp.fieldAddrF rfl s49 fl_28_0 ?_)
    refine AOps.cons rfl rfl (AOp.indexAddrFA rfl rfl rfl ar_24 (by omega) (by omega) ?_)
    refine AOps.cons rfl rfl (AOp.loadF (.agg [.int .i64 ((at_ p.aP i).X), .int .i64 ((at_ p.aP i).Y), .int .i64 ((at_ p.aP i).Z)]) rfl rfl ty_23 (ld_off (o := 0 + i.toNat * 3) (by omega) (ld_fst (fun h => by first | rfl | cases h) (ldM eV_len (i := i) (by omega) (by first | (have := p.lP; omega) | (simp; omega))))) ?_)
    refine AOps.cons rfl rfl (AOp.pcall («as» := [.agg [.int .i64 ((at_ p.aP i).X), .int .i64 ((at_ p.aP i).Y), .int .i64 ((at_ p.aP i).Z)], .int .i64 40000]) rfl rfl (rfl) tf_18 (c_vec_Within (at_ p.aP i) 40000 (by first | omega | assumption | (constructor <;> omega) | simp)) ?_)
    intro H55 m56
    have h57 := m56 _ _ h52
    have m58 := m53.trans m56
    refine AOps.cons rfl rfl (AOp.not rfl rfl ?_)
    refine AOps.nil ?_
    change AWP _ _ _ _ _ _
    rcases Bool.eq_false_or_eq_true (R_vec_Within (at_ p.aP i) 40000) with b59 | b59
    ·
     have iv60 : inV 40000 (at_ p.aP i) := withinvec_in b59
     refine AWP.condF rfl (nb b59) ?_
     refine AWP.skip ?_
     change AWP _ _ _ _ _ _
     refine AWP.region_quiet mixed (by kernel_rfl) 9 [9] rfl (by kernel_rfl) (Mono H55) (Mono.refl _) ?_
     refine QE.op rfl rfl (.inl ⟨rfl, fun f' H' hf hM => AOp.move (.int .i64 i) rfl ((hf 8 rfl).trans s47) ⟨rfl, hM⟩⟩) ?_
     refine QE.op rfl rfl (.inl ⟨rfl, fun f' H' hf hM => AOp.move (.int .i64 i) rfl ((hf 8 rfl).trans s47) ⟨rfl, hM⟩⟩) ?_
     refine QE.op rfl rfl (.inl ⟨rfl, fun f' H' hf hM => AOp.fieldAddrF rfl ((hf 3 rfl).trans s49) fl_28_0 ⟨rfl, hM⟩⟩) ?_
     refine QE.op rfl rfl (.inl ⟨rfl, fun f' H' hf hM => AOp.indexAddrFA rfl ((hf 33 rfl).trans rfl) ((hf 32 rfl).trans rfl) ar_24 (by omega) (by omega) ⟨rfl, hM⟩⟩) ?_
     refine QE.op rfl rfl (.inl ⟨rfl, fun f' H' hf hM => AOp.loadF (.agg [.int .i64 ((at_ p.aP i).X), .int .i64 ((at_ p.aP i).Y), .int .i64 ((at_ p.aP i).Z)]) rfl ((hf 34 rfl).trans rfl) ty_23 (ld_off (o := 0 + i.toNat * 3) (by omega) (ld_fst (fun h => by first | rfl | cases h) (ldM eV_len (i := i) (by omega) (by first | (have := p.lP; omega) | (simp; omega))))) ⟨rfl, hM⟩⟩) ?_
     refine QE.op rfl rfl (.inl ⟨rfl, fun f' H' hf hM => AOp.loadF (.agg [.int .i64 by_.X, .int .i64 by_.Y, .int .i64 by_.Z]) rfl ((hf 4 rfl).trans s50) ty_23 rfl ⟨rfl, hM⟩⟩) ?_
     refine QE.op rfl rfl (.inl ⟨rfl, fun f' H' hf hM => AOp.pcall («as» := [.agg [.int .i64 ((at_ p.aP i).X), .int .i64 ((at_ p.aP i).Y), .int .i64 ((at_ p.aP i).Z)], .agg [.int .i64 by_.X, .int .i64 by_.Y, .int .i64 by_.Z]]) rfl rfl (lapp (lcons ((hf 35 rfl).trans rfl) (lcons ((hf 36 rfl).trans rfl) rfl)) rfl) tf_20 (c_ref02_Add (at_ p.aP i) by_ (inV_le iv60 (by decide)) (inV_le iv31 (by decide))) fun H2 m2 => ⟨rfl, hM.trans m2⟩⟩) ?_
     refine QE.op rfl rfl (.inl ⟨rfl, fun f' H' hf hM => AOp.fieldAddr rfl ((hf 7 rfl).trans s51) fl_28_0 ⟨rfl, hM⟩ (hid := ⟨_, (hM _ _ h57)⟩)⟩) ?_
     refine QE.op rfl rfl (.inl ⟨rfl, fun f' H' hf hM => AOp.indexAddrA rfl ((hf 38 rfl).trans rfl) ((hf 31 rfl).trans rfl) ar_24 (by omega) (by omega) ⟨_, (hM _ _ h57)⟩ ⟨rfl, hM⟩⟩) ?_
     refine QE.done fun H61 m62 => ?_
     have h63 := m62 _ _ h57
     have m64 := m58.trans m62
     refine AOps.cons rfl rfl (AOp.store' (cells' := (((mvP p by_ i).aP).set i.toNat (R_ref02_Add (at_ p.aP i) by_)).flatMap eV ++ (((mvP p by_ i).aCorners).map eI ++ (((mvP p by_ i).aNormals).flatMap eV ++ [.int .i64 ((mvP p by_ i).Skin)]))) (.agg [.int .i64 ((R_ref02_Add (at_ p.aP i) by_).X), .int .i64 ((R_ref02_Add (at_ p.aP i) by_).Y), .int .i64 ((R_ref02_Add (at_ p.aP i) by_).Z)]) rfl rfl ts_23 h63 rfl rfl (blelen (len_app (m := 48) (n := 17) (k := 65) (lenM eV_len (mvP p by_ i).lP rfl) (len_app (m := 4) (n := 13) (k := 17) (len1 (mvP p by_ i).lCorners) (len_app (m := 12) (n := 1) (k := 13) (lenM eV_len (mvP p by_ i).lNormals rfl) rfl rfl) rfl) rfl) (by omega)) (wr_fst (by have := (lenM eV_len (mvP p by_ i).lP rfl); simp only [eV_len, List.length_cons, List.length_nil]; omega) (wr_off (by omega) (wr_setM eV_len (by omega) (by have := (mvP p by_ i).lP; omega)))) ?_)
     intro H65 h66 k67
     have m69 := Mono.set m64 z37 k67
     refine AOps.nil ?_
     change AWP _ _ _ _ _ _
     refine AWP.region (l := [0, 1, 2]) rfl ?_
     refine AOps.cons rfl rfl (AOp.move (.int .i64 i) rfl s47 ?_)
     refine AOps.cons rfl rfl (AOp.bin (.int .i64 (i + 1)) rfl rfl rfl (iadd (by omega)) ?_)
     refine AOps.cons rfl rfl (AOp.assign (.int .i64 (i + 1)) rfl rfl ?_)
     refine AOps.nil ?_
     exact ⟨_, by omega, i + 1, rfl, rfl, s48, s49, s50, s51, (h66.trans (congrArg (fun c => some (AB.row 0 c)) (show ((((mvP p by_ i).aP).set i.toNat (R_ref02_Add (at_ p.aP i) by_)).flatMap eV ++ (((mvP p by_ i).aCorners).map eI ++ (((mvP p by_ i).aNormals).flatMap eV ++ [.int .i64 ((mvP p by_ i).Skin)])) : List AV) = ((mvP p by_ (i + 1)).aP).flatMap eV ++ (((mvP p by_ (i + 1)).aCorners).map eI ++ (((mvP p by_ (i + 1)).aNormals).flatMap eV ++ [.int .i64 ((mvP p by_ (i + 1)).Skin)])) from by first | (rw [mvP_aP, mvL_0]; rfl) | (rw [mvP_aP, mvL_step hi0 (by have := p.lP; omega), ← mvP_aP]; rfl)))), m69, by omega, by omega, by exact fa_step pre iv60⟩
    ·
     refine AWP.condT rfl (nb b59) ?_
     refine AWP.seq ?_
     refine AWP.region (l := [0]) rfl ?_
     refine AOps.cons rfl rfl (AOp.assign (.bool true) rfl rfl ?_)
     refine AOps.nil ?_
     change AWP _ _ _ _ _ _
     refine AWP.ret ?_
     refine ⟨_, _, Ghost.refl, .inr rfl, _, Res.one rfl rfl, ?_, m58⟩
     exact rfl
   ·
    refine AWP.condF rfl (decide_eq_false b54) ?_
    refine AWP.exit ?_
    change AWP _ _ _ _ _ _
    refine AWP.seq ?_
    refine AWP.region (l := [0, 1, 2, 3]) rfl ?_
    refine AOps.cons rfl rfl (AOp.move (.int .i64 unit) rfl s48 ?_)
    refine AOps.cons rfl rfl (AOp.build (cells := [.str ⟨#[]⟩, .int .i64 0, .int .i64 0, .int .i64 unit, .int .i64 (-1), .int .i64 0]) rfl tz_30 pl_30 rfl rfl ?_)
    refine AOps.cons rfl rfl (AOp.alloc rfl tz_30 ?_)
    intro i70 H71 n72 h73 k74
    have e75 := ne_new h52 n72
    have z76 := Mono.free m53 n72
    have h77 := keep k74 (ne_new h52 n72) h52
    have m78 := Mono.new m53 n72 k74
    refine AOps.cons rfl rfl (AOp.store' (cells' := [.str ⟨#[]⟩, .int .i64 0, .int .i64 0, .int .i64 unit, .int .i64 (-1), .int .i64 0]) (.agg [.str ⟨#[]⟩, .int .i64 0, .int .i64 0, .int .i64 unit, .int .i64 (-1), .int .i64 0]) rfl rfl ts_30 h73 rfl rfl rfl rfl ?_)
    intro H79 h80 k81
    have h82 := keep k81 e75 h77
    have m84 := Mono.set m78 z76 k81
    refine AOps.nil ?_
    change AWP _ _ _ _ _ _
    refine AWP.seq ?_
    refine AWP.frzP 9 h80 z76 rfl m84 fun H85 m86 k87 => ?_
    have h88 := (k87 _ e75).trans h82
    have hqa : (mvP p by_ i).aP = p.aP.map fun v => R_ref02_Add v by_ := by rw [mvP_aP, mvL_all (by have := p.lP; omega)]
    have hmv := moved_law (p := p) (b := by_) (n := ⟨#[]⟩) (x := 0) (y := 0) (u := unit) (z := 0) (cage := 2) (id := 3) iv31 (fun j j0 j1 => pre j j0 (by omega)) (q := mvP p by_ i) hqa rfl rfl
    have hla := dice_len p 2 3 (SkinT.mk ⟨#[]⟩ 0 0 unit (-1) 0) ([] : List TexT)
    have hlb := dice_len (mvP p by_ i) 2 3 (SkinT.mk ⟨#[]⟩ 0 0 unit (-1) 0) ([] : List TexT)
    refine AWP.region (l := [0, 1, 2, 3, 4, 5, 6, 7, 8]) rfl ?_
    refine AOps.cons rfl rfl (AOp.loadF (.agg (p.aP.flatMap eV ++ (p.aCorners.map eI ++ (p.aNormals.flatMap eV ++ [.int .i64 p.Skin])))) rfl s49 ty_28 (ld_all (len_app (m := 48) (n := 17) (k := 65) (lenM eV_len p.lP rfl) (len_app (m := 4) (n := 13) (k := 17) (len1 p.lCorners) (len_app (m := 12) (n := 1) (k := 13) (lenM eV_len p.lNormals rfl) rfl rfl) rfl) rfl)) ?_)
    refine AOps.cons rfl rfl (AOp.loadF (.agg [.str ⟨#[]⟩, .int .i64 0, .int .i64 0, .int .i64 unit, .int .i64 (-1), .int .i64 0]) rfl rfl ty_30 rfl ?_)
    refine AOps.cons rfl rfl (AOp.xcall («as» := [.agg (p.aP.flatMap eV ++ (p.aCorners.map eI ++ (p.aNormals.flatMap eV ++ [.int .i64 p.Skin]))), .int .i64 2, .int .i64 3, .agg [.str ⟨#[]⟩, .int .i64 0, .int .i64 0, .int .i64 unit, .int .i64 (-1), .int .i64 0], .snil]) rfl rfl (rfl) tf_11 (dice_own p 2 3 (SkinT.mk ⟨#[]⟩ 0 0 unit (-1) 0)) ?_)
    rintro _ H90 ⟨v89, o91, rfl, m92⟩
    have no93 : NotId v89 i32 := Own.free o91 h88
    have o94 := Own.base o91 m86
    have h95 := m92 _ _ h88
    have m96 := m86.trans m92
    refine AOps.cons rfl rfl (AOp.move (.tup [.agg [v89, .sl (((diceR p 2 3 (SkinT.mk ⟨#[]⟩ 0 0 unit (-1) 0) ([] : List TexT)).1).Keys).length ((((diceR p 2 3 (SkinT.mk ⟨#[]⟩ 0 0 unit (-1) 0) ([] : List TexT)).1).Keys).flatMap eKey), .sl (((diceR p 2 3 (SkinT.mk ⟨#[]⟩ 0 0 unit (-1) 0) ([] : List TexT)).1).Tris).length ((((diceR p 2 3 (SkinT.mk ⟨#[]⟩ 0 0 unit (-1) 0) ([] : List TexT)).1).Tris).flatMap eI3)], .int .i64 ((diceR p 2 3 (SkinT.mk ⟨#[]⟩ 0 0 unit (-1) 0) ([] : List TexT)).2)]) rfl rfl ?_)
    refine AOps.cons rfl rfl (AOp.extract (.agg [v89, .sl (((diceR p 2 3 (SkinT.mk ⟨#[]⟩ 0 0 unit (-1) 0) ([] : List TexT)).1).Keys).length ((((diceR p 2 3 (SkinT.mk ⟨#[]⟩ 0 0 unit (-1) 0) ([] : List TexT)).1).Keys).flatMap eKey), .sl (((diceR p 2 3 (SkinT.mk ⟨#[]⟩ 0 0 unit (-1) 0) ([] : List TexT)).1).Tris).length ((((diceR p 2 3 (SkinT.mk ⟨#[]⟩ 0 0 unit (-1) 0) ([] : List TexT)).1).Tris).flatMap eI3)]) rfl rfl rfl ?_)
    refine AOps.cons rfl rfl (AOp.extract (.int .i64 ((diceR p 2 3 (SkinT.mk ⟨#[]⟩ 0 0 unit (-1) 0) ([] : List TexT)).2)) rfl rfl rfl ?_)
    refine AOps.cons rfl rfl (AOp.alloc rfl tz_38 ?_)
    intro i97 H98 n99 h100 k101
    have e102 := ne_new h95 n99
    have z103 := Mono.free m96 n99
    have h104 := keep k101 (ne_new h95 n99) h95
    have o105 := Own.keep o94 k101 (Own.notnew o94 n99)
    have no106 := Own.notnew o94 n99
    have m107 := Mono.new m96 n99 k101
    refine AOps.cons rfl rfl (AOp.store' (cells' := [v89, .sl (((diceR p 2 3 (SkinT.mk ⟨#[]⟩ 0 0 unit (-1) 0) ([] : List TexT)).1).Keys).length ((((diceR p 2 3 (SkinT.mk ⟨#[]⟩ 0 0 unit (-1) 0) ([] : List TexT)).1).Keys).flatMap eKey), .sl (((diceR p 2 3 (SkinT.mk ⟨#[]⟩ 0 0 unit (-1) 0) ([] : List TexT)).1).Tris).length ((((diceR p 2 3 (SkinT.mk ⟨#[]⟩ 0 0 unit (-1) 0) ([] : List TexT)).1).Tris).flatMap eI3)]) (.agg [v89, .sl (((diceR p 2 3 (SkinT.mk ⟨#[]⟩ 0 0 unit (-1) 0) ([] : List TexT)).1).Keys).length ((((diceR p 2 3 (SkinT.mk ⟨#[]⟩ 0 0 unit (-1) 0) ([] : List TexT)).1).Keys).flatMap eKey), .sl (((diceR p 2 3 (SkinT.mk ⟨#[]⟩ 0 0 unit (-1) 0) ([] : List TexT)).1).Tris).length ((((diceR p 2 3 (SkinT.mk ⟨#[]⟩ 0 0 unit (-1) 0) ([] : List TexT)).1).Tris).flatMap eI3)]) rfl rfl ts_38 h100 (by simp only [AV.cells, List.all_cons, List.all_nil, Own.one_ o105]; rfl) rfl rfl rfl ?_)
    intro H108 h109 k110
    have h111 := keep k110 e102 h104
    have o113 := Own.keep o105 k110 no106
    have m114 := Mono.set m107 z103 k110
    refine AOps.cons rfl rfl (AOp.assign (.int .i64 ((diceR p 2 3 (SkinT.mk ⟨#[]⟩ 0 0 unit (-1) 0) ([] : List TexT)).2)) rfl rfl ?_)
    refine AOps.nil ?_
    change AWP _ _ _ _ _ _
    refine AWP.seq ?_
    refine AWP.region (l := [0, 1, 2, 3, 4, 5, 6, 7, 8]) rfl ?_
    refine AOps.cons rfl rfl (AOp.load (.agg (((mvP p by_ i).aP).flatMap eV ++ (((mvP p by_ i).aCorners).map eI ++ (((mvP p by_ i).aNormals).flatMap eV ++ [.int .i64 ((mvP p by_ i).Skin)])))) rfl s51 ty_28 h111 (ld_all (len_app (m := 48) (n := 17) (k := 65) (lenM eV_len (mvP p by_ i).lP rfl) (len_app (m := 4) (n := 13) (k := 17) (len1 (mvP p by_ i).lCorners) (len_app (m := 12) (n := 1) (k := 13) (lenM eV_len (mvP p by_ i).lNormals rfl) rfl rfl) rfl) rfl)) ?_)
    refine AOps.cons rfl rfl (AOp.loadF (.agg [.str ⟨#[]⟩, .int .i64 0, .int .i64 0, .int .i64 unit, .int .i64 (-1), .int .i64 0]) rfl rfl ty_30 rfl ?_)
    refine AOps.cons rfl rfl (AOp.xcall («as» := [.agg (((mvP p by_ i).aP).flatMap eV ++ (((mvP p by_ i).aCorners).map eI ++ (((mvP p by_ i).aNormals).flatMap eV ++ [.int .i64 ((mvP p by_ i).Skin)]))), .int .i64 2, .int .i64 3, .agg [.str ⟨#[]⟩, .int .i64 0, .int .i64 0, .int .i64 unit, .int .i64 (-1), .int .i64 0], .snil]) rfl rfl (rfl) tf_11 (dice_own (mvP p by_ i) 2 3 (SkinT.mk ⟨#[]⟩ 0 0 unit (-1) 0)) ?_)
    rintro _ H116 ⟨v115, o117, rfl, m118⟩
    have no119 : NotId v115 i32 := Own.free o117 h111
    have no120 : NotId v115 i97 := Own.free o117 h109
    have sp121 : Sep v115 v89 := (Sep.fresh o113 o117).symm
    have o122 := Own.base o117 m114
    have h123 := m118 _ _ h111
    have h124 := m118 _ _ h109
    have o125 := Own.mono o113 m118
    have m126 := m114.trans m118
    refine AOps.cons rfl rfl (AOp.move (.tup [.agg [v115, .sl (((diceR (mvP p by_ i) 2 3 (SkinT.mk ⟨#[]⟩ 0 0 unit (-1) 0) ([] : List TexT)).1).Keys).length ((((diceR (mvP p by_ i) 2 3 (SkinT.mk ⟨#[]⟩ 0 0 unit (-1) 0) ([] : List TexT)).1).Keys).flatMap eKey), .sl (((diceR (mvP p by_ i) 2 3 (SkinT.mk ⟨#[]⟩ 0 0 unit (-1) 0) ([] : List TexT)).1).Tris).length ((((diceR (mvP p by_ i) 2 3 (SkinT.mk ⟨#[]⟩ 0 0 unit (-1) 0) ([] : List TexT)).1).Tris).flatMap eI3)], .int .i64 ((diceR (mvP p by_ i) 2 3 (SkinT.mk ⟨#[]⟩ 0 0 unit (-1) 0) ([] : List TexT)).2)]) rfl rfl ?_)
    refine AOps.cons rfl rfl (AOp.extract (.agg [v115, .sl (((diceR (mvP p by_ i) 2 3 (SkinT.mk ⟨#[]⟩ 0 0 unit (-1) 0) ([] : List TexT)).1).Keys).length ((((diceR (mvP p by_ i) 2 3 (SkinT.mk ⟨#[]⟩ 0 0 unit (-1) 0) ([] : List TexT)).1).Keys).flatMap eKey), .sl (((diceR (mvP p by_ i) 2 3 (SkinT.mk ⟨#[]⟩ 0 0 unit (-1) 0) ([] : List TexT)).1).Tris).length ((((diceR (mvP p by_ i) 2 3 (SkinT.mk ⟨#[]⟩ 0 0 unit (-1) 0) ([] : List TexT)).1).Tris).flatMap eI3)]) rfl rfl rfl ?_)
    refine AOps.cons rfl rfl (AOp.extract (.int .i64 ((diceR (mvP p by_ i) 2 3 (SkinT.mk ⟨#[]⟩ 0 0 unit (-1) 0) ([] : List TexT)).2)) rfl rfl rfl ?_)
    refine AOps.cons rfl rfl (AOp.alloc rfl tz_38 ?_)
    intro i127 H128 n129 h130 k131
    have e132 := ne_new h123 n129
    have e133 := ne_new h124 n129
    have z134 := Mono.free m126 n129
    have h135 := keep k131 (ne_new h123 n129) h123
    have h136 := keep k131 (ne_new h124 n129) h124
    have o137 := Own.keep o125 k131 (Own.notnew o125 n129)
    have no138 := Own.notnew o125 n129
    have o139 := Own.keep o122 k131 (Own.notnew o122 n129)
    have no140 := Own.notnew o122 n129
    have m141 := Mono.new m126 n129 k131
    refine AOps.cons rfl rfl (AOp.store' (cells' := [v115, .sl (((diceR (mvP p by_ i) 2 3 (SkinT.mk ⟨#[]⟩ 0 0 unit (-1) 0) ([] : List TexT)).1).Keys).length ((((diceR (mvP p by_ i) 2 3 (SkinT.mk ⟨#[]⟩ 0 0 unit (-1) 0) ([] : List TexT)).1).Keys).flatMap eKey), .sl (((diceR (mvP p by_ i) 2 3 (SkinT.mk ⟨#[]⟩ 0 0 unit (-1) 0) ([] : List TexT)).1).Tris).length ((((diceR (mvP p by_ i) 2 3 (SkinT.mk ⟨#[]⟩ 0 0 unit (-1) 0) ([] : List TexT)).1).Tris).flatMap eI3)]) (.agg [v115, .sl (((diceR (mvP p by_ i) 2 3 (SkinT.mk ⟨#[]⟩ 0 0 unit (-1) 0) ([] : List TexT)).1).Keys).length ((((diceR (mvP p by_ i) 2 3 (SkinT.mk ⟨#[]⟩ 0 0 unit (-1) 0) ([] : List TexT)).1).Keys).flatMap eKey), .sl (((diceR (mvP p by_ i) 2 3 (SkinT.mk ⟨#[]⟩ 0 0 unit (-1) 0) ([] : List TexT)).1).Tris).length ((((diceR (mvP p by_ i) 2 3 (SkinT.mk ⟨#[]⟩ 0 0 unit (-1) 0) ([] : List TexT)).1).Tris).flatMap eI3)]) rfl rfl ts_38 h130 (by simp only [AV.cells, List.all_cons, List.all_nil, Own.one_ o139]; rfl) rfl rfl rfl ?_)
    intro H142 h143 k144
    have h145 := keep k144 e132 h135
    have h146 := keep k144 e133 h136
    have o148 := Own.keep o137 k144 no138
    have o149 := Own.keep o139 k144 no140
    have m150 := Mono.set m141 z134 k144
    refine AOps.cons rfl rfl (AOp.assign (.int .i64 ((diceR (mvP p by_ i) 2 3 (SkinT.mk ⟨#[]⟩ 0 0 unit (-1) 0) ([] : List TexT)).2)) rfl rfl ?_)
    refine AOps.nil ?_
    change AWP _ _ _ _ _ _
    refine AWP.seq ?_
    refine AWP.seq ?_
    refine AWP.frzCell 0 o149 h143 z134 rfl no140 m150 fun H151 h152 m153 k154 => ?_
    have h155 := (k154 _ e132 no119).trans h145
    have h156 := (k154 _ e133 no120).trans h146
    have o157 := Own.stay2 o148 (Sep.symm sp121) no138 k154
    have h158 : H151 i127 = some (.row 0 ([.sl ((((diceR (mvP p by_ i) 2 3 (SkinT.mk ⟨#[]⟩ 0 0 unit (-1) 0) ([] : List TexT)).1).Verts)).length (((((diceR (mvP p by_ i) 2 3 (SkinT.mk ⟨#[]⟩ 0 0 unit (-1) 0) ([] : List TexT)).1).Verts)).flatMap eV), .sl (((diceR (mvP p by_ i) 2 3 (SkinT.mk ⟨#[]⟩ 0 0 unit (-1) 0) ([] : List TexT)).1).Keys).length ((((diceR (mvP p by_ i) 2 3 (SkinT.mk ⟨#[]⟩ 0 0 unit (-1) 0) ([] : List TexT)).1).Keys).flatMap eKey), .sl (((diceR (mvP p by_ i) 2 3 (SkinT.mk ⟨#[]⟩ 0 0 unit (-1) 0) ([] : List TexT)).1).Tris).length ((((diceR (mvP p by_ i) 2 3 (SkinT.mk ⟨#[]⟩ 0 0 unit (-1) 0) ([] : List TexT)).1).Tris).flatMap eI3)])) := h152
    skip
    refine AWP.region (l := [0, 1, 2]) rfl ?_
    refine AOps.cons rfl rfl (AOp.move (.int .i64 ((diceR p 2 3 (SkinT.mk ⟨#[]⟩ 0 0 unit (-1) 0) ([] : List TexT)).2)) rfl rfl ?_)
    refine AOps.cons rfl rfl (AOp.move (.int .i64 ((diceR (mvP p by_ i) 2 3 (SkinT.mk ⟨#[]⟩ 0 0 unit (-1) 0) ([] : List TexT)).2)) rfl rfl ?_)
    refine AOps.cons rfl rfl (AOp.bin (.bool (!decide ((diceR p 2 3 (SkinT.mk ⟨#[]⟩ 0 0 unit (-1) 0) ([] : List TexT)).2 = (diceR (mvP p by_ i) 2 3 (SkinT.mk ⟨#[]⟩ 0 0 unit (-1) 0) ([] : List TexT)).2))) rfl rfl rfl ine ?_)
    refine AOps.nil ?_
    change AWP _ _ _ _ _ _
    refine AWP.condF rfl (nb (decide_eq_true (hmv.1.symm))) ?_
    refine AWP.skip ?_
    change AWP _ _ _ _ _ _
    refine AWP.seq ?_
    refine AWP.seq ?_
    refine AWP.frzP 12 h158 z134 rfl m153 fun H159 m160 k161 => ?_
    have h162 := (k161 _ e132).trans h155
    have h163 := (k161 _ e133).trans h156
    have o164 := Own.keep o157 k161 no138
    refine AWP.region (l := [0]) rfl ?_
    refine AOps.cons rfl rfl (AOp.assign (.int .i64 0) rfl rfl ?_)
    refine AOps.nil ?_
    change AWP _ _ _ _ _ _
    refine AWP.block ?_
    refine AWP.loop (fun q165 fq Hq => ∃ (j : Int) (w10_0 : AV), q165 = (((((diceR p 2 3 (SkinT.mk ⟨#[]⟩ 0 0 unit (-1) 0) ([] : List TexT)).1).Verts).length : Int) - j).toNat ∧ fq 14 = .int .i64 j ∧ fq 4 = .fptr [.int .i64 by_.X, .int .i64 by_.Y, .int .i64 by_.Z] 0 ∧ fq 10 = .ptr i97 0 0 ∧ fq 12 = .fptr [.sl ((((diceR (mvP p by_ i) 2 3 (SkinT.mk ⟨#[]⟩ 0 0 unit (-1) 0) ([] : List TexT)).1).Verts)).length (((((diceR (mvP p by_ i) 2 3 (SkinT.mk ⟨#[]⟩ 0 0 unit (-1) 0) ([] : List TexT)).1).Verts)).flatMap eV), .sl (((diceR (mvP p by_ i) 2 3 (SkinT.mk ⟨#[]⟩ 0 0 unit (-1) 0) ([] : List TexT)).1).Keys).length ((((diceR (mvP p by_ i) 2 3 (SkinT.mk ⟨#[]⟩ 0 0 unit (-1) 0) ([] : List TexT)).1).Keys).flatMap eKey), .sl (((diceR (mvP p by_ i) 2 3 (SkinT.mk ⟨#[]⟩ 0 0 unit (-1) 0) ([] : List TexT)).1).Tris).length ((((diceR (mvP p by_ i) 2 3 (SkinT.mk ⟨#[]⟩ 0 0 unit (-1) 0) ([] : List TexT)).1).Tris).flatMap eI3)] 0 ∧ Own H0 Hq 3 w10_0 (mvL (((diceR p 2 3 (SkinT.mk ⟨#[]⟩ 0 0 unit (-1) 0) ([] : List TexT)).1).Verts) by_ j).length ((mvL (((diceR p 2 3 (SkinT.mk ⟨#[]⟩ 0 0 unit (-1) 0) ([] : List TexT)).1).Verts) by_ j).flatMap eV) ∧ NotId w10_0 i32 ∧ NotId w10_0 i97 ∧ Hq i32 = some (.row 0 (((mvP p by_ i).aP).flatMap eV ++ (((mvP p by_ i).aCorners).map eI ++ (((mvP p by_ i).aNormals).flatMap eV ++ [.int .i64 ((mvP p by_ i).Skin)])))) ∧ Hq i97 = some (.row 0 ([w10_0, .sl (((diceR p 2 3 (SkinT.mk ⟨#[]⟩ 0 0 unit (-1) 0) ([] : List TexT)).1).Keys).length ((((diceR p 2 3 (SkinT.mk ⟨#[]⟩ 0 0 unit (-1) 0) ([] : List TexT)).1).Keys).flatMap eKey), .sl (((diceR p 2 3 (SkinT.mk ⟨#[]⟩ 0 0 unit (-1) 0) ([] : List TexT)).1).Tris).length ((((diceR p 2 3 (SkinT.mk ⟨#[]⟩ 0 0 unit (-1) 0) ([] : List TexT)).1).Tris).flatMap eI3)])) ∧ Mono H0 Hq ∧ (0 ≤ j) ∧ (j ≤ (((diceR p 2 3 (SkinT.mk ⟨#[]⟩ 0 0 unit (-1) 0) ([] : List TexT)).1).Verts).length)) (k := (((((diceR p 2 3 (SkinT.mk ⟨#[]⟩ 0 0 unit (-1) 0) ([] : List TexT)).1).Verts).length : Int) - 0).toNat) ?_ ?_
    ·
     exact ⟨0, v89, rfl, rfl, s50, rfl, rfl, (have hx : (((((diceR p 2 3 (SkinT.mk ⟨#[]⟩ 0 0 unit (-1) 0) ([] : List TexT)).1).Verts)) : List VT) = mvL (((diceR p 2 3 (SkinT.mk ⟨#[]⟩ 0 0 unit (-1) 0) ([] : List TexT)).1).Verts) by_ 0 := (by exact (mvL_0 _ _).symm); Own.re o164 (congrArg List.length hx) (congrArg (fun l : List VT => l.flatMap eV) hx)), no93, no106, h162, h163, m160, by omega, by omega⟩
    ·
     rintro _ f167 H166 ⟨j, w10_0, rfl, s168, s169, s170, s171, o172, no173, no174, h175, h176, m177, hj0, hj1⟩
     refine AWP.seq ?_
     refine AWP.seq ?_
     have hml := mvL_len ((((diceR p 2 3 (SkinT.mk ⟨#[]⟩ 0 0 unit (-1) 0) ([] : List TexT)).1).Verts)) by_ j
     refine AWP.region (l := [0, 1, 2, 3, 4]) rfl ?_
     refine AOps.cons rfl rfl (AOp.move (.int .i64 j) rfl s168 ?_)
     refine AOps.cons rfl rfl (AOp.fieldAddr rfl s170 fl_38_0 ?_ (hid := ⟨_, h176⟩))
     refine AOps.cons rfl rfl (AOp.load (w10_0) rfl rfl ty_34 h176 rfl ?_)
     refine AOps.cons rfl rfl (AOp.len_own (m := ((mvL (((diceR p 2 3 (SkinT.mk ⟨#[]⟩ 0 0 unit (-1) 0) ([] : List TexT)).1).Verts) by_ j).length)) rfl rfl o172 u_34 ?_)
     refine AOps.cons rfl rfl (AOp.bin (.bool (decide (j < (((mvL (((diceR p 2 3 (SkinT.mk ⟨#[]⟩ 0 0 unit (-1) 0) ([] : List TexT)).1).Verts) by_ j).length) : Int)))) rfl rfl rfl rfl ?_)
     refine AOps.nil ?_
     change AWP _ _ _ _ _ _
     by_cases b178 : j < (((mvL (((diceR p 2 3 (SkinT.mk ⟨#[]⟩ 0 0 unit (-1) 0) ([] : List TexT)).1).Verts) by_ j).length) : Int)
     ·
      refine AWP.condT rfl (decide_eq_true b178) ?_
      refine AWP.skip ?_
      change AWP _ _ _ _ _ _
      refine AWP.seq ?_
      refine AWP.block ?_
      have iv179 : inV 60000 (at_ (mvL ((((diceR p 2 3 (SkinT.mk ⟨#[]⟩ 0 0 unit (-1) 0) ([] : List TexT)).1).Verts)) by_ j) j) := by rw [mvL_at hj0 (by omega)]; exact hmv.2.2.2.2 j hj0 (by omega)
      skip
      refine AWP.region_quiet mixed (by kernel_rfl) 11 [11] rfl (by kernel_rfl) (Mono H166) (Mono.refl _) ?_
      refine QE.op rfl rfl (.inl ⟨rfl, fun f' H' hf hM => AOp.fieldAddr rfl ((hf 10 rfl).trans s170) fl_38_0 ⟨rfl, hM⟩ (hid := ⟨_, (hM _ _ h176)⟩)⟩) ?_
      refine QE.op rfl rfl (.inl ⟨rfl, fun f' H' hf hM => AOp.load (w10_0) rfl ((hf 64 rfl).trans rfl) ty_34 (hM _ _ h176) rfl ⟨rfl, hM⟩⟩) ?_
      refine QE.op rfl rfl (.inl ⟨rfl, fun f' H' hf hM => AOp.move (.int .i64 j) rfl ((hf 14 rfl).trans s168) ⟨rfl, hM⟩⟩) ?_
      refine QE.op rfl rfl (.inl ⟨rfl, fun f' H' hf hM => AOp.fieldAddr rfl ((hf 10 rfl).trans s170) fl_38_0 ⟨rfl, hM⟩ (hid := ⟨_, (hM _ _ h176)⟩)⟩) ?_
      refine QE.op rfl rfl (.inl ⟨rfl, fun f' H' hf hM => AOp.load (w10_0) rfl ((hf 67 rfl).trans rfl) ty_34 (hM _ _ h176) rfl ⟨rfl, hM⟩⟩) ?_
      refine QE.op rfl rfl (.inl ⟨rfl, fun f' H' hf hM => AOp.move (.int .i64 j) rfl ((hf 14 rfl).trans s168) ⟨rfl, hM⟩⟩) ?_
      obtain ⟨i180, ver181, e182, h183, _, _⟩ := Own.pos o172 (by omega)
      refine QE.op rfl rfl (.inl ⟨rfl, fun f' H' hf hM => AOp.indexAddrO rfl (Eq.trans ((hf 68 rfl).trans rfl) e182) ((hf 69 rfl).trans rfl) sl_34 (by omega) (by omega) (hM _ _ h183) ⟨rfl, hM⟩⟩) ?_
      refine QE.op rfl rfl (.inl ⟨rfl, fun f' H' hf hM => AOp.load (.agg [.int .i64 ((at_ (mvL (((diceR p 2 3 (SkinT.mk ⟨#[]⟩ 0 0 unit (-1) 0) ([] : List TexT)).1).Verts) by_ j) j).X), .int .i64 ((at_ (mvL (((diceR p 2 3 (SkinT.mk ⟨#[]⟩ 0 0 unit (-1) 0) ([] : List TexT)).1).Verts) by_ j) j).Y), .int .i64 ((at_ (mvL (((diceR p 2 3 (SkinT.mk ⟨#[]⟩ 0 0 unit (-1) 0) ([] : List TexT)).1).Verts) by_ j) j).Z)]) rfl ((hf 70 rfl).trans rfl) ty_23 (hM _ _ h183) (ldM eV_len (by omega) (by omega)) ⟨rfl, hM⟩⟩) ?_
      refine QE.op rfl rfl (.inl ⟨rfl, fun f' H' hf hM => AOp.loadF (.agg [.int .i64 by_.X, .int .i64 by_.Y, .int .i64 by_.Z]) rfl ((hf 4 rfl).trans s169) ty_23 rfl ⟨rfl, hM⟩⟩) ?_
      refine QE.op rfl rfl (.inl ⟨rfl, fun f' H' hf hM => AOp.pcall («as» := [.agg [.int .i64 ((at_ (mvL (((diceR p 2 3 (SkinT.mk ⟨#[]⟩ 0 0 unit (-1) 0) ([] : List TexT)).1).Verts) by_ j) j).X), .int .i64 ((at_ (mvL (((diceR p 2 3 (SkinT.mk ⟨#[]⟩ 0 0 unit (-1) 0) ([] : List TexT)).1).Verts) by_ j) j).Y), .int .i64 ((at_ (mvL (((diceR p 2 3 (SkinT.mk ⟨#[]⟩ 0 0 unit (-1) 0) ([] : List TexT)).1).Verts) by_ j) j).Z)], .agg [.int .i64 by_.X, .int .i64 by_.Y, .int .i64 by_.Z]]) rfl rfl (lapp (lcons ((hf 71 rfl).trans rfl) (lcons ((hf 72 rfl).trans rfl) rfl)) rfl) tf_20 (c_ref02_Add (at_ (mvL (((diceR p 2 3 (SkinT.mk ⟨#[]⟩ 0 0 unit (-1) 0) ([] : List TexT)).1).Verts) by_ j) j) by_ (inV_le iv179 (by decide)) (inV_le iv31 (by decide))) fun H2 m2 => ⟨rfl, hM.trans m2⟩⟩) ?_
      obtain ⟨i184, ver185, e186, h187, _, _⟩ := Own.pos o172 (by omega)
      refine QE.op rfl rfl (.inl ⟨rfl, fun f' H' hf hM => AOp.indexAddrO rfl (Eq.trans ((hf 65 rfl).trans rfl) e186) ((hf 66 rfl).trans rfl) sl_34 (by omega) (by omega) (hM _ _ h187) ⟨rfl, hM⟩⟩) ?_
      refine QE.done fun H188 m189 => ?_
      have h190 := m189 _ _ h175
      have h191 := m189 _ _ h176
      have o192 := Own.mono o172 m189
      have m193 := m177.trans m189
      refine AOps.cons rfl rfl (AOp.store' (cells' := ((mvL (((diceR p 2 3 (SkinT.mk ⟨#[]⟩ 0 0 unit (-1) 0) ([] : List TexT)).1).Verts) by_ j).set j.toNat (R_ref02_Add (at_ (mvL (((diceR p 2 3 (SkinT.mk ⟨#[]⟩ 0 0 unit (-1) 0) ([] : List TexT)).1).Verts) by_ j) j) by_)).flatMap eV) (.agg [.int .i64 ((R_ref02_Add (at_ (mvL (((diceR p 2 3 (SkinT.mk ⟨#[]⟩ 0 0 unit (-1) 0) ([] : List TexT)).1).Verts) by_ j) j) by_).X), .int .i64 ((R_ref02_Add (at_ (mvL (((diceR p 2 3 (SkinT.mk ⟨#[]⟩ 0 0 unit (-1) 0) ([] : List TexT)).1).Verts) by_ j) j) by_).Y), .int .i64 ((R_ref02_Add (at_ (mvL (((diceR p 2 3 (SkinT.mk ⟨#[]⟩ 0 0 unit (-1) 0) ([] : List TexT)).1).Verts) by_ j) j) by_).Z)]) rfl rfl ts_23 (Own.at_ e186 o192).1 rfl rfl (blelen (flatMap_length eV_len _) (by omega)) (wr_setM eV_len (by omega) (by omega)) ?_)
      intro H194 h195 k196
      have h197 := (k196 _ (NotId.ne no173 e186)).trans h190
      have h198 := (k196 _ (NotId.ne no174 e186)).trans h191
      have o199 := Own.store e186 o192 h195 (len' := (((mvL (((diceR p 2 3 (SkinT.mk ⟨#[]⟩ 0 0 unit (-1) 0) ([] : List TexT)).1).Verts) by_ j).set j.toNat (R_ref02_Add (at_ (mvL (((diceR p 2 3 (SkinT.mk ⟨#[]⟩ 0 0 unit (-1) 0) ([] : List TexT)).1).Verts) by_ j) j) by_))).length) (by rw [List.length_set]) (by rw [flatMap_length eV_len, List.length_set])
      have m200 := Mono.set m193 (Own.at_ e186 o192).2.1 k196
      refine AOps.nil ?_
      change AWP _ _ _ _ _ _
      refine AWP.region (l := [0, 1, 2]) rfl ?_
      refine AOps.cons rfl rfl (AOp.move (.int .i64 j) rfl s168 ?_)
      refine AOps.cons rfl rfl (AOp.bin (.int .i64 (j + 1)) rfl rfl rfl (iadd (by omega)) ?_)
      refine AOps.cons rfl rfl (AOp.assign (.int .i64 (j + 1)) rfl rfl ?_)
      refine AOps.nil ?_
      exact ⟨_, by omega, j + 1, w10_0, rfl, rfl, s169, s170, s171, (have hx : ((((mvL (((diceR p 2 3 (SkinT.mk ⟨#[]⟩ 0 0 unit (-1) 0) ([] : List TexT)).1).Verts) by_ j).set j.toNat (R_ref02_Add (at_ (mvL (((diceR p 2 3 (SkinT.mk ⟨#[]⟩ 0 0 unit (-1) 0) ([] : List TexT)).1).Verts) by_ j) j) by_))) : List VT) = mvL (((diceR p 2 3 (SkinT.mk ⟨#[]⟩ 0 0 unit (-1) 0) ([] : List TexT)).1).Verts) by_ (j + 1) := (by rw [mvL_at hj0 (by omega)]; exact mvL_step hj0 (by omega)); Own.re o199 (congrArg List.length hx) (congrArg (fun l : List VT => l.flatMap eV) hx)), no173, no174, h197, h198, m200, by omega, by omega⟩
     ·
      refine AWP.condF rfl (decide_eq_false b178) ?_
      refine AWP.exit ?_
      change AWP _ _ _ _ _ _
      refine AWP.seq ?_
      refine AWP.frzCell 0 o172 h176 z103 rfl no174 m177 fun H201 h202 m203 k204 => ?_
      have h205 := (k204 _ e102 no173).trans h175
      have h206 : H201 i97 = some (.row 0 ([.sl (mvL (((diceR p 2 3 (SkinT.mk ⟨#[]⟩ 0 0 unit (-1) 0) ([] : List TexT)).1).Verts) by_ j).length ((mvL (((diceR p 2 3 (SkinT.mk ⟨#[]⟩ 0 0 unit (-1) 0) ([] : List TexT)).1).Verts) by_ j).flatMap eV), .sl (((diceR p 2 3 (SkinT.mk ⟨#[]⟩ 0 0 unit (-1) 0) ([] : List TexT)).1).Keys).length ((((diceR p 2 3 (SkinT.mk ⟨#[]⟩ 0 0 unit (-1) 0) ([] : List TexT)).1).Keys).flatMap eKey), .sl (((diceR p 2 3 (SkinT.mk ⟨#[]⟩ 0 0 unit (-1) 0) ([] : List TexT)).1).Tris).length ((((diceR p 2 3 (SkinT.mk ⟨#[]⟩ 0 0 unit (-1) 0) ([] : List TexT)).1).Tris).flatMap eI3)])) := h202
      skip
      have hEq : MeshT.mk (mvL ((((diceR p 2 3 (SkinT.mk ⟨#[]⟩ 0 0 unit (-1) 0) ([] : List TexT)).1).Verts)) by_ j) ((diceR p 2 3 (SkinT.mk ⟨#[]⟩ 0 0 unit (-1) 0) ([] : List TexT)).1).Keys ((diceR p 2 3 (SkinT.mk ⟨#[]⟩ 0 0 unit (-1) 0) ([] : List TexT)).1).Tris = ((diceR (mvP p by_ i) 2 3 (SkinT.mk ⟨#[]⟩ 0 0 unit (-1) 0) ([] : List TexT)).1) := by rw [mvL_all (by omega), hmv.2.1, hmv.2.2.1, hmv.2.2.2.1]
      have r2 : ranM ((diceR (mvP p by_ i) 2 3 (SkinT.mk ⟨#[]⟩ 0 0 unit (-1) 0) ([] : List TexT)).1) := ranM_dice (inR_small (by omega)) (inR_small (by omega)) hpc
      have r1 : ranM (MeshT.mk (mvL ((((diceR p 2 3 (SkinT.mk ⟨#[]⟩ 0 0 unit (-1) 0) ([] : List TexT)).1).Verts)) by_ j) ((diceR p 2 3 (SkinT.mk ⟨#[]⟩ 0 0 unit (-1) 0) ([] : List TexT)).1).Keys ((diceR p 2 3 (SkinT.mk ⟨#[]⟩ 0 0 unit (-1) 0) ([] : List TexT)).1).Tris) := by rw [hEq]; exact r2
      have q0 : (mvL ((((diceR p 2 3 (SkinT.mk ⟨#[]⟩ 0 0 unit (-1) 0) ([] : List TexT)).1).Verts)) by_ j).length ≤ 1048576 := by omega
      have q1 : (((diceR p 2 3 (SkinT.mk ⟨#[]⟩ 0 0 unit (-1) 0) ([] : List TexT)).1).Keys).length ≤ 1048576 := by omega
      have q2 : (((diceR p 2 3 (SkinT.mk ⟨#[]⟩ 0 0 unit (-1) 0) ([] : List TexT)).1).Tris).length ≤ 1048576 := by omega
      have q3 : (((diceR (mvP p by_ i) 2 3 (SkinT.mk ⟨#[]⟩ 0 0 unit (-1) 0) ([] : List TexT)).1).Verts).length ≤ 1048576 := by omega
      have q4 : (((diceR (mvP p by_ i) 2 3 (SkinT.mk ⟨#[]⟩ 0 0 unit (-1) 0) ([] : List TexT)).1).Keys).length ≤ 1048576 := by omega
      have q5 : (((diceR (mvP p by_ i) 2 3 (SkinT.mk ⟨#[]⟩ 0 0 unit (-1) 0) ([] : List TexT)).1).Tris).length ≤ 1048576 := by omega
      refine AWP.region (l := [0, 1, 2, 3]) rfl ?_
      refine AOps.cons rfl rfl (AOp.load (.agg [.sl (mvL (((diceR p 2 3 (SkinT.mk ⟨#[]⟩ 0 0 unit (-1) 0) ([] : List TexT)).1).Verts) by_ j).length ((mvL (((diceR p 2 3 (SkinT.mk ⟨#[]⟩ 0 0 unit (-1) 0) ([] : List TexT)).1).Verts) by_ j).flatMap eV), .sl (((diceR p 2 3 (SkinT.mk ⟨#[]⟩ 0 0 unit (-1) 0) ([] : List TexT)).1).Keys).length ((((diceR p 2 3 (SkinT.mk ⟨#[]⟩ 0 0 unit (-1) 0) ([] : List TexT)).1).Keys).flatMap eKey), .sl (((diceR p 2 3 (SkinT.mk ⟨#[]⟩ 0 0 unit (-1) 0) ([] : List TexT)).1).Tris).length ((((diceR p 2 3 (SkinT.mk ⟨#[]⟩ 0 0 unit (-1) 0) ([] : List TexT)).1).Tris).flatMap eI3)]) rfl s170 ty_38 h206 rfl ?_)
      refine AOps.cons rfl rfl (AOp.loadF (.agg [.sl ((((diceR (mvP p by_ i) 2 3 (SkinT.mk ⟨#[]⟩ 0 0 unit (-1) 0) ([] : List TexT)).1).Verts)).length (((((diceR (mvP p by_ i) 2 3 (SkinT.mk ⟨#[]⟩ 0 0 unit (-1) 0) ([] : List TexT)).1).Verts)).flatMap eV), .sl (((diceR (mvP p by_ i) 2 3 (SkinT.mk ⟨#[]⟩ 0 0 unit (-1) 0) ([] : List TexT)).1).Keys).length ((((diceR (mvP p by_ i) 2 3 (SkinT.mk ⟨#[]⟩ 0 0 unit (-1) 0) ([] : List TexT)).1).Keys).flatMap eKey), .sl (((diceR (mvP p by_ i) 2 3 (SkinT.mk ⟨#[]⟩ 0 0 unit (-1) 0) ([] : List TexT)).1).Tris).length ((((diceR (mvP p by_ i) 2 3 (SkinT.mk ⟨#[]⟩ 0 0 unit (-1) 0) ([] : List TexT)).1).Tris).flatMap eI3)]) rfl s171 ty_38 rfl ?_)
      refine AOps.cons rfl rfl (AOp.pcall («as» := [.agg [.sl (mvL (((diceR p 2 3 (SkinT.mk ⟨#[]⟩ 0 0 unit (-1) 0) ([] : List TexT)).1).Verts) by_ j).length ((mvL (((diceR p 2 3 (SkinT.mk ⟨#[]⟩ 0 0 unit (-1) 0) ([] : List TexT)).1).Verts) by_ j).flatMap eV), .sl (((diceR p 2 3 (SkinT.mk ⟨#[]⟩ 0 0 unit (-1) 0) ([] : List TexT)).1).Keys).length ((((diceR p 2 3 (SkinT.mk ⟨#[]⟩ 0 0 unit (-1) 0) ([] : List TexT)).1).Keys).flatMap eKey), .sl (((diceR p 2 3 (SkinT.mk ⟨#[]⟩ 0 0 unit (-1) 0) ([] : List TexT)).1).Tris).length ((((diceR p 2 3 (SkinT.mk ⟨#[]⟩ 0 0 unit (-1) 0) ([] : List TexT)).1).Tris).flatMap eI3)], .agg [.sl ((((diceR (mvP p by_ i) 2 3 (SkinT.mk ⟨#[]⟩ 0 0 unit (-1) 0) ([] : List TexT)).1).Verts)).length (((((diceR (mvP p by_ i) 2 3 (SkinT.mk ⟨#[]⟩ 0 0 unit (-1) 0) ([] : List TexT)).1).Verts)).flatMap eV), .sl (((diceR (mvP p by_ i) 2 3 (SkinT.mk ⟨#[]⟩ 0 0 unit (-1) 0) ([] : List TexT)).1).Keys).length ((((diceR (mvP p by_ i) 2 3 (SkinT.mk ⟨#[]⟩ 0 0 unit (-1) 0) ([] : List TexT)).1).Keys).flatMap eKey), .sl (((diceR (mvP p by_ i) 2 3 (SkinT.mk ⟨#[]⟩ 0 0 unit (-1) 0) ([] : List TexT)).1).Tris).length ((((diceR (mvP p by_ i) 2 3 (SkinT.mk ⟨#[]⟩ 0 0 unit (-1) 0) ([] : List TexT)).1).Tris).flatMap eI3)]]) rfl rfl (rfl) tf_17 (c_SameMesh (MeshT.mk (mvL (((diceR p 2 3 (SkinT.mk ⟨#[]⟩ 0 0 unit (-1) 0) ([] : List TexT)).1).Verts) by_ j) (((diceR p 2 3 (SkinT.mk ⟨#[]⟩ 0 0 unit (-1) 0) ([] : List TexT)).1).Keys) (((diceR p 2 3 (SkinT.mk ⟨#[]⟩ 0 0 unit (-1) 0) ([] : List TexT)).1).Tris)) ((diceR (mvP p by_ i) 2 3 (SkinT.mk ⟨#[]⟩ 0 0 unit (-1) 0) ([] : List TexT)).1) (by assumption) (by assumption) (by assumption) (by assumption) (by assumption) (by assumption) (by assumption) (by assumption)) ?_)
      intro H207 m208
      have h209 := m208 _ _ h205
      have h210 := m208 _ _ h206
      have m211 := m203.trans m208
      refine AOps.cons rfl rfl (AOp.assign (.bool (decide ((MeshT.mk (mvL (((diceR p 2 3 (SkinT.mk ⟨#[]⟩ 0 0 unit (-1) 0) ([] : List TexT)).1).Verts) by_ j) (((diceR p 2 3 (SkinT.mk ⟨#[]⟩ 0 0 unit (-1) 0) ([] : List TexT)).1).Keys) (((diceR p 2 3 (SkinT.mk ⟨#[]⟩ 0 0 unit (-1) 0) ([] : List TexT)).1).Tris)).Verts = ((diceR (mvP p by_ i) 2 3 (SkinT.mk ⟨#[]⟩ 0 0 unit (-1) 0) ([] : List TexT)).1).Verts ∧ (MeshT.mk (mvL (((diceR p 2 3 (SkinT.mk ⟨#[]⟩ 0 0 unit (-1) 0) ([] : List TexT)).1).Verts) by_ j) (((diceR p 2 3 (SkinT.mk ⟨#[]⟩ 0 0 unit (-1) 0) ([] : List TexT)).1).Keys) (((diceR p 2 3 (SkinT.mk ⟨#[]⟩ 0 0 unit (-1) 0) ([] : List TexT)).1).Tris)).Keys = ((diceR (mvP p by_ i) 2 3 (SkinT.mk ⟨#[]⟩ 0 0 unit (-1) 0) ([] : List TexT)).1).Keys ∧ (MeshT.mk (mvL (((diceR p 2 3 (SkinT.mk ⟨#[]⟩ 0 0 unit (-1) 0) ([] : List TexT)).1).Verts) by_ j) (((diceR p 2 3 (SkinT.mk ⟨#[]⟩ 0 0 unit (-1) 0) ([] : List TexT)).1).Keys) (((diceR p 2 3 (SkinT.mk ⟨#[]⟩ 0 0 unit (-1) 0) ([] : List TexT)).1).Tris)).Tris = ((diceR (mvP p by_ i) 2 3 (SkinT.mk ⟨#[]⟩ 0 0 unit (-1) 0) ([] : List TexT)).1).Tris))) rfl rfl ?_)
      refine AOps.nil ?_
      change AWP _ _ _ _ _ _
      refine AWP.ret ?_
      refine ⟨_, _, Ghost.refl, .inr rfl, _, Res.one rfl rfl, ?_, m211⟩
      exact (congrArg AV.bool (show (decide ((MeshT.mk (mvL (((diceR p 2 3 (SkinT.mk ⟨#[]⟩ 0 0 unit (-1) 0) ([] : List TexT)).1).Verts) by_ j) (((diceR p 2 3 (SkinT.mk ⟨#[]⟩ 0 0 unit (-1) 0) ([] : List TexT)).1).Keys) (((diceR p 2 3 (SkinT.mk ⟨#[]⟩ 0 0 unit (-1) 0) ([] : List TexT)).1).Tris)).Verts = ((diceR (mvP p by_ i) 2 3 (SkinT.mk ⟨#[]⟩ 0 0 unit (-1) 0) ([] : List TexT)).1).Verts ∧ (MeshT.mk (mvL (((diceR p 2 3 (SkinT.mk ⟨#[]⟩ 0 0 unit (-1) 0) ([] : List TexT)).1).Verts) by_ j) (((diceR p 2 3 (SkinT.mk ⟨#[]⟩ 0 0 unit (-1) 0) ([] : List TexT)).1).Keys) (((diceR p 2 3 (SkinT.mk ⟨#[]⟩ 0 0 unit (-1) 0) ([] : List TexT)).1).Tris)).Keys = ((diceR (mvP p by_ i) 2 3 (SkinT.mk ⟨#[]⟩ 0 0 unit (-1) 0) ([] : List TexT)).1).Keys ∧ (MeshT.mk (mvL (((diceR p 2 3 (SkinT.mk ⟨#[]⟩ 0 0 unit (-1) 0) ([] : List TexT)).1).Verts) by_ j) (((diceR p 2 3 (SkinT.mk ⟨#[]⟩ 0 0 unit (-1) 0) ([] : List TexT)).1).Keys) (((diceR p 2 3 (SkinT.mk ⟨#[]⟩ 0 0 unit (-1) 0) ([] : List TexT)).1).Tris)).Tris = ((diceR (mvP p by_ i) 2 3 (SkinT.mk ⟨#[]⟩ 0 0 unit (-1) 0) ([] : List TexT)).1).Tris) : Bool) = true from by first | rfl | (exact decide_eq_true ⟨congrArg MeshT.Verts hEq, congrArg MeshT.Keys hEq, congrArg MeshT.Tris hEq⟩) | omega))
 ·
  refine AWP.condT rfl (nb b30) ?_
  refine AWP.seq ?_
  refine AWP.region (l := [0]) rfl ?_
  refine AOps.cons rfl rfl (AOp.assign (.bool true) rfl rfl ?_)
  refine AOps.nil ?_
  change AWP _ _ _ _ _ _
  refine AWP.ret ?_
  refine ⟨_, _, Ghost.refl, .inr rfl, _, Res.one rfl rfl, ?_, m29⟩
  exact rfl
end Go.Proofs.M
