/- A part of the proof that a law answers true for every input of its row: own work, by an AI agent. -/
import Derived.Test.YtfgfalidpbbkhaaDoorB04
import Derived.Test.YtfgfalidpbbkhaaDoorB01
import Derived.Test.YtfgfalidpbbkhaaDoorB05
import Derived.Test.YtfgfalidpbbkhaaDoorCards
import Derived.Test.YtfgfalidpbbkhaaDoorTie
import Derived.WalkKit
import Derived.ProofKit
import Derived.OpenShut
import Derived.Deep.DeepHandedRow
import Derived.Lib.LaidTab
import Derived.WideKeyArgs
import Derived.KernelRfl
set_option linter.unusedSimpArgs false
set_option linter.unusedVariables false
namespace Go.Proofs.M
open Go Go.AH
set_option maxRecDepth 4000
set_option linter.unusedSimpArgs false
set_option linter.unusedVariables false
set_option maxHeartbeats 4000000
theorem c_mesh_Dice (p : PatchT) (cage id : Int) (s : SkinT) (texs : List TexT) (htl : texs.length ≤ 1048576) (htx : ∀ t ∈ texs, t.Rows.length ≤ 1048576) : PC Tryd.prog 11 [.agg (p.aP.flatMap eV ++ (p.aCorners.map eI ++ (p.aNormals.flatMap eV ++ [.int .i64 p.Skin]))), .int .i64 cage, .int .i64 id, .agg [.str s.Name, .int .i64 s.Mat, .int .i64 s.Levels, .int .i64 s.Unit, .int .i64 s.Tex, .int .i64 s.Height], .sl texs.length (texs.flatMap eTex)] (.tup [.agg [.sl (((diceR p cage id s texs).1).Verts).length ((((diceR p cage id s texs).1).Verts).flatMap eV), .sl (((diceR p cage id s texs).1).Keys).length ((((diceR p cage id s texs).1).Keys).flatMap eKey), .sl (((diceR p cage id s texs).1).Tris).length ((((diceR p cage id s texs).1).Tris).flatMap eI3)], .int .i64 ((diceR p cage id s texs).2)]) := by
 intro H0
 refine ACalls.of_body' (n := 125) rfl rfl rfl rfl ?_
 have m0 := Mono.refl H0
 refine AWP.seq ?_
 refine AWP.region (l := [0, 1, 2, 3]) rfl ?_
 refine AOps.cons rfl rfl (AOp.box (.agg (p.aP.flatMap eV ++ (p.aCorners.map eI ++ (p.aNormals.flatMap eV ++ [.int .i64 p.Skin])))) rfl rfl rfl ?_)
 intro i1 H2 n3 h4 k5
 have z6 := Mono.free m0 n3
 have m7 := Mono.new m0 n3 k5
 refine AOps.cons rfl rfl (AOp.box (.agg [.str s.Name, .int .i64 s.Mat, .int .i64 s.Levels, .int .i64 s.Unit, .int .i64 s.Tex, .int .i64 s.Height]) rfl rfl rfl ?_)
 intro i8 H9 n10 h11 k12
 have e13 := ne_new h4 n10
 have z14 := Mono.free m7 n10
 have h15 := keep k12 (ne_new h4 n10) h4
 have m16 := Mono.new m7 n10 k12
 refine AOps.cons rfl rfl (AOp.alloc rfl tz_38 ?_)
 intro i17 H18 n19 h20 k21
 have e22 := ne_new h15 n19
 have e23 := ne_new h11 n19
 have z24 := Mono.free m16 n19
 have h25 := keep k21 (ne_new h15 n19) h15
 have h26 := keep k21 (ne_new h11 n19) h11
 have m27 := Mono.new m16 n19 k21
 refine AOps.cons rfl rfl (AOp.assign (.int .i64 0) rfl rfl ?_)
 refine AOps.nil ?_
 change AWP _ _ _ _ _ _
 refine AWP.seq ?_
 refine AWP.frzP 5 h25 z6 rfl m27 fun H28 m29 k30 => ?_
 have h31 := (k30 _ (Ne.symm e13)).trans h26
 have h32 := (k30 _ (Ne.symm e22)).trans h20
 refine AWP.frzP 8 h31 z14 rfl m29 fun H33 m34 k35 => ?_
 have h36 := (k35 _ (Ne.symm e23)).trans h32
 refine AWP.region (l := [0, 1, 2, 3]) rfl ?_
 refine AOps.cons rfl rfl (AOp.loadF (.agg (p.aP.flatMap eV ++ (p.aCorners.map eI ++ (p.aNormals.flatMap eV ++ [.int .i64 p.Skin])))) rfl rfl ty_28 (ld_all (len_app (m := 48) (n := 17) (k := 65) (lenM eV_len p.lP rfl) (len_app (m := 4) (n := 13) (k := 17) (len1 p.lCorners) (len_app (m := 12) (n := 1) (k := 13) (lenM eV_len p.lNormals rfl) rfl rfl) rfl) rfl)) ?_)
 refine AOps.cons rfl rfl (AOp.loadF (.agg [.str s.Name, .int .i64 s.Mat, .int .i64 s.Levels, .int .i64 s.Unit, .int .i64 s.Tex, .int .i64 s.Height]) rfl rfl ty_30 rfl ?_)
 refine AOps.cons rfl rfl (AOp.pcall («as» := [.agg (p.aP.flatMap eV ++ (p.aCorners.map eI ++ (p.aNormals.flatMap eV ++ [.int .i64 p.Skin]))), .agg [.str s.Name, .int .i64 s.Mat, .int .i64 s.Levels, .int .i64 s.Unit, .int .i64 s.Tex, .int .i64 s.Height]]) rfl rfl (rfl) tf_23 (c_mesh_fine p s) ?_)
 intro H37 m38
 have h39 := m38 _ _ h36
 have m40 := m34.trans m38
 refine AOps.cons rfl rfl (AOp.assign (.int .i64 (R_mesh_fine p s)) rfl rfl ?_)
 refine AOps.nil ?_
 change AWP _ _ _ _ _ _
 refine AWP.seq ?_
 refine AWP.seq ?_
 refine AWP.region (l := [0, 1, 2, 3, 4, 5, 6, 7, 8, 9, 10, 11, 12, 13]) rfl ?_
 refine AOps.cons rfl rfl (AOp.move (.int .i64 (R_mesh_fine p s)) rfl rfl ?_)
 refine AOps.cons rfl rfl (AOp.bin (.bool (!decide (R_mesh_fine p s = 11))) rfl rfl rfl ine ?_)
 refine AOps.cons rfl rfl (AOp.move (.bool (!decide (R_mesh_fine p s = 11))) rfl rfl ?_)
 by_cases b41 : R_mesh_fine p s = 11
 ·
  refine AOps.no rfl rfl rfl rfl rfl rfl rfl (ble_of (nb (decide_eq_true b41)) (by decide)) ?_
  refine AOps.no rfl rfl rfl rfl rfl rfl rfl (ble_of (nb (decide_eq_true b41)) (by decide)) ?_
  refine AOps.no rfl rfl rfl rfl rfl rfl rfl (ble_of (nb (decide_eq_true b41)) (by decide)) ?_
  refine AOps.no rfl rfl rfl rfl rfl rfl rfl (ble_of (nb (decide_eq_true b41)) (by decide)) ?_
  refine AOps.un rfl rfl rfl rfl rfl rfl rfl ?_
  refine AOps.un rfl rfl rfl rfl rfl rfl rfl ?_
  refine AOps.un rfl rfl rfl rfl rfl rfl rfl ?_
  refine AOps.un rfl rfl rfl rfl rfl rfl rfl ?_
  refine AOps.un rfl rfl rfl rfl rfl rfl rfl ?_
  refine AOps.no rfl rfl rfl rfl rfl rfl rfl (ble_of (nb (decide_eq_true b41)) (by decide)) ?_
  refine AOps.cons rfl rfl (AOp.pickF (.bool false) rfl rfl (nb (decide_eq_true b41)) rfl ?_)
  refine AOps.nil ?_
  change AWP _ _ _ _ _ _
  refine AWP.condF rfl rfl ?_
  refine AWP.skip ?_
  change AWP _ _ _ _ _ _
  refine AWP.seq ?_
  refine AWP.seq ?_
  refine AWP.region (l := [0, 1]) rfl ?_
  refine AOps.cons rfl rfl (AOp.move (.int .i64 (R_mesh_fine p s)) rfl rfl ?_)
  refine AOps.cons rfl rfl (AOp.bin (.bool (!decide (R_mesh_fine p s = 0))) rfl rfl rfl ine ?_)
  refine AOps.nil ?_
  change AWP _ _ _ _ _ _
  by_cases b42 : R_mesh_fine p s = 0
  ·
   refine AWP.condF rfl (nb (decide_eq_true b42)) ?_
   refine AWP.skip ?_
   change AWP _ _ _ _ _ _
   refine AWP.seq ?_
   have h0 : errD p s texs = 0 := by unfold errD; split <;> omega
   refine AWP.region (l := [0, 1, 2, 3, 4, 5, 6]) rfl ?_
   refine AOps.cons rfl rfl (AOp.fieldAddrF rfl rfl fl_28_0 ?_)
   refine AOps.cons rfl rfl (AOp.loadF (.agg (p.aP.flatMap eV)) rfl rfl ty_24 (ld_fst (fun h => by first | rfl | cases h) (ld_all (lenM eV_len p.lP rfl))) ?_)
   refine AOps.cons rfl rfl (AOp.fieldAddrF rfl rfl fl_30_3 ?_)
   refine AOps.cons rfl rfl (AOp.loadF (.int .i64 s.Unit) rfl rfl ty_3 rfl ?_)
   refine AOps.cons rfl rfl (AOp.pcall («as» := [.agg (p.aP.flatMap eV), .int .i64 s.Unit]) rfl rfl (rfl) tf_24 (c_rate_Sides p.aP p.lP s.Unit) ?_)
   intro H43 m44
   have h45 := m44 _ _ h39
   have m46 := m40.trans m44
   refine AOps.cons rfl rfl (AOp.alloc rfl tz_25 ?_)
   intro i47 H48 n49 h50 k51
   have e52 := ne_new h45 n49
   have z53 := Mono.free m46 n49
   have h54 := keep k51 (ne_new h45 n49) h45
   have m55 := Mono.new m46 n49 k51
   refine AOps.cons rfl rfl (AOp.store' (cells' := (R_rate_Sides p.aP s.Unit).map eI) (.agg ((R_rate_Sides p.aP s.Unit).map eI)) rfl rfl ts_25 h50 (by simp only [AV.cells, List.all_append, List.all_cons, List.all_nil, Bool.and_true, Bool.and_eq_true]; exact (all_one1 eI_one _)) (show (AV.cells (.agg ((R_rate_Sides p.aP s.Unit).map eI))).length = 4 from (len1 (R_rate_Sides_len p.aP s.Unit))) rfl (wr_all rfl (len1 (R_rate_Sides_len p.aP s.Unit))) ?_)
   intro H56 h57 k58
   have h59 := keep k58 e52 h54
   have m61 := Mono.set m55 z53 k58
   refine AOps.nil ?_
   change AWP _ _ _ _ _ _
   refine AWP.seq ?_
   refine AWP.frzP 13 h57 z53 rfl m61 fun H62 m63 k64 => ?_
   have h65 := (k64 _ e52).trans h59
   refine AWP.region (l := [0, 1, 2, 3, 4, 5, 6, 7, 8]) rfl ?_
   refine AOps.cons rfl rfl (AOp.loadF (.agg ((R_rate_Sides p.aP s.Unit).map eI)) rfl rfl ty_25 (ld_all (len1 (R_rate_Sides_len p.aP s.Unit))) ?_)
   refine AOps.cons rfl rfl (AOp.pcall («as» := [.agg ((R_rate_Sides p.aP s.Unit).map eI)]) rfl rfl (rfl) tf_25 (c_Weave (R_rate_Sides p.aP s.Unit) (R_rate_Sides_len p.aP s.Unit)) ?_)
   intro H66 m67
   have h68 := m67 _ _ h65
   have m69 := m63.trans m67
   refine AOps.cons rfl rfl (AOp.move (.tup [.sl ((weaveR (R_rate_Sides p.aP s.Unit)).1).length (((weaveR (R_rate_Sides p.aP s.Unit)).1).flatMap eSpot), .sl ((weaveR (R_rate_Sides p.aP s.Unit)).2.1).length (((weaveR (R_rate_Sides p.aP s.Unit)).2.1).flatMap eI3), .bool ((weaveR (R_rate_Sides p.aP s.Unit)).2.2)]) rfl rfl ?_)
   refine AOps.cons rfl rfl (AOp.extract (.sl ((weaveR (R_rate_Sides p.aP s.Unit)).1).length (((weaveR (R_rate_Sides p.aP s.Unit)).1).flatMap eSpot)) rfl rfl rfl ?_)
   refine AOps.cons rfl rfl (AOp.extract (.sl ((weaveR (R_rate_Sides p.aP s.Unit)).2.1).length (((weaveR (R_rate_Sides p.aP s.Unit)).2.1).flatMap eI3)) rfl rfl rfl ?_)
   refine AOps.cons rfl rfl (AOp.extract (.bool ((weaveR (R_rate_Sides p.aP s.Unit)).2.2)) rfl rfl rfl ?_)
   refine AOps.cons rfl rfl (AOp.assign (.sl ((weaveR (R_rate_Sides p.aP s.Unit)).1).length (((weaveR (R_rate_Sides p.aP s.Unit)).1).flatMap eSpot)) rfl rfl ?_)
   refine AOps.cons rfl rfl (AOp.assign (.sl ((weaveR (R_rate_Sides p.aP s.Unit)).2.1).length (((weaveR (R_rate_Sides p.aP s.Unit)).2.1).flatMap eI3)) rfl rfl ?_)
   refine AOps.cons rfl rfl (AOp.assign (.bool ((weaveR (R_rate_Sides p.aP s.Unit)).2.2)) rfl rfl ?_)
   refine AOps.nil ?_
   change AWP _ _ _ _ _ _
   refine AWP.seq ?_
   have hrl := R_rate_Sides_len p.aP s.Unit
   refine AWP.region_quiet mixed (by kernel_rfl) 7 [7, 8] rfl (by kernel_rfl) (Mono H66) (Mono.refl _) ?_
   refine QE.op rfl rfl (.inl ⟨rfl, fun f' H' hf hM => AOp.loadF (.agg (p.aP.flatMap eV ++ (p.aCorners.map eI ++ (p.aNormals.flatMap eV ++ [.int .i64 p.Skin])))) rfl ((hf 5 rfl).trans rfl) ty_28 (ld_all (len_app (m := 48) (n := 17) (k := 65) (lenM eV_len p.lP rfl) (len_app (m := 4) (n := 13) (k := 17) (len1 p.lCorners) (len_app (m := 12) (n := 1) (k := 13) (lenM eV_len p.lNormals rfl) rfl rfl) rfl) rfl)) ⟨rfl, hM⟩⟩) ?_
   refine QE.op rfl rfl (.inl ⟨rfl, fun f' H' hf hM => AOp.move (.int .i64 cage) rfl ((hf 1 rfl).trans rfl) ⟨rfl, hM⟩⟩) ?_
   refine QE.op rfl rfl (.inl ⟨rfl, fun f' H' hf hM => AOp.move (.int .i64 id) rfl ((hf 2 rfl).trans rfl) ⟨rfl, hM⟩⟩) ?_
   refine QE.op rfl rfl (.inl ⟨rfl, fun f' H' hf hM => AOp.loadF (.agg ((R_rate_Sides p.aP s.Unit).map eI)) rfl ((hf 13 rfl).trans rfl) ty_25 (ld_all (len1 (R_rate_Sides_len p.aP s.Unit))) ⟨rfl, hM⟩⟩) ?_
   refine QE.op rfl rfl (.inl ⟨rfl, fun f' H' hf hM => AOp.sliceAF rfl ((hf 13 rfl).trans rfl) ar_25 (R_rate_Sides_len p.aP s.Unit) SubAt.all ⟨rfl, hM⟩⟩) ?_
   refine QE.op rfl rfl (.inl ⟨rfl, fun f' H' hf hM => AOp.pcall («as» := [.sl (R_rate_Sides p.aP s.Unit).length ((R_rate_Sides p.aP s.Unit).map eI)]) rfl rfl (lapp (lcons ((hf 60 rfl).trans rfl) rfl) rfl) tf_26 (c_Max (R_rate_Sides p.aP s.Unit) (by first | (have := (R_rate_Sides_len p.aP s.Unit); omega) | simp) (by first | omega | assumption | (constructor <;> omega) | simp)) fun H2 m2 => ⟨rfl, hM.trans m2⟩⟩) ?_
   refine QE.op rfl rfl (.inl ⟨rfl, fun f' H' hf hM => AOp.build (ps := [(0, .agg (p.aP.flatMap eV ++ (p.aCorners.map eI ++ (p.aNormals.flatMap eV ++ [.int .i64 p.Skin])))), (1, .int .i64 cage), (2, .int .i64 id), (3, .agg ((R_rate_Sides p.aP s.Unit).map eI)), (4, .int .i64 (maxL (R_rate_Sides p.aP s.Unit)))]) (cells := p.aP.flatMap eV ++ (p.aCorners.map eI ++ (p.aNormals.flatMap eV ++ ([.int .i64 p.Skin, .int .i64 cage, .int .i64 id] ++ ((R_rate_Sides p.aP s.Unit).map eI ++ [.int .i64 (maxL (R_rate_Sides p.aP s.Unit))]))))) rfl tz_74 pl_74 (lconsP ((hf 56 rfl).trans rfl) (lconsP ((hf 57 rfl).trans rfl) (lconsP ((hf 58 rfl).trans rfl) (lconsP ((hf 59 rfl).trans rfl) (lconsP ((hf 61 rfl).trans rfl) rfl))))) (fill_step (c' := ((p.aP.flatMap eV : List AV) ++ ((p.aCorners.map eI : List AV) ++ ((p.aNormals.flatMap eV : List AV) ++ ([.int .i64 p.Skin, .int .i64 0, .int .i64 0, .int .i64 0, .int .i64 0, .int .i64 0, .int .i64 0, .int .i64 0] : List AV))))) rfl rfl (show (AV.cells (.agg (p.aP.flatMap eV ++ (p.aCorners.map eI ++ (p.aNormals.flatMap eV ++ [.int .i64 p.Skin]))))).length = 65 from (len_app (m := 48) (n := 17) (k := 65) (lenM eV_len p.lP rfl) (len_app (m := 4) (n := 13) (k := 17) (len1 p.lCorners) (len_app (m := 12) (n := 1) (k := 13) (lenM eV_len p.lNormals rfl) rfl rfl) rfl) rfl)) rfl (wr_pre (len_app (m := 48) (n := 17) (k := 65) (lenM eV_len p.lP rfl) (len_app (m := 4) (n := 13) (k := 17) (len1 p.lCorners) (len_app (m := 12) (n := 1) (k := 13) (lenM eV_len p.lNormals rfl) rfl rfl) rfl) rfl)) (fill_step (c' := ((p.aP.flatMap eV : List AV) ++ ((p.aCorners.map eI : List AV) ++ ((p.aNormals.flatMap eV : List AV) ++ ([.int .i64 p.Skin, .int .i64 cage, .int .i64 0, .int .i64 0, .int .i64 0, .int .i64 0, .int .i64 0, .int .i64 0] : List AV))))) rfl rfl rfl (blelen (len_app (m := 48) (n := 24) (k := 72) (lenM eV_len p.lP rfl) (len_app (m := 4) (n := 20) (k := 24) (len1 p.lCorners) (len_app (m := 12) (n := 8) (k := 20) (lenM eV_len p.lNormals rfl) rfl rfl) rfl) rfl) (by omega)) (wr_skip (off' := 17) (lenM eV_len p.lP rfl) (by omega) (wr_skip (off' := 13) (len1 p.lCorners) (by omega) (wr_skip (off' := 1) (lenM eV_len p.lNormals rfl) (by omega) rfl))) (fill_step (c' := ((p.aP.flatMap eV : List AV) ++ ((p.aCorners.map eI : List AV) ++ ((p.aNormals.flatMap eV : List AV) ++ ([.int .i64 p.Skin, .int .i64 cage, .int .i64 id, .int .i64 0, .int .i64 0, .int .i64 0, .int .i64 0, .int .i64 0] : List AV))))) rfl rfl rfl (blelen (len_app (m := 48) (n := 24) (k := 72) (lenM eV_len p.lP rfl) (len_app (m := 4) (n := 20) (k := 24) (len1 p.lCorners) (len_app (m := 12) (n := 8) (k := 20) (lenM eV_len p.lNormals rfl) rfl rfl) rfl) rfl) (by omega)) (wr_skip (off' := 18) (lenM eV_len p.lP rfl) (by omega) (wr_skip (off' := 14) (len1 p.lCorners) (by omega) (wr_skip (off' := 2) (lenM eV_len p.lNormals rfl) (by omega) rfl))) (fill_step (c' := ((p.aP.flatMap eV : List AV) ++ ((p.aCorners.map eI : List AV) ++ ((p.aNormals.flatMap eV : List AV) ++ (([.int .i64 p.Skin, .int .i64 cage, .int .i64 id] : List AV) ++ (((R_rate_Sides p.aP s.Unit).map eI : List AV) ++ ([.int .i64 0] : List AV))))))) rfl rfl (show (AV.cells (.agg ((R_rate_Sides p.aP s.Unit).map eI))).length = 4 from (len1 (R_rate_Sides_len p.aP s.Unit))) (blelen (len_app (m := 48) (n := 24) (k := 72) (lenM eV_len p.lP rfl) (len_app (m := 4) (n := 20) (k := 24) (len1 p.lCorners) (len_app (m := 12) (n := 8) (k := 20) (lenM eV_len p.lNormals rfl) rfl rfl) rfl) rfl) (by omega)) (wr_skip (off' := 19) (lenM eV_len p.lP rfl) (by omega) (wr_skip (off' := 15) (len1 p.lCorners) (by omega) (wr_skip (off' := 3) (lenM eV_len p.lNormals rfl) (by omega) (wr_skip (A := ([.int .i64 p.Skin, .int .i64 cage, .int .i64 id] : List AV)) (B := ([.int .i64 0, .int .i64 0, .int .i64 0, .int .i64 0, .int .i64 0] : List AV)) (n := 3) (off' := 0) rfl (by omega) (wr_pre (len1 (R_rate_Sides_len p.aP s.Unit))))))) (fill_step (c' := ((p.aP.flatMap eV : List AV) ++ ((p.aCorners.map eI : List AV) ++ ((p.aNormals.flatMap eV : List AV) ++ (([.int .i64 p.Skin, .int .i64 cage, .int .i64 id] : List AV) ++ (((R_rate_Sides p.aP s.Unit).map eI : List AV) ++ ([.int .i64 (maxL (R_rate_Sides p.aP s.Unit))] : List AV))))))) rfl rfl rfl (blelen (len_app (m := 48) (n := 24) (k := 72) (lenM eV_len p.lP rfl) (len_app (m := 4) (n := 20) (k := 24) (len1 p.lCorners) (len_app (m := 12) (n := 8) (k := 20) (lenM eV_len p.lNormals rfl) (len_app (m := 3) (n := 5) (k := 8) rfl (len_app (m := 4) (n := 1) (k := 5) (len1 (R_rate_Sides_len p.aP s.Unit)) rfl rfl) rfl) rfl) rfl) rfl) (by omega)) (wr_skip (off' := 23) (lenM eV_len p.lP rfl) (by omega) (wr_skip (off' := 19) (len1 p.lCorners) (by omega) (wr_skip (off' := 7) (lenM eV_len p.lNormals rfl) (by omega) (wr_skip (off' := 4) (n := 3) rfl (by omega) (wr_skip (off' := 0) (len1 (R_rate_Sides_len p.aP s.Unit)) (by omega) rfl))))) (rfl)))))) ⟨rfl, hM⟩⟩) ?_
   refine QE.done fun H70 m71 => ?_
   have h72 := m71 _ _ h68
   have m73 := m69.trans m71
   refine AOps.cons rfl rfl (AOp.box (.agg (p.aP.flatMap eV ++ (p.aCorners.map eI ++ (p.aNormals.flatMap eV ++ ([.int .i64 p.Skin, .int .i64 cage, .int .i64 id] ++ ((R_rate_Sides p.aP s.Unit).map eI ++ [.int .i64 (maxL (R_rate_Sides p.aP s.Unit))])))))) rfl rfl rfl ?_)
   intro i74 H75 n76 h77 k78
   have e79 := ne_new h72 n76
   have z80 := Mono.free m73 n76
   have h81 := keep k78 (ne_new h72 n76) h72
   have m82 := Mono.new m73 n76 k78
   refine AOps.cons rfl rfl (AOp.assign (.ptr i74 0 0) rfl rfl ?_)
   refine AOps.nil ?_
   change AWP _ _ _ _ _ _
   refine AWP.seq ?_
   refine AWP.frzP 17 h77 z80 rfl m82 fun H83 m84 k85 => ?_
   have h86 := (k85 _ e79).trans h81
   refine AWP.region (l := [0, 1, 2, 3]) rfl ?_
   refine AOps.cons rfl rfl (AOp.move (.sl ((weaveR (R_rate_Sides p.aP s.Unit)).2.1).length (((weaveR (R_rate_Sides p.aP s.Unit)).2.1).flatMap eI3)) rfl rfl ?_)
   refine AOps.cons rfl rfl (AOp.build (cells := [.snil, .snil, .sl ((weaveR (R_rate_Sides p.aP s.Unit)).2.1).length (((weaveR (R_rate_Sides p.aP s.Unit)).2.1).flatMap eI3)]) rfl tz_38 pl_38 rfl rfl ?_)
   refine AOps.cons rfl rfl (AOp.alloc rfl tz_38 ?_)
   intro i87 H88 n89 h90 k91
   have e92 := ne_new h86 n89
   have z93 := Mono.free m84 n89
   have h94 := keep k91 (ne_new h86 n89) h86
   have m95 := Mono.new m84 n89 k91
   refine AOps.cons rfl rfl (AOp.store' (cells' := [.snil, .snil, .sl ((weaveR (R_rate_Sides p.aP s.Unit)).2.1).length (((weaveR (R_rate_Sides p.aP s.Unit)).2.1).flatMap eI3)]) (.agg [.snil, .snil, .sl ((weaveR (R_rate_Sides p.aP s.Unit)).2.1).length (((weaveR (R_rate_Sides p.aP s.Unit)).2.1).flatMap eI3)]) rfl rfl ts_38 h90 rfl rfl rfl rfl ?_)
   intro H96 h97 k98
   have h99 := keep k98 e92 h94
   have m101 := Mono.set m95 z93 k98
   refine AOps.nil ?_
   change AWP _ _ _ _ _ _
   refine AWP.seq ?_
   refine AWP.seq ?_
   have hwl := weave_len (R_rate_Sides_len p.aP s.Unit)
   refine AWP.region (l := [0, 1, 2]) rfl ?_
   refine AOps.cons rfl rfl (AOp.move (.sl ((weaveR (R_rate_Sides p.aP s.Unit)).1).length (((weaveR (R_rate_Sides p.aP s.Unit)).1).flatMap eSpot)) rfl rfl ?_)
   refine AOps.cons rfl rfl (AOp.len (m := ((weaveR (R_rate_Sides p.aP s.Unit)).1).length) rfl rfl (.inr (.inl ⟨_, rfl⟩)) u_68 ?_)
   refine AOps.cons rfl rfl (AOp.move (.int .i64 0) rfl rfl ?_)
   refine AOps.nil ?_
   change AWP _ _ _ _ _ _
   refine AWP.block ?_
   refine AWP.loop (fun q102 fq Hq => ∃ (i : Int) (w18_0 : AV) (w18_1 : AV), q102 = (((weaveR (R_rate_Sides p.aP s.Unit)).1.length : Int) - i).toNat ∧ fq 68 = .int .i64 i ∧ fq 4 = .sl texs.length (texs.flatMap eTex) ∧ fq 8 = .fptr [.str s.Name, .int .i64 s.Mat, .int .i64 s.Levels, .int .i64 s.Unit, .int .i64 s.Tex, .int .i64 s.Height] 0 ∧ fq 10 = .ptr i17 0 0 ∧ fq 17 = .fptr ((p.aP.flatMap eV) ++ ((p.aCorners.map eI) ++ ((p.aNormals.flatMap eV) ++ (([.int .i64 p.Skin, .int .i64 cage, .int .i64 id] : List AV) ++ (((R_rate_Sides p.aP s.Unit).map eI) ++ ([.int .i64 (maxL (R_rate_Sides p.aP s.Unit))] : List AV)))))) 0 ∧ fq 18 = .ptr i87 0 0 ∧ fq 66 = .sl ((weaveR (R_rate_Sides p.aP s.Unit)).1).length (((weaveR (R_rate_Sides p.aP s.Unit)).1).flatMap eSpot) ∧ fq 67 = .int .i64 ((((weaveR (R_rate_Sides p.aP s.Unit)).1).length) : Int) ∧ Own H0 Hq 3 w18_0 (((weaveR (R_rate_Sides p.aP s.Unit)).1.take i.toNat).map (fD p cage id s texs)).length ((((weaveR (R_rate_Sides p.aP s.Unit)).1.take i.toNat).map (fD p cage id s texs)).flatMap eV) ∧ Own H0 Hq 5 w18_1 (((weaveR (R_rate_Sides p.aP s.Unit)).1.take i.toNat).map (kD p cage id s)).length ((((weaveR (R_rate_Sides p.aP s.Unit)).1.take i.toNat).map (kD p cage id s)).flatMap eKey) ∧ NotId w18_0 i17 ∧ NotId w18_0 i87 ∧ NotId w18_1 i17 ∧ NotId w18_1 i87 ∧ Sep w18_0 w18_1 ∧ Hq i17 = some (.row 0 ([.snil, .snil, .snil])) ∧ Hq i87 = some (.row 0 ([w18_0, w18_1, .sl ((weaveR (R_rate_Sides p.aP s.Unit)).2.1).length (((weaveR (R_rate_Sides p.aP s.Unit)).2.1).flatMap eI3)])) ∧ Mono H0 Hq ∧ (0 ≤ i) ∧ (i ≤ ((weaveR (R_rate_Sides p.aP s.Unit)).1.length : Int)) ∧ (∀ j : Int, 0 ≤ j → j < i → (plT s texs (vtxD p cage id s (at_ (weaveR (R_rate_Sides p.aP s.Unit)).1 j))).isSome = true)) (k := (((weaveR (R_rate_Sides p.aP s.Unit)).1.length : Int) - 0).toNat) ?_ ?_
   ·
    exact ⟨0, .snil, .snil, rfl, rfl, rfl, rfl, rfl, rfl, rfl, rfl, rfl, Own.nil _ _ _, Own.nil _ _ _, (NotId.nil _), (NotId.nil _), (NotId.nil _), (NotId.nil _), (Sep.nilL _), h99, h97, m101, by omega, by omega, by intro j; omega⟩
   ·
    rintro _ f104 H103 ⟨i, w18_0, w18_1, rfl, s105, s106, s107, s108, s109, s110, s111, s112, o113, o114, no115, no116, no117, no118, sp119, h120, h121, m122, hi0, hi1, pre⟩
    refine AWP.seq ?_
    refine AWP.region (l := [0]) rfl ?_
    refine AOps.cons rfl rfl (AOp.bin (.bool (decide (i < ((((weaveR (R_rate_Sides p.aP s.Unit)).1).length) : Int)))) rfl s105 s112 rfl ?_)
    refine AOps.nil ?_
    change AWP _ _ _ _ _ _
    refine AWP.seq ?_
    by_cases b123 : i < ((((weaveR (R_rate_Sides p.aP s.Unit)).1).length) : Int)
    ·
     refine AWP.condT rfl (decide_eq_true b123) ?_
     refine AWP.skip ?_
     change AWP _ _ _ _ _ _
     refine AWP.seq ?_
     refine AWP.block ?_
     refine AWP.seq ?_
     refine AWP.region (l := [0, 1, 2, 3]) rfl ?_
     refine AOps.cons rfl rfl (AOp.indexAddrS rfl s111 s105 sl_68 (by omega) (by omega) ?_)
     refine AOps.cons rfl rfl (AOp.loadF (.agg [.int .i64 ((at_ ((weaveR (R_rate_Sides p.aP s.Unit)).1) i).Kind), .int .i64 ((at_ ((weaveR (R_rate_Sides p.aP s.Unit)).1) i).A), .int .i64 ((at_ ((weaveR (R_rate_Sides p.aP s.Unit)).1) i).B)]) rfl rfl ty_76 (ldM eSpot_len (by omega) (by omega)) ?_)
     refine AOps.cons rfl rfl (AOp.alloc rfl tz_76 ?_)
     intro i124 H125 n126 h127 k128
     have e129 := ne_new h120 n126
     have e130 := ne_new h121 n126
     have z131 := Mono.free m122 n126
     have h132 := keep k128 (ne_new h120 n126) h120
     have h133 := keep k128 (ne_new h121 n126) h121
     have o134 := Own.keep o113 k128 (Own.notnew o113 n126)
     have no135 := Own.notnew o113 n126
     have o136 := Own.keep o114 k128 (Own.notnew o114 n126)
     have no137 := Own.notnew o114 n126
     have m138 := Mono.new m122 n126 k128
     refine AOps.cons rfl rfl (AOp.store' (cells' := [.int .i64 ((at_ ((weaveR (R_rate_Sides p.aP s.Unit)).1) i).Kind), .int .i64 ((at_ ((weaveR (R_rate_Sides p.aP s.Unit)).1) i).A), .int .i64 ((at_ ((weaveR (R_rate_Sides p.aP s.Unit)).1) i).B)]) (.agg [.int .i64 ((at_ ((weaveR (R_rate_Sides p.aP s.Unit)).1) i).Kind), .int .i64 ((at_ ((weaveR (R_rate_Sides p.aP s.Unit)).1) i).A), .int .i64 ((at_ ((weaveR (R_rate_Sides p.aP s.Unit)).1) i).B)]) rfl rfl ts_76 h127 rfl rfl rfl rfl ?_)
     intro H139 h140 k141
     have h142 := keep k141 e129 h132
     have h143 := keep k141 e130 h133
     have o145 := Own.keep o134 k141 no135
     have o146 := Own.keep o136 k141 no137
     have m147 := Mono.set m138 z131 k141
     refine AOps.nil ?_
     change AWP _ _ _ _ _ _
     refine AWP.seq ?_
     refine AWP.frzP 20 h140 z131 rfl m147 fun H148 m149 k150 => ?_
     have h151 := (k150 _ e129).trans h142
     have h152 := (k150 _ e130).trans h143
     have o153 := Own.keep o145 k150 no135
     have o154 := Own.keep o146 k150 no137
     obtain ⟨hr, hm, hx⟩ := weave_mem (R_rate_Sides_len p.aP s.Unit) (at_mem (l := (weaveR (R_rate_Sides p.aP s.Unit)).1) (i := i) (by omega) (by omega))
     refine AWP.region (l := [0, 1, 2, 3, 4]) rfl ?_
     refine AOps.cons rfl rfl (AOp.move (.fptr ((p.aP.flatMap eV) ++ ((p.aCorners.map eI) ++ ((p.aNormals.flatMap eV) ++ (([.int .i64 p.Skin, .int .i64 cage, .int .i64 id] : List AV) ++ (((R_rate_Sides p.aP s.Unit).map eI) ++ ([.int .i64 (maxL (R_rate_Sides p.aP s.Unit))] : List AV)))))) 0) rfl s109 ?_)
     refine AOps.cons rfl rfl (AOp.loadF (.agg [.int .i64 ((at_ ((weaveR (R_rate_Sides p.aP s.Unit)).1) i).Kind), .int .i64 ((at_ ((weaveR (R_rate_Sides p.aP s.Unit)).1) i).A), .int .i64 ((at_ ((weaveR (R_rate_Sides p.aP s.Unit)).1) i).B)]) rfl rfl ty_76 rfl ?_)
     refine AOps.cons rfl rfl (AOp.pcall («as» := [.fptr ((p.aP.flatMap eV) ++ ((p.aCorners.map eI) ++ ((p.aNormals.flatMap eV) ++ (([.int .i64 p.Skin, .int .i64 cage, .int .i64 id] : List AV) ++ (((R_rate_Sides p.aP s.Unit).map eI) ++ ([.int .i64 (maxL (R_rate_Sides p.aP s.Unit))] : List AV)))))) 0, .agg [.int .i64 ((at_ ((weaveR (R_rate_Sides p.aP s.Unit)).1) i).Kind), .int .i64 ((at_ ((weaveR (R_rate_Sides p.aP s.Unit)).1) i).A), .int .i64 ((at_ ((weaveR (R_rate_Sides p.aP s.Unit)).1) i).B)]]) rfl rfl (rfl) tf_27 (c_mesh_vertex p cage id (R_rate_Sides p.aP s.Unit) (R_rate_Sides_len p.aP s.Unit) (maxL (R_rate_Sides p.aP s.Unit)) (at_ ((weaveR (R_rate_Sides p.aP s.Unit)).1) i) (by first | omega | assumption | (constructor <;> omega)) (by first | omega | assumption | (constructor <;> omega)) (by first | omega | assumption | (constructor <;> omega))) ?_)
     intro H155 m156
     have h157 := m156 _ _ h151
     have h158 := m156 _ _ h152
     have o159 := Own.mono o153 m156
     have o160 := Own.mono o154 m156
     have m161 := m149.trans m156
     refine AOps.cons rfl rfl (AOp.alloc rfl tz_78 ?_)
     intro i162 H163 n164 h165 k166
     have e167 := ne_new h157 n164
     have e168 := ne_new h158 n164
     have z169 := Mono.free m161 n164
     have h170 := keep k166 (ne_new h157 n164) h157
     have h171 := keep k166 (ne_new h158 n164) h158
     have o172 := Own.keep o159 k166 (Own.notnew o159 n164)
     have no173 := Own.notnew o159 n164
     have o174 := Own.keep o160 k166 (Own.notnew o160 n164)
     have no175 := Own.notnew o160 n164
     have m176 := Mono.new m161 n164 k166
     refine AOps.cons rfl rfl (AOp.store' (cells' := [.int .i64 (((R_mesh_vertex p cage id (R_rate_Sides p.aP s.Unit) (maxL (R_rate_Sides p.aP s.Unit)) (at_ ((weaveR (R_rate_Sides p.aP s.Unit)).1) i)).atF).X), .int .i64 (((R_mesh_vertex p cage id (R_rate_Sides p.aP s.Unit) (maxL (R_rate_Sides p.aP s.Unit)) (at_ ((weaveR (R_rate_Sides p.aP s.Unit)).1) i)).atF).Y), .int .i64 (((R_mesh_vertex p cage id (R_rate_Sides p.aP s.Unit) (maxL (R_rate_Sides p.aP s.Unit)) (at_ ((weaveR (R_rate_Sides p.aP s.Unit)).1) i)).atF).Z), .int .i64 (((R_mesh_vertex p cage id (R_rate_Sides p.aP s.Unit) (maxL (R_rate_Sides p.aP s.Unit)) (at_ ((weaveR (R_rate_Sides p.aP s.Unit)).1) i)).up).X), .int .i64 (((R_mesh_vertex p cage id (R_rate_Sides p.aP s.Unit) (maxL (R_rate_Sides p.aP s.Unit)) (at_ ((weaveR (R_rate_Sides p.aP s.Unit)).1) i)).up).Y), .int .i64 (((R_mesh_vertex p cage id (R_rate_Sides p.aP s.Unit) (maxL (R_rate_Sides p.aP s.Unit)) (at_ ((weaveR (R_rate_Sides p.aP s.Unit)).1) i)).up).Z), .int .i64 (((R_mesh_vertex p cage id (R_rate_Sides p.aP s.Unit) (maxL (R_rate_Sides p.aP s.Unit)) (at_ ((weaveR (R_rate_Sides p.aP s.Unit)).1) i)).key).Kind), .int .i64 (((R_mesh_vertex p cage id (R_rate_Sides p.aP s.Unit) (maxL (R_rate_Sides p.aP s.Unit)) (at_ ((weaveR (R_rate_Sides p.aP s.Unit)).1) i)).key).Of), .int .i64 (((R_mesh_vertex p cage id (R_rate_Sides p.aP s.Unit) (maxL (R_rate_Sides p.aP s.Unit)) (at_ ((weaveR (R_rate_Sides p.aP s.Unit)).1) i)).key).A), .int .i64 (((R_mesh_vertex p cage id (R_rate_Sides p.aP s.Unit) (maxL (R_rate_Sides p.aP s.Unit)) (at_ ((weaveR (R_rate_Sides p.aP s.Unit)).1) i)).key).B), .int .i64 (((R_mesh_vertex p cage id (R_rate_Sides p.aP s.Unit) (maxL (R_rate_Sides p.aP s.Unit)) (at_ ((weaveR (R_rate_Sides p.aP s.Unit)).1) i)).key).N)]) (.agg [.int .i64 (((R_mesh_vertex p cage id (R_rate_Sides p.aP s.Unit) (maxL (R_rate_Sides p.aP s.Unit)) (at_ ((weaveR (R_rate_Sides p.aP s.Unit)).1) i)).atF).X), .int .i64 (((R_mesh_vertex p cage id (R_rate_Sides p.aP s.Unit) (maxL (R_rate_Sides p.aP s.Unit)) (at_ ((weaveR (R_rate_Sides p.aP s.Unit)).1) i)).atF).Y), .int .i64 (((R_mesh_vertex p cage id (R_rate_Sides p.aP s.Unit) (maxL (R_rate_Sides p.aP s.Unit)) (at_ ((weaveR (R_rate_Sides p.aP s.Unit)).1) i)).atF).Z), .int .i64 (((R_mesh_vertex p cage id (R_rate_Sides p.aP s.Unit) (maxL (R_rate_Sides p.aP s.Unit)) (at_ ((weaveR (R_rate_Sides p.aP s.Unit)).1) i)).up).X), .int .i64 (((R_mesh_vertex p cage id (R_rate_Sides p.aP s.Unit) (maxL (R_rate_Sides p.aP s.Unit)) (at_ ((weaveR (R_rate_Sides p.aP s.Unit)).1) i)).up).Y), .int .i64 (((R_mesh_vertex p cage id (R_rate_Sides p.aP s.Unit) (maxL (R_rate_Sides p.aP s.Unit)) (at_ ((weaveR (R_rate_Sides p.aP s.Unit)).1) i)).up).Z), .int .i64 (((R_mesh_vertex p cage id (R_rate_Sides p.aP s.Unit) (maxL (R_rate_Sides p.aP s.Unit)) (at_ ((weaveR (R_rate_Sides p.aP s.Unit)).1) i)).key).Kind), .int .i64 (((R_mesh_vertex p cage id (R_rate_Sides p.aP s.Unit) (maxL (R_rate_Sides p.aP s.Unit)) (at_ ((weaveR (R_rate_Sides p.aP s.Unit)).1) i)).key).Of), .int .i64 (((R_mesh_vertex p cage id (R_rate_Sides p.aP s.Unit) (maxL (R_rate_Sides p.aP s.Unit)) (at_ ((weaveR (R_rate_Sides p.aP s.Unit)).1) i)).key).A), .int .i64 (((R_mesh_vertex p cage id (R_rate_Sides p.aP s.Unit) (maxL (R_rate_Sides p.aP s.Unit)) (at_ ((weaveR (R_rate_Sides p.aP s.Unit)).1) i)).key).B), .int .i64 (((R_mesh_vertex p cage id (R_rate_Sides p.aP s.Unit) (maxL (R_rate_Sides p.aP s.Unit)) (at_ ((weaveR (R_rate_Sides p.aP s.Unit)).1) i)).key).N)]) rfl rfl ts_78 h165 rfl rfl rfl rfl ?_)
     intro H177 h178 k179
     have h180 := keep k179 e167 h170
     have h181 := keep k179 e168 h171
     have o183 := Own.keep o172 k179 no173
     have o184 := Own.keep o174 k179 no175
     have m185 := Mono.set m176 z169 k179
     refine AOps.nil ?_
     change AWP _ _ _ _ _ _
     refine AWP.seq ?_
     refine AWP.seq ?_
     refine AWP.region (l := [0, 1, 2, 3, 4, 5, 6, 7]) rfl ?_
     refine AOps.cons rfl rfl (AOp.fieldAddrF rfl s107 fl_30_4 ?_)
     refine AOps.cons rfl rfl (AOp.loadF (.int .i64 s.Tex) rfl rfl ty_3 rfl ?_)
     refine AOps.cons rfl rfl (AOp.bin (.bool (decide (s.Tex ≥ 0))) rfl rfl rfl rfl ?_)
     refine AOps.cons rfl rfl (AOp.move (.bool (decide (s.Tex ≥ 0))) rfl rfl ?_)
     by_cases b186 : s.Tex ≥ 0
     ·
      refine AOps.yes rfl rfl rfl rfl rfl rfl rfl (decide_eq_true b186) (AOp.fieldAddrF rfl s107 fl_30_5 ?_)
      refine AOps.yes rfl rfl rfl rfl rfl rfl rfl (decide_eq_true b186) (AOp.loadF (.int .i64 s.Height) rfl rfl ty_3 rfl ?_)
      refine AOps.yes rfl rfl rfl rfl rfl rfl rfl (decide_eq_true b186) (AOp.bin (.bool (decide (s.Height > 0))) rfl rfl rfl rfl ?_)
      refine AOps.cons rfl rfl (AOp.pickT (.bool (decide (s.Height > 0))) rfl rfl (decide_eq_true b186) rfl ?_)
      refine AOps.nil ?_
      change AWP _ _ _ _ _ _
      by_cases b187 : s.Height > 0
      ·
       refine AWP.condT rfl (decide_eq_true b187) ?_
       refine AWP.seq ?_
       have htr := htx _ (at_mem (i := s.Tex) (l := texs) (by omega) (by omega))
       refine AWP.region_quiet mixed (by kernel_rfl) 13 [] rfl (by kernel_rfl) (Mono H177) (Mono.refl _) ?_
       refine QE.op rfl rfl (.inl ⟨rfl, fun f' H' hf hM => AOp.move (.sl texs.length (texs.flatMap eTex)) rfl ((hf 4 rfl).trans s106) ⟨rfl, hM⟩⟩) ?_
       refine QE.op rfl rfl (.inl ⟨rfl, fun f' H' hf hM => AOp.fieldAddrF rfl ((hf 8 rfl).trans s107) fl_30_4 ⟨rfl, hM⟩⟩) ?_
       refine QE.op rfl rfl (.inl ⟨rfl, fun f' H' hf hM => AOp.loadF (.int .i64 s.Tex) rfl ((hf 85 rfl).trans rfl) ty_3 rfl ⟨rfl, hM⟩⟩) ?_
       refine QE.op rfl rfl (.inl ⟨rfl, fun f' H' hf hM => AOp.indexAddrS rfl ((hf 84 rfl).trans rfl) ((hf 86 rfl).trans rfl) sl_31 (by omega) (by omega) ⟨rfl, hM⟩⟩) ?_
       refine QE.op rfl rfl (.inl ⟨rfl, fun f' H' hf hM => AOp.loadF (.agg [.str ((at_ texs s.Tex).Name), .int .i64 ((at_ texs s.Tex).W), .int .i64 ((at_ texs s.Tex).H), .sl ((at_ texs s.Tex).Rows).length (((at_ texs s.Tex).Rows).map eI)]) rfl ((hf 87 rfl).trans rfl) ty_65 (ldM eTex_len (by omega) (by omega)) ⟨rfl, hM⟩⟩) ?_
       refine QE.op rfl rfl (.inl ⟨rfl, fun f' H' hf hM => AOp.fieldAddr rfl ((hf 21 rfl).trans rfl) fl_78_0 ⟨rfl, hM⟩ (hid := ⟨_, (hM _ _ h178)⟩)⟩) ?_
       refine QE.op rfl rfl (.inl ⟨rfl, fun f' H' hf hM => AOp.load (.agg [.int .i64 (((R_mesh_vertex p cage id (R_rate_Sides p.aP s.Unit) (maxL (R_rate_Sides p.aP s.Unit)) (at_ ((weaveR (R_rate_Sides p.aP s.Unit)).1) i)).atF).X), .int .i64 (((R_mesh_vertex p cage id (R_rate_Sides p.aP s.Unit) (maxL (R_rate_Sides p.aP s.Unit)) (at_ ((weaveR (R_rate_Sides p.aP s.Unit)).1) i)).atF).Y), .int .i64 (((R_mesh_vertex p cage id (R_rate_Sides p.aP s.Unit) (maxL (R_rate_Sides p.aP s.Unit)) (at_ ((weaveR (R_rate_Sides p.aP s.Unit)).1) i)).atF).Z)]) rfl ((hf 89 rfl).trans rfl) ty_23 (hM _ _ h178) rfl ⟨rfl, hM⟩⟩) ?_
       refine QE.op rfl rfl (.inl ⟨rfl, fun f' H' hf hM => AOp.pcall («as» := [.agg [.str ((at_ texs s.Tex).Name), .int .i64 ((at_ texs s.Tex).W), .int .i64 ((at_ texs s.Tex).H), .sl ((at_ texs s.Tex).Rows).length (((at_ texs s.Tex).Rows).map eI)], .agg [.int .i64 (((R_mesh_vertex p cage id (R_rate_Sides p.aP s.Unit) (maxL (R_rate_Sides p.aP s.Unit)) (at_ ((weaveR (R_rate_Sides p.aP s.Unit)).1) i)).atF).X), .int .i64 (((R_mesh_vertex p cage id (R_rate_Sides p.aP s.Unit) (maxL (R_rate_Sides p.aP s.Unit)) (at_ ((weaveR (R_rate_Sides p.aP s.Unit)).1) i)).atF).Y), .int .i64 (((R_mesh_vertex p cage id (R_rate_Sides p.aP s.Unit) (maxL (R_rate_Sides p.aP s.Unit)) (at_ ((weaveR (R_rate_Sides p.aP s.Unit)).1) i)).atF).Z)]]) rfl rfl (lapp (lcons ((hf 88 rfl).trans rfl) (lcons ((hf 90 rfl).trans rfl) rfl)) rfl) tf_28 (c_relief_Texel (at_ texs s.Tex) ((R_mesh_vertex p cage id (R_rate_Sides p.aP s.Unit) (maxL (R_rate_Sides p.aP s.Unit)) (at_ ((weaveR (R_rate_Sides p.aP s.Unit)).1) i)).atF) (by first | omega | assumption)) fun H2 m2 => ⟨rfl, hM.trans m2⟩⟩) ?_
       refine QE.op rfl rfl (.inl ⟨rfl, fun f' H' hf hM => AOp.move (.tup [.int .i64 ((R_relief_Texel (at_ texs s.Tex) ((R_mesh_vertex p cage id (R_rate_Sides p.aP s.Unit) (maxL (R_rate_Sides p.aP s.Unit)) (at_ ((weaveR (R_rate_Sides p.aP s.Unit)).1) i)).atF)).1), .bool ((R_relief_Texel (at_ texs s.Tex) ((R_mesh_vertex p cage id (R_rate_Sides p.aP s.Unit) (maxL (R_rate_Sides p.aP s.Unit)) (at_ ((weaveR (R_rate_Sides p.aP s.Unit)).1) i)).atF)).2)]) rfl ((hf 91 rfl).trans rfl) ⟨rfl, hM⟩⟩) ?_
       refine QE.op rfl rfl (.inl ⟨rfl, fun f' H' hf hM => AOp.extract (.int .i64 ((R_relief_Texel (at_ texs s.Tex) ((R_mesh_vertex p cage id (R_rate_Sides p.aP s.Unit) (maxL (R_rate_Sides p.aP s.Unit)) (at_ ((weaveR (R_rate_Sides p.aP s.Unit)).1) i)).atF)).1)) rfl ((hf 83 rfl).trans rfl) rfl ⟨rfl, hM⟩⟩) ?_
       refine QE.op rfl rfl (.inl ⟨rfl, fun f' H' hf hM => AOp.extract (.bool ((R_relief_Texel (at_ texs s.Tex) ((R_mesh_vertex p cage id (R_rate_Sides p.aP s.Unit) (maxL (R_rate_Sides p.aP s.Unit)) (at_ ((weaveR (R_rate_Sides p.aP s.Unit)).1) i)).atF)).2)) rfl ((hf 83 rfl).trans rfl) rfl ⟨rfl, hM⟩⟩) ?_
       refine QE.op rfl rfl (.inl ⟨rfl, fun f' H' hf hM => AOp.assign (.int .i64 ((R_relief_Texel (at_ texs s.Tex) ((R_mesh_vertex p cage id (R_rate_Sides p.aP s.Unit) (maxL (R_rate_Sides p.aP s.Unit)) (at_ ((weaveR (R_rate_Sides p.aP s.Unit)).1) i)).atF)).1)) rfl ((hf 92 rfl).trans rfl) ⟨rfl, hM⟩⟩) ?_
       refine QE.op rfl rfl (.inl ⟨rfl, fun f' H' hf hM => AOp.assign (.bool ((R_relief_Texel (at_ texs s.Tex) ((R_mesh_vertex p cage id (R_rate_Sides p.aP s.Unit) (maxL (R_rate_Sides p.aP s.Unit)) (at_ ((weaveR (R_rate_Sides p.aP s.Unit)).1) i)).atF)).2)) rfl ((hf 93 rfl).trans rfl) ⟨rfl, hM⟩⟩) ?_
       refine QE.done fun H188 m189 => ?_
       have h190 := m189 _ _ h180
       have h191 := m189 _ _ h181
       have h192 := m189 _ _ h178
       have o193 := Own.mono o183 m189
       have o194 := Own.mono o184 m189
       have m195 := m185.trans m189
       refine AOps.nil ?_
       change AWP _ _ _ _ _ _
       refine AWP.seq ?_
       refine AWP.seq ?_
       refine AWP.region (l := [0, 1]) rfl ?_
       refine AOps.cons rfl rfl (AOp.move (.bool ((R_relief_Texel (at_ texs s.Tex) ((R_mesh_vertex p cage id (R_rate_Sides p.aP s.Unit) (maxL (R_rate_Sides p.aP s.Unit)) (at_ ((weaveR (R_rate_Sides p.aP s.Unit)).1) i)).atF)).2)) rfl rfl ?_)
       refine AOps.cons rfl rfl (AOp.not rfl rfl ?_)
       refine AOps.nil ?_
       change AWP _ _ _ _ _ _
       rcases Bool.eq_false_or_eq_true ((R_relief_Texel (at_ texs s.Tex) ((R_mesh_vertex p cage id (R_rate_Sides p.aP s.Unit) (maxL (R_rate_Sides p.aP s.Unit)) (at_ ((weaveR (R_rate_Sides p.aP s.Unit)).1) i)).atF)).2) with b196 | b196
       ·
        refine AWP.condF rfl (nb b196) ?_
        refine AWP.skip ?_
        change AWP _ _ _ _ _ _
        refine AWP.region (l := [0, 1, 2, 3, 4, 5, 6, 7, 8, 9, 10, 11, 12]) rfl ?_
        refine AOps.cons rfl rfl (AOp.fieldAddr rfl rfl fl_78_0 ?_ (hid := ⟨_, h192⟩))
        refine AOps.cons rfl rfl (AOp.load (.agg [.int .i64 (((R_mesh_vertex p cage id (R_rate_Sides p.aP s.Unit) (maxL (R_rate_Sides p.aP s.Unit)) (at_ ((weaveR (R_rate_Sides p.aP s.Unit)).1) i)).atF).X), .int .i64 (((R_mesh_vertex p cage id (R_rate_Sides p.aP s.Unit) (maxL (R_rate_Sides p.aP s.Unit)) (at_ ((weaveR (R_rate_Sides p.aP s.Unit)).1) i)).atF).Y), .int .i64 (((R_mesh_vertex p cage id (R_rate_Sides p.aP s.Unit) (maxL (R_rate_Sides p.aP s.Unit)) (at_ ((weaveR (R_rate_Sides p.aP s.Unit)).1) i)).atF).Z)]) rfl rfl ty_23 h192 rfl ?_)
        refine AOps.cons rfl rfl (AOp.fieldAddr rfl rfl fl_78_1 ?_ (hid := ⟨_, h192⟩))
        refine AOps.cons rfl rfl (AOp.load (.agg [.int .i64 (((R_mesh_vertex p cage id (R_rate_Sides p.aP s.Unit) (maxL (R_rate_Sides p.aP s.Unit)) (at_ ((weaveR (R_rate_Sides p.aP s.Unit)).1) i)).up).X), .int .i64 (((R_mesh_vertex p cage id (R_rate_Sides p.aP s.Unit) (maxL (R_rate_Sides p.aP s.Unit)) (at_ ((weaveR (R_rate_Sides p.aP s.Unit)).1) i)).up).Y), .int .i64 (((R_mesh_vertex p cage id (R_rate_Sides p.aP s.Unit) (maxL (R_rate_Sides p.aP s.Unit)) (at_ ((weaveR (R_rate_Sides p.aP s.Unit)).1) i)).up).Z)]) rfl rfl ty_23 h192 rfl ?_)
        refine AOps.cons rfl rfl (AOp.move (.int .i64 ((R_relief_Texel (at_ texs s.Tex) ((R_mesh_vertex p cage id (R_rate_Sides p.aP s.Unit) (maxL (R_rate_Sides p.aP s.Unit)) (at_ ((weaveR (R_rate_Sides p.aP s.Unit)).1) i)).atF)).1)) rfl rfl ?_)
        refine AOps.cons rfl rfl (AOp.fieldAddrF rfl s107 fl_30_5 ?_)
        refine AOps.cons rfl rfl (AOp.loadF (.int .i64 s.Height) rfl rfl ty_3 rfl ?_)
        refine AOps.cons rfl rfl (AOp.pcall («as» := [.agg [.int .i64 (((R_mesh_vertex p cage id (R_rate_Sides p.aP s.Unit) (maxL (R_rate_Sides p.aP s.Unit)) (at_ ((weaveR (R_rate_Sides p.aP s.Unit)).1) i)).atF).X), .int .i64 (((R_mesh_vertex p cage id (R_rate_Sides p.aP s.Unit) (maxL (R_rate_Sides p.aP s.Unit)) (at_ ((weaveR (R_rate_Sides p.aP s.Unit)).1) i)).atF).Y), .int .i64 (((R_mesh_vertex p cage id (R_rate_Sides p.aP s.Unit) (maxL (R_rate_Sides p.aP s.Unit)) (at_ ((weaveR (R_rate_Sides p.aP s.Unit)).1) i)).atF).Z)], .agg [.int .i64 (((R_mesh_vertex p cage id (R_rate_Sides p.aP s.Unit) (maxL (R_rate_Sides p.aP s.Unit)) (at_ ((weaveR (R_rate_Sides p.aP s.Unit)).1) i)).up).X), .int .i64 (((R_mesh_vertex p cage id (R_rate_Sides p.aP s.Unit) (maxL (R_rate_Sides p.aP s.Unit)) (at_ ((weaveR (R_rate_Sides p.aP s.Unit)).1) i)).up).Y), .int .i64 (((R_mesh_vertex p cage id (R_rate_Sides p.aP s.Unit) (maxL (R_rate_Sides p.aP s.Unit)) (at_ ((weaveR (R_rate_Sides p.aP s.Unit)).1) i)).up).Z)], .int .i64 ((R_relief_Texel (at_ texs s.Tex) ((R_mesh_vertex p cage id (R_rate_Sides p.aP s.Unit) (maxL (R_rate_Sides p.aP s.Unit)) (at_ ((weaveR (R_rate_Sides p.aP s.Unit)).1) i)).atF)).1), .int .i64 s.Height]) rfl rfl (rfl) tf_29 (c_relief_Lift ((R_mesh_vertex p cage id (R_rate_Sides p.aP s.Unit) (maxL (R_rate_Sides p.aP s.Unit)) (at_ ((weaveR (R_rate_Sides p.aP s.Unit)).1) i)).atF) ((R_mesh_vertex p cage id (R_rate_Sides p.aP s.Unit) (maxL (R_rate_Sides p.aP s.Unit)) (at_ ((weaveR (R_rate_Sides p.aP s.Unit)).1) i)).up) ((R_relief_Texel (at_ texs s.Tex) ((R_mesh_vertex p cage id (R_rate_Sides p.aP s.Unit) (maxL (R_rate_Sides p.aP s.Unit)) (at_ ((weaveR (R_rate_Sides p.aP s.Unit)).1) i)).atF)).1) s.Height) ?_)
        intro H197 m198
        have h199 := m198 _ _ h190
        have h200 := m198 _ _ h191
        have h201 := m198 _ _ h192
        have o202 := Own.mono o193 m198
        have o203 := Own.mono o194 m198
        have m204 := m195.trans m198
        refine AOps.cons rfl rfl (AOp.move (.tup [.agg [.int .i64 (((R_relief_Lift ((R_mesh_vertex p cage id (R_rate_Sides p.aP s.Unit) (maxL (R_rate_Sides p.aP s.Unit)) (at_ ((weaveR (R_rate_Sides p.aP s.Unit)).1) i)).atF) ((R_mesh_vertex p cage id (R_rate_Sides p.aP s.Unit) (maxL (R_rate_Sides p.aP s.Unit)) (at_ ((weaveR (R_rate_Sides p.aP s.Unit)).1) i)).up) ((R_relief_Texel (at_ texs s.Tex) ((R_mesh_vertex p cage id (R_rate_Sides p.aP s.Unit) (maxL (R_rate_Sides p.aP s.Unit)) (at_ ((weaveR (R_rate_Sides p.aP s.Unit)).1) i)).atF)).1) s.Height).1).X), .int .i64 (((R_relief_Lift ((R_mesh_vertex p cage id (R_rate_Sides p.aP s.Unit) (maxL (R_rate_Sides p.aP s.Unit)) (at_ ((weaveR (R_rate_Sides p.aP s.Unit)).1) i)).atF) ((R_mesh_vertex p cage id (R_rate_Sides p.aP s.Unit) (maxL (R_rate_Sides p.aP s.Unit)) (at_ ((weaveR (R_rate_Sides p.aP s.Unit)).1) i)).up) ((R_relief_Texel (at_ texs s.Tex) ((R_mesh_vertex p cage id (R_rate_Sides p.aP s.Unit) (maxL (R_rate_Sides p.aP s.Unit)) (at_ ((weaveR (R_rate_Sides p.aP s.Unit)).1) i)).atF)).1) s.Height).1).Y), .int .i64 (((R_relief_Lift ((R_mesh_vertex p cage id (R_rate_Sides p.aP s.Unit) (maxL (R_rate_Sides p.aP s.Unit)) (at_ ((weaveR (R_rate_Sides p.aP s.Unit)).1) i)).atF) ((R_mesh_vertex p cage id (R_rate_Sides p.aP s.Unit) (maxL (R_rate_Sides p.aP s.Unit)) (at_ ((weaveR (R_rate_Sides p.aP s.Unit)).1) i)).up) ((R_relief_Texel (at_ texs s.Tex) ((R_mesh_vertex p cage id (R_rate_Sides p.aP s.Unit) (maxL (R_rate_Sides p.aP s.Unit)) (at_ ((weaveR (R_rate_Sides p.aP s.Unit)).1) i)).atF)).1) s.Height).1).Z)], .bool ((R_relief_Lift ((R_mesh_vertex p cage id (R_rate_Sides p.aP s.Unit) (maxL (R_rate_Sides p.aP s.Unit)) (at_ ((weaveR (R_rate_Sides p.aP s.Unit)).1) i)).atF) ((R_mesh_vertex p cage id (R_rate_Sides p.aP s.Unit) (maxL (R_rate_Sides p.aP s.Unit)) (at_ ((weaveR (R_rate_Sides p.aP s.Unit)).1) i)).up) ((R_relief_Texel (at_ texs s.Tex) ((R_mesh_vertex p cage id (R_rate_Sides p.aP s.Unit) (maxL (R_rate_Sides p.aP s.Unit)) (at_ ((weaveR (R_rate_Sides p.aP s.Unit)).1) i)).atF)).1) s.Height).2)]) rfl rfl ?_)
        refine AOps.cons rfl rfl (AOp.extract (.agg [.int .i64 (((R_relief_Lift ((R_mesh_vertex p cage id (R_rate_Sides p.aP s.Unit) (maxL (R_rate_Sides p.aP s.Unit)) (at_ ((weaveR (R_rate_Sides p.aP s.Unit)).1) i)).atF) ((R_mesh_vertex p cage id (R_rate_Sides p.aP s.Unit) (maxL (R_rate_Sides p.aP s.Unit)) (at_ ((weaveR (R_rate_Sides p.aP s.Unit)).1) i)).up) ((R_relief_Texel (at_ texs s.Tex) ((R_mesh_vertex p cage id (R_rate_Sides p.aP s.Unit) (maxL (R_rate_Sides p.aP s.Unit)) (at_ ((weaveR (R_rate_Sides p.aP s.Unit)).1) i)).atF)).1) s.Height).1).X), .int .i64 (((R_relief_Lift ((R_mesh_vertex p cage id (R_rate_Sides p.aP s.Unit) (maxL (R_rate_Sides p.aP s.Unit)) (at_ ((weaveR (R_rate_Sides p.aP s.Unit)).1) i)).atF) ((R_mesh_vertex p cage id (R_rate_Sides p.aP s.Unit) (maxL (R_rate_Sides p.aP s.Unit)) (at_ ((weaveR (R_rate_Sides p.aP s.Unit)).1) i)).up) ((R_relief_Texel (at_ texs s.Tex) ((R_mesh_vertex p cage id (R_rate_Sides p.aP s.Unit) (maxL (R_rate_Sides p.aP s.Unit)) (at_ ((weaveR (R_rate_Sides p.aP s.Unit)).1) i)).atF)).1) s.Height).1).Y), .int .i64 (((R_relief_Lift ((R_mesh_vertex p cage id (R_rate_Sides p.aP s.Unit) (maxL (R_rate_Sides p.aP s.Unit)) (at_ ((weaveR (R_rate_Sides p.aP s.Unit)).1) i)).atF) ((R_mesh_vertex p cage id (R_rate_Sides p.aP s.Unit) (maxL (R_rate_Sides p.aP s.Unit)) (at_ ((weaveR (R_rate_Sides p.aP s.Unit)).1) i)).up) ((R_relief_Texel (at_ texs s.Tex) ((R_mesh_vertex p cage id (R_rate_Sides p.aP s.Unit) (maxL (R_rate_Sides p.aP s.Unit)) (at_ ((weaveR (R_rate_Sides p.aP s.Unit)).1) i)).atF)).1) s.Height).1).Z)]) rfl rfl rfl ?_)
        refine AOps.cons rfl rfl (AOp.extract (.bool ((R_relief_Lift ((R_mesh_vertex p cage id (R_rate_Sides p.aP s.Unit) (maxL (R_rate_Sides p.aP s.Unit)) (at_ ((weaveR (R_rate_Sides p.aP s.Unit)).1) i)).atF) ((R_mesh_vertex p cage id (R_rate_Sides p.aP s.Unit) (maxL (R_rate_Sides p.aP s.Unit)) (at_ ((weaveR (R_rate_Sides p.aP s.Unit)).1) i)).up) ((R_relief_Texel (at_ texs s.Tex) ((R_mesh_vertex p cage id (R_rate_Sides p.aP s.Unit) (maxL (R_rate_Sides p.aP s.Unit)) (at_ ((weaveR (R_rate_Sides p.aP s.Unit)).1) i)).atF)).1) s.Height).2)) rfl rfl rfl ?_)
        refine AOps.cons rfl rfl (AOp.fieldAddr rfl rfl fl_78_0 ?_ (hid := ⟨_, h201⟩))
        refine AOps.cons rfl rfl (AOp.store' (cells' := [.int .i64 (((R_relief_Lift ((R_mesh_vertex p cage id (R_rate_Sides p.aP s.Unit) (maxL (R_rate_Sides p.aP s.Unit)) (at_ ((weaveR (R_rate_Sides p.aP s.Unit)).1) i)).atF) ((R_mesh_vertex p cage id (R_rate_Sides p.aP s.Unit) (maxL (R_rate_Sides p.aP s.Unit)) (at_ ((weaveR (R_rate_Sides p.aP s.Unit)).1) i)).up) ((R_relief_Texel (at_ texs s.Tex) ((R_mesh_vertex p cage id (R_rate_Sides p.aP s.Unit) (maxL (R_rate_Sides p.aP s.Unit)) (at_ ((weaveR (R_rate_Sides p.aP s.Unit)).1) i)).atF)).1) s.Height).1).X), .int .i64 (((R_relief_Lift ((R_mesh_vertex p cage id (R_rate_Sides p.aP s.Unit) (maxL (R_rate_Sides p.aP s.Unit)) (at_ ((weaveR (R_rate_Sides p.aP s.Unit)).1) i)).atF) ((R_mesh_vertex p cage id (R_rate_Sides p.aP s.Unit) (maxL (R_rate_Sides p.aP s.Unit)) (at_ ((weaveR (R_rate_Sides p.aP s.Unit)).1) i)).up) ((R_relief_Texel (at_ texs s.Tex) ((R_mesh_vertex p cage id (R_rate_Sides p.aP s.Unit) (maxL (R_rate_Sides p.aP s.Unit)) (at_ ((weaveR (R_rate_Sides p.aP s.Unit)).1) i)).atF)).1) s.Height).1).Y), .int .i64 (((R_relief_Lift ((R_mesh_vertex p cage id (R_rate_Sides p.aP s.Unit) (maxL (R_rate_Sides p.aP s.Unit)) (at_ ((weaveR (R_rate_Sides p.aP s.Unit)).1) i)).atF) ((R_mesh_vertex p cage id (R_rate_Sides p.aP s.Unit) (maxL (R_rate_Sides p.aP s.Unit)) (at_ ((weaveR (R_rate_Sides p.aP s.Unit)).1) i)).up) ((R_relief_Texel (at_ texs s.Tex) ((R_mesh_vertex p cage id (R_rate_Sides p.aP s.Unit) (maxL (R_rate_Sides p.aP s.Unit)) (at_ ((weaveR (R_rate_Sides p.aP s.Unit)).1) i)).atF)).1) s.Height).1).Z), .int .i64 (((R_mesh_vertex p cage id (R_rate_Sides p.aP s.Unit) (maxL (R_rate_Sides p.aP s.Unit)) (at_ ((weaveR (R_rate_Sides p.aP s.Unit)).1) i)).up).X), .int .i64 (((R_mesh_vertex p cage id (R_rate_Sides p.aP s.Unit) (maxL (R_rate_Sides p.aP s.Unit)) (at_ ((weaveR (R_rate_Sides p.aP s.Unit)).1) i)).up).Y), .int .i64 (((R_mesh_vertex p cage id (R_rate_Sides p.aP s.Unit) (maxL (R_rate_Sides p.aP s.Unit)) (at_ ((weaveR (R_rate_Sides p.aP s.Unit)).1) i)).up).Z), .int .i64 (((R_mesh_vertex p cage id (R_rate_Sides p.aP s.Unit) (maxL (R_rate_Sides p.aP s.Unit)) (at_ ((weaveR (R_rate_Sides p.aP s.Unit)).1) i)).key).Kind), .int .i64 (((R_mesh_vertex p cage id (R_rate_Sides p.aP s.Unit) (maxL (R_rate_Sides p.aP s.Unit)) (at_ ((weaveR (R_rate_Sides p.aP s.Unit)).1) i)).key).Of), .int .i64 (((R_mesh_vertex p cage id (R_rate_Sides p.aP s.Unit) (maxL (R_rate_Sides p.aP s.Unit)) (at_ ((weaveR (R_rate_Sides p.aP s.Unit)).1) i)).key).A), .int .i64 (((R_mesh_vertex p cage id (R_rate_Sides p.aP s.Unit) (maxL (R_rate_Sides p.aP s.Unit)) (at_ ((weaveR (R_rate_Sides p.aP s.Unit)).1) i)).key).B), .int .i64 (((R_mesh_vertex p cage id (R_rate_Sides p.aP s.Unit) (maxL (R_rate_Sides p.aP s.Unit)) (at_ ((weaveR (R_rate_Sides p.aP s.Unit)).1) i)).key).N)]) (.agg [.int .i64 (((R_relief_Lift ((R_mesh_vertex p cage id (R_rate_Sides p.aP s.Unit) (maxL (R_rate_Sides p.aP s.Unit)) (at_ ((weaveR (R_rate_Sides p.aP s.Unit)).1) i)).atF) ((R_mesh_vertex p cage id (R_rate_Sides p.aP s.Unit) (maxL (R_rate_Sides p.aP s.Unit)) (at_ ((weaveR (R_rate_Sides p.aP s.Unit)).1) i)).up) ((R_relief_Texel (at_ texs s.Tex) ((R_mesh_vertex p cage id (R_rate_Sides p.aP s.Unit) (maxL (R_rate_Sides p.aP s.Unit)) (at_ ((weaveR (R_rate_Sides p.aP s.Unit)).1) i)).atF)).1) s.Height).1).X), .int .i64 (((R_relief_Lift ((R_mesh_vertex p cage id (R_rate_Sides p.aP s.Unit) (maxL (R_rate_Sides p.aP s.Unit)) (at_ ((weaveR (R_rate_Sides p.aP s.Unit)).1) i)).atF) ((R_mesh_vertex p cage id (R_rate_Sides p.aP s.Unit) (maxL (R_rate_Sides p.aP s.Unit)) (at_ ((weaveR (R_rate_Sides p.aP s.Unit)).1) i)).up) ((R_relief_Texel (at_ texs s.Tex) ((R_mesh_vertex p cage id (R_rate_Sides p.aP s.Unit) (maxL (R_rate_Sides p.aP s.Unit)) (at_ ((weaveR (R_rate_Sides p.aP s.Unit)).1) i)).atF)).1) s.Height).1).Y), .int .i64 (((R_relief_Lift ((R_mesh_vertex p cage id (R_rate_Sides p.aP s.Unit) (maxL (R_rate_Sides p.aP s.Unit)) (at_ ((weaveR (R_rate_Sides p.aP s.Unit)).1) i)).atF) ((R_mesh_vertex p cage id (R_rate_Sides p.aP s.Unit) (maxL (R_rate_Sides p.aP s.Unit)) (at_ ((weaveR (R_rate_Sides p.aP s.Unit)).1) i)).up) ((R_relief_Texel (at_ texs s.Tex) ((R_mesh_vertex p cage id (R_rate_Sides p.aP s.Unit) (maxL (R_rate_Sides p.aP s.Unit)) (at_ ((weaveR (R_rate_Sides p.aP s.Unit)).1) i)).atF)).1) s.Height).1).Z)]) rfl rfl ts_23 h201 rfl rfl rfl rfl ?_)
        intro H205 h206 k207
        have h208 := keep k207 e167 h199
        have h209 := keep k207 e168 h200
        have o211 := Own.keep o202 k207 no173
        have o212 := Own.keep o203 k207 no175
        have m213 := Mono.set m204 z169 k207
        refine AOps.nil ?_
        change AWP _ _ _ _ _ _
        refine AWP.seq ?_
        have hpl : plT s texs (vtxD p cage id s (at_ (weaveR (R_rate_Sides p.aP s.Unit)).1 i)) = some ((R_relief_Lift ((R_mesh_vertex p cage id (R_rate_Sides p.aP s.Unit) (maxL (R_rate_Sides p.aP s.Unit)) (at_ ((weaveR (R_rate_Sides p.aP s.Unit)).1) i)).atF) ((R_mesh_vertex p cage id (R_rate_Sides p.aP s.Unit) (maxL (R_rate_Sides p.aP s.Unit)) (at_ ((weaveR (R_rate_Sides p.aP s.Unit)).1) i)).up) ((R_relief_Texel (at_ texs s.Tex) ((R_mesh_vertex p cage id (R_rate_Sides p.aP s.Unit) (maxL (R_rate_Sides p.aP s.Unit)) (at_ ((weaveR (R_rate_Sides p.aP s.Unit)).1) i)).atF)).1) s.Height).1) := by unfold plT vtxD; rw [if_pos ⟨by omega, by omega⟩, if_pos b196] <;> rfl
        have hq1 : (((weaveR (R_rate_Sides p.aP s.Unit)).1.take i.toNat).map (fD p cage id s texs)).length ≤ 400 := by simp only [List.length_map, List.length_take]; omega
        have hq2 : (((weaveR (R_rate_Sides p.aP s.Unit)).1.take i.toNat).map (kD p cage id s)).length ≤ 400 := by simp only [List.length_map, List.length_take]; omega
        refine AWP.region (l := [0, 1, 2, 3, 4, 5, 6, 7]) rfl ?_
        refine AOps.cons rfl rfl (AOp.fieldAddr rfl s110 fl_38_0 ?_ (hid := ⟨_, h209⟩))
        refine AOps.cons rfl rfl (AOp.load (w18_0) rfl rfl ty_34 h209 rfl ?_)
        refine AOps.cons rfl rfl (AOp.fieldAddr rfl rfl fl_78_0 ?_ (hid := ⟨_, h206⟩))
        refine AOps.cons rfl rfl (AOp.load (.agg [.int .i64 (((R_relief_Lift ((R_mesh_vertex p cage id (R_rate_Sides p.aP s.Unit) (maxL (R_rate_Sides p.aP s.Unit)) (at_ ((weaveR (R_rate_Sides p.aP s.Unit)).1) i)).atF) ((R_mesh_vertex p cage id (R_rate_Sides p.aP s.Unit) (maxL (R_rate_Sides p.aP s.Unit)) (at_ ((weaveR (R_rate_Sides p.aP s.Unit)).1) i)).up) ((R_relief_Texel (at_ texs s.Tex) ((R_mesh_vertex p cage id (R_rate_Sides p.aP s.Unit) (maxL (R_rate_Sides p.aP s.Unit)) (at_ ((weaveR (R_rate_Sides p.aP s.Unit)).1) i)).atF)).1) s.Height).1).X), .int .i64 (((R_relief_Lift ((R_mesh_vertex p cage id (R_rate_Sides p.aP s.Unit) (maxL (R_rate_Sides p.aP s.Unit)) (at_ ((weaveR (R_rate_Sides p.aP s.Unit)).1) i)).atF) ((R_mesh_vertex p cage id (R_rate_Sides p.aP s.Unit) (maxL (R_rate_Sides p.aP s.Unit)) (at_ ((weaveR (R_rate_Sides p.aP s.Unit)).1) i)).up) ((R_relief_Texel (at_ texs s.Tex) ((R_mesh_vertex p cage id (R_rate_Sides p.aP s.Unit) (maxL (R_rate_Sides p.aP s.Unit)) (at_ ((weaveR (R_rate_Sides p.aP s.Unit)).1) i)).atF)).1) s.Height).1).Y), .int .i64 (((R_relief_Lift ((R_mesh_vertex p cage id (R_rate_Sides p.aP s.Unit) (maxL (R_rate_Sides p.aP s.Unit)) (at_ ((weaveR (R_rate_Sides p.aP s.Unit)).1) i)).atF) ((R_mesh_vertex p cage id (R_rate_Sides p.aP s.Unit) (maxL (R_rate_Sides p.aP s.Unit)) (at_ ((weaveR (R_rate_Sides p.aP s.Unit)).1) i)).up) ((R_relief_Texel (at_ texs s.Tex) ((R_mesh_vertex p cage id (R_rate_Sides p.aP s.Unit) (maxL (R_rate_Sides p.aP s.Unit)) (at_ ((weaveR (R_rate_Sides p.aP s.Unit)).1) i)).atF)).1) s.Height).1).Z)]) rfl rfl ty_23 h206 rfl ?_)
        refine AOps.cons rfl rfl (AOp.buildSlice (cells := [.int .i64 (((R_relief_Lift ((R_mesh_vertex p cage id (R_rate_Sides p.aP s.Unit) (maxL (R_rate_Sides p.aP s.Unit)) (at_ ((weaveR (R_rate_Sides p.aP s.Unit)).1) i)).atF) ((R_mesh_vertex p cage id (R_rate_Sides p.aP s.Unit) (maxL (R_rate_Sides p.aP s.Unit)) (at_ ((weaveR (R_rate_Sides p.aP s.Unit)).1) i)).up) ((R_relief_Texel (at_ texs s.Tex) ((R_mesh_vertex p cage id (R_rate_Sides p.aP s.Unit) (maxL (R_rate_Sides p.aP s.Unit)) (at_ ((weaveR (R_rate_Sides p.aP s.Unit)).1) i)).atF)).1) s.Height).1).X), .int .i64 (((R_relief_Lift ((R_mesh_vertex p cage id (R_rate_Sides p.aP s.Unit) (maxL (R_rate_Sides p.aP s.Unit)) (at_ ((weaveR (R_rate_Sides p.aP s.Unit)).1) i)).atF) ((R_mesh_vertex p cage id (R_rate_Sides p.aP s.Unit) (maxL (R_rate_Sides p.aP s.Unit)) (at_ ((weaveR (R_rate_Sides p.aP s.Unit)).1) i)).up) ((R_relief_Texel (at_ texs s.Tex) ((R_mesh_vertex p cage id (R_rate_Sides p.aP s.Unit) (maxL (R_rate_Sides p.aP s.Unit)) (at_ ((weaveR (R_rate_Sides p.aP s.Unit)).1) i)).atF)).1) s.Height).1).Y), .int .i64 (((R_relief_Lift ((R_mesh_vertex p cage id (R_rate_Sides p.aP s.Unit) (maxL (R_rate_Sides p.aP s.Unit)) (at_ ((weaveR (R_rate_Sides p.aP s.Unit)).1) i)).atF) ((R_mesh_vertex p cage id (R_rate_Sides p.aP s.Unit) (maxL (R_rate_Sides p.aP s.Unit)) (at_ ((weaveR (R_rate_Sides p.aP s.Unit)).1) i)).up) ((R_relief_Texel (at_ texs s.Tex) ((R_mesh_vertex p cage id (R_rate_Sides p.aP s.Unit) (maxL (R_rate_Sides p.aP s.Unit)) (at_ ((weaveR (R_rate_Sides p.aP s.Unit)).1) i)).atF)).1) s.Height).1).Z)]) rfl u_34 ts_23 tz_23 rfl rfl rfl ?_)
        intro i214 H215 n216 h217 k218
        have e219 := ne_new h208 n216
        have e220 := ne_new h209 n216
        have e221 := ne_new h206 n216
        have z222 := Mono.free m213 n216
        have h223 := keep k218 (ne_new h208 n216) h208
        have h224 := keep k218 (ne_new h209 n216) h209
        have h225 := keep k218 (ne_new h206 n216) h206
        have o226 := Own.keep o211 k218 (Own.notnew o211 n216)
        have no227 := Own.notnew o211 n216
        have o228 := Own.keep o212 k218 (Own.notnew o212 n216)
        have no229 := Own.notnew o212 n216
        have m230 := Mono.new m213 n216 k218
        refine AOps.cons rfl rfl (AOp.append_own (es := 3) (m := 1) (len := ((((weaveR (R_rate_Sides p.aP s.Unit)).1.take i.toNat).map (fD p cage id s texs)).length)) (old := (((weaveR (R_rate_Sides p.aP s.Unit)).1.take i.toNat).map (fD p cage id s texs)).flatMap eV) (cells := [.int .i64 (((R_relief_Lift ((R_mesh_vertex p cage id (R_rate_Sides p.aP s.Unit) (maxL (R_rate_Sides p.aP s.Unit)) (at_ ((weaveR (R_rate_Sides p.aP s.Unit)).1) i)).atF) ((R_mesh_vertex p cage id (R_rate_Sides p.aP s.Unit) (maxL (R_rate_Sides p.aP s.Unit)) (at_ ((weaveR (R_rate_Sides p.aP s.Unit)).1) i)).up) ((R_relief_Texel (at_ texs s.Tex) ((R_mesh_vertex p cage id (R_rate_Sides p.aP s.Unit) (maxL (R_rate_Sides p.aP s.Unit)) (at_ ((weaveR (R_rate_Sides p.aP s.Unit)).1) i)).atF)).1) s.Height).1).X), .int .i64 (((R_relief_Lift ((R_mesh_vertex p cage id (R_rate_Sides p.aP s.Unit) (maxL (R_rate_Sides p.aP s.Unit)) (at_ ((weaveR (R_rate_Sides p.aP s.Unit)).1) i)).atF) ((R_mesh_vertex p cage id (R_rate_Sides p.aP s.Unit) (maxL (R_rate_Sides p.aP s.Unit)) (at_ ((weaveR (R_rate_Sides p.aP s.Unit)).1) i)).up) ((R_relief_Texel (at_ texs s.Tex) ((R_mesh_vertex p cage id (R_rate_Sides p.aP s.Unit) (maxL (R_rate_Sides p.aP s.Unit)) (at_ ((weaveR (R_rate_Sides p.aP s.Unit)).1) i)).atF)).1) s.Height).1).Y), .int .i64 (((R_relief_Lift ((R_mesh_vertex p cage id (R_rate_Sides p.aP s.Unit) (maxL (R_rate_Sides p.aP s.Unit)) (at_ ((weaveR (R_rate_Sides p.aP s.Unit)).1) i)).atF) ((R_mesh_vertex p cage id (R_rate_Sides p.aP s.Unit) (maxL (R_rate_Sides p.aP s.Unit)) (at_ ((weaveR (R_rate_Sides p.aP s.Unit)).1) i)).up) ((R_relief_Texel (at_ texs s.Tex) ((R_mesh_vertex p cage id (R_rate_Sides p.aP s.Unit) (maxL (R_rate_Sides p.aP s.Unit)) (at_ ((weaveR (R_rate_Sides p.aP s.Unit)).1) i)).atF)).1) s.Height).1).Z)]) rfl u_34 ts_23 tzn_23 tb_23 (by decide) ni_34 rfl o226 m230 rfl (.slm h217 rfl) (one_of rfl) (by decide) (by first | omega | (simp; omega)) ?_)
        intro v231 H232 o233 m234 k235 j236
        have o237 := Own.snocM (xs := ((((weaveR (R_rate_Sides p.aP s.Unit)).1.take i.toNat).map (fD p cage id s texs)) : List VT)) (y := ((R_relief_Lift ((R_mesh_vertex p cage id (R_rate_Sides p.aP s.Unit) (maxL (R_rate_Sides p.aP s.Unit)) (at_ ((weaveR (R_rate_Sides p.aP s.Unit)).1) i)).atF) ((R_mesh_vertex p cage id (R_rate_Sides p.aP s.Unit) (maxL (R_rate_Sides p.aP s.Unit)) (at_ ((weaveR (R_rate_Sides p.aP s.Unit)).1) i)).up) ((R_relief_Texel (at_ texs s.Tex) ((R_mesh_vertex p cage id (R_rate_Sides p.aP s.Unit) (maxL (R_rate_Sides p.aP s.Unit)) (at_ ((weaveR (R_rate_Sides p.aP s.Unit)).1) i)).atF)).1) s.Height).1)) (e := eV) (by simp) o233
        have h238 := (k235 _ no115 (by rw [h223]; simp)).trans h223
        have no239 := j236 _ no115 (by rw [h223]; simp)
        have h240 := (k235 _ no116 (by rw [h224]; simp)).trans h224
        have no241 := j236 _ no116 (by rw [h224]; simp)
        have h242 := (k235 _ no173 (by rw [h225]; simp)).trans h225
        have no243 := j236 _ no173 (by rw [h225]; simp)
        have sp245 := Own.sep o228 (Sep.symm sp119) j236
        have o244 := Own.stay o228 (Sep.symm sp119) k235
        refine AOps.cons rfl rfl (AOp.fieldAddr rfl s110 fl_38_0 ?_ (hid := ⟨_, h240⟩))
        refine AOps.cons rfl rfl (AOp.storeO (cells' := [v231, w18_1, .sl ((weaveR (R_rate_Sides p.aP s.Unit)).2.1).length (((weaveR (R_rate_Sides p.aP s.Unit)).2.1).flatMap eI3)]) rfl rfl o237 ts_34 h240 rfl rfl ?_)
        intro H246 h247 k248
        have h249 := keep k248 e92 h238
        have h251 := keep k248 (Ne.symm e168) h242
        have o252 := Own.keep o244 k248 no118
        have o253 := Own.keep o237 k248 no241
        have m254 := Mono.set m234 z93 k248
        refine AOps.nil ?_
        change AWP _ _ _ _ _ _
        refine AWP.region (l := [0, 1, 2, 3, 4, 5, 6, 7]) rfl ?_
        refine AOps.cons rfl rfl (AOp.fieldAddr rfl s110 fl_38_1 ?_ (hid := ⟨_, h247⟩))
        refine AOps.cons rfl rfl (AOp.load (w18_1) rfl rfl ty_35 h247 rfl ?_)
        refine AOps.cons rfl rfl (AOp.fieldAddr rfl rfl fl_78_2 ?_ (hid := ⟨_, h251⟩))
        refine AOps.cons rfl rfl (AOp.load (.agg [.int .i64 (((R_mesh_vertex p cage id (R_rate_Sides p.aP s.Unit) (maxL (R_rate_Sides p.aP s.Unit)) (at_ ((weaveR (R_rate_Sides p.aP s.Unit)).1) i)).key).Kind), .int .i64 (((R_mesh_vertex p cage id (R_rate_Sides p.aP s.Unit) (maxL (R_rate_Sides p.aP s.Unit)) (at_ ((weaveR (R_rate_Sides p.aP s.Unit)).1) i)).key).Of), .int .i64 (((R_mesh_vertex p cage id (R_rate_Sides p.aP s.Unit) (maxL (R_rate_Sides p.aP s.Unit)) (at_ ((weaveR (R_rate_Sides p.aP s.Unit)).1) i)).key).A), .int .i64 (((R_mesh_vertex p cage id (R_rate_Sides p.aP s.Unit) (maxL (R_rate_Sides p.aP s.Unit)) (at_ ((weaveR (R_rate_Sides p.aP s.Unit)).1) i)).key).B), .int .i64 (((R_mesh_vertex p cage id (R_rate_Sides p.aP s.Unit) (maxL (R_rate_Sides p.aP s.Unit)) (at_ ((weaveR (R_rate_Sides p.aP s.Unit)).1) i)).key).N)]) rfl rfl ty_58 h251 rfl ?_)
        refine AOps.cons rfl rfl (AOp.buildSlice (cells := [.int .i64 (((R_mesh_vertex p cage id (R_rate_Sides p.aP s.Unit) (maxL (R_rate_Sides p.aP s.Unit)) (at_ ((weaveR (R_rate_Sides p.aP s.Unit)).1) i)).key).Kind), .int .i64 (((R_mesh_vertex p cage id (R_rate_Sides p.aP s.Unit) (maxL (R_rate_Sides p.aP s.Unit)) (at_ ((weaveR (R_rate_Sides p.aP s.Unit)).1) i)).key).Of), .int .i64 (((R_mesh_vertex p cage id (R_rate_Sides p.aP s.Unit) (maxL (R_rate_Sides p.aP s.Unit)) (at_ ((weaveR (R_rate_Sides p.aP s.Unit)).1) i)).key).A), .int .i64 (((R_mesh_vertex p cage id (R_rate_Sides p.aP s.Unit) (maxL (R_rate_Sides p.aP s.Unit)) (at_ ((weaveR (R_rate_Sides p.aP s.Unit)).1) i)).key).B), .int .i64 (((R_mesh_vertex p cage id (R_rate_Sides p.aP s.Unit) (maxL (R_rate_Sides p.aP s.Unit)) (at_ ((weaveR (R_rate_Sides p.aP s.Unit)).1) i)).key).N)]) rfl u_35 ts_58 tz_58 rfl rfl rfl ?_)
        intro i255 H256 n257 h258 k259
        have e260 := ne_new h249 n257
        have e261 := ne_new h251 n257
        have e262 := ne_new h247 n257
        have z263 := Mono.free m254 n257
        have h264 := keep k259 (ne_new h249 n257) h249
        have h265 := keep k259 (ne_new h251 n257) h251
        have h266 := keep k259 (ne_new h247 n257) h247
        have o267 := Own.keep o252 k259 (Own.notnew o252 n257)
        have no268 := Own.notnew o252 n257
        have o269 := Own.keep o253 k259 (Own.notnew o253 n257)
        have no270 := Own.notnew o253 n257
        have m271 := Mono.new m254 n257 k259
        refine AOps.cons rfl rfl (AOp.append_own (es := 5) (m := 1) (len := ((((weaveR (R_rate_Sides p.aP s.Unit)).1.take i.toNat).map (kD p cage id s)).length)) (old := (((weaveR (R_rate_Sides p.aP s.Unit)).1.take i.toNat).map (kD p cage id s)).flatMap eKey) (cells := [.int .i64 (((R_mesh_vertex p cage id (R_rate_Sides p.aP s.Unit) (maxL (R_rate_Sides p.aP s.Unit)) (at_ ((weaveR (R_rate_Sides p.aP s.Unit)).1) i)).key).Kind), .int .i64 (((R_mesh_vertex p cage id (R_rate_Sides p.aP s.Unit) (maxL (R_rate_Sides p.aP s.Unit)) (at_ ((weaveR (R_rate_Sides p.aP s.Unit)).1) i)).key).Of), .int .i64 (((R_mesh_vertex p cage id (R_rate_Sides p.aP s.Unit) (maxL (R_rate_Sides p.aP s.Unit)) (at_ ((weaveR (R_rate_Sides p.aP s.Unit)).1) i)).key).A), .int .i64 (((R_mesh_vertex p cage id (R_rate_Sides p.aP s.Unit) (maxL (R_rate_Sides p.aP s.Unit)) (at_ ((weaveR (R_rate_Sides p.aP s.Unit)).1) i)).key).B), .int .i64 (((R_mesh_vertex p cage id (R_rate_Sides p.aP s.Unit) (maxL (R_rate_Sides p.aP s.Unit)) (at_ ((weaveR (R_rate_Sides p.aP s.Unit)).1) i)).key).N)]) rfl u_35 ts_58 tzn_58 tb_58 (by decide) ni_35 rfl o267 m271 rfl (.slm h258 rfl) (one_of rfl) (by decide) (by first | omega | (simp; omega)) ?_)
        intro v272 H273 o274 m275 k276 j277
        have o278 := Own.snocM (xs := ((((weaveR (R_rate_Sides p.aP s.Unit)).1.take i.toNat).map (kD p cage id s)) : List KeyT)) (y := ((R_mesh_vertex p cage id (R_rate_Sides p.aP s.Unit) (maxL (R_rate_Sides p.aP s.Unit)) (at_ ((weaveR (R_rate_Sides p.aP s.Unit)).1) i)).key)) (e := eKey) (by simp) o274
        have h279 := (k276 _ no117 (by rw [h264]; simp)).trans h264
        have no280 := j277 _ no117 (by rw [h264]; simp)
        have h281 := (k276 _ no175 (by rw [h265]; simp)).trans h265
        have no282 := j277 _ no175 (by rw [h265]; simp)
        have h283 := (k276 _ no118 (by rw [h266]; simp)).trans h266
        have no284 := j277 _ no118 (by rw [h266]; simp)
        have sp286 := Own.sep o269 (Sep.symm sp245) j277
        have o285 := Own.stay o269 (Sep.symm sp245) k276
        refine AOps.cons rfl rfl (AOp.fieldAddr rfl s110 fl_38_1 ?_ (hid := ⟨_, h283⟩))
        refine AOps.cons rfl rfl (AOp.storeO (cells' := [v231, v272, .sl ((weaveR (R_rate_Sides p.aP s.Unit)).2.1).length (((weaveR (R_rate_Sides p.aP s.Unit)).2.1).flatMap eI3)]) rfl rfl o278 ts_35 h283 rfl rfl ?_)
        intro H287 h288 k289
        have h290 := keep k289 e92 h279
        have h291 := keep k289 (Ne.symm e168) h281
        have o293 := Own.keep o285 k289 no241
        have o294 := Own.keep o278 k289 no284
        have m295 := Mono.set m275 z93 k289
        refine AOps.nil ?_
        change AWP _ _ _ _ _ _
        refine AWP.region (l := [0, 1]) rfl ?_
        refine AOps.cons rfl rfl (AOp.bin (.int .i64 (i + 1)) rfl s105 rfl (iadd (by omega)) ?_)
        refine AOps.cons rfl rfl (AOp.move (.int .i64 (i + 1)) rfl rfl ?_)
        refine AOps.nil ?_
        exact ⟨_, by omega, i + 1, v231, v272, rfl, rfl, s106, s107, s108, s109, s110, s111, s112, (have hx : (((((weaveR (R_rate_Sides p.aP s.Unit)).1.take i.toNat).map (fD p cage id s texs)) ++ [((R_relief_Lift ((R_mesh_vertex p cage id (R_rate_Sides p.aP s.Unit) (maxL (R_rate_Sides p.aP s.Unit)) (at_ ((weaveR (R_rate_Sides p.aP s.Unit)).1) i)).atF) ((R_mesh_vertex p cage id (R_rate_Sides p.aP s.Unit) (maxL (R_rate_Sides p.aP s.Unit)) (at_ ((weaveR (R_rate_Sides p.aP s.Unit)).1) i)).up) ((R_relief_Texel (at_ texs s.Tex) ((R_mesh_vertex p cage id (R_rate_Sides p.aP s.Unit) (maxL (R_rate_Sides p.aP s.Unit)) (at_ ((weaveR (R_rate_Sides p.aP s.Unit)).1) i)).atF)).1) s.Height).1)]) : List VT) = ((weaveR (R_rate_Sides p.aP s.Unit)).1.take (i + 1).toNat).map (fD p cage id s texs) := (by exact map_step hi0 (by omega) (fD_of hpl)); Own.re o293 (congrArg List.length hx) (congrArg (fun l : List VT => l.flatMap eV) hx)), (have hx : (((((weaveR (R_rate_Sides p.aP s.Unit)).1.take i.toNat).map (kD p cage id s)) ++ [((R_mesh_vertex p cage id (R_rate_Sides p.aP s.Unit) (maxL (R_rate_Sides p.aP s.Unit)) (at_ ((weaveR (R_rate_Sides p.aP s.Unit)).1) i)).key)]) : List KeyT) = ((weaveR (R_rate_Sides p.aP s.Unit)).1.take (i + 1).toNat).map (kD p cage id s) := (by exact map_step hi0 (by omega) rfl); Own.re o294 (congrArg List.length hx) (congrArg (fun l : List KeyT => l.flatMap eKey) hx)), no239, no241, no280, no284, sp286, h290, h288, m295, by omega, by omega, by exact fa_step pre (by rw [hpl]; rfl)⟩
       ·
        refine AWP.condT rfl (nb b196) ?_
        refine AWP.seq ?_
        refine AWP.region (l := [0, 1, 2]) rfl ?_
        refine AOps.cons rfl rfl (AOp.build (cells := [.snil, .snil, .snil]) rfl tz_38 pl_38 rfl rfl ?_)
        refine AOps.cons rfl rfl (AOp.store' (cells' := [.snil, .snil, .snil]) (.agg [.snil, .snil, .snil]) s108 rfl ts_38 h190 rfl rfl rfl rfl ?_)
        intro H296 h297 k298
        have h300 := keep k298 (Ne.symm e92) h191
        have h301 := keep k298 (Ne.symm e167) h192
        have o302 := Own.keep o193 k298 no115
        have o303 := Own.keep o194 k298 no117
        have m304 := Mono.set m195 z24 k298
        refine AOps.cons rfl rfl (AOp.assign (.int .i64 11) rfl rfl ?_)
        refine AOps.nil ?_
        change AWP _ _ _ _ _ _
        refine AWP.ret ?_
        refine Fin.frzCell 0 (Own.nil H0 H296 1) h297 z24 rfl (NotId.nil _) m304 fun H305 h306 m307 k308 => ?_
        have h309 := (k308 _ (Ne.symm e92) (NotId.nil _)).trans h300
        have h310 := (k308 _ (Ne.symm e167) (NotId.nil _)).trans h301
        have o311 := Own.stay2 o302 (Sep.nilR _) no115 k308
        have o312 := Own.stay2 o303 (Sep.nilR _) no117 k308
        have h313 : H305 i17 = some (.row 0 ([.sl 0 ([]), .snil, .snil])) := h306
        refine Fin.frzCell 1 (Own.nil H0 H305 1) h313 z24 rfl (NotId.nil _) m307 fun H314 h315 m316 k317 => ?_
        have h318 := (k317 _ (Ne.symm e92) (NotId.nil _)).trans h309
        have h319 := (k317 _ (Ne.symm e167) (NotId.nil _)).trans h310
        have o320 := Own.stay2 o311 (Sep.nilR _) no115 k317
        have o321 := Own.stay2 o312 (Sep.nilR _) no117 k317
        have h322 : H314 i17 = some (.row 0 ([.sl 0 ([]), .sl 0 ([]), .snil])) := h315
        refine Fin.frzCell 2 (Own.nil H0 H314 1) h322 z24 rfl (NotId.nil _) m316 fun H323 h324 m325 k326 => ?_
        have h327 := (k326 _ (Ne.symm e92) (NotId.nil _)).trans h318
        have h328 := (k326 _ (Ne.symm e167) (NotId.nil _)).trans h319
        have o329 := Own.stay2 o320 (Sep.nilR _) no115 k326
        have o330 := Own.stay2 o321 (Sep.nilR _) no117 k326
        have h331 : H323 i17 = some (.row 0 ([.sl 0 ([]), .sl 0 ([]), .sl 0 ([])])) := h324
        refine ⟨_, _, Ghost.refl, .inr rfl, _, Res.list rfl rfl (.cell (v := .agg [.sl 0 ([]), .sl 0 ([]), .sl 0 ([])]) s108 ty_38 h331 rfl (.tmp rfl (.nil))), ?_, m325⟩
        exact congrArg AV.tup (lc (congrArg AV.agg (lc (congrArg (fun l : List VT => AV.sl l.length (l.flatMap eV)) (show ([] : List VT) = (((diceR p cage id s texs).1).Verts) from by first | (exfalso; omega) | rw [dice_bad h0 hi0 (by omega) (show plT s texs (vtxD p cage id s (at_ (weaveR (R_rate_Sides p.aP s.Unit)).1 i)) = none by unfold plT vtxD; rw [if_pos ⟨by omega, by omega⟩, if_neg (ff b196)])])) (lc (congrArg (fun l : List KeyT => AV.sl l.length (l.flatMap eKey)) (show ([] : List KeyT) = (((diceR p cage id s texs).1).Keys) from by first | (exfalso; omega) | rw [dice_bad h0 hi0 (by omega) (show plT s texs (vtxD p cage id s (at_ (weaveR (R_rate_Sides p.aP s.Unit)).1 i)) = none by unfold plT vtxD; rw [if_pos ⟨by omega, by omega⟩, if_neg (ff b196)])])) (lc (congrArg (fun l : List I3T => AV.sl l.length (l.flatMap eI3)) (show ([] : List I3T) = (((diceR p cage id s texs).1).Tris) from by first | (exfalso; omega) | rw [dice_bad h0 hi0 (by omega) (show plT s texs (vtxD p cage id s (at_ (weaveR (R_rate_Sides p.aP s.Unit)).1 i)) = none by unfold plT vtxD; rw [if_pos ⟨by omega, by omega⟩, if_neg (ff b196)])])) rfl)))) (lc (congrArg (AV.int .i64) (show (11 : Int) = (diceR p cage id s texs).2 from by first | (exfalso; omega) | rw [dice_bad h0 hi0 (by omega) (show plT s texs (vtxD p cage id s (at_ (weaveR (R_rate_Sides p.aP s.Unit)).1 i)) = none by unfold plT vtxD; rw [if_pos ⟨by omega, by omega⟩, if_neg (ff b196)])])) rfl))
      ·
       refine AWP.condF rfl (decide_eq_false b187) ?_
       refine AWP.skip ?_
       change AWP _ _ _ _ _ _
       refine AWP.seq ?_
       have hpl : plT s texs (vtxD p cage id s (at_ (weaveR (R_rate_Sides p.aP s.Unit)).1 i)) = some ((R_mesh_vertex p cage id (R_rate_Sides p.aP s.Unit) (maxL (R_rate_Sides p.aP s.Unit)) (at_ ((weaveR (R_rate_Sides p.aP s.Unit)).1) i)).atF) := by unfold plT vtxD; rw [if_neg (by omega)] <;> rfl
       have hq1 : (((weaveR (R_rate_Sides p.aP s.Unit)).1.take i.toNat).map (fD p cage id s texs)).length ≤ 400 := by simp only [List.length_map, List.length_take]; omega
       have hq2 : (((weaveR (R_rate_Sides p.aP s.Unit)).1.take i.toNat).map (kD p cage id s)).length ≤ 400 := by simp only [List.length_map, List.length_take]; omega
       refine AWP.region (l := [0, 1, 2, 3, 4, 5, 6, 7]) rfl ?_
       refine AOps.cons rfl rfl (AOp.fieldAddr rfl s110 fl_38_0 ?_ (hid := ⟨_, h181⟩))
       refine AOps.cons rfl rfl (AOp.load (w18_0) rfl rfl ty_34 h181 rfl ?_)
       refine AOps.cons rfl rfl (AOp.fieldAddr rfl rfl fl_78_0 ?_ (hid := ⟨_, h178⟩))
       refine AOps.cons rfl rfl (AOp.load (.agg [.int .i64 (((R_mesh_vertex p cage id (R_rate_Sides p.aP s.Unit) (maxL (R_rate_Sides p.aP s.Unit)) (at_ ((weaveR (R_rate_Sides p.aP s.Unit)).1) i)).atF).X), .int .i64 (((R_mesh_vertex p cage id (R_rate_Sides p.aP s.Unit) (maxL (R_rate_Sides p.aP s.Unit)) (at_ ((weaveR (R_rate_Sides p.aP s.Unit)).1) i)).atF).Y), .int .i64 (((R_mesh_vertex p cage id (R_rate_Sides p.aP s.Unit) (maxL (R_rate_Sides p.aP s.Unit)) (at_ ((weaveR (R_rate_Sides p.aP s.Unit)).1) i)).atF).Z)]) rfl rfl ty_23 h178 rfl ?_)
       refine AOps.cons rfl rfl (AOp.buildSlice (cells := [.int .i64 (((R_mesh_vertex p cage id (R_rate_Sides p.aP s.Unit) (maxL (R_rate_Sides p.aP s.Unit)) (at_ ((weaveR (R_rate_Sides p.aP s.Unit)).1) i)).atF).X), .int .i64 (((R_mesh_vertex p cage id (R_rate_Sides p.aP s.Unit) (maxL (R_rate_Sides p.aP s.Unit)) (at_ ((weaveR (R_rate_Sides p.aP s.Unit)).1) i)).atF).Y), .int .i64 (((R_mesh_vertex p cage id (R_rate_Sides p.aP s.Unit) (maxL (R_rate_Sides p.aP s.Unit)) (at_ ((weaveR (R_rate_Sides p.aP s.Unit)).1) i)).atF).Z)]) rfl u_34 ts_23 tz_23 rfl rfl rfl ?_)
       intro i332 H333 n334 h335 k336
       have e337 := ne_new h180 n334
       have e338 := ne_new h181 n334
       have e339 := ne_new h178 n334
       have z340 := Mono.free m185 n334
       have h341 := keep k336 (ne_new h180 n334) h180
       have h342 := keep k336 (ne_new h181 n334) h181
       have h343 := keep k336 (ne_new h178 n334) h178
       have o344 := Own.keep o183 k336 (Own.notnew o183 n334)
       have no345 := Own.notnew o183 n334
       have o346 := Own.keep o184 k336 (Own.notnew o184 n334)
       have no347 := Own.notnew o184 n334
       have m348 := Mono.new m185 n334 k336
       refine AOps.cons rfl rfl (AOp.append_own (es := 3) (m := 1) (len := ((((weaveR (R_rate_Sides p.aP s.Unit)).1.take i.toNat).map (fD p cage id s texs)).length)) (old := (((weaveR (R_rate_Sides p.aP s.Unit)).1.take i.toNat).map (fD p cage id s texs)).flatMap eV) (cells := [.int .i64 (((R_mesh_vertex p cage id (R_rate_Sides p.aP s.Unit) (maxL (R_rate_Sides p.aP s.Unit)) (at_ ((weaveR (R_rate_Sides p.aP s.Unit)).1) i)).atF).X), .int .i64 (((R_mesh_vertex p cage id (R_rate_Sides p.aP s.Unit) (maxL (R_rate_Sides p.aP s.Unit)) (at_ ((weaveR (R_rate_Sides p.aP s.Unit)).1) i)).atF).Y), .int .i64 (((R_mesh_vertex p cage id (R_rate_Sides p.aP s.Unit) (maxL (R_rate_Sides p.aP s.Unit)) (at_ ((weaveR (R_rate_Sides p.aP s.Unit)).1) i)).atF).Z)]) rfl u_34 ts_23 tzn_23 tb_23 (by decide) ni_34 rfl o344 m348 rfl (.slm h335 rfl) (one_of rfl) (by decide) (by first | omega | (simp; omega)) ?_)
       intro v349 H350 o351 m352 k353 j354
       have o355 := Own.snocM (xs := ((((weaveR (R_rate_Sides p.aP s.Unit)).1.take i.toNat).map (fD p cage id s texs)) : List VT)) (y := ((R_mesh_vertex p cage id (R_rate_Sides p.aP s.Unit) (maxL (R_rate_Sides p.aP s.Unit)) (at_ ((weaveR (R_rate_Sides p.aP s.Unit)).1) i)).atF)) (e := eV) (by simp) o351
       have h356 := (k353 _ no115 (by rw [h341]; simp)).trans h341
       have no357 := j354 _ no115 (by rw [h341]; simp)
       have h358 := (k353 _ no116 (by rw [h342]; simp)).trans h342
       have no359 := j354 _ no116 (by rw [h342]; simp)
       have h360 := (k353 _ no173 (by rw [h343]; simp)).trans h343
       have no361 := j354 _ no173 (by rw [h343]; simp)
       have sp363 := Own.sep o346 (Sep.symm sp119) j354
       have o362 := Own.stay o346 (Sep.symm sp119) k353
       refine AOps.cons rfl rfl (AOp.fieldAddr rfl s110 fl_38_0 ?_ (hid := ⟨_, h358⟩))
       refine AOps.cons rfl rfl (AOp.storeO (cells' := [v349, w18_1, .sl ((weaveR (R_rate_Sides p.aP s.Unit)).2.1).length (((weaveR (R_rate_Sides p.aP s.Unit)).2.1).flatMap eI3)]) rfl rfl o355 ts_34 h358 rfl rfl ?_)
       intro H364 h365 k366
       have h367 := keep k366 e92 h356
       have h369 := keep k366 (Ne.symm e168) h360
       have o370 := Own.keep o362 k366 no118
       have o371 := Own.keep o355 k366 no359
       have m372 := Mono.set m352 z93 k366
       refine AOps.nil ?_
       change AWP _ _ _ _ _ _
       refine AWP.region (l := [0, 1, 2, 3, 4, 5, 6, 7]) rfl ?_
       refine AOps.cons rfl rfl (AOp.fieldAddr rfl s110 fl_38_1 ?_ (hid := ⟨_, h365⟩))
       refine AOps.cons rfl rfl (AOp.load (w18_1) rfl rfl ty_35 h365 rfl ?_)
       refine AOps.cons rfl rfl (AOp.fieldAddr rfl rfl fl_78_2 ?_ (hid := ⟨_, h369⟩))
       refine AOps.cons rfl rfl (AOp.load (.agg [.int .i64 (((R_mesh_vertex p cage id (R_rate_Sides p.aP s.Unit) (maxL (R_rate_Sides p.aP s.Unit)) (at_ ((weaveR (R_rate_Sides p.aP s.Unit)).1) i)).key).Kind), .int .i64 (((R_mesh_vertex p cage id (R_rate_Sides p.aP s.Unit) (maxL (R_rate_Sides p.aP s.Unit)) (at_ ((weaveR (R_rate_Sides p.aP s.Unit)).1) i)).key).Of), .int .i64 (((R_mesh_vertex p cage id (R_rate_Sides p.aP s.Unit) (maxL (R_rate_Sides p.aP s.Unit)) (at_ ((weaveR (R_rate_Sides p.aP s.Unit)).1) i)).key).A), .int .i64 (((R_mesh_vertex p cage id (R_rate_Sides p.aP s.Unit) (maxL (R_rate_Sides p.aP s.Unit)) (at_ ((weaveR (R_rate_Sides p.aP s.Unit)).1) i)).key).B), .int .i64 (((R_mesh_vertex p cage id (R_rate_Sides p.aP s.Unit) (maxL (R_rate_Sides p.aP s.Unit)) (at_ ((weaveR (R_rate_Sides p.aP s.Unit)).1) i)).key).N)]) rfl rfl ty_58 h369 rfl ?_)
       refine AOps.cons rfl rfl (AOp.buildSlice (cells := [.int .i64 (((R_mesh_vertex p cage id (R_rate_Sides p.aP s.Unit) (maxL (R_rate_Sides p.aP s.Unit)) (at_ ((weaveR (R_rate_Sides p.aP s.Unit)).1) i)).key).Kind), .int .i64 (((R_mesh_vertex p cage id (R_rate_Sides p.aP s.Unit) (maxL (R_rate_Sides p.aP s.Unit)) (at_ ((weaveR (R_rate_Sides p.aP s.Unit)).1) i)).key).Of), .int .i64 (((R_mesh_vertex p cage id (R_rate_Sides p.aP s.Unit) (maxL (R_rate_Sides p.aP s.Unit)) (at_ ((weaveR (R_rate_Sides p.aP s.Unit)).1) i)).key).A), .int .i64 (((R_mesh_vertex p cage id (R_rate_Sides p.aP s.Unit) (maxL (R_rate_Sides p.aP s.Unit)) (at_ ((weaveR (R_rate_Sides p.aP s.Unit)).1) i)).key).B), .int .i64 (((R_mesh_vertex p cage id (R_rate_Sides p.aP s.Unit) (maxL (R_rate_Sides p.aP s.Unit)) (at_ ((weaveR (R_rate_Sides p.aP s.Unit)).1) i)).key).N)]) rfl u_35 ts_58 tz_58 rfl rfl rfl ?_)
       intro i373 H374 n375 h376 k377
       have e378 := ne_new h367 n375
       have e379 := ne_new h369 n375
       have e380 := ne_new h365 n375
       have z381 := Mono.free m372 n375
       have h382 := keep k377 (ne_new h367 n375) h367
       have h383 := keep k377 (ne_new h369 n375) h369
       have h384 := keep k377 (ne_new h365 n375) h365
       have o385 := Own.keep o370 k377 (Own.notnew o370 n375)
       have no386 := Own.notnew o370 n375
       have o387 := Own.keep o371 k377 (Own.notnew o371 n375)
       have no388 := Own.notnew o371 n375
       have m389 := Mono.new m372 n375 k377
       refine AOps.cons rfl rfl (AOp.append_own (es := 5) (m := 1) (len := ((((weaveR (R_rate_Sides p.aP s.Unit)).1.take i.toNat).map (kD p cage id s)).length)) (old := (((weaveR (R_rate_Sides p.aP s.Unit)).1.take i.toNat).map (kD p cage id s)).flatMap eKey) (cells := [.int .i64 (((R_mesh_vertex p cage id (R_rate_Sides p.aP s.Unit) (maxL (R_rate_Sides p.aP s.Unit)) (at_ ((weaveR (R_rate_Sides p.aP s.Unit)).1) i)).key).Kind), .int .i64 (((R_mesh_vertex p cage id (R_rate_Sides p.aP s.Unit) (maxL (R_rate_Sides p.aP s.Unit)) (at_ ((weaveR (R_rate_Sides p.aP s.Unit)).1) i)).key).Of), .int .i64 (((R_mesh_vertex p cage id (R_rate_Sides p.aP s.Unit) (maxL (R_rate_Sides p.aP s.Unit)) (at_ ((weaveR (R_rate_Sides p.aP s.Unit)).1) i)).key).A), .int .i64 (((R_mesh_vertex p cage id (R_rate_Sides p.aP s.Unit) (maxL (R_rate_Sides p.aP s.Unit)) (at_ ((weaveR (R_rate_Sides p.aP s.Unit)).1) i)).key).B), .int .i64 (((R_mesh_vertex p cage id (R_rate_Sides p.aP s.Unit) (maxL (R_rate_Sides p.aP s.Unit)) (at_ ((weaveR (R_rate_Sides p.aP s.Unit)).1) i)).key).N)]) rfl u_35 ts_58 tzn_58 tb_58 (by decide) ni_35 rfl o385 m389 rfl (.slm h376 rfl) (one_of rfl) (by decide) (by first | omega | (simp; omega)) ?_)
       intro v390 H391 o392 m393 k394 j395
       have o396 := Own.snocM (xs := ((((weaveR (R_rate_Sides p.aP s.Unit)).1.take i.toNat).map (kD p cage id s)) : List KeyT)) (y := ((R_mesh_vertex p cage id (R_rate_Sides p.aP s.Unit) (maxL (R_rate_Sides p.aP s.Unit)) (at_ ((weaveR (R_rate_Sides p.aP s.Unit)).1) i)).key)) (e := eKey) (by simp) o392
       have h397 := (k394 _ no117 (by rw [h382]; simp)).trans h382
       have no398 := j395 _ no117 (by rw [h382]; simp)
       have h399 := (k394 _ no175 (by rw [h383]; simp)).trans h383
       have no400 := j395 _ no175 (by rw [h383]; simp)
       have h401 := (k394 _ no118 (by rw [h384]; simp)).trans h384
       have no402 := j395 _ no118 (by rw [h384]; simp)
       have sp404 := Own.sep o387 (Sep.symm sp363) j395
       have o403 := Own.stay o387 (Sep.symm sp363) k394
       refine AOps.cons rfl rfl (AOp.fieldAddr rfl s110 fl_38_1 ?_ (hid := ⟨_, h401⟩))
       refine AOps.cons rfl rfl (AOp.storeO (cells' := [v349, v390, .sl ((weaveR (R_rate_Sides p.aP s.Unit)).2.1).length (((weaveR (R_rate_Sides p.aP s.Unit)).2.1).flatMap eI3)]) rfl rfl o396 ts_35 h401 rfl rfl ?_)
       intro H405 h406 k407
       have h408 := keep k407 e92 h397
       have h409 := keep k407 (Ne.symm e168) h399
       have o411 := Own.keep o403 k407 no359
       have o412 := Own.keep o396 k407 no402
       have m413 := Mono.set m393 z93 k407
       refine AOps.nil ?_
       change AWP _ _ _ _ _ _
       refine AWP.region (l := [0, 1]) rfl ?_
       refine AOps.cons rfl rfl (AOp.bin (.int .i64 (i + 1)) rfl s105 rfl (iadd (by omega)) ?_)
       refine AOps.cons rfl rfl (AOp.move (.int .i64 (i + 1)) rfl rfl ?_)
       refine AOps.nil ?_
       exact ⟨_, by omega, i + 1, v349, v390, rfl, rfl, s106, s107, s108, s109, s110, s111, s112, (have hx : (((((weaveR (R_rate_Sides p.aP s.Unit)).1.take i.toNat).map (fD p cage id s texs)) ++ [((R_mesh_vertex p cage id (R_rate_Sides p.aP s.Unit) (maxL (R_rate_Sides p.aP s.Unit)) (at_ ((weaveR (R_rate_Sides p.aP s.Unit)).1) i)).atF)]) : List VT) = ((weaveR (R_rate_Sides p.aP s.Unit)).1.take (i + 1).toNat).map (fD p cage id s texs) := (by exact map_step hi0 (by omega) (fD_of hpl)); Own.re o411 (congrArg List.length hx) (congrArg (fun l : List VT => l.flatMap eV) hx)), (have hx : (((((weaveR (R_rate_Sides p.aP s.Unit)).1.take i.toNat).map (kD p cage id s)) ++ [((R_mesh_vertex p cage id (R_rate_Sides p.aP s.Unit) (maxL (R_rate_Sides p.aP s.Unit)) (at_ ((weaveR (R_rate_Sides p.aP s.Unit)).1) i)).key)]) : List KeyT) = ((weaveR (R_rate_Sides p.aP s.Unit)).1.take (i + 1).toNat).map (kD p cage id s) := (by exact map_step hi0 (by omega) rfl); Own.re o412 (congrArg List.length hx) (congrArg (fun l : List KeyT => l.flatMap eKey) hx)), no357, no359, no398, no402, sp404, h408, h406, m413, by omega, by omega, by exact fa_step pre (by rw [hpl]; rfl)⟩
     ·
      refine AOps.no rfl rfl rfl rfl rfl rfl rfl (ble_of (decide_eq_false b186) (by decide)) ?_
      refine AOps.no rfl rfl rfl rfl rfl rfl rfl (ble_of (decide_eq_false b186) (by decide)) ?_
      refine AOps.no rfl rfl rfl rfl rfl rfl rfl (ble_of (decide_eq_false b186) (by decide)) ?_
      refine AOps.cons rfl rfl (AOp.pickF (.bool false) rfl rfl (decide_eq_false b186) rfl ?_)
      refine AOps.nil ?_
      change AWP _ _ _ _ _ _
      refine AWP.condF rfl rfl ?_
      refine AWP.skip ?_
      change AWP _ _ _ _ _ _
      refine AWP.seq ?_
      have hpl : plT s texs (vtxD p cage id s (at_ (weaveR (R_rate_Sides p.aP s.Unit)).1 i)) = some ((R_mesh_vertex p cage id (R_rate_Sides p.aP s.Unit) (maxL (R_rate_Sides p.aP s.Unit)) (at_ ((weaveR (R_rate_Sides p.aP s.Unit)).1) i)).atF) := by unfold plT vtxD; rw [if_neg (by omega)] <;> rfl
      have hq1 : (((weaveR (R_rate_Sides p.aP s.Unit)).1.take i.toNat).map (fD p cage id s texs)).length ≤ 400 := by simp only [List.length_map, List.length_take]; omega
      have hq2 : (((weaveR (R_rate_Sides p.aP s.Unit)).1.take i.toNat).map (kD p cage id s)).length ≤ 400 := by simp only [List.length_map, List.length_take]; omega
      refine AWP.region (l := [0, 1, 2, 3, 4, 5, 6, 7]) rfl ?_
      refine AOps.cons rfl rfl (AOp.fieldAddr rfl s110 fl_38_0 ?_ (hid := ⟨_, h181⟩))
      refine AOps.cons rfl rfl (AOp.load (w18_0) rfl rfl ty_34 h181 rfl ?_)
      refine AOps.cons rfl rfl (AOp.fieldAddr rfl rfl fl_78_0 ?_ (hid := ⟨_, h178⟩))
      refine AOps.cons rfl rfl (AOp.load (.agg [.int .i64 (((R_mesh_vertex p cage id (R_rate_Sides p.aP s.Unit) (maxL (R_rate_Sides p.aP s.Unit)) (at_ ((weaveR (R_rate_Sides p.aP s.Unit)).1) i)).atF).X), .int .i64 (((R_mesh_vertex p cage id (R_rate_Sides p.aP s.Unit) (maxL (R_rate_Sides p.aP s.Unit)) (at_ ((weaveR (R_rate_Sides p.aP s.Unit)).1) i)).atF).Y), .int .i64 (((R_mesh_vertex p cage id (R_rate_Sides p.aP s.Unit) (maxL (R_rate_Sides p.aP s.Unit)) (at_ ((weaveR (R_rate_Sides p.aP s.Unit)).1) i)).atF).Z)]) rfl rfl ty_23 h178 rfl ?_)
      refine AOps.cons rfl rfl (AOp.buildSlice (cells := [.int .i64 (((R_mesh_vertex p cage id (R_rate_Sides p.aP s.Unit) (maxL (R_rate_Sides p.aP s.Unit)) (at_ ((weaveR (R_rate_Sides p.aP s.Unit)).1) i)).atF).X), .int .i64 (((R_mesh_vertex p cage id (R_rate_Sides p.aP s.Unit) (maxL (R_rate_Sides p.aP s.Unit)) (at_ ((weaveR (R_rate_Sides p.aP s.Unit)).1) i)).atF).Y), .int .i64 (((R_mesh_vertex p cage id (R_rate_Sides p.aP s.Unit) (maxL (R_rate_Sides p.aP s.Unit)) (at_ ((weaveR (R_rate_Sides p.aP s.Unit)).1) i)).atF).Z)]) rfl u_34 ts_23 tz_23 rfl rfl rfl ?_)
      intro i414 H415 n416 h417 k418
      have e419 := ne_new h180 n416
      have e420 := ne_new h181 n416
      have e421 := ne_new h178 n416
      have z422 := Mono.free m185 n416
      have h423 := keep k418 (ne_new h180 n416) h180
      have h424 := keep k418 (ne_new h181 n416) h181
      have h425 := keep k418 (ne_new h178 n416) h178
      have o426 := Own.keep o183 k418 (Own.notnew o183 n416)
      have no427 := Own.notnew o183 n416
      have o428 := Own.keep o184 k418 (Own.notnew o184 n416)
      have no429 := Own.notnew o184 n416
      have m430 := Mono.new m185 n416 k418
      refine AOps.cons rfl rfl (AOp.append_own (es := 3) (m := 1) (len := ((((weaveR (R_rate_Sides p.aP s.Unit)).1.take i.toNat).map (fD p cage id s texs)).length)) (old := (((weaveR (R_rate_Sides p.aP s.Unit)).1.take i.toNat).map (fD p cage id s texs)).flatMap eV) (cells := [.int .i64 (((R_mesh_vertex p cage id (R_rate_Sides p.aP s.Unit) (maxL (R_rate_Sides p.aP s.Unit)) (at_ ((weaveR (R_rate_Sides p.aP s.Unit)).1) i)).atF).X), .int .i64 (((R_mesh_vertex p cage id (R_rate_Sides p.aP s.Unit) (maxL (R_rate_Sides p.aP s.Unit)) (at_ ((weaveR (R_rate_Sides p.aP s.Unit)).1) i)).atF).Y), .int .i64 (((R_mesh_vertex p cage id (R_rate_Sides p.aP s.Unit) (maxL (R_rate_Sides p.aP s.Unit)) (at_ ((weaveR (R_rate_Sides p.aP s.Unit)).1) i)).atF).Z)]) rfl u_34 ts_23 tzn_23 tb_23 (by decide) ni_34 rfl o426 m430 rfl (.slm h417 rfl) (one_of rfl) (by decide) (by first | omega | (simp; omega)) ?_)
      intro v431 H432 o433 m434 k435 j436
      have o437 := Own.snocM (xs := ((((weaveR (R_rate_Sides p.aP s.Unit)).1.take i.toNat).map (fD p cage id s texs)) : List VT)) (y := ((R_mesh_vertex p cage id (R_rate_Sides p.aP s.Unit) (maxL (R_rate_Sides p.aP s.Unit)) (at_ ((weaveR (R_rate_Sides p.aP s.Unit)).1) i)).atF)) (e := eV) (by simp) o433
      have h438 := (k435 _ no115 (by rw [h423]; simp)).trans h423
      have no439 := j436 _ no115 (by rw [h423]; simp)
      have h440 := (k435 _ no116 (by rw [h424]; simp)).trans h424
      have no441 := j436 _ no116 (by rw [h424]; simp)
      have h442 := (k435 _ no173 (by rw [h425]; simp)).trans h425
      have no443 := j436 _ no173 (by rw [h425]; simp)
      have sp445 := Own.sep o428 (Sep.symm sp119) j436
      have o444 := Own.stay o428 (Sep.symm sp119) k435
      refine AOps.cons rfl rfl (AOp.fieldAddr rfl s110 fl_38_0 ?_ (hid := ⟨_, h440⟩))
      refine AOps.cons rfl rfl (AOp.storeO (cells' := [v431, w18_1, .sl ((weaveR (R_rate_Sides p.aP s.Unit)).2.1).length (((weaveR (R_rate_Sides p.aP s.Unit)).2.1).flatMap eI3)]) rfl rfl o437 ts_34 h440 rfl rfl ?_)
      intro H446 h447 k448
      have h449 := keep k448 e92 h438
      have h451 := keep k448 (Ne.symm e168) h442
      have o452 := Own.keep o444 k448 no118
      have o453 := Own.keep o437 k448 no441
      have m454 := Mono.set m434 z93 k448
      refine AOps.nil ?_
      change AWP _ _ _ _ _ _
      refine AWP.region (l := [0, 1, 2, 3, 4, 5, 6, 7]) rfl ?_
      refine AOps.cons rfl rfl (AOp.fieldAddr rfl s110 fl_38_1 ?_ (hid := ⟨_, h447⟩))
      refine AOps.cons rfl rfl (AOp.load (w18_1) rfl rfl ty_35 h447 rfl ?_)
      refine AOps.cons rfl rfl (AOp.fieldAddr rfl rfl fl_78_2 ?_ (hid := ⟨_, h451⟩))
      refine AOps.cons rfl rfl (AOp.load (.agg [.int .i64 (((R_mesh_vertex p cage id (R_rate_Sides p.aP s.Unit) (maxL (R_rate_Sides p.aP s.Unit)) (at_ ((weaveR (R_rate_Sides p.aP s.Unit)).1) i)).key).Kind), .int .i64 (((R_mesh_vertex p cage id (R_rate_Sides p.aP s.Unit) (maxL (R_rate_Sides p.aP s.Unit)) (at_ ((weaveR (R_rate_Sides p.aP s.Unit)).1) i)).key).Of), .int .i64 (((R_mesh_vertex p cage id (R_rate_Sides p.aP s.Unit) (maxL (R_rate_Sides p.aP s.Unit)) (at_ ((weaveR (R_rate_Sides p.aP s.Unit)).1) i)).key).A), .int .i64 (((R_mesh_vertex p cage id (R_rate_Sides p.aP s.Unit) (maxL (R_rate_Sides p.aP s.Unit)) (at_ ((weaveR (R_rate_Sides p.aP s.Unit)).1) i)).key).B), .int .i64 (((R_mesh_vertex p cage id (R_rate_Sides p.aP s.Unit) (maxL (R_rate_Sides p.aP s.Unit)) (at_ ((weaveR (R_rate_Sides p.aP s.Unit)).1) i)).key).N)]) rfl rfl ty_58 h451 rfl ?_)
      refine AOps.cons rfl rfl (AOp.buildSlice (cells := [.int .i64 (((R_mesh_vertex p cage id (R_rate_Sides p.aP s.Unit) (maxL (R_rate_Sides p.aP s.Unit)) (at_ ((weaveR (R_rate_Sides p.aP s.Unit)).1) i)).key).Kind), .int .i64 (((R_mesh_vertex p cage id (R_rate_Sides p.aP s.Unit) (maxL (R_rate_Sides p.aP s.Unit)) (at_ ((weaveR (R_rate_Sides p.aP s.Unit)).1) i)).key).Of), .int .i64 (((R_mesh_vertex p cage id (R_rate_Sides p.aP s.Unit) (maxL (R_rate_Sides p.aP s.Unit)) (at_ ((weaveR (R_rate_Sides p.aP s.Unit)).1) i)).key).A), .int .i64 (((R_mesh_vertex p cage id (R_rate_Sides p.aP s.Unit) (maxL (R_rate_Sides p.aP s.Unit)) (at_ ((weaveR (R_rate_Sides p.aP s.Unit)).1) i)).key).B), .int .i64 (((R_mesh_vertex p cage id (R_rate_Sides p.aP s.Unit) (maxL (R_rate_Sides p.aP s.Unit)) (at_ ((weaveR (R_rate_Sides p.aP s.Unit)).1) i)).key).N)]) rfl u_35 ts_58 tz_58 rfl rfl rfl ?_)
      intro i455 H456 n457 h458 k459
      have e460 := ne_new h449 n457
      have e461 := ne_new h451 n457
      have e462 := ne_new h447 n457
      have z463 := Mono.free m454 n457
      have h464 := keep k459 (ne_new h449 n457) h449
      have h465 := keep k459 (ne_new h451 n457) h451
      have h466 := keep k459 (ne_new h447 n457) h447
      have o467 := Own.keep o452 k459 (Own.notnew o452 n457)
      have no468 := Own.notnew o452 n457
      have o469 := Own.keep o453 k459 (Own.notnew o453 n457)
      have no470 := Own.notnew o453 n457
      have m471 := Mono.new m454 n457 k459
      refine AOps.cons rfl rfl (AOp.append_own (es := 5) (m := 1) (len := ((((weaveR (R_rate_Sides p.aP s.Unit)).1.take i.toNat).map (kD p cage id s)).length)) (old := (((weaveR (R_rate_Sides p.aP s.Unit)).1.take i.toNat).map (kD p cage id s)).flatMap eKey) (cells := [.int .i64 (((R_mesh_vertex p cage id (R_rate_Sides p.aP s.Unit) (maxL (R_rate_Sides p.aP s.Unit)) (at_ ((weaveR (R_rate_Sides p.aP s.Unit)).1) i)).key).Kind), .int .i64 (((R_mesh_vertex p cage id (R_rate_Sides p.aP s.Unit) (maxL (R_rate_Sides p.aP s.Unit)) (at_ ((weaveR (R_rate_Sides p.aP s.Unit)).1) i)).key).Of), .int .i64 (((R_mesh_vertex p cage id (R_rate_Sides p.aP s.Unit) (maxL (R_rate_Sides p.aP s.Unit)) (at_ ((weaveR (R_rate_Sides p.aP s.Unit)).1) i)).key).A), .int .i64 (((R_mesh_vertex p cage id (R_rate_Sides p.aP s.Unit) (maxL (R_rate_Sides p.aP s.Unit)) (at_ ((weaveR (R_rate_Sides p.aP s.Unit)).1) i)).key).B), .int .i64 (((R_mesh_vertex p cage id (R_rate_Sides p.aP s.Unit) (maxL (R_rate_Sides p.aP s.Unit)) (at_ ((weaveR (R_rate_Sides p.aP s.Unit)).1) i)).key).N)]) rfl u_35 ts_58 tzn_58 tb_58 (by decide) ni_35 rfl o467 m471 rfl (.slm h458 rfl) (one_of rfl) (by decide) (by first | omega | (simp; omega)) ?_)
      intro v472 H473 o474 m475 k476 j477
      have o478 := Own.snocM (xs := ((((weaveR (R_rate_Sides p.aP s.Unit)).1.take i.toNat).map (kD p cage id s)) : List KeyT)) (y := ((R_mesh_vertex p cage id (R_rate_Sides p.aP s.Unit) (maxL (R_rate_Sides p.aP s.Unit)) (at_ ((weaveR (R_rate_Sides p.aP s.Unit)).1) i)).key)) (e := eKey) (by simp) o474
      have h479 := (k476 _ no117 (by rw [h464]; simp)).trans h464
      have no480 := j477 _ no117 (by rw [h464]; simp)
      have h481 := (k476 _ no175 (by rw [h465]; simp)).trans h465
      have no482 := j477 _ no175 (by rw [h465]; simp)
      have h483 := (k476 _ no118 (by rw [h466]; simp)).trans h466
      have no484 := j477 _ no118 (by rw [h466]; simp)
      have sp486 := Own.sep o469 (Sep.symm sp445) j477
      have o485 := Own.stay o469 (Sep.symm sp445) k476
      refine AOps.cons rfl rfl (AOp.fieldAddr rfl s110 fl_38_1 ?_ (hid := ⟨_, h483⟩))
      refine AOps.cons rfl rfl (AOp.storeO (cells' := [v431, v472, .sl ((weaveR (R_rate_Sides p.aP s.Unit)).2.1).length (((weaveR (R_rate_Sides p.aP s.Unit)).2.1).flatMap eI3)]) rfl rfl o478 ts_35 h483 rfl rfl ?_)
      intro H487 h488 k489
      have h490 := keep k489 e92 h479
      have h491 := keep k489 (Ne.symm e168) h481
      have o493 := Own.keep o485 k489 no441
      have o494 := Own.keep o478 k489 no484
      have m495 := Mono.set m475 z93 k489
      refine AOps.nil ?_
      change AWP _ _ _ _ _ _
      refine AWP.region (l := [0, 1]) rfl ?_
      refine AOps.cons rfl rfl (AOp.bin (.int .i64 (i + 1)) rfl s105 rfl (iadd (by omega)) ?_)
      refine AOps.cons rfl rfl (AOp.move (.int .i64 (i + 1)) rfl rfl ?_)
      refine AOps.nil ?_
      exact ⟨_, by omega, i + 1, v431, v472, rfl, rfl, s106, s107, s108, s109, s110, s111, s112, (have hx : (((((weaveR (R_rate_Sides p.aP s.Unit)).1.take i.toNat).map (fD p cage id s texs)) ++ [((R_mesh_vertex p cage id (R_rate_Sides p.aP s.Unit) (maxL (R_rate_Sides p.aP s.Unit)) (at_ ((weaveR (R_rate_Sides p.aP s.Unit)).1) i)).atF)]) : List VT) = ((weaveR (R_rate_Sides p.aP s.Unit)).1.take (i + 1).toNat).map (fD p cage id s texs) := (by exact map_step hi0 (by omega) (fD_of hpl)); Own.re o493 (congrArg List.length hx) (congrArg (fun l : List VT => l.flatMap eV) hx)), (have hx : (((((weaveR (R_rate_Sides p.aP s.Unit)).1.take i.toNat).map (kD p cage id s)) ++ [((R_mesh_vertex p cage id (R_rate_Sides p.aP s.Unit) (maxL (R_rate_Sides p.aP s.Unit)) (at_ ((weaveR (R_rate_Sides p.aP s.Unit)).1) i)).key)]) : List KeyT) = ((weaveR (R_rate_Sides p.aP s.Unit)).1.take (i + 1).toNat).map (kD p cage id s) := (by exact map_step hi0 (by omega) rfl); Own.re o494 (congrArg List.length hx) (congrArg (fun l : List KeyT => l.flatMap eKey) hx)), no439, no441, no480, no484, sp486, h490, h488, m495, by omega, by omega, by exact fa_step pre (by rw [hpl]; rfl)⟩
    ·
     refine AWP.condF rfl (decide_eq_false b123) ?_
     refine AWP.exit ?_
     change AWP _ _ _ _ _ _
     refine AWP.seq ?_
     refine AWP.region (l := [0, 1, 2]) rfl ?_
     refine AOps.cons rfl rfl (AOp.load (.agg [w18_0, w18_1, .sl ((weaveR (R_rate_Sides p.aP s.Unit)).2.1).length (((weaveR (R_rate_Sides p.aP s.Unit)).2.1).flatMap eI3)]) rfl s110 ty_38 h121 rfl ?_)
     refine AOps.cons rfl rfl (AOp.store' (cells' := [w18_0, w18_1, .sl ((weaveR (R_rate_Sides p.aP s.Unit)).2.1).length (((weaveR (R_rate_Sides p.aP s.Unit)).2.1).flatMap eI3)]) (.agg [w18_0, w18_1, .sl ((weaveR (R_rate_Sides p.aP s.Unit)).2.1).length (((weaveR (R_rate_Sides p.aP s.Unit)).2.1).flatMap eI3)]) s108 rfl ts_38 h120 (by simp only [AV.cells, List.all_cons, List.all_nil, Own.one_ o113, Own.one_ o114]; rfl) rfl rfl rfl ?_)
     intro H496 h497 k498
     have h500 := keep k498 (Ne.symm e92) h121
     have o501 := Own.keep o113 k498 no115
     have o502 := Own.keep o114 k498 no117
     have m503 := Mono.set m122 z24 k498
     refine AOps.cons rfl rfl (AOp.assign (.int .i64 0) rfl rfl ?_)
     refine AOps.nil ?_
     change AWP _ _ _ _ _ _
     refine AWP.ret ?_
     refine Fin.frzCell 0 o501 h497 z24 rfl no115 m503 fun H504 h505 m506 k507 => ?_
     have h508 := (k507 _ (Ne.symm e92) no116).trans h500
     have o509 := Own.stay2 o502 (Sep.symm sp119) no117 k507
     have h510 : H504 i17 = some (.row 0 ([.sl (((weaveR (R_rate_Sides p.aP s.Unit)).1.take i.toNat).map (fD p cage id s texs)).length ((((weaveR (R_rate_Sides p.aP s.Unit)).1.take i.toNat).map (fD p cage id s texs)).flatMap eV), w18_1, .sl ((weaveR (R_rate_Sides p.aP s.Unit)).2.1).length (((weaveR (R_rate_Sides p.aP s.Unit)).2.1).flatMap eI3)])) := h505
     refine Fin.frzCell 1 o509 h510 z24 rfl no117 m506 fun H511 h512 m513 k514 => ?_
     have h515 := (k514 _ (Ne.symm e92) no118).trans h508
     have h516 : H511 i17 = some (.row 0 ([.sl (((weaveR (R_rate_Sides p.aP s.Unit)).1.take i.toNat).map (fD p cage id s texs)).length ((((weaveR (R_rate_Sides p.aP s.Unit)).1.take i.toNat).map (fD p cage id s texs)).flatMap eV), .sl (((weaveR (R_rate_Sides p.aP s.Unit)).1.take i.toNat).map (kD p cage id s)).length ((((weaveR (R_rate_Sides p.aP s.Unit)).1.take i.toNat).map (kD p cage id s)).flatMap eKey), .sl ((weaveR (R_rate_Sides p.aP s.Unit)).2.1).length (((weaveR (R_rate_Sides p.aP s.Unit)).2.1).flatMap eI3)])) := h512
     refine ⟨_, _, Ghost.refl, .inr rfl, _, Res.list rfl rfl (.cell (v := .agg [.sl (((weaveR (R_rate_Sides p.aP s.Unit)).1.take i.toNat).map (fD p cage id s texs)).length ((((weaveR (R_rate_Sides p.aP s.Unit)).1.take i.toNat).map (fD p cage id s texs)).flatMap eV), .sl (((weaveR (R_rate_Sides p.aP s.Unit)).1.take i.toNat).map (kD p cage id s)).length ((((weaveR (R_rate_Sides p.aP s.Unit)).1.take i.toNat).map (kD p cage id s)).flatMap eKey), .sl ((weaveR (R_rate_Sides p.aP s.Unit)).2.1).length (((weaveR (R_rate_Sides p.aP s.Unit)).2.1).flatMap eI3)]) s108 ty_38 h516 rfl (.tmp rfl (.nil))), ?_, m513⟩
     exact congrArg AV.tup (lc (congrArg AV.agg (lc (congrArg (fun l : List VT => AV.sl l.length (l.flatMap eV)) (show ((((weaveR (R_rate_Sides p.aP s.Unit)).1.take i.toNat).map (fD p cage id s texs)) : List VT) = (((diceR p cage id s texs).1).Verts) from by first | (exfalso; omega) | rw [dice_ok h0 (by omega) pre])) (lc (congrArg (fun l : List KeyT => AV.sl l.length (l.flatMap eKey)) (show ((((weaveR (R_rate_Sides p.aP s.Unit)).1.take i.toNat).map (kD p cage id s)) : List KeyT) = (((diceR p cage id s texs).1).Keys) from by first | (exfalso; omega) | rw [dice_ok h0 (by omega) pre])) (lc (congrArg (fun l : List I3T => AV.sl l.length (l.flatMap eI3)) (show ((weaveR (R_rate_Sides p.aP s.Unit)).2.1 : List I3T) = (((diceR p cage id s texs).1).Tris) from by first | (exfalso; omega) | rw [dice_ok h0 (by omega) pre])) rfl)))) (lc (congrArg (AV.int .i64) (show (0 : Int) = (diceR p cage id s texs).2 from by first | (exfalso; omega) | rw [dice_ok h0 (by omega) pre])) rfl))
  ·
   refine AWP.condT rfl (nb (decide_eq_false b42)) ?_
   refine AWP.seq ?_
   refine AWP.region (l := [0, 1, 2, 3]) rfl ?_
   refine AOps.cons rfl rfl (AOp.build (cells := [.snil, .snil, .snil]) rfl tz_38 pl_38 rfl rfl ?_)
   refine AOps.cons rfl rfl (AOp.move (.int .i64 (R_mesh_fine p s)) rfl rfl ?_)
   refine AOps.cons rfl rfl (AOp.store' (cells' := [.snil, .snil, .snil]) (.agg [.snil, .snil, .snil]) rfl rfl ts_38 h39 rfl rfl rfl rfl ?_)
   intro H517 h518 k519
   have m521 := Mono.set m40 z24 k519
   refine AOps.cons rfl rfl (AOp.assign (.int .i64 (R_mesh_fine p s)) rfl rfl ?_)
   refine AOps.nil ?_
   change AWP _ _ _ _ _ _
   refine AWP.ret ?_
   refine Fin.frzCell 0 (Own.nil H0 H517 1) h518 z24 rfl (NotId.nil _) m521 fun H522 h523 m524 k525 => ?_
   have h526 : H522 i17 = some (.row 0 ([.sl 0 ([]), .snil, .snil])) := h523
   refine Fin.frzCell 1 (Own.nil H0 H522 1) h526 z24 rfl (NotId.nil _) m524 fun H527 h528 m529 k530 => ?_
   have h531 : H527 i17 = some (.row 0 ([.sl 0 ([]), .sl 0 ([]), .snil])) := h528
   refine Fin.frzCell 2 (Own.nil H0 H527 1) h531 z24 rfl (NotId.nil _) m529 fun H532 h533 m534 k535 => ?_
   have h536 : H532 i17 = some (.row 0 ([.sl 0 ([]), .sl 0 ([]), .sl 0 ([])])) := h533
   refine ⟨_, _, Ghost.refl, .inr rfl, _, Res.list rfl rfl (.cell (v := .agg [.sl 0 ([]), .sl 0 ([]), .sl 0 ([])]) rfl ty_38 h536 rfl (.tmp rfl (.nil))), ?_, m534⟩
   exact congrArg AV.tup (lc (congrArg AV.agg (lc (congrArg (fun l : List VT => AV.sl l.length (l.flatMap eV)) (show ([] : List VT) = (((diceR p cage id s texs).1).Verts) from by first | (exfalso; omega) | (rw [dice_err (e := R_mesh_fine p s) (by unfold errD; split <;> omega) (by omega)] <;> rfl))) (lc (congrArg (fun l : List KeyT => AV.sl l.length (l.flatMap eKey)) (show ([] : List KeyT) = (((diceR p cage id s texs).1).Keys) from by first | (exfalso; omega) | (rw [dice_err (e := R_mesh_fine p s) (by unfold errD; split <;> omega) (by omega)] <;> rfl))) (lc (congrArg (fun l : List I3T => AV.sl l.length (l.flatMap eI3)) (show ([] : List I3T) = (((diceR p cage id s texs).1).Tris) from by first | (exfalso; omega) | (rw [dice_err (e := R_mesh_fine p s) (by unfold errD; split <;> omega) (by omega)] <;> rfl))) rfl)))) (lc (congrArg (AV.int .i64) (show (R_mesh_fine p s : Int) = (diceR p cage id s texs).2 from by first | (exfalso; omega) | (rw [dice_err (e := R_mesh_fine p s) (by unfold errD; split <;> omega) (by omega)] <;> rfl))) rfl))
 ·
  refine AOps.yes rfl rfl rfl rfl rfl rfl rfl (nb (decide_eq_false b41)) (AOp.fieldAddrF rfl rfl fl_30_4 ?_)
  refine AOps.yes rfl rfl rfl rfl rfl rfl rfl (nb (decide_eq_false b41)) (AOp.loadF (.int .i64 s.Tex) rfl rfl ty_3 rfl ?_)
  refine AOps.yes rfl rfl rfl rfl rfl rfl rfl (nb (decide_eq_false b41)) (AOp.bin (.bool (decide (s.Tex < -1))) rfl rfl rfl rfl ?_)
  refine AOps.yes rfl rfl rfl rfl rfl rfl rfl (nb (decide_eq_false b41)) (AOp.move (.bool (decide (s.Tex < -1))) rfl rfl ?_)
  by_cases b537 : s.Tex < -1
  ·
   refine AOps.no rfl rfl rfl rfl rfl rfl rfl (ble_of (decide_eq_true b537) (by decide)) ?_
   refine AOps.no rfl rfl rfl rfl rfl rfl rfl (ble_of (decide_eq_true b537) (by decide)) ?_
   refine AOps.no rfl rfl rfl rfl rfl rfl rfl (ble_of (decide_eq_true b537) (by decide)) ?_
   refine AOps.no rfl rfl rfl rfl rfl rfl rfl (ble_of (decide_eq_true b537) (by decide)) ?_
   refine AOps.no rfl rfl rfl rfl rfl rfl rfl (ble_of (decide_eq_true b537) (by decide)) ?_
   refine AOps.yes rfl rfl rfl rfl rfl rfl rfl (nb (decide_eq_false b41)) (AOp.pickT (.bool true) rfl rfl (decide_eq_true b537) rfl ?_)
   refine AOps.cons rfl rfl (AOp.pickT (.bool true) rfl rfl (nb (decide_eq_false b41)) rfl ?_)
   refine AOps.nil ?_
   change AWP _ _ _ _ _ _
   refine AWP.condT rfl rfl ?_
   refine AWP.region (l := [0]) rfl ?_
   refine AOps.cons rfl rfl (AOp.assign (.int .i64 11) rfl rfl ?_)
   refine AOps.nil ?_
   change AWP _ _ _ _ _ _
   refine AWP.seq ?_
   refine AWP.seq ?_
   refine AWP.region (l := [0, 1]) rfl ?_
   refine AOps.cons rfl rfl (AOp.move (.int .i64 11) rfl rfl ?_)
   refine AOps.cons rfl rfl (AOp.bin (.bool (!decide (11 = 0))) rfl rfl rfl ine ?_)
   refine AOps.nil ?_
   change AWP _ _ _ _ _ _
   refine AWP.condT rfl (nb (decide_eq_false (by decide))) ?_
   refine AWP.seq ?_
   refine AWP.region (l := [0, 1, 2, 3]) rfl ?_
   refine AOps.cons rfl rfl (AOp.build (cells := [.snil, .snil, .snil]) rfl tz_38 pl_38 rfl rfl ?_)
   refine AOps.cons rfl rfl (AOp.move (.int .i64 11) rfl rfl ?_)
   refine AOps.cons rfl rfl (AOp.store' (cells' := [.snil, .snil, .snil]) (.agg [.snil, .snil, .snil]) rfl rfl ts_38 h39 rfl rfl rfl rfl ?_)
   intro H538 h539 k540
   have m542 := Mono.set m40 z24 k540
   refine AOps.cons rfl rfl (AOp.assign (.int .i64 11) rfl rfl ?_)
   refine AOps.nil ?_
   change AWP _ _ _ _ _ _
   refine AWP.ret ?_
   refine Fin.frzCell 0 (Own.nil H0 H538 1) h539 z24 rfl (NotId.nil _) m542 fun H543 h544 m545 k546 => ?_
   have h547 : H543 i17 = some (.row 0 ([.sl 0 ([]), .snil, .snil])) := h544
   refine Fin.frzCell 1 (Own.nil H0 H543 1) h547 z24 rfl (NotId.nil _) m545 fun H548 h549 m550 k551 => ?_
   have h552 : H548 i17 = some (.row 0 ([.sl 0 ([]), .sl 0 ([]), .snil])) := h549
   refine Fin.frzCell 2 (Own.nil H0 H548 1) h552 z24 rfl (NotId.nil _) m550 fun H553 h554 m555 k556 => ?_
   have h557 : H553 i17 = some (.row 0 ([.sl 0 ([]), .sl 0 ([]), .sl 0 ([])])) := h554
   refine ⟨_, _, Ghost.refl, .inr rfl, _, Res.list rfl rfl (.cell (v := .agg [.sl 0 ([]), .sl 0 ([]), .sl 0 ([])]) rfl ty_38 h557 rfl (.tmp rfl (.nil))), ?_, m555⟩
   exact congrArg AV.tup (lc (congrArg AV.agg (lc (congrArg (fun l : List VT => AV.sl l.length (l.flatMap eV)) (show ([] : List VT) = (((diceR p cage id s texs).1).Verts) from by first | (exfalso; omega) | (rw [dice_err (e := 11) (by unfold errD; split <;> omega) (by omega)] <;> rfl))) (lc (congrArg (fun l : List KeyT => AV.sl l.length (l.flatMap eKey)) (show ([] : List KeyT) = (((diceR p cage id s texs).1).Keys) from by first | (exfalso; omega) | (rw [dice_err (e := 11) (by unfold errD; split <;> omega) (by omega)] <;> rfl))) (lc (congrArg (fun l : List I3T => AV.sl l.length (l.flatMap eI3)) (show ([] : List I3T) = (((diceR p cage id s texs).1).Tris) from by first | (exfalso; omega) | (rw [dice_err (e := 11) (by unfold errD; split <;> omega) (by omega)] <;> rfl))) rfl)))) (lc (congrArg (AV.int .i64) (show (11 : Int) = (diceR p cage id s texs).2 from by first | (exfalso; omega) | (rw [dice_err (e := 11) (by unfold errD; split <;> omega) (by omega)] <;> rfl))) rfl))
  ·
   refine AOps.yes rfl rfl rfl rfl rfl rfl rfl (decide_eq_false b537) (AOp.fieldAddrF rfl rfl fl_30_4 ?_)
   refine AOps.yes rfl rfl rfl rfl rfl rfl rfl (decide_eq_false b537) (AOp.loadF (.int .i64 s.Tex) rfl rfl ty_3 rfl ?_)
   refine AOps.yes rfl rfl rfl rfl rfl rfl rfl (decide_eq_false b537) (AOp.move (.sl texs.length (texs.flatMap eTex)) rfl rfl ?_)
   refine AOps.yes rfl rfl rfl rfl rfl rfl rfl (decide_eq_false b537) (AOp.len (m := texs.length) rfl rfl (.inr (.inl ⟨_, rfl⟩)) u_31 ?_)
   refine AOps.yes rfl rfl rfl rfl rfl rfl rfl (decide_eq_false b537) (AOp.bin (.bool (decide (s.Tex ≥ (texs.length : Int)))) rfl rfl rfl rfl ?_)
   refine AOps.yes rfl rfl rfl rfl rfl rfl rfl (nb (decide_eq_false b41)) (AOp.pickF (.bool (decide (s.Tex ≥ (texs.length : Int)))) rfl rfl (decide_eq_false b537) rfl ?_)
   refine AOps.cons rfl rfl (AOp.pickT (.bool (decide (s.Tex ≥ (texs.length : Int)))) rfl rfl (nb (decide_eq_false b41)) rfl ?_)
   refine AOps.nil ?_
   change AWP _ _ _ _ _ _
   by_cases b558 : s.Tex ≥ (texs.length : Int)
   ·
    refine AWP.condT rfl (decide_eq_true b558) ?_
    refine AWP.region (l := [0]) rfl ?_
    refine AOps.cons rfl rfl (AOp.assign (.int .i64 11) rfl rfl ?_)
    refine AOps.nil ?_
    change AWP _ _ _ _ _ _
    refine AWP.seq ?_
    refine AWP.seq ?_
    refine AWP.region (l := [0, 1]) rfl ?_
    refine AOps.cons rfl rfl (AOp.move (.int .i64 11) rfl rfl ?_)
    refine AOps.cons rfl rfl (AOp.bin (.bool (!decide (11 = 0))) rfl rfl rfl ine ?_)
    refine AOps.nil ?_
    change AWP _ _ _ _ _ _
    refine AWP.condT rfl (nb (decide_eq_false (by decide))) ?_
    refine AWP.seq ?_
    refine AWP.region (l := [0, 1, 2, 3]) rfl ?_
    refine AOps.cons rfl rfl (AOp.build (cells := [.snil, .snil, .snil]) rfl tz_38 pl_38 rfl rfl ?_)
    refine AOps.cons rfl rfl (AOp.move (.int .i64 11) rfl rfl ?_)
    refine AOps.cons rfl rfl (AOp.store' (cells' := [.snil, .snil, .snil]) (.agg [.snil, .snil, .snil]) rfl rfl ts_38 h39 rfl rfl rfl rfl ?_)
    intro H559 h560 k561
    have m563 := Mono.set m40 z24 k561
    refine AOps.cons rfl rfl (AOp.assign (.int .i64 11) rfl rfl ?_)
    refine AOps.nil ?_
    change AWP _ _ _ _ _ _
    refine AWP.ret ?_
    refine Fin.frzCell 0 (Own.nil H0 H559 1) h560 z24 rfl (NotId.nil _) m563 fun H564 h565 m566 k567 => ?_
    have h568 : H564 i17 = some (.row 0 ([.sl 0 ([]), .snil, .snil])) := h565
    refine Fin.frzCell 1 (Own.nil H0 H564 1) h568 z24 rfl (NotId.nil _) m566 fun H569 h570 m571 k572 => ?_
    have h573 : H569 i17 = some (.row 0 ([.sl 0 ([]), .sl 0 ([]), .snil])) := h570
    refine Fin.frzCell 2 (Own.nil H0 H569 1) h573 z24 rfl (NotId.nil _) m571 fun H574 h575 m576 k577 => ?_
    have h578 : H574 i17 = some (.row 0 ([.sl 0 ([]), .sl 0 ([]), .sl 0 ([])])) := h575
    refine ⟨_, _, Ghost.refl, .inr rfl, _, Res.list rfl rfl (.cell (v := .agg [.sl 0 ([]), .sl 0 ([]), .sl 0 ([])]) rfl ty_38 h578 rfl (.tmp rfl (.nil))), ?_, m576⟩
    exact congrArg AV.tup (lc (congrArg AV.agg (lc (congrArg (fun l : List VT => AV.sl l.length (l.flatMap eV)) (show ([] : List VT) = (((diceR p cage id s texs).1).Verts) from by first | (exfalso; omega) | (rw [dice_err (e := 11) (by unfold errD; split <;> omega) (by omega)] <;> rfl))) (lc (congrArg (fun l : List KeyT => AV.sl l.length (l.flatMap eKey)) (show ([] : List KeyT) = (((diceR p cage id s texs).1).Keys) from by first | (exfalso; omega) | (rw [dice_err (e := 11) (by unfold errD; split <;> omega) (by omega)] <;> rfl))) (lc (congrArg (fun l : List I3T => AV.sl l.length (l.flatMap eI3)) (show ([] : List I3T) = (((diceR p cage id s texs).1).Tris) from by first | (exfalso; omega) | (rw [dice_err (e := 11) (by unfold errD; split <;> omega) (by omega)] <;> rfl))) rfl)))) (lc (congrArg (AV.int .i64) (show (11 : Int) = (diceR p cage id s texs).2 from by first | (exfalso; omega) | (rw [dice_err (e := 11) (by unfold errD; split <;> omega) (by omega)] <;> rfl))) rfl))
   ·
    refine AWP.condF rfl (decide_eq_false b558) ?_
    refine AWP.skip ?_
    change AWP _ _ _ _ _ _
    refine AWP.seq ?_
    refine AWP.seq ?_
    refine AWP.region (l := [0, 1]) rfl ?_
    refine AOps.cons rfl rfl (AOp.move (.int .i64 (R_mesh_fine p s)) rfl rfl ?_)
    refine AOps.cons rfl rfl (AOp.bin (.bool (!decide (R_mesh_fine p s = 0))) rfl rfl rfl ine ?_)
    refine AOps.nil ?_
    change AWP _ _ _ _ _ _
    by_cases b579 : R_mesh_fine p s = 0
    ·
     refine AWP.condF rfl (nb (decide_eq_true b579)) ?_
     refine AWP.skip ?_
     change AWP _ _ _ _ _ _
     refine AWP.seq ?_
     have h0 : errD p s texs = 0 := by unfold errD; split <;> omega
     refine AWP.region (l := [0, 1, 2, 3, 4, 5, 6]) rfl ?_
     refine AOps.cons rfl rfl (AOp.fieldAddrF rfl rfl fl_28_0 ?_)
     refine AOps.cons rfl rfl (AOp.loadF (.agg (p.aP.flatMap eV)) rfl rfl ty_24 (ld_fst (fun h => by first | rfl | cases h) (ld_all (lenM eV_len p.lP rfl))) ?_)
     refine AOps.cons rfl rfl (AOp.fieldAddrF rfl rfl fl_30_3 ?_)
     refine AOps.cons rfl rfl (AOp.loadF (.int .i64 s.Unit) rfl rfl ty_3 rfl ?_)
     refine AOps.cons rfl rfl (AOp.pcall («as» := [.agg (p.aP.flatMap eV), .int .i64 s.Unit]) rfl rfl (rfl) tf_24 (c_rate_Sides p.aP p.lP s.Unit) ?_)
     intro H580 m581
     have h582 := m581 _ _ h39
     have m583 := m40.trans m581
     refine AOps.cons rfl rfl (AOp.alloc rfl tz_25 ?_)
     intro i584 H585 n586 h587 k588
     have e589 := ne_new h582 n586
     have z590 := Mono.free m583 n586
     have h591 := keep k588 (ne_new h582 n586) h582
     have m592 := Mono.new m583 n586 k588
     refine AOps.cons rfl rfl (AOp.store' (cells' := (R_rate_Sides p.aP s.Unit).map eI) (.agg ((R_rate_Sides p.aP s.Unit).map eI)) rfl rfl ts_25 h587 (by simp only [AV.cells, List.all_append, List.all_cons, List.all_nil, Bool.and_true, Bool.and_eq_true]; exact (all_one1 eI_one _)) (show (AV.cells (.agg ((R_rate_Sides p.aP s.Unit).map eI))).length = 4 from (len1 (R_rate_Sides_len p.aP s.Unit))) rfl (wr_all rfl (len1 (R_rate_Sides_len p.aP s.Unit))) ?_)
     intro H593 h594 k595
     have h596 := keep k595 e589 h591
     have m598 := Mono.set m592 z590 k595
     refine AOps.nil ?_
     change AWP _ _ _ _ _ _
     refine AWP.seq ?_
     refine AWP.frzP 13 h594 z590 rfl m598 fun H599 m600 k601 => ?_
     have h602 := (k601 _ e589).trans h596
     refine AWP.region (l := [0, 1, 2, 3, 4, 5, 6, 7, 8]) rfl ?_
     refine AOps.cons rfl rfl (AOp.loadF (.agg ((R_rate_Sides p.aP s.Unit).map eI)) rfl rfl ty_25 (ld_all (len1 (R_rate_Sides_len p.aP s.Unit))) ?_)
     refine AOps.cons rfl rfl (AOp.pcall («as» := [.agg ((R_rate_Sides p.aP s.Unit).map eI)]) rfl rfl (rfl) tf_25 (c_Weave (R_rate_Sides p.aP s.Unit) (R_rate_Sides_len p.aP s.Unit)) ?_)
     intro H603 m604
     have h605 := m604 _ _ h602
     have m606 := m600.trans m604
     refine AOps.cons rfl rfl (AOp.move (.tup [.sl ((weaveR (R_rate_Sides p.aP s.Unit)).1).length (((weaveR (R_rate_Sides p.aP s.Unit)).1).flatMap eSpot), .sl ((weaveR (R_rate_Sides p.aP s.Unit)).2.1).length (((weaveR (R_rate_Sides p.aP s.Unit)).2.1).flatMap eI3), .bool ((weaveR (R_rate_Sides p.aP s.Unit)).2.2)]) rfl rfl ?_)
     refine AOps.cons rfl rfl (AOp.extract (.sl ((weaveR (R_rate_Sides p.aP s.Unit)).1).length (((weaveR (R_rate_Sides p.aP s.Unit)).1).flatMap eSpot)) rfl rfl rfl ?_)
     refine AOps.cons rfl rfl (AOp.extract (.sl ((weaveR (R_rate_Sides p.aP s.Unit)).2.1).length (((weaveR (R_rate_Sides p.aP s.Unit)).2.1).flatMap eI3)) rfl rfl rfl ?_)
     refine AOps.cons rfl rfl (AOp.extract (.bool ((weaveR (R_rate_Sides p.aP s.Unit)).2.2)) rfl rfl rfl ?_)
     refine AOps.cons rfl rfl (AOp.assign (.sl ((weaveR (R_rate_Sides p.aP s.Unit)).1).length (((weaveR (R_rate_Sides p.aP s.Unit)).1).flatMap eSpot)) rfl rfl ?_)
     refine AOps.cons rfl rfl (AOp.assign (.sl ((weaveR (R_rate_Sides p.aP s.Unit)).2.1).length (((weaveR (R_rate_Sides p.aP s.Unit)).2.1).flatMap eI3)) rfl rfl ?_)
     refine AOps.cons rfl rfl (AOp.assign (.bool ((weaveR (R_rate_Sides p.aP s.Unit)).2.2)) rfl rfl ?_)
     refine AOps.nil ?_
     change AWP _ _ _ _ _ _
     refine AWP.seq ?_
     have hrl := R_rate_Sides_len p.aP s.Unit
     refine AWP.region_quiet mixed (by kernel_rfl) 7 [7, 8] rfl (by kernel_rfl) (Mono H603) (Mono.refl _) ?_
     refine QE.op rfl rfl (.inl ⟨rfl, fun f' H' hf hM => AOp.loadF (.agg (p.aP.flatMap eV ++ (p.aCorners.map eI ++ (p.aNormals.flatMap eV ++ [.int .i64 p.Skin])))) rfl ((hf 5 rfl).trans rfl) ty_28 (ld_all (len_app (m := 48) (n := 17) (k := 65) (lenM eV_len p.lP rfl) (len_app (m := 4) (n := 13) (k := 17) (len1 p.lCorners) (len_app (m := 12) (n := 1) (k := 13) (lenM eV_len p.lNormals rfl) rfl rfl) rfl) rfl)) ⟨rfl, hM⟩⟩) ?_
     refine QE.op rfl rfl (.inl ⟨rfl, fun f' H' hf hM => AOp.move (.int .i64 cage) rfl ((hf 1 rfl).trans rfl) ⟨rfl, hM⟩⟩) ?_
     refine QE.op rfl rfl (.inl ⟨rfl, fun f' H' hf hM => AOp.move (.int .i64 id) rfl ((hf 2 rfl).trans rfl) ⟨rfl, hM⟩⟩) ?_
     refine QE.op rfl rfl (.inl ⟨rfl, fun f' H' hf hM => AOp.loadF (.agg ((R_rate_Sides p.aP s.Unit).map eI)) rfl ((hf 13 rfl).trans rfl) ty_25 (ld_all (len1 (R_rate_Sides_len p.aP s.Unit))) ⟨rfl, hM⟩⟩) ?_
     refine QE.op rfl rfl (.inl ⟨rfl, fun f' H' hf hM => AOp.sliceAF rfl ((hf 13 rfl).trans rfl) ar_25 (R_rate_Sides_len p.aP s.Unit) SubAt.all ⟨rfl, hM⟩⟩) ?_
     refine QE.op rfl rfl (.inl ⟨rfl, fun f' H' hf hM => AOp.pcall («as» := [.sl (R_rate_Sides p.aP s.Unit).length ((R_rate_Sides p.aP s.Unit).map eI)]) rfl rfl (lapp (lcons ((hf 60 rfl).trans rfl) rfl) rfl) tf_26 (c_Max (R_rate_Sides p.aP s.Unit) (by first | (have := (R_rate_Sides_len p.aP s.Unit); omega) | simp) (by first | omega | assumption | (constructor <;> omega) | simp)) fun H2 m2 => ⟨rfl, hM.trans m2⟩⟩) ?_
     refine QE.op rfl rfl (.inl ⟨rfl, fun f' H' hf hM => AOp.build (ps := [(0, .agg (p.aP.flatMap eV ++ (p.aCorners.map eI ++ (p.aNormals.flatMap eV ++ [.int .i64 p.Skin])))), (1, .int .i64 cage), (2, .int .i64 id), (3, .agg ((R_rate_Sides p.aP s.Unit).map eI)), (4, .int .i64 (maxL (R_rate_Sides p.aP s.Unit)))]) (cells := p.aP.flatMap eV ++ (p.aCorners.map eI ++ (p.aNormals.flatMap eV ++ ([.int .i64 p.Skin, .int .i64 cage, .int .i64 id] ++ ((R_rate_Sides p.aP s.Unit).map eI ++ [.int .i64 (maxL (R_rate_Sides p.aP s.Unit))]))))) rfl tz_74 pl_74 (lconsP ((hf 56 rfl).trans rfl) (lconsP ((hf 57 rfl).trans rfl) (lconsP ((hf 58 rfl).trans rfl) (lconsP ((hf 59 rfl).trans rfl) (lconsP ((hf 61 rfl).trans rfl) rfl))))) (fill_step (c' := ((p.aP.flatMap eV : List AV) ++ ((p.aCorners.map eI : List AV) ++ ((p.aNormals.flatMap eV : List AV) ++ ([.int .i64 p.Skin, .int .i64 0, .int .i64 0, .int .i64 0, .int .i64 0, .int .i64 0, .int .i64 0, .int .i64 0] : List AV))))) rfl rfl (show (AV.cells (.agg (p.aP.flatMap eV ++ (p.aCorners.map eI ++ (p.aNormals.flatMap eV ++ [.int .i64 p.Skin]))))).length = 65 from (len_app (m := 48) (n := 17) (k := 65) (lenM eV_len p.lP rfl) (len_app (m := 4) (n := 13) (k := 17) (len1 p.lCorners) (len_app (m := 12) (n := 1) (k := 13) (lenM eV_len p.lNormals rfl) rfl rfl) rfl) rfl)) rfl (wr_pre (len_app (m := 48) (n := 17) (k := 65) (lenM eV_len p.lP rfl) (len_app (m := 4) (n := 13) (k := 17) (len1 p.lCorners) (len_app (m := 12) (n := 1) (k := 13) (lenM eV_len p.lNormals rfl) rfl rfl) rfl) rfl)) (fill_step (c' := ((p.aP.flatMap eV : List AV) ++ ((p.aCorners.map eI : List AV) ++ ((p.aNormals.flatMap eV : List AV) ++ ([.int .i64 p.Skin, .int .i64 cage, .int .i64 0, .int .i64 0, .int .i64 0, .int .i64 0, .int .i64 0, .int .i64 0] : List AV))))) rfl rfl rfl (blelen (len_app (m := 48) (n := 24) (k := 72) (lenM eV_len p.lP rfl) (len_app (m := 4) (n := 20) (k := 24) (len1 p.lCorners) (len_app (m := 12) (n := 8) (k := 20) (lenM eV_len p.lNormals rfl) rfl rfl) rfl) rfl) (by omega)) (wr_skip (off' := 17) (lenM eV_len p.lP rfl) (by omega) (wr_skip (off' := 13) (len1 p.lCorners) (by omega) (wr_skip (off' := 1) (lenM eV_len p.lNormals rfl) (by omega) rfl))) (fill_step (c' := ((p.aP.flatMap eV : List AV) ++ ((p.aCorners.map eI : List AV) ++ ((p.aNormals.flatMap eV : List AV) ++ ([.int .i64 p.Skin, .int .i64 cage, .int .i64 id, .int .i64 0, .int .i64 0, .int .i64 0, .int .i64 0, .int .i64 0] : List AV))))) rfl rfl rfl (blelen (len_app (m := 48) (n := 24) (k := 72) (lenM eV_len p.lP rfl) (len_app (m := 4) (n := 20) (k := 24) (len1 p.lCorners) (len_app (m := 12) (n := 8) (k := 20) (lenM eV_len p.lNormals rfl) rfl rfl) rfl) rfl) (by omega)) (wr_skip (off' := 18) (lenM eV_len p.lP rfl) (by omega) (wr_skip (off' := 14) (len1 p.lCorners) (by omega) (wr_skip (off' := 2) (lenM eV_len p.lNormals rfl) (by omega) rfl))) (fill_step (c' := ((p.aP.flatMap eV : List AV) ++ ((p.aCorners.map eI : List AV) ++ ((p.aNormals.flatMap eV : List AV) ++ (([.int .i64 p.Skin, .int .i64 cage, .int .i64 id] : List AV) ++ (((R_rate_Sides p.aP s.Unit).map eI : List AV) ++ ([.int .i64 0] : List AV))))))) rfl rfl (show (AV.cells (.agg ((R_rate_Sides p.aP s.Unit).map eI))).length = 4 from (len1 (R_rate_Sides_len p.aP s.Unit))) (blelen (len_app (m := 48) (n := 24) (k := 72) (lenM eV_len p.lP rfl) (len_app (m := 4) (n := 20) (k := 24) (len1 p.lCorners) (len_app (m := 12) (n := 8) (k := 20) (lenM eV_len p.lNormals rfl) rfl rfl) rfl) rfl) (by omega)) (wr_skip (off' := 19) (lenM eV_len p.lP rfl) (by omega) (wr_skip (off' := 15) (len1 p.lCorners) (by omega) (wr_skip (off' := 3) (lenM eV_len p.lNormals rfl) (by omega) (wr_skip (A := ([.int .i64 p.Skin, .int .i64 cage, .int .i64 id] : List AV)) (B := ([.int .i64 0, .int .i64 0, .int .i64 0, .int .i64 0, .int .i64 0] : List AV)) (n := 3) (off' := 0) rfl (by omega) (wr_pre (len1 (R_rate_Sides_len p.aP s.Unit))))))) (fill_step (c' := ((p.aP.flatMap eV : List AV) ++ ((p.aCorners.map eI : List AV) ++ ((p.aNormals.flatMap eV : List AV) ++ (([.int .i64 p.Skin, .int .i64 cage, .int .i64 id] : List AV) ++ (((R_rate_Sides p.aP s.Unit).map eI : List AV) ++ ([.int .i64 (maxL (R_rate_Sides p.aP s.Unit))] : List AV))))))) rfl rfl rfl (blelen (len_app (m := 48) (n := 24) (k := 72) (lenM eV_len p.lP rfl) (len_app (m := 4) (n := 20) (k := 24) (len1 p.lCorners) (len_app (m := 12) (n := 8) (k := 20) (lenM eV_len p.lNormals rfl) (len_app (m := 3) (n := 5) (k := 8) rfl (len_app (m := 4) (n := 1) (k := 5) (len1 (R_rate_Sides_len p.aP s.Unit)) rfl rfl) rfl) rfl) rfl) rfl) (by omega)) (wr_skip (off' := 23) (lenM eV_len p.lP rfl) (by omega) (wr_skip (off' := 19) (len1 p.lCorners) (by omega) (wr_skip (off' := 7) (lenM eV_len p.lNormals rfl) (by omega) (wr_skip (off' := 4) (n := 3) rfl (by omega) (wr_skip (off' := 0) (len1 (R_rate_Sides_len p.aP s.Unit)) (by omega) rfl))))) (rfl)))))) ⟨rfl, hM⟩⟩) ?_
     refine QE.done fun H607 m608 => ?_
     have h609 := m608 _ _ h605
     have m610 := m606.trans m608
     refine AOps.cons rfl rfl (AOp.box (.agg (p.aP.flatMap eV ++ (p.aCorners.map eI ++ (p.aNormals.flatMap eV ++ ([.int .i64 p.Skin, .int .i64 cage, .int .i64 id] ++ ((R_rate_Sides p.aP s.Unit).map eI ++ [.int .i64 (maxL (R_rate_Sides p.aP s.Unit))])))))) rfl rfl rfl ?_)
     intro i611 H612 n613 h614 k615
     have e616 := ne_new h609 n613
     have z617 := Mono.free m610 n613
     have h618 := keep k615 (ne_new h609 n613) h609
     have m619 := Mono.new m610 n613 k615
     refine AOps.cons rfl rfl (AOp.assign (.ptr i611 0 0) rfl rfl ?_)
     refine AOps.nil ?_
     change AWP _ _ _ _ _ _
     refine AWP.seq ?_
     refine AWP.frzP 17 h614 z617 rfl m619 fun H620 m621 k622 => ?_
     have h623 := (k622 _ e616).trans h618
     refine AWP.region (l := [0, 1, 2, 3]) rfl ?_
     refine AOps.cons rfl rfl (AOp.move (.sl ((weaveR (R_rate_Sides p.aP s.Unit)).2.1).length (((weaveR (R_rate_Sides p.aP s.Unit)).2.1).flatMap eI3)) rfl rfl ?_)
     refine AOps.cons rfl rfl (AOp.build (cells := [.snil, .snil, .sl ((weaveR (R_rate_Sides p.aP s.Unit)).2.1).length (((weaveR (R_rate_Sides p.aP s.Unit)).2.1).flatMap eI3)]) rfl tz_38 pl_38 rfl rfl ?_)
     refine AOps.cons rfl rfl (AOp.alloc rfl tz_38 ?_)
     intro i624 H625 n626 h627 k628
     have e629 := ne_new h623 n626
     have z630 := Mono.free m621 n626
     have h631 := keep k628 (ne_new h623 n626) h623
     have m632 := Mono.new m621 n626 k628
     refine AOps.cons rfl rfl (AOp.store' (cells' := [.snil, .snil, .sl ((weaveR (R_rate_Sides p.aP s.Unit)).2.1).length (((weaveR (R_rate_Sides p.aP s.Unit)).2.1).flatMap eI3)]) (.agg [.snil, .snil, .sl ((weaveR (R_rate_Sides p.aP s.Unit)).2.1).length (((weaveR (R_rate_Sides p.aP s.Unit)).2.1).flatMap eI3)]) rfl rfl ts_38 h627 rfl rfl rfl rfl ?_)
     intro H633 h634 k635
     have h636 := keep k635 e629 h631
     have m638 := Mono.set m632 z630 k635
     refine AOps.nil ?_
     change AWP _ _ _ _ _ _
     refine AWP.seq ?_
     refine AWP.seq ?_
     have hwl := weave_len (R_rate_Sides_len p.aP s.Unit)
     refine AWP.region (l := [0, 1, 2]) rfl ?_
     refine AOps.cons rfl rfl (AOp.move (.sl ((weaveR (R_rate_Sides p.aP s.Unit)).1).length (((weaveR (R_rate_Sides p.aP s.Unit)).1).flatMap eSpot)) rfl rfl ?_)
     refine AOps.cons rfl rfl (AOp.len (m := ((weaveR (R_rate_Sides p.aP s.Unit)).1).length) rfl rfl (.inr (.inl ⟨_, rfl⟩)) u_68 ?_)
     refine AOps.cons rfl rfl (AOp.move (.int .i64 0) rfl rfl ?_)
     refine AOps.nil ?_
     change AWP _ _ _ _ _ _
     refine AWP.block ?_
     refine AWP.loop (fun q639 fq Hq => ∃ (i : Int) (w18_0 : AV) (w18_1 : AV), q639 = (((weaveR (R_rate_Sides p.aP s.Unit)).1.length : Int) - i).toNat ∧ fq 68 = .int .i64 i ∧ fq 4 = .sl texs.length (texs.flatMap eTex) ∧ fq 8 = .fptr [.str s.Name, .int .i64 s.Mat, .int .i64 s.Levels, .int .i64 s.Unit, .int .i64 s.Tex, .int .i64 s.Height] 0 ∧ fq 10 = .ptr i17 0 0 ∧ fq 17 = .fptr ((p.aP.flatMap eV) ++ ((p.aCorners.map eI) ++ ((p.aNormals.flatMap eV) ++ (([.int .i64 p.Skin, .int .i64 cage, .int .i64 id] : List AV) ++ (((R_rate_Sides p.aP s.Unit).map eI) ++ ([.int .i64 (maxL (R_rate_Sides p.aP s.Unit))] : List AV)))))) 0 ∧ fq 18 = .ptr i624 0 0 ∧ fq 66 = .sl ((weaveR (R_rate_Sides p.aP s.Unit)).1).length (((weaveR (R_rate_Sides p.aP s.Unit)).1).flatMap eSpot) ∧ fq 67 = .int .i64 ((((weaveR (R_rate_Sides p.aP s.Unit)).1).length) : Int) ∧ Own H0 Hq 3 w18_0 (((weaveR (R_rate_Sides p.aP s.Unit)).1.take i.toNat).map (fD p cage id s texs)).length ((((weaveR (R_rate_Sides p.aP s.Unit)).1.take i.toNat).map (fD p cage id s texs)).flatMap eV) ∧ Own H0 Hq 5 w18_1 (((weaveR (R_rate_Sides p.aP s.Unit)).1.take i.toNat).map (kD p cage id s)).length ((((weaveR (R_rate_Sides p.aP s.Unit)).1.take i.toNat).map (kD p cage id s)).flatMap eKey) ∧ NotId w18_0 i17 ∧ NotId w18_0 i624 ∧ NotId w18_1 i17 ∧ NotId w18_1 i624 ∧ Sep w18_0 w18_1 ∧ Hq i17 = some (.row 0 ([.snil, .snil, .snil])) ∧ Hq i624 = some (.row 0 ([w18_0, w18_1, .sl ((weaveR (R_rate_Sides p.aP s.Unit)).2.1).length (((weaveR (R_rate_Sides p.aP s.Unit)).2.1).flatMap eI3)])) ∧ Mono H0 Hq ∧ (0 ≤ i) ∧ (i ≤ ((weaveR (R_rate_Sides p.aP s.Unit)).1.length : Int)) ∧ (∀ j : Int, 0 ≤ j → j < i → (plT s texs (vtxD p cage id s (at_ (weaveR (R_rate_Sides p.aP s.Unit)).1 j))).isSome = true)) (k := (((weaveR (R_rate_Sides p.aP s.Unit)).1.length : Int) - 0).toNat) ?_ ?_
     ·
      exact ⟨0, .snil, .snil, rfl, rfl, rfl, rfl, rfl, rfl, rfl, rfl, rfl, Own.nil _ _ _, Own.nil _ _ _, (NotId.nil _), (NotId.nil _), (NotId.nil _), (NotId.nil _), (Sep.nilL _), h636, h634, m638, by omega, by omega, by intro j; omega⟩
     ·
      rintro _ f641 H640 ⟨i, w18_0, w18_1, rfl, s642, s643, s644, s645, s646, s647, s648, s649, o650, o651, no652, no653, no654, no655, sp656, h657, h658, m659, hi0, hi1, pre⟩
      refine AWP.seq ?_
      refine AWP.region (l := [0]) rfl ?_
      refine AOps.cons rfl rfl (AOp.bin (.bool (decide (i < ((((weaveR (R_rate_Sides p.aP s.Unit)).1).length) : Int)))) rfl s642 s649 rfl ?_)
      refine AOps.nil ?_
      change AWP _ _ _ _ _ _
      refine AWP.seq ?_
      by_cases b660 : i < ((((weaveR (R_rate_Sides p.aP s.Unit)).1).length) : Int)
      ·
       refine AWP.condT rfl (decide_eq_true b660) ?_
       refine AWP.skip ?_
       change AWP _ _ _ _ _ _
       refine AWP.seq ?_
       refine AWP.block ?_
       refine AWP.seq ?_
       refine AWP.region (l := [0, 1, 2, 3]) rfl ?_
       refine AOps.cons rfl rfl (AOp.indexAddrS rfl s648 s642 sl_68 (by omega) (by omega) ?_)
       refine AOps.cons rfl rfl (AOp.loadF (.agg [.int .i64 ((at_ ((weaveR (R_rate_Sides p.aP s.Unit)).1) i).Kind), .int .i64 ((at_ ((weaveR (R_rate_Sides p.aP s.Unit)).1) i).A), .int .i64 ((at_ ((weaveR (R_rate_Sides p.aP s.Unit)).1) i).B)]) rfl rfl ty_76 (ldM eSpot_len (by omega) (by omega)) ?_)
       refine AOps.cons rfl rfl (AOp.alloc rfl tz_76 ?_)
       intro i661 H662 n663 h664 k665
       have e666 := ne_new h657 n663
       have e667 := ne_new h658 n663
       have z668 := Mono.free m659 n663
       have h669 := keep k665 (ne_new h657 n663) h657
       have h670 := keep k665 (ne_new h658 n663) h658
       have o671 := Own.keep o650 k665 (Own.notnew o650 n663)
       have no672 := Own.notnew o650 n663
       have o673 := Own.keep o651 k665 (Own.notnew o651 n663)
       have no674 := Own.notnew o651 n663
       have m675 := Mono.new m659 n663 k665
       refine AOps.cons rfl rfl (AOp.store' (cells' := [.int .i64 ((at_ ((weaveR (R_rate_Sides p.aP s.Unit)).1) i).Kind), .int .i64 ((at_ ((weaveR (R_rate_Sides p.aP s.Unit)).1) i).A), .int .i64 ((at_ ((weaveR (R_rate_Sides p.aP s.Unit)).1) i).B)]) (.agg [.int .i64 ((at_ ((weaveR (R_rate_Sides p.aP s.Unit)).1) i).Kind), .int .i64 ((at_ ((weaveR (R_rate_Sides p.aP s.Unit)).1) i).A), .int .i64 ((at_ ((weaveR (R_rate_Sides p.aP s.Unit)).1) i).B)]) rfl rfl ts_76 h664 rfl rfl rfl rfl ?_)
       intro H676 h677 k678
       have h679 := keep k678 e666 h669
       have h680 := keep k678 e667 h670
       have o682 := Own.keep o671 k678 no672
       have o683 := Own.keep o673 k678 no674
       have m684 := Mono.set m675 z668 k678
       refine AOps.nil ?_
       change AWP _ _ _ _ _ _
       refine AWP.seq ?_
       refine AWP.frzP 20 h677 z668 rfl m684 fun H685 m686 k687 => ?_
       have h688 := (k687 _ e666).trans h679
       have h689 := (k687 _ e667).trans h680
       have o690 := Own.keep o682 k687 no672
       have o691 := Own.keep o683 k687 no674
       obtain ⟨hr, hm, hx⟩ := weave_mem (R_rate_Sides_len p.aP s.Unit) (at_mem (l := (weaveR (R_rate_Sides p.aP s.Unit)).1) (i := i) (by omega) (by omega))
       refine AWP.region (l := [0, 1, 2, 3, 4]) rfl ?_
       refine AOps.cons rfl rfl (AOp.move (.fptr ((p.aP.flatMap eV) ++ ((p.aCorners.map eI) ++ ((p.aNormals.flatMap eV) ++ (([.int .i64 p.Skin, .int .i64 cage, .int .i64 id] : List AV) ++ (((R_rate_Sides p.aP s.Unit).map eI) ++ ([.int .i64 (maxL (R_rate_Sides p.aP s.Unit))] : List AV)))))) 0) rfl s646 ?_)
       refine AOps.cons rfl rfl (AOp.loadF (.agg [.int .i64 ((at_ ((weaveR (R_rate_Sides p.aP s.Unit)).1) i).Kind), .int .i64 ((at_ ((weaveR (R_rate_Sides p.aP s.Unit)).1) i).A), .int .i64 ((at_ ((weaveR (R_rate_Sides p.aP s.Unit)).1) i).B)]) rfl rfl ty_76 rfl ?_)
       refine AOps.cons rfl rfl (AOp.pcall («as» := [.fptr ((p.aP.flatMap eV) ++ ((p.aCorners.map eI) ++ ((p.aNormals.flatMap eV) ++ (([.int .i64 p.Skin, .int .i64 cage, .int .i64 id] : List AV) ++ (((R_rate_Sides p.aP s.Unit).map eI) ++ ([.int .i64 (maxL (R_rate_Sides p.aP s.Unit))] : List AV)))))) 0, .agg [.int .i64 ((at_ ((weaveR (R_rate_Sides p.aP s.Unit)).1) i).Kind), .int .i64 ((at_ ((weaveR (R_rate_Sides p.aP s.Unit)).1) i).A), .int .i64 ((at_ ((weaveR (R_rate_Sides p.aP s.Unit)).1) i).B)]]) rfl rfl (rfl) tf_27 (c_mesh_vertex p cage id (R_rate_Sides p.aP s.Unit) (R_rate_Sides_len p.aP s.Unit) (maxL (R_rate_Sides p.aP s.Unit)) (at_ ((weaveR (R_rate_Sides p.aP s.Unit)).1) i) (by first | omega | assumption | (constructor <;> omega)) (by first | omega | assumption | (constructor <;> omega)) (by first | omega | assumption | (constructor <;> omega))) ?_)
       intro H692 m693
       have h694 := m693 _ _ h688
       have h695 := m693 _ _ h689
       have o696 := Own.mono o690 m693
       have o697 := Own.mono o691 m693
       have m698 := m686.trans m693
       refine AOps.cons rfl rfl (AOp.alloc rfl tz_78 ?_)
       intro i699 H700 n701 h702 k703
       have e704 := ne_new h694 n701
       have e705 := ne_new h695 n701
       have z706 := Mono.free m698 n701
       have h707 := keep k703 (ne_new h694 n701) h694
       have h708 := keep k703 (ne_new h695 n701) h695
       have o709 := Own.keep o696 k703 (Own.notnew o696 n701)
       have no710 := Own.notnew o696 n701
       have o711 := Own.keep o697 k703 (Own.notnew o697 n701)
       have no712 := Own.notnew o697 n701
       have m713 := Mono.new m698 n701 k703
       refine AOps.cons rfl rfl (AOp.store' (cells' := [.int .i64 (((R_mesh_vertex p cage id (R_rate_Sides p.aP s.Unit) (maxL (R_rate_Sides p.aP s.Unit)) (at_ ((weaveR (R_rate_Sides p.aP s.Unit)).1) i)).atF).X), .int .i64 (((R_mesh_vertex p cage id (R_rate_Sides p.aP s.Unit) (maxL (R_rate_Sides p.aP s.Unit)) (at_ ((weaveR (R_rate_Sides p.aP s.Unit)).1) i)).atF).Y), .int .i64 (((R_mesh_vertex p cage id (R_rate_Sides p.aP s.Unit) (maxL (R_rate_Sides p.aP s.Unit)) (at_ ((weaveR (R_rate_Sides p.aP s.Unit)).1) i)).atF).Z), .int .i64 (((R_mesh_vertex p cage id (R_rate_Sides p.aP s.Unit) (maxL (R_rate_Sides p.aP s.Unit)) (at_ ((weaveR (R_rate_Sides p.aP s.Unit)).1) i)).up).X), .int .i64 (((R_mesh_vertex p cage id (R_rate_Sides p.aP s.Unit) (maxL (R_rate_Sides p.aP s.Unit)) (at_ ((weaveR (R_rate_Sides p.aP s.Unit)).1) i)).up).Y), .int .i64 (((R_mesh_vertex p cage id (R_rate_Sides p.aP s.Unit) (maxL (R_rate_Sides p.aP s.Unit)) (at_ ((weaveR (R_rate_Sides p.aP s.Unit)).1) i)).up).Z), .int .i64 (((R_mesh_vertex p cage id (R_rate_Sides p.aP s.Unit) (maxL (R_rate_Sides p.aP s.Unit)) (at_ ((weaveR (R_rate_Sides p.aP s.Unit)).1) i)).key).Kind), .int .i64 (((R_mesh_vertex p cage id (R_rate_Sides p.aP s.Unit) (maxL (R_rate_Sides p.aP s.Unit)) (at_ ((weaveR (R_rate_Sides p.aP s.Unit)).1) i)).key).Of), .int .i64 (((R_mesh_vertex p cage id (R_rate_Sides p.aP s.Unit) (maxL (R_rate_Sides p.aP s.Unit)) (at_ ((weaveR (R_rate_Sides p.aP s.Unit)).1) i)).key).A), .int .i64 (((R_mesh_vertex p cage id (R_rate_Sides p.aP s.Unit) (maxL (R_rate_Sides p.aP s.Unit)) (at_ ((weaveR (R_rate_Sides p.aP s.Unit)).1) i)).key).B), .int .i64 (((R_mesh_vertex p cage id (R_rate_Sides p.aP s.Unit) (maxL (R_rate_Sides p.aP s.Unit)) (at_ ((weaveR (R_rate_Sides p.aP s.Unit)).1) i)).key).N)]) (.agg [.int .i64 (((R_mesh_vertex p cage id (R_rate_Sides p.aP s.Unit) (maxL (R_rate_Sides p.aP s.Unit)) (at_ ((weaveR (R_rate_Sides p.aP s.Unit)).1) i)).atF).X), .int .i64 (((R_mesh_vertex p cage id (R_rate_Sides p.aP s.Unit) (maxL (R_rate_Sides p.aP s.Unit)) (at_ ((weaveR (R_rate_Sides p.aP s.Unit)).1) i)).atF).Y), .int .i64 (((R_mesh_vertex p cage id (R_rate_Sides p.aP s.Unit) (maxL (R_rate_Sides p.aP s.Unit)) (at_ ((weaveR (R_rate_Sides p.aP s.Unit)).1) i)).atF).Z), .int .i64 (((R_mesh_vertex p cage id (R_rate_Sides p.aP s.Unit) (maxL (R_rate_Sides p.aP s.Unit)) (at_ ((weaveR (R_rate_Sides p.aP s.Unit)).1) i)).up).X), .int .i64 (((R_mesh_vertex p cage id (R_rate_Sides p.aP s.Unit) (maxL (R_rate_Sides p.aP s.Unit)) (at_ ((weaveR (R_rate_Sides p.aP s.Unit)).1) i)).up).Y), .int .i64 (((R_mesh_vertex p cage id (R_rate_Sides p.aP s.Unit) (maxL (R_rate_Sides p.aP s.Unit)) (at_ ((weaveR (R_rate_Sides p.aP s.Unit)).1) i)).up).Z), .int .i64 (((R_mesh_vertex p cage id (R_rate_Sides p.aP s.Unit) (maxL (R_rate_Sides p.aP s.Unit)) (at_ ((weaveR (R_rate_Sides p.aP s.Unit)).1) i)).key).Kind), .int .i64 (((R_mesh_vertex p cage id (R_rate_Sides p.aP s.Unit) (maxL (R_rate_Sides p.aP s.Unit)) (at_ ((weaveR (R_rate_Sides p.aP s.Unit)).1) i)).key).Of), .int .i64 (((R_mesh_vertex p cage id (R_rate_Sides p.aP s.Unit) (maxL (R_rate_Sides p.aP s.Unit)) (at_ ((weaveR (R_rate_Sides p.aP s.Unit)).1) i)).key).A), .int .i64 (((R_mesh_vertex p cage id (R_rate_Sides p.aP s.Unit) (maxL (R_rate_Sides p.aP s.Unit)) (at_ ((weaveR (R_rate_Sides p.aP s.Unit)).1) i)).key).B), .int .i64 (((R_mesh_vertex p cage id (R_rate_Sides p.aP s.Unit) (maxL (R_rate_Sides p.aP s.Unit)) (at_ ((weaveR (R_rate_Sides p.aP s.Unit)).1) i)).key).N)]) rfl rfl ts_78 h702 rfl rfl rfl rfl ?_)
       intro H714 h715 k716
       have h717 := keep k716 e704 h707
       have h718 := keep k716 e705 h708
       have o720 := Own.keep o709 k716 no710
       have o721 := Own.keep o711 k716 no712
       have m722 := Mono.set m713 z706 k716
       refine AOps.nil ?_
       change AWP _ _ _ _ _ _
       refine AWP.seq ?_
       refine AWP.seq ?_
       refine AWP.region (l := [0, 1, 2, 3, 4, 5, 6, 7]) rfl ?_
       refine AOps.cons rfl rfl (AOp.fieldAddrF rfl s644 fl_30_4 ?_)
       refine AOps.cons rfl rfl (AOp.loadF (.int .i64 s.Tex) rfl rfl ty_3 rfl ?_)
       refine AOps.cons rfl rfl (AOp.bin (.bool (decide (s.Tex ≥ 0))) rfl rfl rfl rfl ?_)
       refine AOps.cons rfl rfl (AOp.move (.bool (decide (s.Tex ≥ 0))) rfl rfl ?_)
       by_cases b723 : s.Tex ≥ 0
       ·
        refine AOps.yes rfl rfl rfl rfl rfl rfl rfl (decide_eq_true b723) (AOp.fieldAddrF rfl s644 fl_30_5 ?_)
        refine AOps.yes rfl rfl rfl rfl rfl rfl rfl (decide_eq_true b723) (AOp.loadF (.int .i64 s.Height) rfl rfl ty_3 rfl ?_)
        refine AOps.yes rfl rfl rfl rfl rfl rfl rfl (decide_eq_true b723) (AOp.bin (.bool (decide (s.Height > 0))) rfl rfl rfl rfl ?_)
        refine AOps.cons rfl rfl (AOp.pickT (.bool (decide (s.Height > 0))) rfl rfl (decide_eq_true b723) rfl ?_)
        refine AOps.nil ?_
        change AWP _ _ _ _ _ _
        by_cases b724 : s.Height > 0
        ·
         refine AWP.condT rfl (decide_eq_true b724) ?_
         refine AWP.seq ?_
         have htr := htx _ (at_mem (i := s.Tex) (l := texs) (by omega) (by omega))
         refine AWP.region_quiet mixed (by kernel_rfl) 13 [] rfl (by kernel_rfl) (Mono H714) (Mono.refl _) ?_
         refine QE.op rfl rfl (.inl ⟨rfl, fun f' H' hf hM => AOp.move (.sl texs.length (texs.flatMap eTex)) rfl ((hf 4 rfl).trans s643) ⟨rfl, hM⟩⟩) ?_
         refine QE.op rfl rfl (.inl ⟨rfl, fun f' H' hf hM => AOp.fieldAddrF rfl ((hf 8 rfl).trans s644) fl_30_4 ⟨rfl, hM⟩⟩) ?_
         refine QE.op rfl rfl (.inl ⟨rfl, fun f' H' hf hM => AOp.loadF (.int .i64 s.Tex) rfl ((hf 85 rfl).trans rfl) ty_3 rfl ⟨rfl, hM⟩⟩) ?_
         refine QE.op rfl rfl (.inl ⟨rfl, fun f' H' hf hM => AOp.indexAddrS rfl ((hf 84 rfl).trans rfl) ((hf 86 rfl).trans rfl) sl_31 (by omega) (by omega) ⟨rfl, hM⟩⟩) ?_
         refine QE.op rfl rfl (.inl ⟨rfl, fun f' H' hf hM => AOp.loadF (.agg [.str ((at_ texs s.Tex).Name), .int .i64 ((at_ texs s.Tex).W), .int .i64 ((at_ texs s.Tex).H), .sl ((at_ texs s.Tex).Rows).length (((at_ texs s.Tex).Rows).map eI)]) rfl ((hf 87 rfl).trans rfl) ty_65 (ldM eTex_len (by omega) (by omega)) ⟨rfl, hM⟩⟩) ?_
         refine QE.op rfl rfl (.inl ⟨rfl, fun f' H' hf hM => AOp.fieldAddr rfl ((hf 21 rfl).trans rfl) fl_78_0 ⟨rfl, hM⟩ (hid := ⟨_, (hM _ _ h715)⟩)⟩) ?_
         refine QE.op rfl rfl (.inl ⟨rfl, fun f' H' hf hM => AOp.load (.agg [.int .i64 (((R_mesh_vertex p cage id (R_rate_Sides p.aP s.Unit) (maxL (R_rate_Sides p.aP s.Unit)) (at_ ((weaveR (R_rate_Sides p.aP s.Unit)).1) i)).atF).X), .int .i64 (((R_mesh_vertex p cage id (R_rate_Sides p.aP s.Unit) (maxL (R_rate_Sides p.aP s.Unit)) (at_ ((weaveR (R_rate_Sides p.aP s.Unit)).1) i)).atF).Y), .int .i64 (((R_mesh_vertex p cage id (R_rate_Sides p.aP s.Unit) (maxL (R_rate_Sides p.aP s.Unit)) (at_ ((weaveR (R_rate_Sides p.aP s.Unit)).1) i)).atF).Z)]) rfl ((hf 89 rfl).trans rfl) ty_23 (hM _ _ h715) rfl ⟨rfl, hM⟩⟩) ?_
         refine QE.op rfl rfl (.inl ⟨rfl, fun f' H' hf hM => AOp.pcall («as» := [.agg [.str ((at_ texs s.Tex).Name), .int .i64 ((at_ texs s.Tex).W), .int .i64 ((at_ texs s.Tex).H), .sl ((at_ texs s.Tex).Rows).length (((at_ texs s.Tex).Rows).map eI)], .agg [.int .i64 (((R_mesh_vertex p cage id (R_rate_Sides p.aP s.Unit) (maxL (R_rate_Sides p.aP s.Unit)) (at_ ((weaveR (R_rate_Sides p.aP s.Unit)).1) i)).atF).X), .int .i64 (((R_mesh_vertex p cage id (R_rate_Sides p.aP s.Unit) (maxL (R_rate_Sides p.aP s.Unit)) (at_ ((weaveR (R_rate_Sides p.aP s.Unit)).1) i)).atF).Y), .int .i64 (((R_mesh_vertex p cage id (R_rate_Sides p.aP s.Unit) (maxL (R_rate_Sides p.aP s.Unit)) (at_ ((weaveR (R_rate_Sides p.aP s.Unit)).1) i)).atF).Z)]]) rfl rfl (lapp (lcons ((hf 88 rfl).trans rfl) (lcons ((hf 90 rfl).trans rfl) rfl)) rfl) tf_28 (c_relief_Texel (at_ texs s.Tex) ((R_mesh_vertex p cage id (R_rate_Sides p.aP s.Unit) (maxL (R_rate_Sides p.aP s.Unit)) (at_ ((weaveR (R_rate_Sides p.aP s.Unit)).1) i)).atF) (by first | omega | assumption)) fun H2 m2 => ⟨rfl, hM.trans m2⟩⟩) ?_
         refine QE.op rfl rfl (.inl ⟨rfl, fun f' H' hf hM => AOp.move (.tup [.int .i64 ((R_relief_Texel (at_ texs s.Tex) ((R_mesh_vertex p cage id (R_rate_Sides p.aP s.Unit) (maxL (R_rate_Sides p.aP s.Unit)) (at_ ((weaveR (R_rate_Sides p.aP s.Unit)).1) i)).atF)).1), .bool ((R_relief_Texel (at_ texs s.Tex) ((R_mesh_vertex p cage id (R_rate_Sides p.aP s.Unit) (maxL (R_rate_Sides p.aP s.Unit)) (at_ ((weaveR (R_rate_Sides p.aP s.Unit)).1) i)).atF)).2)]) rfl ((hf 91 rfl).trans rfl) ⟨rfl, hM⟩⟩) ?_
         refine QE.op rfl rfl (.inl ⟨rfl, fun f' H' hf hM => AOp.extract (.int .i64 ((R_relief_Texel (at_ texs s.Tex) ((R_mesh_vertex p cage id (R_rate_Sides p.aP s.Unit) (maxL (R_rate_Sides p.aP s.Unit)) (at_ ((weaveR (R_rate_Sides p.aP s.Unit)).1) i)).atF)).1)) rfl ((hf 83 rfl).trans rfl) rfl ⟨rfl, hM⟩⟩) ?_
         refine QE.op rfl rfl (.inl ⟨rfl, fun f' H' hf hM => AOp.extract (.bool ((R_relief_Texel (at_ texs s.Tex) ((R_mesh_vertex p cage id (R_rate_Sides p.aP s.Unit) (maxL (R_rate_Sides p.aP s.Unit)) (at_ ((weaveR (R_rate_Sides p.aP s.Unit)).1) i)).atF)).2)) rfl ((hf 83 rfl).trans rfl) rfl ⟨rfl, hM⟩⟩) ?_
         refine QE.op rfl rfl (.inl ⟨rfl, fun f' H' hf hM => AOp.assign (.int .i64 ((R_relief_Texel (at_ texs s.Tex) ((R_mesh_vertex p cage id (R_rate_Sides p.aP s.Unit) (maxL (R_rate_Sides p.aP s.Unit)) (at_ ((weaveR (R_rate_Sides p.aP s.Unit)).1) i)).atF)).1)) rfl ((hf 92 rfl).trans rfl) ⟨rfl, hM⟩⟩) ?_
         refine QE.op rfl rfl (.inl ⟨rfl, fun f' H' hf hM => AOp.assign (.bool ((R_relief_Texel (at_ texs s.Tex) ((R_mesh_vertex p cage id (R_rate_Sides p.aP s.Unit) (maxL (R_rate_Sides p.aP s.Unit)) (at_ ((weaveR (R_rate_Sides p.aP s.Unit)).1) i)).atF)).2)) rfl ((hf 93 rfl).trans rfl) ⟨rfl, hM⟩⟩) ?_
         refine QE.done fun H725 m726 => ?_
         have h727 := m726 _ _ h717
         have h728 := m726 _ _ h718
         have h729 := m726 _ _ h715
         have o730 := Own.mono o720 m726
         have o731 := Own.mono o721 m726
         have m732 := m722.trans m726
         refine AOps.nil ?_
         change AWP _ _ _ _ _ _
         refine AWP.seq ?_
         refine AWP.seq ?_
         refine AWP.region (l := [0, 1]) rfl ?_
         refine AOps.cons rfl rfl (AOp.move (.bool ((R_relief_Texel (at_ texs s.Tex) ((R_mesh_vertex p cage id (R_rate_Sides p.aP s.Unit) (maxL (R_rate_Sides p.aP s.Unit)) (at_ ((weaveR (R_rate_Sides p.aP s.Unit)).1) i)).atF)).2)) rfl rfl ?_)
         refine AOps.cons rfl rfl (AOp.not rfl rfl ?_)
         refine AOps.nil ?_
         change AWP _ _ _ _ _ _
         rcases Bool.eq_false_or_eq_true ((R_relief_Texel (at_ texs s.Tex) ((R_mesh_vertex p cage id (R_rate_Sides p.aP s.Unit) (maxL (R_rate_Sides p.aP s.Unit)) (at_ ((weaveR (R_rate_Sides p.aP s.Unit)).1) i)).atF)).2) with b733 | b733
         ·
          refine AWP.condF rfl (nb b733) ?_
          refine AWP.skip ?_
          change AWP _ _ _ _ _ _
          refine AWP.region (l := [0, 1, 2, 3, 4, 5, 6, 7, 8, 9, 10, 11, 12]) rfl ?_
          refine AOps.cons rfl rfl (AOp.fieldAddr rfl rfl fl_78_0 ?_ (hid := ⟨_, h729⟩))
          refine AOps.cons rfl rfl (AOp.load (.agg [.int .i64 (((R_mesh_vertex p cage id (R_rate_Sides p.aP s.Unit) (maxL (R_rate_Sides p.aP s.Unit)) (at_ ((weaveR (R_rate_Sides p.aP s.Unit)).1) i)).atF).X), .int .i64 (((R_mesh_vertex p cage id (R_rate_Sides p.aP s.Unit) (maxL (R_rate_Sides p.aP s.Unit)) (at_ ((weaveR (R_rate_Sides p.aP s.Unit)).1) i)).atF).Y), .int .i64 (((R_mesh_vertex p cage id (R_rate_Sides p.aP s.Unit) (maxL (R_rate_Sides p.aP s.Unit)) (at_ ((weaveR (R_rate_Sides p.aP s.Unit)).1) i)).atF).Z)]) rfl rfl ty_23 h729 rfl ?_)
          refine AOps.cons rfl rfl (AOp.fieldAddr rfl rfl fl_78_1 ?_ (hid := ⟨_, h729⟩))
          refine AOps.cons rfl rfl (AOp.load (.agg [.int .i64 (((R_mesh_vertex p cage id (R_rate_Sides p.aP s.Unit) (maxL (R_rate_Sides p.aP s.Unit)) (at_ ((weaveR (R_rate_Sides p.aP s.Unit)).1) i)).up).X), .int .i64 (((R_mesh_vertex p cage id (R_rate_Sides p.aP s.Unit) (maxL (R_rate_Sides p.aP s.Unit)) (at_ ((weaveR (R_rate_Sides p.aP s.Unit)).1) i)).up).Y), .int .i64 (((R_mesh_vertex p cage id (R_rate_Sides p.aP s.Unit) (maxL (R_rate_Sides p.aP s.Unit)) (at_ ((weaveR (R_rate_Sides p.aP s.Unit)).1) i)).up).Z)]) rfl rfl ty_23 h729 rfl ?_)
          refine AOps.cons rfl rfl (AOp.move (.int .i64 ((R_relief_Texel (at_ texs s.Tex) ((R_mesh_vertex p cage id (R_rate_Sides p.aP s.Unit) (maxL (R_rate_Sides p.aP s.Unit)) (at_ ((weaveR (R_rate_Sides p.aP s.Unit)).1) i)).atF)).1)) rfl rfl ?_)
          refine AOps.cons rfl rfl (AOp.fieldAddrF rfl s644 fl_30_5 ?_)
          refine AOps.cons rfl rfl (AOp.loadF (.int .i64 s.Height) rfl rfl ty_3 rfl ?_)
          refine AOps.cons rfl rfl (AOp.pcall («as» := [.agg [.int .i64 (((R_mesh_vertex p cage id (R_rate_Sides p.aP s.Unit) (maxL (R_rate_Sides p.aP s.Unit)) (at_ ((weaveR (R_rate_Sides p.aP s.Unit)).1) i)).atF).X), .int .i64 (((R_mesh_vertex p cage id (R_rate_Sides p.aP s.Unit) (maxL (R_rate_Sides p.aP s.Unit)) (at_ ((weaveR (R_rate_Sides p.aP s.Unit)).1) i)).atF).Y), .int .i64 (((R_mesh_vertex p cage id (R_rate_Sides p.aP s.Unit) (maxL (R_rate_Sides p.aP s.Unit)) (at_ ((weaveR (R_rate_Sides p.aP s.Unit)).1) i)).atF).Z)], .agg [.int .i64 (((R_mesh_vertex p cage id (R_rate_Sides p.aP s.Unit) (maxL (R_rate_Sides p.aP s.Unit)) (at_ ((weaveR (R_rate_Sides p.aP s.Unit)).1) i)).up).X), .int .i64 (((R_mesh_vertex p cage id (R_rate_Sides p.aP s.Unit) (maxL (R_rate_Sides p.aP s.Unit)) (at_ ((weaveR (R_rate_Sides p.aP s.Unit)).1) i)).up).Y), .int .i64 (((R_mesh_vertex p cage id (R_rate_Sides p.aP s.Unit) (maxL (R_rate_Sides p.aP s.Unit)) (at_ ((weaveR (R_rate_Sides p.aP s.Unit)).1) i)).up).Z)], .int .i64 ((R_relief_Texel (at_ texs s.Tex) ((R_mesh_vertex p cage id (R_rate_Sides p.aP s.Unit) (maxL (R_rate_Sides p.aP s.Unit)) (at_ ((weaveR (R_rate_Sides p.aP s.Unit)).1) i)).atF)).1), .int .i64 s.Height]) rfl rfl (rfl) tf_29 (c_relief_Lift ((R_mesh_vertex p cage id (R_rate_Sides p.aP s.Unit) (maxL (R_rate_Sides p.aP s.Unit)) (at_ ((weaveR (R_rate_Sides p.aP s.Unit)).1) i)).atF) ((R_mesh_vertex p cage id (R_rate_Sides p.aP s.Unit) (maxL (R_rate_Sides p.aP s.Unit)) (at_ ((weaveR (R_rate_Sides p.aP s.Unit)).1) i)).up) ((R_relief_Texel (at_ texs s.Tex) ((R_mesh_vertex p cage id (R_rate_Sides p.aP s.Unit) (maxL (R_rate_Sides p.aP s.Unit)) (at_ ((weaveR (R_rate_Sides p.aP s.Unit)).1) i)).atF)).1) s.Height) ?_)
          intro H734 m735
          have h736 := m735 _ _ h727
          have h737 := m735 _ _ h728
          have h738 := m735 _ _ h729
          have o739 := Own.mono o730 m735
          have o740 := Own.mono o731 m735
          have m741 := m732.trans m735
          refine AOps.cons rfl rfl (AOp.move (.tup [.agg [.int .i64 (((R_relief_Lift ((R_mesh_vertex p cage id (R_rate_Sides p.aP s.Unit) (maxL (R_rate_Sides p.aP s.Unit)) (at_ ((weaveR (R_rate_Sides p.aP s.Unit)).1) i)).atF) ((R_mesh_vertex p cage id (R_rate_Sides p.aP s.Unit) (maxL (R_rate_Sides p.aP s.Unit)) (at_ ((weaveR (R_rate_Sides p.aP s.Unit)).1) i)).up) ((R_relief_Texel (at_ texs s.Tex) ((R_mesh_vertex p cage id (R_rate_Sides p.aP s.Unit) (maxL (R_rate_Sides p.aP s.Unit)) (at_ ((weaveR (R_rate_Sides p.aP s.Unit)).1) i)).atF)).1) s.Height).1).X), .int .i64 (((R_relief_Lift ((R_mesh_vertex p cage id (R_rate_Sides p.aP s.Unit) (maxL (R_rate_Sides p.aP s.Unit)) (at_ ((weaveR (R_rate_Sides p.aP s.Unit)).1) i)).atF) ((R_mesh_vertex p cage id (R_rate_Sides p.aP s.Unit) (maxL (R_rate_Sides p.aP s.Unit)) (at_ ((weaveR (R_rate_Sides p.aP s.Unit)).1) i)).up) ((R_relief_Texel (at_ texs s.Tex) ((R_mesh_vertex p cage id (R_rate_Sides p.aP s.Unit) (maxL (R_rate_Sides p.aP s.Unit)) (at_ ((weaveR (R_rate_Sides p.aP s.Unit)).1) i)).atF)).1) s.Height).1).Y), .int .i64 (((R_relief_Lift ((R_mesh_vertex p cage id (R_rate_Sides p.aP s.Unit) (maxL (R_rate_Sides p.aP s.Unit)) (at_ ((weaveR (R_rate_Sides p.aP s.Unit)).1) i)).atF) ((R_mesh_vertex p cage id (R_rate_Sides p.aP s.Unit) (maxL (R_rate_Sides p.aP s.Unit)) (at_ ((weaveR (R_rate_Sides p.aP s.Unit)).1) i)).up) ((R_relief_Texel (at_ texs s.Tex) ((R_mesh_vertex p cage id (R_rate_Sides p.aP s.Unit) (maxL (R_rate_Sides p.aP s.Unit)) (at_ ((weaveR (R_rate_Sides p.aP s.Unit)).1) i)).atF)).1) s.Height).1).Z)], .bool ((R_relief_Lift ((R_mesh_vertex p cage id (R_rate_Sides p.aP s.Unit) (maxL (R_rate_Sides p.aP s.Unit)) (at_ ((weaveR (R_rate_Sides p.aP s.Unit)).1) i)).atF) ((R_mesh_vertex p cage id (R_rate_Sides p.aP s.Unit) (maxL (R_rate_Sides p.aP s.Unit)) (at_ ((weaveR (R_rate_Sides p.aP s.Unit)).1) i)).up) ((R_relief_Texel (at_ texs s.Tex) ((R_mesh_vertex p cage id (R_rate_Sides p.aP s.Unit) (maxL (R_rate_Sides p.aP s.Unit)) (at_ ((weaveR (R_rate_Sides p.aP s.Unit)).1) i)).atF)).1) s.Height).2)]) rfl rfl ?_)
          refine AOps.cons rfl rfl (AOp.extract (.agg [.int .i64 (((R_relief_Lift ((R_mesh_vertex p cage id (R_rate_Sides p.aP s.Unit) (maxL (R_rate_Sides p.aP s.Unit)) (at_ ((weaveR (R_rate_Sides p.aP s.Unit)).1) i)).atF) ((R_mesh_vertex p cage id (R_rate_Sides p.aP s.Unit) (maxL (R_rate_Sides p.aP s.Unit)) (at_ ((weaveR (R_rate_Sides p.aP s.Unit)).1) i)).up) ((R_relief_Texel (at_ texs s.Tex) ((R_mesh_vertex p cage id (R_rate_Sides p.aP s.Unit) (maxL (R_rate_Sides p.aP s.Unit)) (at_ ((weaveR (R_rate_Sides p.aP s.Unit)).1) i)).atF)).1) s.Height).1).X), .int .i64 (((R_relief_Lift ((R_mesh_vertex p cage id (R_rate_Sides p.aP s.Unit) (maxL (R_rate_Sides p.aP s.Unit)) (at_ ((weaveR (R_rate_Sides p.aP s.Unit)).1) i)).atF) ((R_mesh_vertex p cage id (R_rate_Sides p.aP s.Unit) (maxL (R_rate_Sides p.aP s.Unit)) (at_ ((weaveR (R_rate_Sides p.aP s.Unit)).1) i)).up) ((R_relief_Texel (at_ texs s.Tex) ((R_mesh_vertex p cage id (R_rate_Sides p.aP s.Unit) (maxL (R_rate_Sides p.aP s.Unit)) (at_ ((weaveR (R_rate_Sides p.aP s.Unit)).1) i)).atF)).1) s.Height).1).Y), .int .i64 (((R_relief_Lift ((R_mesh_vertex p cage id (R_rate_Sides p.aP s.Unit) (maxL (R_rate_Sides p.aP s.Unit)) (at_ ((weaveR (R_rate_Sides p.aP s.Unit)).1) i)).atF) ((R_mesh_vertex p cage id (R_rate_Sides p.aP s.Unit) (maxL (R_rate_Sides p.aP s.Unit)) (at_ ((weaveR (R_rate_Sides p.aP s.Unit)).1) i)).up) ((R_relief_Texel (at_ texs s.Tex) ((R_mesh_vertex p cage id (R_rate_Sides p.aP s.Unit) (maxL (R_rate_Sides p.aP s.Unit)) (at_ ((weaveR (R_rate_Sides p.aP s.Unit)).1) i)).atF)).1) s.Height).1).Z)]) rfl rfl rfl ?_)
          refine AOps.cons rfl rfl (AOp.extract (.bool ((R_relief_Lift ((R_mesh_vertex p cage id (R_rate_Sides p.aP s.Unit) (maxL (R_rate_Sides p.aP s.Unit)) (at_ ((weaveR (R_rate_Sides p.aP s.Unit)).1) i)).atF) ((R_mesh_vertex p cage id (R_rate_Sides p.aP s.Unit) (maxL (R_rate_Sides p.aP s.Unit)) (at_ ((weaveR (R_rate_Sides p.aP s.Unit)).1) i)).up) ((R_relief_Texel (at_ texs s.Tex) ((R_mesh_vertex p cage id (R_rate_Sides p.aP s.Unit) (maxL (R_rate_Sides p.aP s.Unit)) (at_ ((weaveR (R_rate_Sides p.aP s.Unit)).1) i)).atF)).1) s.Height).2)) rfl rfl rfl ?_)
          refine AOps.cons rfl rfl (AOp.fieldAddr rfl rfl fl_78_0 ?_ (hid := ⟨_, h738⟩))
          refine AOps.cons rfl rfl (AOp.store' (cells' := [.int .i64 (((R_relief_Lift ((R_mesh_vertex p cage id (R_rate_Sides p.aP s.Unit) (maxL (R_rate_Sides p.aP s.Unit)) (at_ ((weaveR (R_rate_Sides p.aP s.Unit)).1) i)).atF) ((R_mesh_vertex p cage id (R_rate_Sides p.aP s.Unit) (maxL (R_rate_Sides p.aP s.Unit)) (at_ ((weaveR (R_rate_Sides p.aP s.Unit)).1) i)).up) ((R_relief_Texel (at_ texs s.Tex) ((R_mesh_vertex p cage id (R_rate_Sides p.aP s.Unit) (maxL (R_rate_Sides p.aP s.Unit)) (at_ ((weaveR (R_rate_Sides p.aP s.Unit)).1) i)).atF)).1) s.Height).1).X), .int .i64 (((R_relief_Lift ((R_mesh_vertex p cage id (R_rate_Sides p.aP s.Unit) (maxL (R_rate_Sides p.aP s.Unit)) (at_ ((weaveR (R_rate_Sides p.aP s.Unit)).1) i)).atF) ((R_mesh_vertex p cage id (R_rate_Sides p.aP s.Unit) (maxL (R_rate_Sides p.aP s.Unit)) (at_ ((weaveR (R_rate_Sides p.aP s.Unit)).1) i)).up) ((R_relief_Texel (at_ texs s.Tex) ((R_mesh_vertex p cage id (R_rate_Sides p.aP s.Unit) (maxL (R_rate_Sides p.aP s.Unit)) (at_ ((weaveR (R_rate_Sides p.aP s.Unit)).1) i)).atF)).1) s.Height).1).Y), .int .i64 (((R_relief_Lift ((R_mesh_vertex p cage id (R_rate_Sides p.aP s.Unit) (maxL (R_rate_Sides p.aP s.Unit)) (at_ ((weaveR (R_rate_Sides p.aP s.Unit)).1) i)).atF) ((R_mesh_vertex p cage id (R_rate_Sides p.aP s.Unit) (maxL (R_rate_Sides p.aP s.Unit)) (at_ ((weaveR (R_rate_Sides p.aP s.Unit)).1) i)).up) ((R_relief_Texel (at_ texs s.Tex) ((R_mesh_vertex p cage id (R_rate_Sides p.aP s.Unit) (maxL (R_rate_Sides p.aP s.Unit)) (at_ ((weaveR (R_rate_Sides p.aP s.Unit)).1) i)).atF)).1) s.Height).1).Z), .int .i64 (((R_mesh_vertex p cage id (R_rate_Sides p.aP s.Unit) (maxL (R_rate_Sides p.aP s.Unit)) (at_ ((weaveR (R_rate_Sides p.aP s.Unit)).1) i)).up).X), .int .i64 (((R_mesh_vertex p cage id (R_rate_Sides p.aP s.Unit) (maxL (R_rate_Sides p.aP s.Unit)) (at_ ((weaveR (R_rate_Sides p.aP s.Unit)).1) i)).up).Y), .int .i64 (((R_mesh_vertex p cage id (R_rate_Sides p.aP s.Unit) (maxL (R_rate_Sides p.aP s.Unit)) (at_ ((weaveR (R_rate_Sides p.aP s.Unit)).1) i)).up).Z), .int .i64 (((R_mesh_vertex p cage id (R_rate_Sides p.aP s.Unit) (maxL (R_rate_Sides p.aP s.Unit)) (at_ ((weaveR (R_rate_Sides p.aP s.Unit)).1) i)).key).Kind), .int .i64 (((R_mesh_vertex p cage id (R_rate_Sides p.aP s.Unit) (maxL (R_rate_Sides p.aP s.Unit)) (at_ ((weaveR (R_rate_Sides p.aP s.Unit)).1) i)).key).Of), .int .i64 (((R_mesh_vertex p cage id (R_rate_Sides p.aP s.Unit) (maxL (R_rate_Sides p.aP s.Unit)) (at_ ((weaveR (R_rate_Sides p.aP s.Unit)).1) i)).key).A), .int .i64 (((R_mesh_vertex p cage id (R_rate_Sides p.aP s.Unit) (maxL (R_rate_Sides p.aP s.Unit)) (at_ ((weaveR (R_rate_Sides p.aP s.Unit)).1) i)).key).B), .int .i64 (((R_mesh_vertex p cage id (R_rate_Sides p.aP s.Unit) (maxL (R_rate_Sides p.aP s.Unit)) (at_ ((weaveR (R_rate_Sides p.aP s.Unit)).1) i)).key).N)]) (.agg [.int .i64 (((R_relief_Lift ((R_mesh_vertex p cage id (R_rate_Sides p.aP s.Unit) (maxL (R_rate_Sides p.aP s.Unit)) (at_ ((weaveR (R_rate_Sides p.aP s.Unit)).1) i)).atF) ((R_mesh_vertex p cage id (R_rate_Sides p.aP s.Unit) (maxL (R_rate_Sides p.aP s.Unit)) (at_ ((weaveR (R_rate_Sides p.aP s.Unit)).1) i)).up) ((R_relief_Texel (at_ texs s.Tex) ((R_mesh_vertex p cage id (R_rate_Sides p.aP s.Unit) (maxL (R_rate_Sides p.aP s.Unit)) (at_ ((weaveR (R_rate_Sides p.aP s.Unit)).1) i)).atF)).1) s.Height).1).X), .int .i64 (((R_relief_Lift ((R_mesh_vertex p cage id (R_rate_Sides p.aP s.Unit) (maxL (R_rate_Sides p.aP s.Unit)) (at_ ((weaveR (R_rate_Sides p.aP s.Unit)).1) i)).atF) ((R_mesh_vertex p cage id (R_rate_Sides p.aP s.Unit) (maxL (R_rate_Sides p.aP s.Unit)) (at_ ((weaveR (R_rate_Sides p.aP s.Unit)).1) i)).up) ((R_relief_Texel (at_ texs s.Tex) ((R_mesh_vertex p cage id (R_rate_Sides p.aP s.Unit) (maxL (R_rate_Sides p.aP s.Unit)) (at_ ((weaveR (R_rate_Sides p.aP s.Unit)).1) i)).atF)).1) s.Height).1).Y), .int .i64 (((R_relief_Lift ((R_mesh_vertex p cage id (R_rate_Sides p.aP s.Unit) (maxL (R_rate_Sides p.aP s.Unit)) (at_ ((weaveR (R_rate_Sides p.aP s.Unit)).1) i)).atF) ((R_mesh_vertex p cage id (R_rate_Sides p.aP s.Unit) (maxL (R_rate_Sides p.aP s.Unit)) (at_ ((weaveR (R_rate_Sides p.aP s.Unit)).1) i)).up) ((R_relief_Texel (at_ texs s.Tex) ((R_mesh_vertex p cage id (R_rate_Sides p.aP s.Unit) (maxL (R_rate_Sides p.aP s.Unit)) (at_ ((weaveR (R_rate_Sides p.aP s.Unit)).1) i)).atF)).1) s.Height).1).Z)]) rfl rfl ts_23 h738 rfl rfl rfl rfl ?_)
          intro H742 h743 k744
          have h745 := keep k744 e704 h736
          have h746 := keep k744 e705 h737
          have o748 := Own.keep o739 k744 no710
          have o749 := Own.keep o740 k744 no712
          have m750 := Mono.set m741 z706 k744
          refine AOps.nil ?_
          change AWP _ _ _ _ _ _
          refine AWP.seq ?_
          have hpl : plT s texs (vtxD p cage id s (at_ (weaveR (R_rate_Sides p.aP s.Unit)).1 i)) = some ((R_relief_Lift ((R_mesh_vertex p cage id (R_rate_Sides p.aP s.Unit) (maxL (R_rate_Sides p.aP s.Unit)) (at_ ((weaveR (R_rate_Sides p.aP s.Unit)).1) i)).atF) ((R_mesh_vertex p cage id (R_rate_Sides p.aP s.Unit) (maxL (R_rate_Sides p.aP s.Unit)) (at_ ((weaveR (R_rate_Sides p.aP s.Unit)).1) i)).up) ((R_relief_Texel (at_ texs s.Tex) ((R_mesh_vertex p cage id (R_rate_Sides p.aP s.Unit) (maxL (R_rate_Sides p.aP s.Unit)) (at_ ((weaveR (R_rate_Sides p.aP s.Unit)).1) i)).atF)).1) s.Height).1) := by unfold plT vtxD; rw [if_pos ⟨by omega, by omega⟩, if_pos b733] <;> rfl
          have hq1 : (((weaveR (R_rate_Sides p.aP s.Unit)).1.take i.toNat).map (fD p cage id s texs)).length ≤ 400 := by simp only [List.length_map, List.length_take]; omega
          have hq2 : (((weaveR (R_rate_Sides p.aP s.Unit)).1.take i.toNat).map (kD p cage id s)).length ≤ 400 := by simp only [List.length_map, List.length_take]; omega
          refine AWP.region (l := [0, 1, 2, 3, 4, 5, 6, 7]) rfl ?_
          refine AOps.cons rfl rfl (AOp.fieldAddr rfl s647 fl_38_0 ?_ (hid := ⟨_, h746⟩))
          refine AOps.cons rfl rfl (AOp.load (w18_0) rfl rfl ty_34 h746 rfl ?_)
          refine AOps.cons rfl rfl (AOp.fieldAddr rfl rfl fl_78_0 ?_ (hid := ⟨_, h743⟩))
          refine AOps.cons rfl rfl (AOp.load (.agg [.int .i64 (((R_relief_Lift ((R_mesh_vertex p cage id (R_rate_Sides p.aP s.Unit) (maxL (R_rate_Sides p.aP s.Unit)) (at_ ((weaveR (R_rate_Sides p.aP s.Unit)).1) i)).atF) ((R_mesh_vertex p cage id (R_rate_Sides p.aP s.Unit) (maxL (R_rate_Sides p.aP s.Unit)) (at_ ((weaveR (R_rate_Sides p.aP s.Unit)).1) i)).up) ((R_relief_Texel (at_ texs s.Tex) ((R_mesh_vertex p cage id (R_rate_Sides p.aP s.Unit) (maxL (R_rate_Sides p.aP s.Unit)) (at_ ((weaveR (R_rate_Sides p.aP s.Unit)).1) i)).atF)).1) s.Height).1).X), .int .i64 (((R_relief_Lift ((R_mesh_vertex p cage id (R_rate_Sides p.aP s.Unit) (maxL (R_rate_Sides p.aP s.Unit)) (at_ ((weaveR (R_rate_Sides p.aP s.Unit)).1) i)).atF) ((R_mesh_vertex p cage id (R_rate_Sides p.aP s.Unit) (maxL (R_rate_Sides p.aP s.Unit)) (at_ ((weaveR (R_rate_Sides p.aP s.Unit)).1) i)).up) ((R_relief_Texel (at_ texs s.Tex) ((R_mesh_vertex p cage id (R_rate_Sides p.aP s.Unit) (maxL (R_rate_Sides p.aP s.Unit)) (at_ ((weaveR (R_rate_Sides p.aP s.Unit)).1) i)).atF)).1) s.Height).1).Y), .int .i64 (((R_relief_Lift ((R_mesh_vertex p cage id (R_rate_Sides p.aP s.Unit) (maxL (R_rate_Sides p.aP s.Unit)) (at_ ((weaveR (R_rate_Sides p.aP s.Unit)).1) i)).atF) ((R_mesh_vertex p cage id (R_rate_Sides p.aP s.Unit) (maxL (R_rate_Sides p.aP s.Unit)) (at_ ((weaveR (R_rate_Sides p.aP s.Unit)).1) i)).up) ((R_relief_Texel (at_ texs s.Tex) ((R_mesh_vertex p cage id (R_rate_Sides p.aP s.Unit) (maxL (R_rate_Sides p.aP s.Unit)) (at_ ((weaveR (R_rate_Sides p.aP s.Unit)).1) i)).atF)).1) s.Height).1).Z)]) rfl rfl ty_23 h743 rfl ?_)
          refine AOps.cons rfl rfl (AOp.buildSlice (cells := [.int .i64 (((R_relief_Lift ((R_mesh_vertex p cage id (R_rate_Sides p.aP s.Unit) (maxL (R_rate_Sides p.aP s.Unit)) (at_ ((weaveR (R_rate_Sides p.aP s.Unit)).1) i)).atF) ((R_mesh_vertex p cage id (R_rate_Sides p.aP s.Unit) (maxL (R_rate_Sides p.aP s.Unit)) (at_ ((weaveR (R_rate_Sides p.aP s.Unit)).1) i)).up) ((R_relief_Texel (at_ texs s.Tex) ((R_mesh_vertex p cage id (R_rate_Sides p.aP s.Unit) (maxL (R_rate_Sides p.aP s.Unit)) (at_ ((weaveR (R_rate_Sides p.aP s.Unit)).1) i)).atF)).1) s.Height).1).X), .int .i64 (((R_relief_Lift ((R_mesh_vertex p cage id (R_rate_Sides p.aP s.Unit) (maxL (R_rate_Sides p.aP s.Unit)) (at_ ((weaveR (R_rate_Sides p.aP s.Unit)).1) i)).atF) ((R_mesh_vertex p cage id (R_rate_Sides p.aP s.Unit) (maxL (R_rate_Sides p.aP s.Unit)) (at_ ((weaveR (R_rate_Sides p.aP s.Unit)).1) i)).up) ((R_relief_Texel (at_ texs s.Tex) ((R_mesh_vertex p cage id (R_rate_Sides p.aP s.Unit) (maxL (R_rate_Sides p.aP s.Unit)) (at_ ((weaveR (R_rate_Sides p.aP s.Unit)).1) i)).atF)).1) s.Height).1).Y), .int .i64 (((R_relief_Lift ((R_mesh_vertex p cage id (R_rate_Sides p.aP s.Unit) (maxL (R_rate_Sides p.aP s.Unit)) (at_ ((weaveR (R_rate_Sides p.aP s.Unit)).1) i)).atF) ((R_mesh_vertex p cage id (R_rate_Sides p.aP s.Unit) (maxL (R_rate_Sides p.aP s.Unit)) (at_ ((weaveR (R_rate_Sides p.aP s.Unit)).1) i)).up) ((R_relief_Texel (at_ texs s.Tex) ((R_mesh_vertex p cage id (R_rate_Sides p.aP s.Unit) (maxL (R_rate_Sides p.aP s.Unit)) (at_ ((weaveR (R_rate_Sides p.aP s.Unit)).1) i)).atF)).1) s.Height).1).Z)]) rfl u_34 ts_23 tz_23 rfl rfl rfl ?_)
          intro i751 H752 n753 h754 k755
          have e756 := ne_new h745 n753
          have e757 := ne_new h746 n753
          have e758 := ne_new h743 n753
          have z759 := Mono.free m750 n753
          have h760 := keep k755 (ne_new h745 n753) h745
          have h761 := keep k755 (ne_new h746 n753) h746
          have h762 := keep k755 (ne_new h743 n753) h743
          have o763 := Own.keep o748 k755 (Own.notnew o748 n753)
          have no764 := Own.notnew o748 n753
          have o765 := Own.keep o749 k755 (Own.notnew o749 n753)
          have no766 := Own.notnew o749 n753
          have m767 := Mono.new m750 n753 k755
          refine AOps.cons rfl rfl (AOp.append_own (es := 3) (m := 1) (len := ((((weaveR (R_rate_Sides p.aP s.Unit)).1.take i.toNat).map (fD p cage id s texs)).length)) (old := (((weaveR (R_rate_Sides p.aP s.Unit)).1.take i.toNat).map (fD p cage id s texs)).flatMap eV) (cells := [.int .i64 (((R_relief_Lift ((R_mesh_vertex p cage id (R_rate_Sides p.aP s.Unit) (maxL (R_rate_Sides p.aP s.Unit)) (at_ ((weaveR (R_rate_Sides p.aP s.Unit)).1) i)).atF) ((R_mesh_vertex p cage id (R_rate_Sides p.aP s.Unit) (maxL (R_rate_Sides p.aP s.Unit)) (at_ ((weaveR (R_rate_Sides p.aP s.Unit)).1) i)).up) ((R_relief_Texel (at_ texs s.Tex) ((R_mesh_vertex p cage id (R_rate_Sides p.aP s.Unit) (maxL (R_rate_Sides p.aP s.Unit)) (at_ ((weaveR (R_rate_Sides p.aP s.Unit)).1) i)).atF)).1) s.Height).1).X), .int .i64 (((R_relief_Lift ((R_mesh_vertex p cage id (R_rate_Sides p.aP s.Unit) (maxL (R_rate_Sides p.aP s.Unit)) (at_ ((weaveR (R_rate_Sides p.aP s.Unit)).1) i)).atF) ((R_mesh_vertex p cage id (R_rate_Sides p.aP s.Unit) (maxL (R_rate_Sides p.aP s.Unit)) (at_ ((weaveR (R_rate_Sides p.aP s.Unit)).1) i)).up) ((R_relief_Texel (at_ texs s.Tex) ((R_mesh_vertex p cage id (R_rate_Sides p.aP s.Unit) (maxL (R_rate_Sides p.aP s.Unit)) (at_ ((weaveR (R_rate_Sides p.aP s.Unit)).1) i)).atF)).1) s.Height).1).Y), .int .i64 (((R_relief_Lift ((R_mesh_vertex p cage id (R_rate_Sides p.aP s.Unit) (maxL (R_rate_Sides p.aP s.Unit)) (at_ ((weaveR (R_rate_Sides p.aP s.Unit)).1) i)).atF) ((R_mesh_vertex p cage id (R_rate_Sides p.aP s.Unit) (maxL (R_rate_Sides p.aP s.Unit)) (at_ ((weaveR (R_rate_Sides p.aP s.Unit)).1) i)).up) ((R_relief_Texel (at_ texs s.Tex) ((R_mesh_vertex p cage id (R_rate_Sides p.aP s.Unit) (maxL (R_rate_Sides p.aP s.Unit)) (at_ ((weaveR (R_rate_Sides p.aP s.Unit)).1) i)).atF)).1) s.Height).1).Z)]) rfl u_34 ts_23 tzn_23 tb_23 (by decide) ni_34 rfl o763 m767 rfl (.slm h754 rfl) (one_of rfl) (by decide) (by first | omega | (simp; omega)) ?_)
          intro v768 H769 o770 m771 k772 j773
          have o774 := Own.snocM (xs := ((((weaveR (R_rate_Sides p.aP s.Unit)).1.take i.toNat).map (fD p cage id s texs)) : List VT)) (y := ((R_relief_Lift ((R_mesh_vertex p cage id (R_rate_Sides p.aP s.Unit) (maxL (R_rate_Sides p.aP s.Unit)) (at_ ((weaveR (R_rate_Sides p.aP s.Unit)).1) i)).atF) ((R_mesh_vertex p cage id (R_rate_Sides p.aP s.Unit) (maxL (R_rate_Sides p.aP s.Unit)) (at_ ((weaveR (R_rate_Sides p.aP s.Unit)).1) i)).up) ((R_relief_Texel (at_ texs s.Tex) ((R_mesh_vertex p cage id (R_rate_Sides p.aP s.Unit) (maxL (R_rate_Sides p.aP s.Unit)) (at_ ((weaveR (R_rate_Sides p.aP s.Unit)).1) i)).atF)).1) s.Height).1)) (e := eV) (by simp) o770
          have h775 := (k772 _ no652 (by rw [h760]; simp)).trans h760
          have no776 := j773 _ no652 (by rw [h760]; simp)
          have h777 := (k772 _ no653 (by rw [h761]; simp)).trans h761
          have no778 := j773 _ no653 (by rw [h761]; simp)
          have h779 := (k772 _ no710 (by rw [h762]; simp)).trans h762
          have no780 := j773 _ no710 (by rw [h762]; simp)
          have sp782 := Own.sep o765 (Sep.symm sp656) j773
          have o781 := Own.stay o765 (Sep.symm sp656) k772
          refine AOps.cons rfl rfl (AOp.fieldAddr rfl s647 fl_38_0 ?_ (hid := ⟨_, h777⟩))
          refine AOps.cons rfl rfl (AOp.storeO (cells' := [v768, w18_1, .sl ((weaveR (R_rate_Sides p.aP s.Unit)).2.1).length (((weaveR (R_rate_Sides p.aP s.Unit)).2.1).flatMap eI3)]) rfl rfl o774 ts_34 h777 rfl rfl ?_)
          intro H783 h784 k785
          have h786 := keep k785 e629 h775
          have h788 := keep k785 (Ne.symm e705) h779
          have o789 := Own.keep o781 k785 no655
          have o790 := Own.keep o774 k785 no778
          have m791 := Mono.set m771 z630 k785
          refine AOps.nil ?_
          change AWP _ _ _ _ _ _
          refine AWP.region (l := [0, 1, 2, 3, 4, 5, 6, 7]) rfl ?_
          refine AOps.cons rfl rfl (AOp.fieldAddr rfl s647 fl_38_1 ?_ (hid := ⟨_, h784⟩))
          refine AOps.cons rfl rfl (AOp.load (w18_1) rfl rfl ty_35 h784 rfl ?_)
          refine AOps.cons rfl rfl (AOp.fieldAddr rfl rfl fl_78_2 ?_ (hid := ⟨_, h788⟩))
          refine AOps.cons rfl rfl (AOp.load (.agg [.int .i64 (((R_mesh_vertex p cage id (R_rate_Sides p.aP s.Unit) (maxL (R_rate_Sides p.aP s.Unit)) (at_ ((weaveR (R_rate_Sides p.aP s.Unit)).1) i)).key).Kind), .int .i64 (((R_mesh_vertex p cage id (R_rate_Sides p.aP s.Unit) (maxL (R_rate_Sides p.aP s.Unit)) (at_ ((weaveR (R_rate_Sides p.aP s.Unit)).1) i)).key).Of), .int .i64 (((R_mesh_vertex p cage id (R_rate_Sides p.aP s.Unit) (maxL (R_rate_Sides p.aP s.Unit)) (at_ ((weaveR (R_rate_Sides p.aP s.Unit)).1) i)).key).A), .int .i64 (((R_mesh_vertex p cage id (R_rate_Sides p.aP s.Unit) (maxL (R_rate_Sides p.aP s.Unit)) (at_ ((weaveR (R_rate_Sides p.aP s.Unit)).1) i)).key).B), .int .i64 (((R_mesh_vertex p cage id (R_rate_Sides p.aP s.Unit) (maxL (R_rate_Sides p.aP s.Unit)) (at_ ((weaveR (R_rate_Sides p.aP s.Unit)).1) i)).key).N)]) rfl rfl ty_58 h788 rfl ?_)
          refine AOps.cons rfl rfl (AOp.buildSlice (cells := [.int .i64 (((R_mesh_vertex p cage id (R_rate_Sides p.aP s.Unit) (maxL (R_rate_Sides p.aP s.Unit)) (at_ ((weaveR (R_rate_Sides p.aP s.Unit)).1) i)).key).Kind), .int .i64 (((R_mesh_vertex p cage id (R_rate_Sides p.aP s.Unit) (maxL (R_rate_Sides p.aP s.Unit)) (at_ ((weaveR (R_rate_Sides p.aP s.Unit)).1) i)).key).Of), .int .i64 (((R_mesh_vertex p cage id (R_rate_Sides p.aP s.Unit) (maxL (R_rate_Sides p.aP s.Unit)) (at_ ((weaveR (R_rate_Sides p.aP s.Unit)).1) i)).key).A), .int .i64 (((R_mesh_vertex p cage id (R_rate_Sides p.aP s.Unit) (maxL (R_rate_Sides p.aP s.Unit)) (at_ ((weaveR (R_rate_Sides p.aP s.Unit)).1) i)).key).B), .int .i64 (((R_mesh_vertex p cage id (R_rate_Sides p.aP s.Unit) (maxL (R_rate_Sides p.aP s.Unit)) (at_ ((weaveR (R_rate_Sides p.aP s.Unit)).1) i)).key).N)]) rfl u_35 ts_58 tz_58 rfl rfl rfl ?_)
          intro i792 H793 n794 h795 k796
          have e797 := ne_new h786 n794
          have e798 := ne_new h788 n794
          have e799 := ne_new h784 n794
          have z800 := Mono.free m791 n794
          have h801 := keep k796 (ne_new h786 n794) h786
          have h802 := keep k796 (ne_new h788 n794) h788
          have h803 := keep k796 (ne_new h784 n794) h784
          have o804 := Own.keep o789 k796 (Own.notnew o789 n794)
          have no805 := Own.notnew o789 n794
          have o806 := Own.keep o790 k796 (Own.notnew o790 n794)
          have no807 := Own.notnew o790 n794
          have m808 := Mono.new m791 n794 k796
          refine AOps.cons rfl rfl (AOp.append_own (es := 5) (m := 1) (len := ((((weaveR (R_rate_Sides p.aP s.Unit)).1.take i.toNat).map (kD p cage id s)).length)) (old := (((weaveR (R_rate_Sides p.aP s.Unit)).1.take i.toNat).map (kD p cage id s)).flatMap eKey) (cells := [.int .i64 (((R_mesh_vertex p cage id (R_rate_Sides p.aP s.Unit) (maxL (R_rate_Sides p.aP s.Unit)) (at_ ((weaveR (R_rate_Sides p.aP s.Unit)).1) i)).key).Kind), .int .i64 (((R_mesh_vertex p cage id (R_rate_Sides p.aP s.Unit) (maxL (R_rate_Sides p.aP s.Unit)) (at_ ((weaveR (R_rate_Sides p.aP s.Unit)).1) i)).key).Of), .int .i64 (((R_mesh_vertex p cage id (R_rate_Sides p.aP s.Unit) (maxL (R_rate_Sides p.aP s.Unit)) (at_ ((weaveR (R_rate_Sides p.aP s.Unit)).1) i)).key).A), .int .i64 (((R_mesh_vertex p cage id (R_rate_Sides p.aP s.Unit) (maxL (R_rate_Sides p.aP s.Unit)) (at_ ((weaveR (R_rate_Sides p.aP s.Unit)).1) i)).key).B), .int .i64 (((R_mesh_vertex p cage id (R_rate_Sides p.aP s.Unit) (maxL (R_rate_Sides p.aP s.Unit)) (at_ ((weaveR (R_rate_Sides p.aP s.Unit)).1) i)).key).N)]) rfl u_35 ts_58 tzn_58 tb_58 (by decide) ni_35 rfl o804 m808 rfl (.slm h795 rfl) (one_of rfl) (by decide) (by first | omega | (simp; omega)) ?_)
          intro v809 H810 o811 m812 k813 j814
          have o815 := Own.snocM (xs := ((((weaveR (R_rate_Sides p.aP s.Unit)).1.take i.toNat).map (kD p cage id s)) : List KeyT)) (y := ((R_mesh_vertex p cage id (R_rate_Sides p.aP s.Unit) (maxL (R_rate_Sides p.aP s.Unit)) (at_ ((weaveR (R_rate_Sides p.aP s.Unit)).1) i)).key)) (e := eKey) (by simp) o811
          have h816 := (k813 _ no654 (by rw [h801]; simp)).trans h801
          have no817 := j814 _ no654 (by rw [h801]; simp)
          have h818 := (k813 _ no712 (by rw [h802]; simp)).trans h802
          have no819 := j814 _ no712 (by rw [h802]; simp)
          have h820 := (k813 _ no655 (by rw [h803]; simp)).trans h803
          have no821 := j814 _ no655 (by rw [h803]; simp)
          have sp823 := Own.sep o806 (Sep.symm sp782) j814
          have o822 := Own.stay o806 (Sep.symm sp782) k813
          refine AOps.cons rfl rfl (AOp.fieldAddr rfl s647 fl_38_1 ?_ (hid := ⟨_, h820⟩))
          refine AOps.cons rfl rfl (AOp.storeO (cells' := [v768, v809, .sl ((weaveR (R_rate_Sides p.aP s.Unit)).2.1).length (((weaveR (R_rate_Sides p.aP s.Unit)).2.1).flatMap eI3)]) rfl rfl o815 ts_35 h820 rfl rfl ?_)
          intro H824 h825 k826
          have h827 := keep k826 e629 h816
          have h828 := keep k826 (Ne.symm e705) h818
          have o830 := Own.keep o822 k826 no778
          have o831 := Own.keep o815 k826 no821
          have m832 := Mono.set m812 z630 k826
          refine AOps.nil ?_
          change AWP _ _ _ _ _ _
          refine AWP.region (l := [0, 1]) rfl ?_
          refine AOps.cons rfl rfl (AOp.bin (.int .i64 (i + 1)) rfl s642 rfl (iadd (by omega)) ?_)
          refine AOps.cons rfl rfl (AOp.move (.int .i64 (i + 1)) rfl rfl ?_)
          refine AOps.nil ?_
          exact ⟨_, by omega, i + 1, v768, v809, rfl, rfl, s643, s644, s645, s646, s647, s648, s649, (have hx : (((((weaveR (R_rate_Sides p.aP s.Unit)).1.take i.toNat).map (fD p cage id s texs)) ++ [((R_relief_Lift ((R_mesh_vertex p cage id (R_rate_Sides p.aP s.Unit) (maxL (R_rate_Sides p.aP s.Unit)) (at_ ((weaveR (R_rate_Sides p.aP s.Unit)).1) i)).atF) ((R_mesh_vertex p cage id (R_rate_Sides p.aP s.Unit) (maxL (R_rate_Sides p.aP s.Unit)) (at_ ((weaveR (R_rate_Sides p.aP s.Unit)).1) i)).up) ((R_relief_Texel (at_ texs s.Tex) ((R_mesh_vertex p cage id (R_rate_Sides p.aP s.Unit) (maxL (R_rate_Sides p.aP s.Unit)) (at_ ((weaveR (R_rate_Sides p.aP s.Unit)).1) i)).atF)).1) s.Height).1)]) : List VT) = ((weaveR (R_rate_Sides p.aP s.Unit)).1.take (i + 1).toNat).map (fD p cage id s texs) := (by exact map_step hi0 (by omega) (fD_of hpl)); Own.re o830 (congrArg List.length hx) (congrArg (fun l : List VT => l.flatMap eV) hx)), (have hx : (((((weaveR (R_rate_Sides p.aP s.Unit)).1.take i.toNat).map (kD p cage id s)) ++ [((R_mesh_vertex p cage id (R_rate_Sides p.aP s.Unit) (maxL (R_rate_Sides p.aP s.Unit)) (at_ ((weaveR (R_rate_Sides p.aP s.Unit)).1) i)).key)]) : List KeyT) = ((weaveR (R_rate_Sides p.aP s.Unit)).1.take (i + 1).toNat).map (kD p cage id s) := (by exact map_step hi0 (by omega) rfl); Own.re o831 (congrArg List.length hx) (congrArg (fun l : List KeyT => l.flatMap eKey) hx)), no776, no778, no817, no821, sp823, h827, h825, m832, by omega, by omega, by exact fa_step pre (by rw [hpl]; rfl)⟩
         ·
          refine AWP.condT rfl (nb b733) ?_
          refine AWP.seq ?_
          refine AWP.region (l := [0, 1, 2]) rfl ?_
          refine AOps.cons rfl rfl (AOp.build (cells := [.snil, .snil, .snil]) rfl tz_38 pl_38 rfl rfl ?_)
          refine AOps.cons rfl rfl (AOp.store' (cells' := [.snil, .snil, .snil]) (.agg [.snil, .snil, .snil]) s645 rfl ts_38 h727 rfl rfl rfl rfl ?_)
          intro H833 h834 k835
          have h837 := keep k835 (Ne.symm e629) h728
          have h838 := keep k835 (Ne.symm e704) h729
          have o839 := Own.keep o730 k835 no652
          have o840 := Own.keep o731 k835 no654
          have m841 := Mono.set m732 z24 k835
          refine AOps.cons rfl rfl (AOp.assign (.int .i64 11) rfl rfl ?_)
          refine AOps.nil ?_
          change AWP _ _ _ _ _ _
          refine AWP.ret ?_
          refine Fin.frzCell 0 (Own.nil H0 H833 1) h834 z24 rfl (NotId.nil _) m841 fun H842 h843 m844 k845 => ?_
          have h846 := (k845 _ (Ne.symm e629) (NotId.nil _)).trans h837
          have h847 := (k845 _ (Ne.symm e704) (NotId.nil _)).trans h838
          have o848 := Own.stay2 o839 (Sep.nilR _) no652 k845
          have o849 := Own.stay2 o840 (Sep.nilR _) no654 k845
          have h850 : H842 i17 = some (.row 0 ([.sl 0 ([]), .snil, .snil])) := h843
          refine Fin.frzCell 1 (Own.nil H0 H842 1) h850 z24 rfl (NotId.nil _) m844 fun H851 h852 m853 k854 => ?_
          have h855 := (k854 _ (Ne.symm e629) (NotId.nil _)).trans h846
          have h856 := (k854 _ (Ne.symm e704) (NotId.nil _)).trans h847
          have o857 := Own.stay2 o848 (Sep.nilR _) no652 k854
          have o858 := Own.stay2 o849 (Sep.nilR _) no654 k854
          have h859 : H851 i17 = some (.row 0 ([.sl 0 ([]), .sl 0 ([]), .snil])) := h852
          refine Fin.frzCell 2 (Own.nil H0 H851 1) h859 z24 rfl (NotId.nil _) m853 fun H860 h861 m862 k863 => ?_
          have h864 := (k863 _ (Ne.symm e629) (NotId.nil _)).trans h855
          have h865 := (k863 _ (Ne.symm e704) (NotId.nil _)).trans h856
          have o866 := Own.stay2 o857 (Sep.nilR _) no652 k863
          have o867 := Own.stay2 o858 (Sep.nilR _) no654 k863
          have h868 : H860 i17 = some (.row 0 ([.sl 0 ([]), .sl 0 ([]), .sl 0 ([])])) := h861
          refine ⟨_, _, Ghost.refl, .inr rfl, _, Res.list rfl rfl (.cell (v := .agg [.sl 0 ([]), .sl 0 ([]), .sl 0 ([])]) s645 ty_38 h868 rfl (.tmp rfl (.nil))), ?_, m862⟩
          exact congrArg AV.tup (lc (congrArg AV.agg (lc (congrArg (fun l : List VT => AV.sl l.length (l.flatMap eV)) (show ([] : List VT) = (((diceR p cage id s texs).1).Verts) from by first | (exfalso; omega) | rw [dice_bad h0 hi0 (by omega) (show plT s texs (vtxD p cage id s (at_ (weaveR (R_rate_Sides p.aP s.Unit)).1 i)) = none by unfold plT vtxD; rw [if_pos ⟨by omega, by omega⟩, if_neg (ff b733)])])) (lc (congrArg (fun l : List KeyT => AV.sl l.length (l.flatMap eKey)) (show ([] : List KeyT) = (((diceR p cage id s texs).1).Keys) from by first | (exfalso; omega) | rw [dice_bad h0 hi0 (by omega) (show plT s texs (vtxD p cage id s (at_ (weaveR (R_rate_Sides p.aP s.Unit)).1 i)) = none by unfold plT vtxD; rw [if_pos ⟨by omega, by omega⟩, if_neg (ff b733)])])) (lc (congrArg (fun l : List I3T => AV.sl l.length (l.flatMap eI3)) (show ([] : List I3T) = (((diceR p cage id s texs).1).Tris) from by first | (exfalso; omega) | rw [dice_bad h0 hi0 (by omega) (show plT s texs (vtxD p cage id s (at_ (weaveR (R_rate_Sides p.aP s.Unit)).1 i)) = none by unfold plT vtxD; rw [if_pos ⟨by omega, by omega⟩, if_neg (ff b733)])])) rfl)))) (lc (congrArg (AV.int .i64) (show (11 : Int) = (diceR p cage id s texs).2 from by first | (exfalso; omega) | rw [dice_bad h0 hi0 (by omega) (show plT s texs (vtxD p cage id s (at_ (weaveR (R_rate_Sides p.aP s.Unit)).1 i)) = none by unfold plT vtxD; rw [if_pos ⟨by omega, by omega⟩, if_neg (ff b733)])])) rfl))
        ·
         refine AWP.condF rfl (decide_eq_false b724) ?_
         refine AWP.skip ?_
         change AWP _ _ _ _ _ _
         refine AWP.seq ?_
         have hpl : plT s texs (vtxD p cage id s (at_ (weaveR (R_rate_Sides p.aP s.Unit)).1 i)) = some ((R_mesh_vertex p cage id (R_rate_Sides p.aP s.Unit) (maxL (R_rate_Sides p.aP s.Unit)) (at_ ((weaveR (R_rate_Sides p.aP s.Unit)).1) i)).atF) := by unfold plT vtxD; rw [if_neg (by omega)] <;> rfl
         have hq1 : (((weaveR (R_rate_Sides p.aP s.Unit)).1.take i.toNat).map (fD p cage id s texs)).length ≤ 400 := by simp only [List.length_map, List.length_take]; omega
         have hq2 : (((weaveR (R_rate_Sides p.aP s.Unit)).1.take i.toNat).map (kD p cage id s)).length ≤ 400 := by simp only [List.length_map, List.length_take]; omega
         refine AWP.region (l := [0, 1, 2, 3, 4, 5, 6, 7]) rfl ?_
         refine AOps.cons rfl rfl (AOp.fieldAddr rfl s647 fl_38_0 ?_ (hid := ⟨_, h718⟩))
         refine AOps.cons rfl rfl (AOp.load (w18_0) rfl rfl ty_34 h718 rfl ?_)
         refine AOps.cons rfl rfl (AOp.fieldAddr rfl rfl fl_78_0 ?_ (hid := ⟨_, h715⟩))
         refine AOps.cons rfl rfl (AOp.load (.agg [.int .i64 (((R_mesh_vertex p cage id (R_rate_Sides p.aP s.Unit) (maxL (R_rate_Sides p.aP s.Unit)) (at_ ((weaveR (R_rate_Sides p.aP s.Unit)).1) i)).atF).X), .int .i64 (((R_mesh_vertex p cage id (R_rate_Sides p.aP s.Unit) (maxL (R_rate_Sides p.aP s.Unit)) (at_ ((weaveR (R_rate_Sides p.aP s.Unit)).1) i)).atF).Y), .int .i64 (((R_mesh_vertex p cage id (R_rate_Sides p.aP s.Unit) (maxL (R_rate_Sides p.aP s.Unit)) (at_ ((weaveR (R_rate_Sides p.aP s.Unit)).1) i)).atF).Z)]) rfl rfl ty_23 h715 rfl ?_)
         refine AOps.cons rfl rfl (AOp.buildSlice (cells := [.int .i64 (((R_mesh_vertex p cage id (R_rate_Sides p.aP s.Unit) (maxL (R_rate_Sides p.aP s.Unit)) (at_ ((weaveR (R_rate_Sides p.aP s.Unit)).1) i)).atF).X), .int .i64 (((R_mesh_vertex p cage id (R_rate_Sides p.aP s.Unit) (maxL (R_rate_Sides p.aP s.Unit)) (at_ ((weaveR (R_rate_Sides p.aP s.Unit)).1) i)).atF).Y), .int .i64 (((R_mesh_vertex p cage id (R_rate_Sides p.aP s.Unit) (maxL (R_rate_Sides p.aP s.Unit)) (at_ ((weaveR (R_rate_Sides p.aP s.Unit)).1) i)).atF).Z)]) rfl u_34 ts_23 tz_23 rfl rfl rfl ?_)
         intro i869 H870 n871 h872 k873
         have e874 := ne_new h717 n871
         have e875 := ne_new h718 n871
         have e876 := ne_new h715 n871
         have z877 := Mono.free m722 n871
         have h878 := keep k873 (ne_new h717 n871) h717
         have h879 := keep k873 (ne_new h718 n871) h718
         have h880 := keep k873 (ne_new h715 n871) h715
         have o881 := Own.keep o720 k873 (Own.notnew o720 n871)
         have no882 := Own.notnew o720 n871
         have o883 := Own.keep o721 k873 (Own.notnew o721 n871)
         have no884 := Own.notnew o721 n871
         have m885 := Mono.new m722 n871 k873
         refine AOps.cons rfl rfl (AOp.append_own (es := 3) (m := 1) (len := ((((weaveR (R_rate_Sides p.aP s.Unit)).1.take i.toNat).map (fD p cage id s texs)).length)) (old := (((weaveR (R_rate_Sides p.aP s.Unit)).1.take i.toNat).map (fD p cage id s texs)).flatMap eV) (cells := [.int .i64 (((R_mesh_vertex p cage id (R_rate_Sides p.aP s.Unit) (maxL (R_rate_Sides p.aP s.Unit)) (at_ ((weaveR (R_rate_Sides p.aP s.Unit)).1) i)).atF).X), .int .i64 (((R_mesh_vertex p cage id (R_rate_Sides p.aP s.Unit) (maxL (R_rate_Sides p.aP s.Unit)) (at_ ((weaveR (R_rate_Sides p.aP s.Unit)).1) i)).atF).Y), .int .i64 (((R_mesh_vertex p cage id (R_rate_Sides p.aP s.Unit) (maxL (R_rate_Sides p.aP s.Unit)) (at_ ((weaveR (R_rate_Sides p.aP s.Unit)).1) i)).atF).Z)]) rfl u_34 ts_23 tzn_23 tb_23 (by decide) ni_34 rfl o881 m885 rfl (.slm h872 rfl) (one_of rfl) (by decide) (by first | omega | (simp; omega)) ?_)
         intro v886 H887 o888 m889 k890 j891
         have o892 := Own.snocM (xs := ((((weaveR (R_rate_Sides p.aP s.Unit)).1.take i.toNat).map (fD p cage id s texs)) : List VT)) (y := ((R_mesh_vertex p cage id (R_rate_Sides p.aP s.Unit) (maxL (R_rate_Sides p.aP s.Unit)) (at_ ((weaveR (R_rate_Sides p.aP s.Unit)).1) i)).atF)) (e := eV) (by simp) o888
         have h893 := (k890 _ no652 (by rw [h878]; simp)).trans h878
         have no894 := j891 _ no652 (by rw [h878]; simp)
         have h895 := (k890 _ no653 (by rw [h879]; simp)).trans h879
         have no896 := j891 _ no653 (by rw [h879]; simp)
         have h897 := (k890 _ no710 (by rw [h880]; simp)).trans h880
         have no898 := j891 _ no710 (by rw [h880]; simp)
         have sp900 := Own.sep o883 (Sep.symm sp656) j891
         have o899 := Own.stay o883 (Sep.symm sp656) k890
         refine AOps.cons rfl rfl (AOp.fieldAddr rfl s647 fl_38_0 ?_ (hid := ⟨_, h895⟩))
         refine AOps.cons rfl rfl (AOp.storeO (cells' := [v886, w18_1, .sl ((weaveR (R_rate_Sides p.aP s.Unit)).2.1).length (((weaveR (R_rate_Sides p.aP s.Unit)).2.1).flatMap eI3)]) rfl rfl o892 ts_34 h895 rfl rfl ?_)
         intro H901 h902 k903
         have h904 := keep k903 e629 h893
         have h906 := keep k903 (Ne.symm e705) h897
         have o907 := Own.keep o899 k903 no655
         have o908 := Own.keep o892 k903 no896
         have m909 := Mono.set m889 z630 k903
         refine AOps.nil ?_
         change AWP _ _ _ _ _ _
         refine AWP.region (l := [0, 1, 2, 3, 4, 5, 6, 7]) rfl ?_
         refine AOps.cons rfl rfl (AOp.fieldAddr rfl s647 fl_38_1 ?_ (hid := ⟨_, h902⟩))
         refine AOps.cons rfl rfl (AOp.load (w18_1) rfl rfl ty_35 h902 rfl ?_)
         refine AOps.cons rfl rfl (AOp.fieldAddr rfl rfl fl_78_2 ?_ (hid := ⟨_, h906⟩))
         refine AOps.cons rfl rfl (AOp.load (.agg [.int .i64 (((R_mesh_vertex p cage id (R_rate_Sides p.aP s.Unit) (maxL (R_rate_Sides p.aP s.Unit)) (at_ ((weaveR (R_rate_Sides p.aP s.Unit)).1) i)).key).Kind), .int .i64 (((R_mesh_vertex p cage id (R_rate_Sides p.aP s.Unit) (maxL (R_rate_Sides p.aP s.Unit)) (at_ ((weaveR (R_rate_Sides p.aP s.Unit)).1) i)).key).Of), .int .i64 (((R_mesh_vertex p cage id (R_rate_Sides p.aP s.Unit) (maxL (R_rate_Sides p.aP s.Unit)) (at_ ((weaveR (R_rate_Sides p.aP s.Unit)).1) i)).key).A), .int .i64 (((R_mesh_vertex p cage id (R_rate_Sides p.aP s.Unit) (maxL (R_rate_Sides p.aP s.Unit)) (at_ ((weaveR (R_rate_Sides p.aP s.Unit)).1) i)).key).B), .int .i64 (((R_mesh_vertex p cage id (R_rate_Sides p.aP s.Unit) (maxL (R_rate_Sides p.aP s.Unit)) (at_ ((weaveR (R_rate_Sides p.aP s.Unit)).1) i)).key).N)]) rfl rfl ty_58 h906 rfl ?_)
         refine AOps.cons rfl rfl (AOp.buildSlice (cells := [.int .i64 (((R_mesh_vertex p cage id (R_rate_Sides p.aP s.Unit) (maxL (R_rate_Sides p.aP s.Unit)) (at_ ((weaveR (R_rate_Sides p.aP s.Unit)).1) i)).key).Kind), .int .i64 (((R_mesh_vertex p cage id (R_rate_Sides p.aP s.Unit) (maxL (R_rate_Sides p.aP s.Unit)) (at_ ((weaveR (R_rate_Sides p.aP s.Unit)).1) i)).key).Of), .int .i64 (((R_mesh_vertex p cage id (R_rate_Sides p.aP s.Unit) (maxL (R_rate_Sides p.aP s.Unit)) (at_ ((weaveR (R_rate_Sides p.aP s.Unit)).1) i)).key).A), .int .i64 (((R_mesh_vertex p cage id (R_rate_Sides p.aP s.Unit) (maxL (R_rate_Sides p.aP s.Unit)) (at_ ((weaveR (R_rate_Sides p.aP s.Unit)).1) i)).key).B), .int .i64 (((R_mesh_vertex p cage id (R_rate_Sides p.aP s.Unit) (maxL (R_rate_Sides p.aP s.Unit)) (at_ ((weaveR (R_rate_Sides p.aP s.Unit)).1) i)).key).N)]) rfl u_35 ts_58 tz_58 rfl rfl rfl ?_)
         intro i910 H911 n912 h913 k914
         have e915 := ne_new h904 n912
         have e916 := ne_new h906 n912
         have e917 := ne_new h902 n912
         have z918 := Mono.free m909 n912
         have h919 := keep k914 (ne_new h904 n912) h904
         have h920 := keep k914 (ne_new h906 n912) h906
         have h921 := keep k914 (ne_new h902 n912) h902
         have o922 := Own.keep o907 k914 (Own.notnew o907 n912)
         have no923 := Own.notnew o907 n912
         have o924 := Own.keep o908 k914 (Own.notnew o908 n912)
         have no925 := Own.notnew o908 n912
         have m926 := Mono.new m909 n912 k914
         refine AOps.cons rfl rfl (AOp.append_own (es := 5) (m := 1) (len := ((((weaveR (R_rate_Sides p.aP s.Unit)).1.take i.toNat).map (kD p cage id s)).length)) (old := (((weaveR (R_rate_Sides p.aP s.Unit)).1.take i.toNat).map (kD p cage id s)).flatMap eKey) (cells := [.int .i64 (((R_mesh_vertex p cage id (R_rate_Sides p.aP s.Unit) (maxL (R_rate_Sides p.aP s.Unit)) (at_ ((weaveR (R_rate_Sides p.aP s.Unit)).1) i)).key).Kind), .int .i64 (((R_mesh_vertex p cage id (R_rate_Sides p.aP s.Unit) (maxL (R_rate_Sides p.aP s.Unit)) (at_ ((weaveR (R_rate_Sides p.aP s.Unit)).1) i)).key).Of), .int .i64 (((R_mesh_vertex p cage id (R_rate_Sides p.aP s.Unit) (maxL (R_rate_Sides p.aP s.Unit)) (at_ ((weaveR (R_rate_Sides p.aP s.Unit)).1) i)).key).A), .int .i64 (((R_mesh_vertex p cage id (R_rate_Sides p.aP s.Unit) (maxL (R_rate_Sides p.aP s.Unit)) (at_ ((weaveR (R_rate_Sides p.aP s.Unit)).1) i)).key).B), .int .i64 (((R_mesh_vertex p cage id (R_rate_Sides p.aP s.Unit) (maxL (R_rate_Sides p.aP s.Unit)) (at_ ((weaveR (R_rate_Sides p.aP s.Unit)).1) i)).key).N)]) rfl u_35 ts_58 tzn_58 tb_58 (by decide) ni_35 rfl o922 m926 rfl (.slm h913 rfl) (one_of rfl) (by decide) (by first | omega | (simp; omega)) ?_)
         intro v927 H928 o929 m930 k931 j932
         have o933 := Own.snocM (xs := ((((weaveR (R_rate_Sides p.aP s.Unit)).1.take i.toNat).map (kD p cage id s)) : List KeyT)) (y := ((R_mesh_vertex p cage id (R_rate_Sides p.aP s.Unit) (maxL (R_rate_Sides p.aP s.Unit)) (at_ ((weaveR (R_rate_Sides p.aP s.Unit)).1) i)).key)) (e := eKey) (by simp) o929
         have h934 := (k931 _ no654 (by rw [h919]; simp)).trans h919
         have no935 := j932 _ no654 (by rw [h919]; simp)
         have h936 := (k931 _ no712 (by rw [h920]; simp)).trans h920
         have no937 := j932 _ no712 (by rw [h920]; simp)
         have h938 := (k931 _ no655 (by rw [h921]; simp)).trans h921
         have no939 := j932 _ no655 (by rw [h921]; simp)
         have sp941 := Own.sep o924 (Sep.symm sp900) j932
         have o940 := Own.stay o924 (Sep.symm sp900) k931
         refine AOps.cons rfl rfl (AOp.fieldAddr rfl s647 fl_38_1 ?_ (hid := ⟨_, h938⟩))
         refine AOps.cons rfl rfl (AOp.storeO (cells' := [v886, v927, .sl ((weaveR (R_rate_Sides p.aP s.Unit)).2.1).length (((weaveR (R_rate_Sides p.aP s.Unit)).2.1).flatMap eI3)]) rfl rfl o933 ts_35 h938 rfl rfl ?_)
         intro H942 h943 k944
         have h945 := keep k944 e629 h934
         have h946 := keep k944 (Ne.symm e705) h936
         have o948 := Own.keep o940 k944 no896
         have o949 := Own.keep o933 k944 no939
         have m950 := Mono.set m930 z630 k944
         refine AOps.nil ?_
         change AWP _ _ _ _ _ _
         refine AWP.region (l := [0, 1]) rfl ?_
         refine AOps.cons rfl rfl (AOp.bin (.int .i64 (i + 1)) rfl s642 rfl (iadd (by omega)) ?_)
         refine AOps.cons rfl rfl (AOp.move (.int .i64 (i + 1)) rfl rfl ?_)
         refine AOps.nil ?_
         exact ⟨_, by omega, i + 1, v886, v927, rfl, rfl, s643, s644, s645, s646, s647, s648, s649, (have hx : (((((weaveR (R_rate_Sides p.aP s.Unit)).1.take i.toNat).map (fD p cage id s texs)) ++ [((R_mesh_vertex p cage id (R_rate_Sides p.aP s.Unit) (maxL (R_rate_Sides p.aP s.Unit)) (at_ ((weaveR (R_rate_Sides p.aP s.Unit)).1) i)).atF)]) : List VT) = ((weaveR (R_rate_Sides p.aP s.Unit)).1.take (i + 1).toNat).map (fD p cage id s texs) := (by exact map_step hi0 (by omega) (fD_of hpl)); Own.re o948 (congrArg List.length hx) (congrArg (fun l : List VT => l.flatMap eV) hx)), (have hx : (((((weaveR (R_rate_Sides p.aP s.Unit)).1.take i.toNat).map (kD p cage id s)) ++ [((R_mesh_vertex p cage id (R_rate_Sides p.aP s.Unit) (maxL (R_rate_Sides p.aP s.Unit)) (at_ ((weaveR (R_rate_Sides p.aP s.Unit)).1) i)).key)]) : List KeyT) = ((weaveR (R_rate_Sides p.aP s.Unit)).1.take (i + 1).toNat).map (kD p cage id s) := (by exact map_step hi0 (by omega) rfl); Own.re o949 (congrArg List.length hx) (congrArg (fun l : List KeyT => l.flatMap eKey) hx)), no894, no896, no935, no939, sp941, h945, h943, m950, by omega, by omega, by exact fa_step pre (by rw [hpl]; rfl)⟩
       ·
        refine AOps.no rfl rfl rfl rfl rfl rfl rfl (ble_of (decide_eq_false b723) (by decide)) ?_
        refine AOps.no rfl rfl rfl rfl rfl rfl rfl (ble_of (decide_eq_false b723) (by decide)) ?_
        refine AOps.no rfl rfl rfl rfl rfl rfl rfl (ble_of (decide_eq_false b723) (by decide)) ?_
        refine AOps.cons rfl rfl (AOp.pickF (.bool false) rfl rfl (decide_eq_false b723) rfl ?_)
        refine AOps.nil ?_
        change AWP _ _ _ _ _ _
        refine AWP.condF rfl rfl ?_
        refine AWP.skip ?_
        change AWP _ _ _ _ _ _
        refine AWP.seq ?_
        have hpl : plT s texs (vtxD p cage id s (at_ (weaveR (R_rate_Sides p.aP s.Unit)).1 i)) = some ((R_mesh_vertex p cage id (R_rate_Sides p.aP s.Unit) (maxL (R_rate_Sides p.aP s.Unit)) (at_ ((weaveR (R_rate_Sides p.aP s.Unit)).1) i)).atF) := by unfold plT vtxD; rw [if_neg (by omega)] <;> rfl
        have hq1 : (((weaveR (R_rate_Sides p.aP s.Unit)).1.take i.toNat).map (fD p cage id s texs)).length ≤ 400 := by simp only [List.length_map, List.length_take]; omega
        have hq2 : (((weaveR (R_rate_Sides p.aP s.Unit)).1.take i.toNat).map (kD p cage id s)).length ≤ 400 := by simp only [List.length_map, List.length_take]; omega
        refine AWP.region (l := [0, 1, 2, 3, 4, 5, 6, 7]) rfl ?_
        refine AOps.cons rfl rfl (AOp.fieldAddr rfl s647 fl_38_0 ?_ (hid := ⟨_, h718⟩))
        refine AOps.cons rfl rfl (AOp.load (w18_0) rfl rfl ty_34 h718 rfl ?_)
        refine AOps.cons rfl rfl (AOp.fieldAddr rfl rfl fl_78_0 ?_ (hid := ⟨_, h715⟩))
        refine AOps.cons rfl rfl (AOp.load (.agg [.int .i64 (((R_mesh_vertex p cage id (R_rate_Sides p.aP s.Unit) (maxL (R_rate_Sides p.aP s.Unit)) (at_ ((weaveR (R_rate_Sides p.aP s.Unit)).1) i)).atF).X), .int .i64 (((R_mesh_vertex p cage id (R_rate_Sides p.aP s.Unit) (maxL (R_rate_Sides p.aP s.Unit)) (at_ ((weaveR (R_rate_Sides p.aP s.Unit)).1) i)).atF).Y), .int .i64 (((R_mesh_vertex p cage id (R_rate_Sides p.aP s.Unit) (maxL (R_rate_Sides p.aP s.Unit)) (at_ ((weaveR (R_rate_Sides p.aP s.Unit)).1) i)).atF).Z)]) rfl rfl ty_23 h715 rfl ?_)
        refine AOps.cons rfl rfl (AOp.buildSlice (cells := [.int .i64 (((R_mesh_vertex p cage id (R_rate_Sides p.aP s.Unit) (maxL (R_rate_Sides p.aP s.Unit)) (at_ ((weaveR (R_rate_Sides p.aP s.Unit)).1) i)).atF).X), .int .i64 (((R_mesh_vertex p cage id (R_rate_Sides p.aP s.Unit) (maxL (R_rate_Sides p.aP s.Unit)) (at_ ((weaveR (R_rate_Sides p.aP s.Unit)).1) i)).atF).Y), .int .i64 (((R_mesh_vertex p cage id (R_rate_Sides p.aP s.Unit) (maxL (R_rate_Sides p.aP s.Unit)) (at_ ((weaveR (R_rate_Sides p.aP s.Unit)).1) i)).atF).Z)]) rfl u_34 ts_23 tz_23 rfl rfl rfl ?_)
        intro i951 H952 n953 h954 k955
        have e956 := ne_new h717 n953
        have e957 := ne_new h718 n953
        have e958 := ne_new h715 n953
        have z959 := Mono.free m722 n953
        have h960 := keep k955 (ne_new h717 n953) h717
        have h961 := keep k955 (ne_new h718 n953) h718
        have h962 := keep k955 (ne_new h715 n953) h715
        have o963 := Own.keep o720 k955 (Own.notnew o720 n953)
        have no964 := Own.notnew o720 n953
        have o965 := Own.keep o721 k955 (Own.notnew o721 n953)
        have no966 := Own.notnew o721 n953
        have m967 := Mono.new m722 n953 k955
        refine AOps.cons rfl rfl (AOp.append_own (es := 3) (m := 1) (len := ((((weaveR (R_rate_Sides p.aP s.Unit)).1.take i.toNat).map (fD p cage id s texs)).length)) (old := (((weaveR (R_rate_Sides p.aP s.Unit)).1.take i.toNat).map (fD p cage id s texs)).flatMap eV) (cells := [.int .i64 (((R_mesh_vertex p cage id (R_rate_Sides p.aP s.Unit) (maxL (R_rate_Sides p.aP s.Unit)) (at_ ((weaveR (R_rate_Sides p.aP s.Unit)).1) i)).atF).X), .int .i64 (((R_mesh_vertex p cage id (R_rate_Sides p.aP s.Unit) (maxL (R_rate_Sides p.aP s.Unit)) (at_ ((weaveR (R_rate_Sides p.aP s.Unit)).1) i)).atF).Y), .int .i64 (((R_mesh_vertex p cage id (R_rate_Sides p.aP s.Unit) (maxL (R_rate_Sides p.aP s.Unit)) (at_ ((weaveR (R_rate_Sides p.aP s.Unit)).1) i)).atF).Z)]) rfl u_34 ts_23 tzn_23 tb_23 (by decide) ni_34 rfl o963 m967 rfl (.slm h954 rfl) (one_of rfl) (by decide) (by first | omega | (simp; omega)) ?_)
        intro v968 H969 o970 m971 k972 j973
        have o974 := Own.snocM (xs := ((((weaveR (R_rate_Sides p.aP s.Unit)).1.take i.toNat).map (fD p cage id s texs)) : List VT)) (y := ((R_mesh_vertex p cage id (R_rate_Sides p.aP s.Unit) (maxL (R_rate_Sides p.aP s.Unit)) (at_ ((weaveR (R_rate_Sides p.aP s.Unit)).1) i)).atF)) (e := eV) (by simp) o970
        have h975 := (k972 _ no652 (by rw [h960]; simp)).trans h960
        have no976 := j973 _ no652 (by rw [h960]; simp)
        have h977 := (k972 _ no653 (by rw [h961]; simp)).trans h961
        have no978 := j973 _ no653 (by rw [h961]; simp)
        have h979 := (k972 _ no710 (by rw [h962]; simp)).trans h962
        have no980 := j973 _ no710 (by rw [h962]; simp)
        have sp982 := Own.sep o965 (Sep.symm sp656) j973
        have o981 := Own.stay o965 (Sep.symm sp656) k972
        refine AOps.cons rfl rfl (AOp.fieldAddr rfl s647 fl_38_0 ?_ (hid := ⟨_, h977⟩))
        refine AOps.cons rfl rfl (AOp.storeO (cells' := [v968, w18_1, .sl ((weaveR (R_rate_Sides p.aP s.Unit)).2.1).length (((weaveR (R_rate_Sides p.aP s.Unit)).2.1).flatMap eI3)]) rfl rfl o974 ts_34 h977 rfl rfl ?_)
        intro H983 h984 k985
        have h986 := keep k985 e629 h975
        have h988 := keep k985 (Ne.symm e705) h979
        have o989 := Own.keep o981 k985 no655
        have o990 := Own.keep o974 k985 no978
        have m991 := Mono.set m971 z630 k985
        refine AOps.nil ?_
        change AWP _ _ _ _ _ _
        refine AWP.region (l := [0, 1, 2, 3, 4, 5, 6, 7]) rfl ?_
        refine AOps.cons rfl rfl (AOp.fieldAddr rfl s647 fl_38_1 ?_ (hid := ⟨_, h984⟩))
        refine AOps.cons rfl rfl (AOp.load (w18_1) rfl rfl ty_35 h984 rfl ?_)
        refine AOps.cons rfl rfl (AOp.fieldAddr rfl rfl fl_78_2 ?_ (hid := ⟨_, h988⟩))
        refine AOps.cons rfl rfl (AOp.load (.agg [.int .i64 (((R_mesh_vertex p cage id (R_rate_Sides p.aP s.Unit) (maxL (R_rate_Sides p.aP s.Unit)) (at_ ((weaveR (R_rate_Sides p.aP s.Unit)).1) i)).key).Kind), .int .i64 (((R_mesh_vertex p cage id (R_rate_Sides p.aP s.Unit) (maxL (R_rate_Sides p.aP s.Unit)) (at_ ((weaveR (R_rate_Sides p.aP s.Unit)).1) i)).key).Of), .int .i64 (((R_mesh_vertex p cage id (R_rate_Sides p.aP s.Unit) (maxL (R_rate_Sides p.aP s.Unit)) (at_ ((weaveR (R_rate_Sides p.aP s.Unit)).1) i)).key).A), .int .i64 (((R_mesh_vertex p cage id (R_rate_Sides p.aP s.Unit) (maxL (R_rate_Sides p.aP s.Unit)) (at_ ((weaveR (R_rate_Sides p.aP s.Unit)).1) i)).key).B), .int .i64 (((R_mesh_vertex p cage id (R_rate_Sides p.aP s.Unit) (maxL (R_rate_Sides p.aP s.Unit)) (at_ ((weaveR (R_rate_Sides p.aP s.Unit)).1) i)).key).N)]) rfl rfl ty_58 h988 rfl ?_)
        refine AOps.cons rfl rfl (AOp.buildSlice (cells := [.int .i64 (((R_mesh_vertex p cage id (R_rate_Sides p.aP s.Unit) (maxL (R_rate_Sides p.aP s.Unit)) (at_ ((weaveR (R_rate_Sides p.aP s.Unit)).1) i)).key).Kind), .int .i64 (((R_mesh_vertex p cage id (R_rate_Sides p.aP s.Unit) (maxL (R_rate_Sides p.aP s.Unit)) (at_ ((weaveR (R_rate_Sides p.aP s.Unit)).1) i)).key).Of), .int .i64 (((R_mesh_vertex p cage id (R_rate_Sides p.aP s.Unit) (maxL (R_rate_Sides p.aP s.Unit)) (at_ ((weaveR (R_rate_Sides p.aP s.Unit)).1) i)).key).A), .int .i64 (((R_mesh_vertex p cage id (R_rate_Sides p.aP s.Unit) (maxL (R_rate_Sides p.aP s.Unit)) (at_ ((weaveR (R_rate_Sides p.aP s.Unit)).1) i)).key).B), .int .i64 (((R_mesh_vertex p cage id (R_rate_Sides p.aP s.Unit) (maxL (R_rate_Sides p.aP s.Unit)) (at_ ((weaveR (R_rate_Sides p.aP s.Unit)).1) i)).key).N)]) rfl u_35 ts_58 tz_58 rfl rfl rfl ?_)
        intro i992 H993 n994 h995 k996
        have e997 := ne_new h986 n994
        have e998 := ne_new h988 n994
        have e999 := ne_new h984 n994
        have z1000 := Mono.free m991 n994
        have h1001 := keep k996 (ne_new h986 n994) h986
        have h1002 := keep k996 (ne_new h988 n994) h988
        have h1003 := keep k996 (ne_new h984 n994) h984
        have o1004 := Own.keep o989 k996 (Own.notnew o989 n994)
        have no1005 := Own.notnew o989 n994
        have o1006 := Own.keep o990 k996 (Own.notnew o990 n994)
        have no1007 := Own.notnew o990 n994
        have m1008 := Mono.new m991 n994 k996
        refine AOps.cons rfl rfl (AOp.append_own (es := 5) (m := 1) (len := ((((weaveR (R_rate_Sides p.aP s.Unit)).1.take i.toNat).map (kD p cage id s)).length)) (old := (((weaveR (R_rate_Sides p.aP s.Unit)).1.take i.toNat).map (kD p cage id s)).flatMap eKey) (cells := [.int .i64 (((R_mesh_vertex p cage id (R_rate_Sides p.aP s.Unit) (maxL (R_rate_Sides p.aP s.Unit)) (at_ ((weaveR (R_rate_Sides p.aP s.Unit)).1) i)).key).Kind), .int .i64 (((R_mesh_vertex p cage id (R_rate_Sides p.aP s.Unit) (maxL (R_rate_Sides p.aP s.Unit)) (at_ ((weaveR (R_rate_Sides p.aP s.Unit)).1) i)).key).Of), .int .i64 (((R_mesh_vertex p cage id (R_rate_Sides p.aP s.Unit) (maxL (R_rate_Sides p.aP s.Unit)) (at_ ((weaveR (R_rate_Sides p.aP s.Unit)).1) i)).key).A), .int .i64 (((R_mesh_vertex p cage id (R_rate_Sides p.aP s.Unit) (maxL (R_rate_Sides p.aP s.Unit)) (at_ ((weaveR (R_rate_Sides p.aP s.Unit)).1) i)).key).B), .int .i64 (((R_mesh_vertex p cage id (R_rate_Sides p.aP s.Unit) (maxL (R_rate_Sides p.aP s.Unit)) (at_ ((weaveR (R_rate_Sides p.aP s.Unit)).1) i)).key).N)]) rfl u_35 ts_58 tzn_58 tb_58 (by decide) ni_35 rfl o1004 m1008 rfl (.slm h995 rfl) (one_of rfl) (by decide) (by first | omega | (simp; omega)) ?_)
        intro v1009 H1010 o1011 m1012 k1013 j1014
        have o1015 := Own.snocM (xs := ((((weaveR (R_rate_Sides p.aP s.Unit)).1.take i.toNat).map (kD p cage id s)) : List KeyT)) (y := ((R_mesh_vertex p cage id (R_rate_Sides p.aP s.Unit) (maxL (R_rate_Sides p.aP s.Unit)) (at_ ((weaveR (R_rate_Sides p.aP s.Unit)).1) i)).key)) (e := eKey) (by simp) o1011
        have h1016 := (k1013 _ no654 (by rw [h1001]; simp)).trans h1001
        have no1017 := j1014 _ no654 (by rw [h1001]; simp)
        have h1018 := (k1013 _ no712 (by rw [h1002]; simp)).trans h1002
        have no1019 := j1014 _ no712 (by rw [h1002]; simp)
        have h1020 := (k1013 _ no655 (by rw [h1003]; simp)).trans h1003
        have no1021 := j1014 _ no655 (by rw [h1003]; simp)
        have sp1023 := Own.sep o1006 (Sep.symm sp982) j1014
        have o1022 := Own.stay o1006 (Sep.symm sp982) k1013
        refine AOps.cons rfl rfl (AOp.fieldAddr rfl s647 fl_38_1 ?_ (hid := ⟨_, h1020⟩))
        refine AOps.cons rfl rfl (AOp.storeO (cells' := [v968, v1009, .sl ((weaveR (R_rate_Sides p.aP s.Unit)).2.1).length (((weaveR (R_rate_Sides p.aP s.Unit)).2.1).flatMap eI3)]) rfl rfl o1015 ts_35 h1020 rfl rfl ?_)
        intro H1024 h1025 k1026
        have h1027 := keep k1026 e629 h1016
        have h1028 := keep k1026 (Ne.symm e705) h1018
        have o1030 := Own.keep o1022 k1026 no978
        have o1031 := Own.keep o1015 k1026 no1021
        have m1032 := Mono.set m1012 z630 k1026
        refine AOps.nil ?_
        change AWP _ _ _ _ _ _
        refine AWP.region (l := [0, 1]) rfl ?_
        refine AOps.cons rfl rfl (AOp.bin (.int .i64 (i + 1)) rfl s642 rfl (iadd (by omega)) ?_)
        refine AOps.cons rfl rfl (AOp.move (.int .i64 (i + 1)) rfl rfl ?_)
        refine AOps.nil ?_
        exact ⟨_, by omega, i + 1, v968, v1009, rfl, rfl, s643, s644, s645, s646, s647, s648, s649, (have hx : (((((weaveR (R_rate_Sides p.aP s.Unit)).1.take i.toNat).map (fD p cage id s texs)) ++ [((R_mesh_vertex p cage id (R_rate_Sides p.aP s.Unit) (maxL (R_rate_Sides p.aP s.Unit)) (at_ ((weaveR (R_rate_Sides p.aP s.Unit)).1) i)).atF)]) : List VT) = ((weaveR (R_rate_Sides p.aP s.Unit)).1.take (i + 1).toNat).map (fD p cage id s texs) := (by exact map_step hi0 (by omega) (fD_of hpl)); Own.re o1030 (congrArg List.length hx) (congrArg (fun l : List VT => l.flatMap eV) hx)), (have hx : (((((weaveR (R_rate_Sides p.aP s.Unit)).1.take i.toNat).map (kD p cage id s)) ++ [((R_mesh_vertex p cage id (R_rate_Sides p.aP s.Unit) (maxL (R_rate_Sides p.aP s.Unit)) (at_ ((weaveR (R_rate_Sides p.aP s.Unit)).1) i)).key)]) : List KeyT) = ((weaveR (R_rate_Sides p.aP s.Unit)).1.take (i + 1).toNat).map (kD p cage id s) := (by exact map_step hi0 (by omega) rfl); Own.re o1031 (congrArg List.length hx) (congrArg (fun l : List KeyT => l.flatMap eKey) hx)), no976, no978, no1017, no1021, sp1023, h1027, h1025, m1032, by omega, by omega, by exact fa_step pre (by rw [hpl]; rfl)⟩
      ·
       refine AWP.condF rfl (decide_eq_false b660) ?_
       refine AWP.exit ?_
       change AWP _ _ _ _ _ _
       refine AWP.seq ?_
       refine AWP.region (l := [0, 1, 2]) rfl ?_
       refine AOps.cons rfl rfl (AOp.load (.agg [w18_0, w18_1, .sl ((weaveR (R_rate_Sides p.aP s.Unit)).2.1).length (((weaveR (R_rate_Sides p.aP s.Unit)).2.1).flatMap eI3)]) rfl s647 ty_38 h658 rfl ?_)
       refine AOps.cons rfl rfl (AOp.store' (cells' := [w18_0, w18_1, .sl ((weaveR (R_rate_Sides p.aP s.Unit)).2.1).length (((weaveR (R_rate_Sides p.aP s.Unit)).2.1).flatMap eI3)]) (.agg [w18_0, w18_1, .sl ((weaveR (R_rate_Sides p.aP s.Unit)).2.1).length (((weaveR (R_rate_Sides p.aP s.Unit)).2.1).flatMap eI3)]) s645 rfl ts_38 h657 (by simp only [AV.cells, List.all_cons, List.all_nil, Own.one_ o650, Own.one_ o651]; rfl) rfl rfl rfl ?_)
       intro H1033 h1034 k1035
       have h1037 := keep k1035 (Ne.symm e629) h658
       have o1038 := Own.keep o650 k1035 no652
       have o1039 := Own.keep o651 k1035 no654
       have m1040 := Mono.set m659 z24 k1035
       refine AOps.cons rfl rfl (AOp.assign (.int .i64 0) rfl rfl ?_)
       refine AOps.nil ?_
       change AWP _ _ _ _ _ _
       refine AWP.ret ?_
       refine Fin.frzCell 0 o1038 h1034 z24 rfl no652 m1040 fun H1041 h1042 m1043 k1044 => ?_
       have h1045 := (k1044 _ (Ne.symm e629) no653).trans h1037
       have o1046 := Own.stay2 o1039 (Sep.symm sp656) no654 k1044
       have h1047 : H1041 i17 = some (.row 0 ([.sl (((weaveR (R_rate_Sides p.aP s.Unit)).1.take i.toNat).map (fD p cage id s texs)).length ((((weaveR (R_rate_Sides p.aP s.Unit)).1.take i.toNat).map (fD p cage id s texs)).flatMap eV), w18_1, .sl ((weaveR (R_rate_Sides p.aP s.Unit)).2.1).length (((weaveR (R_rate_Sides p.aP s.Unit)).2.1).flatMap eI3)])) := h1042
       refine Fin.frzCell 1 o1046 h1047 z24 rfl no654 m1043 fun H1048 h1049 m1050 k1051 => ?_
       have h1052 := (k1051 _ (Ne.symm e629) no655).trans h1045
       have h1053 : H1048 i17 = some (.row 0 ([.sl (((weaveR (R_rate_Sides p.aP s.Unit)).1.take i.toNat).map (fD p cage id s texs)).length ((((weaveR (R_rate_Sides p.aP s.Unit)).1.take i.toNat).map (fD p cage id s texs)).flatMap eV), .sl (((weaveR (R_rate_Sides p.aP s.Unit)).1.take i.toNat).map (kD p cage id s)).length ((((weaveR (R_rate_Sides p.aP s.Unit)).1.take i.toNat).map (kD p cage id s)).flatMap eKey), .sl ((weaveR (R_rate_Sides p.aP s.Unit)).2.1).length (((weaveR (R_rate_Sides p.aP s.Unit)).2.1).flatMap eI3)])) := h1049
       refine ⟨_, _, Ghost.refl, .inr rfl, _, Res.list rfl rfl (.cell (v := .agg [.sl (((weaveR (R_rate_Sides p.aP s.Unit)).1.take i.toNat).map (fD p cage id s texs)).length ((((weaveR (R_rate_Sides p.aP s.Unit)).1.take i.toNat).map (fD p cage id s texs)).flatMap eV), .sl (((weaveR (R_rate_Sides p.aP s.Unit)).1.take i.toNat).map (kD p cage id s)).length ((((weaveR (R_rate_Sides p.aP s.Unit)).1.take i.toNat).map (kD p cage id s)).flatMap eKey), .sl ((weaveR (R_rate_Sides p.aP s.Unit)).2.1).length (((weaveR (R_rate_Sides p.aP s.Unit)).2.1).flatMap eI3)]) s645 ty_38 h1053 rfl (.tmp rfl (.nil))), ?_, m1050⟩
       exact congrArg AV.tup (lc (congrArg AV.agg (lc (congrArg (fun l : List VT => AV.sl l.length (l.flatMap eV)) (show ((((weaveR (R_rate_Sides p.aP s.Unit)).1.take i.toNat).map (fD p cage id s texs)) : List VT) = (((diceR p cage id s texs).1).Verts) from by first | (exfalso; omega) | rw [dice_ok h0 (by omega) pre])) (lc (congrArg (fun l : List KeyT => AV.sl l.length (l.flatMap eKey)) (show ((((weaveR (R_rate_Sides p.aP s.Unit)).1.take i.toNat).map (kD p cage id s)) : List KeyT) = (((diceR p cage id s texs).1).Keys) from by first | (exfalso; omega) | rw [dice_ok h0 (by omega) pre])) (lc (congrArg (fun l : List I3T => AV.sl l.length (l.flatMap eI3)) (show ((weaveR (R_rate_Sides p.aP s.Unit)).2.1 : List I3T) = (((diceR p cage id s texs).1).Tris) from by first | (exfalso; omega) | rw [dice_ok h0 (by omega) pre])) rfl)))) (lc (congrArg (AV.int .i64) (show (0 : Int) = (diceR p cage id s texs).2 from by first | (exfalso; omega) | rw [dice_ok h0 (by omega) pre])) rfl))
    ·
     refine AWP.condT rfl (nb (decide_eq_false b579)) ?_
     refine AWP.seq ?_
     refine AWP.region (l := [0, 1, 2, 3]) rfl ?_
     refine AOps.cons rfl rfl (AOp.build (cells := [.snil, .snil, .snil]) rfl tz_38 pl_38 rfl rfl ?_)
     refine AOps.cons rfl rfl (AOp.move (.int .i64 (R_mesh_fine p s)) rfl rfl ?_)
     refine AOps.cons rfl rfl (AOp.store' (cells' := [.snil, .snil, .snil]) (.agg [.snil, .snil, .snil]) rfl rfl ts_38 h39 rfl rfl rfl rfl ?_)
     intro H1054 h1055 k1056
     have m1058 := Mono.set m40 z24 k1056
     refine AOps.cons rfl rfl (AOp.assign (.int .i64 (R_mesh_fine p s)) rfl rfl ?_)
     refine AOps.nil ?_
     change AWP _ _ _ _ _ _
     refine AWP.ret ?_
     refine Fin.frzCell 0 (Own.nil H0 H1054 1) h1055 z24 rfl (NotId.nil _) m1058 fun H1059 h1060 m1061 k1062 => ?_
     have h1063 : H1059 i17 = some (.row 0 ([.sl 0 ([]), .snil, .snil])) := h1060
     refine Fin.frzCell 1 (Own.nil H0 H1059 1) h1063 z24 rfl (NotId.nil _) m1061 fun H1064 h1065 m1066 k1067 => ?_
     have h1068 : H1064 i17 = some (.row 0 ([.sl 0 ([]), .sl 0 ([]), .snil])) := h1065
     refine Fin.frzCell 2 (Own.nil H0 H1064 1) h1068 z24 rfl (NotId.nil _) m1066 fun H1069 h1070 m1071 k1072 => ?_
     have h1073 : H1069 i17 = some (.row 0 ([.sl 0 ([]), .sl 0 ([]), .sl 0 ([])])) := h1070
     refine ⟨_, _, Ghost.refl, .inr rfl, _, Res.list rfl rfl (.cell (v := .agg [.sl 0 ([]), .sl 0 ([]), .sl 0 ([])]) rfl ty_38 h1073 rfl (.tmp rfl (.nil))), ?_, m1071⟩
     exact congrArg AV.tup (lc (congrArg AV.agg (lc (congrArg (fun l : List VT => AV.sl l.length (l.flatMap eV)) (show ([] : List VT) = (((diceR p cage id s texs).1).Verts) from by first | (exfalso; omega) | (rw [dice_err (e := R_mesh_fine p s) (by unfold errD; split <;> omega) (by omega)] <;> rfl))) (lc (congrArg (fun l : List KeyT => AV.sl l.length (l.flatMap eKey)) (show ([] : List KeyT) = (((diceR p cage id s texs).1).Keys) from by first | (exfalso; omega) | (rw [dice_err (e := R_mesh_fine p s) (by unfold errD; split <;> omega) (by omega)] <;> rfl))) (lc (congrArg (fun l : List I3T => AV.sl l.length (l.flatMap eI3)) (show ([] : List I3T) = (((diceR p cage id s texs).1).Tris) from by first | (exfalso; omega) | (rw [dice_err (e := R_mesh_fine p s) (by unfold errD; split <;> omega) (by omega)] <;> rfl))) rfl)))) (lc (congrArg (AV.int .i64) (show (R_mesh_fine p s : Int) = (diceR p cage id s texs).2 from by first | (exfalso; omega) | (rw [dice_err (e := R_mesh_fine p s) (by unfold errD; split <;> omega) (by omega)] <;> rfl))) rfl))
end Go.Proofs.M
namespace Go.Proofs.M
open Go Go.AH
theorem c_mesh_Dice0 (p : PatchT) (cage id : Int) (s : SkinT) : PC Tryd.prog 11 [.agg (p.aP.flatMap eV ++ (p.aCorners.map eI ++ (p.aNormals.flatMap eV ++ [.int .i64 p.Skin]))), .int .i64 cage, .int .i64 id, .agg [.str s.Name, .int .i64 s.Mat, .int .i64 s.Levels, .int .i64 s.Unit, .int .i64 s.Tex, .int .i64 s.Height], .snil] (.tup [.agg [.sl (((diceR p cage id s ([] : List TexT)).1).Verts).length ((((diceR p cage id s ([] : List TexT)).1).Verts).flatMap eV), .sl (((diceR p cage id s ([] : List TexT)).1).Keys).length ((((diceR p cage id s ([] : List TexT)).1).Keys).flatMap eKey), .sl (((diceR p cage id s ([] : List TexT)).1).Tris).length ((((diceR p cage id s ([] : List TexT)).1).Tris).flatMap eI3)], .int .i64 ((diceR p cage id s ([] : List TexT)).2)]) := by
  have h := c_mesh_Dice p cage id s [] (by simp) (by simp)
  refine PC.nilArg (pre := [_, _, _, _]) (post := []) ?_
  exact h
end Go.Proofs.M
namespace Go.Proofs.M
open Go Go.AH
set_option maxRecDepth 4000
set_option linter.unusedSimpArgs false
set_option linter.unusedVariables false
set_option maxHeartbeats 4000000
theorem c_alive : PC Tryd.prog 9 [] (.bool true) := by
 intro H0
 refine ACalls.of_body' (n := 63) rfl rfl rfl rfl ?_
 have m0 := Mono.refl H0
 refine AWP.seq ?_
 refine AWP.region (l := [0]) rfl ?_
 refine AOps.cons rfl rfl (AOp.assign (.bool false) rfl rfl ?_)
 refine AOps.nil ?_
 change AWP _ _ _ _ _ _
 refine AWP.seq ?_
 refine AWP.region (l := [0, 1, 2, 3, 4, 5, 6, 7, 8]) rfl ?_
 refine AOps.cons rfl rfl (AOp.pcall («as» := []) rfl rfl (rfl) tf_22 (c_law15_flat ) ?_)
 intro H1 m2
 have m3 := m0.trans m2
 refine AOps.cons rfl rfl (AOp.build (cells := [.str ⟨#[]⟩, .int .i64 0, .int .i64 0, .int .i64 100, .int .i64 (-1), .int .i64 0]) rfl tz_30 pl_30 rfl rfl ?_)
 refine AOps.cons rfl rfl (AOp.pcall («as» := [.agg (((R_law15_flat).aP).flatMap eV ++ (((R_law15_flat).aCorners).map eI ++ (((R_law15_flat).aNormals).flatMap eV ++ [.int .i64 ((R_law15_flat).Skin)]))), .int .i64 0, .int .i64 0, .agg [.str ⟨#[]⟩, .int .i64 0, .int .i64 0, .int .i64 100, .int .i64 (-1), .int .i64 0], .snil]) rfl rfl (rfl) tf_11 (c_mesh_Dice0 (R_law15_flat) 0 0 (SkinT.mk ⟨#[]⟩ 0 0 100 (-1) 0)) ?_)
 intro H4 m5
 have m6 := m3.trans m5
 refine AOps.cons rfl rfl (AOp.move (.tup [.agg [.sl (((diceR (R_law15_flat) 0 0 (SkinT.mk ⟨#[]⟩ 0 0 100 (-1) 0) ([] : List TexT)).1).Verts).length ((((diceR (R_law15_flat) 0 0 (SkinT.mk ⟨#[]⟩ 0 0 100 (-1) 0) ([] : List TexT)).1).Verts).flatMap eV), .sl (((diceR (R_law15_flat) 0 0 (SkinT.mk ⟨#[]⟩ 0 0 100 (-1) 0) ([] : List TexT)).1).Keys).length ((((diceR (R_law15_flat) 0 0 (SkinT.mk ⟨#[]⟩ 0 0 100 (-1) 0) ([] : List TexT)).1).Keys).flatMap eKey), .sl (((diceR (R_law15_flat) 0 0 (SkinT.mk ⟨#[]⟩ 0 0 100 (-1) 0) ([] : List TexT)).1).Tris).length ((((diceR (R_law15_flat) 0 0 (SkinT.mk ⟨#[]⟩ 0 0 100 (-1) 0) ([] : List TexT)).1).Tris).flatMap eI3)], .int .i64 ((diceR (R_law15_flat) 0 0 (SkinT.mk ⟨#[]⟩ 0 0 100 (-1) 0) ([] : List TexT)).2)]) rfl rfl ?_)
 refine AOps.cons rfl rfl (AOp.extract (.agg [.sl (((diceR (R_law15_flat) 0 0 (SkinT.mk ⟨#[]⟩ 0 0 100 (-1) 0) ([] : List TexT)).1).Verts).length ((((diceR (R_law15_flat) 0 0 (SkinT.mk ⟨#[]⟩ 0 0 100 (-1) 0) ([] : List TexT)).1).Verts).flatMap eV), .sl (((diceR (R_law15_flat) 0 0 (SkinT.mk ⟨#[]⟩ 0 0 100 (-1) 0) ([] : List TexT)).1).Keys).length ((((diceR (R_law15_flat) 0 0 (SkinT.mk ⟨#[]⟩ 0 0 100 (-1) 0) ([] : List TexT)).1).Keys).flatMap eKey), .sl (((diceR (R_law15_flat) 0 0 (SkinT.mk ⟨#[]⟩ 0 0 100 (-1) 0) ([] : List TexT)).1).Tris).length ((((diceR (R_law15_flat) 0 0 (SkinT.mk ⟨#[]⟩ 0 0 100 (-1) 0) ([] : List TexT)).1).Tris).flatMap eI3)]) rfl rfl rfl ?_)
 refine AOps.cons rfl rfl (AOp.extract (.int .i64 ((diceR (R_law15_flat) 0 0 (SkinT.mk ⟨#[]⟩ 0 0 100 (-1) 0) ([] : List TexT)).2)) rfl rfl rfl ?_)
 refine AOps.cons rfl rfl (AOp.alloc rfl tz_38 ?_)
 intro i7 H8 n9 h10 k11
 have z12 := Mono.free m6 n9
 have m13 := Mono.new m6 n9 k11
 refine AOps.cons rfl rfl (AOp.store' (cells' := [.sl (((diceR (R_law15_flat) 0 0 (SkinT.mk ⟨#[]⟩ 0 0 100 (-1) 0) ([] : List TexT)).1).Verts).length ((((diceR (R_law15_flat) 0 0 (SkinT.mk ⟨#[]⟩ 0 0 100 (-1) 0) ([] : List TexT)).1).Verts).flatMap eV), .sl (((diceR (R_law15_flat) 0 0 (SkinT.mk ⟨#[]⟩ 0 0 100 (-1) 0) ([] : List TexT)).1).Keys).length ((((diceR (R_law15_flat) 0 0 (SkinT.mk ⟨#[]⟩ 0 0 100 (-1) 0) ([] : List TexT)).1).Keys).flatMap eKey), .sl (((diceR (R_law15_flat) 0 0 (SkinT.mk ⟨#[]⟩ 0 0 100 (-1) 0) ([] : List TexT)).1).Tris).length ((((diceR (R_law15_flat) 0 0 (SkinT.mk ⟨#[]⟩ 0 0 100 (-1) 0) ([] : List TexT)).1).Tris).flatMap eI3)]) (.agg [.sl (((diceR (R_law15_flat) 0 0 (SkinT.mk ⟨#[]⟩ 0 0 100 (-1) 0) ([] : List TexT)).1).Verts).length ((((diceR (R_law15_flat) 0 0 (SkinT.mk ⟨#[]⟩ 0 0 100 (-1) 0) ([] : List TexT)).1).Verts).flatMap eV), .sl (((diceR (R_law15_flat) 0 0 (SkinT.mk ⟨#[]⟩ 0 0 100 (-1) 0) ([] : List TexT)).1).Keys).length ((((diceR (R_law15_flat) 0 0 (SkinT.mk ⟨#[]⟩ 0 0 100 (-1) 0) ([] : List TexT)).1).Keys).flatMap eKey), .sl (((diceR (R_law15_flat) 0 0 (SkinT.mk ⟨#[]⟩ 0 0 100 (-1) 0) ([] : List TexT)).1).Tris).length ((((diceR (R_law15_flat) 0 0 (SkinT.mk ⟨#[]⟩ 0 0 100 (-1) 0) ([] : List TexT)).1).Tris).flatMap eI3)]) rfl rfl ts_38 h10 rfl rfl rfl rfl ?_)
 intro H14 h15 k16
 have m18 := Mono.set m13 z12 k16
 refine AOps.cons rfl rfl (AOp.assign (.int .i64 ((diceR (R_law15_flat) 0 0 (SkinT.mk ⟨#[]⟩ 0 0 100 (-1) 0) ([] : List TexT)).2)) rfl rfl ?_)
 refine AOps.nil ?_
 change AWP _ _ _ _ _ _
 refine AWP.seq ?_
 refine AWP.frzP 1 h15 z12 rfl m18 fun H19 m20 k21 => ?_
 have hdl := dice_len R_law15_flat 0 0 (SkinT.mk ⟨#[]⟩ 0 0 100 (-1) 0) ([] : List TexT)
 refine AWP.region (l := [0, 1, 2, 3, 4, 5, 6, 7, 8]) rfl ?_
 refine AOps.cons rfl rfl (AOp.pcall («as» := []) rfl rfl (rfl) tf_22 (c_law15_flat ) ?_)
 intro H22 m23
 have m24 := m20.trans m23
 refine AOps.cons rfl rfl (AOp.build (cells := [.str ⟨#[]⟩, .int .i64 0, .int .i64 0, .int .i64 1, .int .i64 0, .int .i64 3]) rfl tz_30 pl_30 rfl rfl ?_)
 refine AOps.cons rfl rfl (AOp.pcall («as» := [.agg (((R_law15_flat).aP).flatMap eV ++ (((R_law15_flat).aCorners).map eI ++ (((R_law15_flat).aNormals).flatMap eV ++ [.int .i64 ((R_law15_flat).Skin)]))), .agg [.str ⟨#[]⟩, .int .i64 0, .int .i64 0, .int .i64 1, .int .i64 0, .int .i64 3]]) rfl rfl (rfl) tf_13 (c_mesh_Bounds (R_law15_flat) (SkinT.mk ⟨#[]⟩ 0 0 1 0 3)) ?_)
 intro H25 m26
 have m27 := m24.trans m26
 refine AOps.cons rfl rfl (AOp.move (.tup [.agg [.int .i64 ((((R_mesh_Bounds (R_law15_flat) (SkinT.mk ⟨#[]⟩ 0 0 1 0 3)).1).Lo).X), .int .i64 ((((R_mesh_Bounds (R_law15_flat) (SkinT.mk ⟨#[]⟩ 0 0 1 0 3)).1).Lo).Y), .int .i64 ((((R_mesh_Bounds (R_law15_flat) (SkinT.mk ⟨#[]⟩ 0 0 1 0 3)).1).Lo).Z), .int .i64 ((((R_mesh_Bounds (R_law15_flat) (SkinT.mk ⟨#[]⟩ 0 0 1 0 3)).1).Hi).X), .int .i64 ((((R_mesh_Bounds (R_law15_flat) (SkinT.mk ⟨#[]⟩ 0 0 1 0 3)).1).Hi).Y), .int .i64 ((((R_mesh_Bounds (R_law15_flat) (SkinT.mk ⟨#[]⟩ 0 0 1 0 3)).1).Hi).Z)], .int .i64 ((R_mesh_Bounds (R_law15_flat) (SkinT.mk ⟨#[]⟩ 0 0 1 0 3)).2)]) rfl rfl ?_)
 refine AOps.cons rfl rfl (AOp.extract (.agg [.int .i64 ((((R_mesh_Bounds (R_law15_flat) (SkinT.mk ⟨#[]⟩ 0 0 1 0 3)).1).Lo).X), .int .i64 ((((R_mesh_Bounds (R_law15_flat) (SkinT.mk ⟨#[]⟩ 0 0 1 0 3)).1).Lo).Y), .int .i64 ((((R_mesh_Bounds (R_law15_flat) (SkinT.mk ⟨#[]⟩ 0 0 1 0 3)).1).Lo).Z), .int .i64 ((((R_mesh_Bounds (R_law15_flat) (SkinT.mk ⟨#[]⟩ 0 0 1 0 3)).1).Hi).X), .int .i64 ((((R_mesh_Bounds (R_law15_flat) (SkinT.mk ⟨#[]⟩ 0 0 1 0 3)).1).Hi).Y), .int .i64 ((((R_mesh_Bounds (R_law15_flat) (SkinT.mk ⟨#[]⟩ 0 0 1 0 3)).1).Hi).Z)]) rfl rfl rfl ?_)
 refine AOps.cons rfl rfl (AOp.extract (.int .i64 ((R_mesh_Bounds (R_law15_flat) (SkinT.mk ⟨#[]⟩ 0 0 1 0 3)).2)) rfl rfl rfl ?_)
 refine AOps.cons rfl rfl (AOp.alloc rfl tz_43 ?_)
 intro i28 H29 n30 h31 k32
 have z33 := Mono.free m27 n30
 have m34 := Mono.new m27 n30 k32
 refine AOps.cons rfl rfl (AOp.store' (cells' := [.int .i64 ((((R_mesh_Bounds (R_law15_flat) (SkinT.mk ⟨#[]⟩ 0 0 1 0 3)).1).Lo).X), .int .i64 ((((R_mesh_Bounds (R_law15_flat) (SkinT.mk ⟨#[]⟩ 0 0 1 0 3)).1).Lo).Y), .int .i64 ((((R_mesh_Bounds (R_law15_flat) (SkinT.mk ⟨#[]⟩ 0 0 1 0 3)).1).Lo).Z), .int .i64 ((((R_mesh_Bounds (R_law15_flat) (SkinT.mk ⟨#[]⟩ 0 0 1 0 3)).1).Hi).X), .int .i64 ((((R_mesh_Bounds (R_law15_flat) (SkinT.mk ⟨#[]⟩ 0 0 1 0 3)).1).Hi).Y), .int .i64 ((((R_mesh_Bounds (R_law15_flat) (SkinT.mk ⟨#[]⟩ 0 0 1 0 3)).1).Hi).Z)]) (.agg [.int .i64 ((((R_mesh_Bounds (R_law15_flat) (SkinT.mk ⟨#[]⟩ 0 0 1 0 3)).1).Lo).X), .int .i64 ((((R_mesh_Bounds (R_law15_flat) (SkinT.mk ⟨#[]⟩ 0 0 1 0 3)).1).Lo).Y), .int .i64 ((((R_mesh_Bounds (R_law15_flat) (SkinT.mk ⟨#[]⟩ 0 0 1 0 3)).1).Lo).Z), .int .i64 ((((R_mesh_Bounds (R_law15_flat) (SkinT.mk ⟨#[]⟩ 0 0 1 0 3)).1).Hi).X), .int .i64 ((((R_mesh_Bounds (R_law15_flat) (SkinT.mk ⟨#[]⟩ 0 0 1 0 3)).1).Hi).Y), .int .i64 ((((R_mesh_Bounds (R_law15_flat) (SkinT.mk ⟨#[]⟩ 0 0 1 0 3)).1).Hi).Z)]) rfl rfl ts_43 h31 rfl rfl rfl rfl ?_)
 intro H35 h36 k37
 have m39 := Mono.set m34 z33 k37
 refine AOps.cons rfl rfl (AOp.assign (.int .i64 ((R_mesh_Bounds (R_law15_flat) (SkinT.mk ⟨#[]⟩ 0 0 1 0 3)).2)) rfl rfl ?_)
 refine AOps.nil ?_
 change AWP _ _ _ _ _ _
 refine AWP.seq ?_
 refine AWP.frzP 3 h36 z33 rfl m39 fun H40 m41 k42 => ?_
 refine AWP.region (l := [0, 1, 2, 3, 4, 5, 6, 7]) rfl ?_
 refine AOps.cons rfl rfl (AOp.loadF (.agg [.sl (((diceR (R_law15_flat) 0 0 (SkinT.mk ⟨#[]⟩ 0 0 100 (-1) 0) ([] : List TexT)).1).Verts).length ((((diceR (R_law15_flat) 0 0 (SkinT.mk ⟨#[]⟩ 0 0 100 (-1) 0) ([] : List TexT)).1).Verts).flatMap eV), .sl (((diceR (R_law15_flat) 0 0 (SkinT.mk ⟨#[]⟩ 0 0 100 (-1) 0) ([] : List TexT)).1).Keys).length ((((diceR (R_law15_flat) 0 0 (SkinT.mk ⟨#[]⟩ 0 0 100 (-1) 0) ([] : List TexT)).1).Keys).flatMap eKey), .sl (((diceR (R_law15_flat) 0 0 (SkinT.mk ⟨#[]⟩ 0 0 100 (-1) 0) ([] : List TexT)).1).Tris).length ((((diceR (R_law15_flat) 0 0 (SkinT.mk ⟨#[]⟩ 0 0 100 (-1) 0) ([] : List TexT)).1).Tris).flatMap eI3)]) rfl rfl ty_38 rfl ?_)
 refine AOps.cons rfl rfl (AOp.pcall («as» := [.agg [.sl (((diceR (R_law15_flat) 0 0 (SkinT.mk ⟨#[]⟩ 0 0 100 (-1) 0) ([] : List TexT)).1).Verts).length ((((diceR (R_law15_flat) 0 0 (SkinT.mk ⟨#[]⟩ 0 0 100 (-1) 0) ([] : List TexT)).1).Verts).flatMap eV), .sl (((diceR (R_law15_flat) 0 0 (SkinT.mk ⟨#[]⟩ 0 0 100 (-1) 0) ([] : List TexT)).1).Keys).length ((((diceR (R_law15_flat) 0 0 (SkinT.mk ⟨#[]⟩ 0 0 100 (-1) 0) ([] : List TexT)).1).Keys).flatMap eKey), .sl (((diceR (R_law15_flat) 0 0 (SkinT.mk ⟨#[]⟩ 0 0 100 (-1) 0) ([] : List TexT)).1).Tris).length ((((diceR (R_law15_flat) 0 0 (SkinT.mk ⟨#[]⟩ 0 0 100 (-1) 0) ([] : List TexT)).1).Tris).flatMap eI3)], .int .i64 1]) rfl rfl (rfl) tf_15 (c_mesh_Tri ((diceR (R_law15_flat) 0 0 (SkinT.mk ⟨#[]⟩ 0 0 100 (-1) 0) ([] : List TexT)).1) 1 (by first | assumption | omega) (by first | assumption | omega)) ?_)
 intro H43 m44
 have m45 := m41.trans m44
 refine AOps.cons rfl rfl (AOp.move (.tup [.agg [.int .i64 ((((R_mesh_Tri ((diceR (R_law15_flat) 0 0 (SkinT.mk ⟨#[]⟩ 0 0 100 (-1) 0) ([] : List TexT)).1) 1).1).A).X), .int .i64 ((((R_mesh_Tri ((diceR (R_law15_flat) 0 0 (SkinT.mk ⟨#[]⟩ 0 0 100 (-1) 0) ([] : List TexT)).1) 1).1).A).Y), .int .i64 ((((R_mesh_Tri ((diceR (R_law15_flat) 0 0 (SkinT.mk ⟨#[]⟩ 0 0 100 (-1) 0) ([] : List TexT)).1) 1).1).A).Z), .int .i64 ((((R_mesh_Tri ((diceR (R_law15_flat) 0 0 (SkinT.mk ⟨#[]⟩ 0 0 100 (-1) 0) ([] : List TexT)).1) 1).1).B).X), .int .i64 ((((R_mesh_Tri ((diceR (R_law15_flat) 0 0 (SkinT.mk ⟨#[]⟩ 0 0 100 (-1) 0) ([] : List TexT)).1) 1).1).B).Y), .int .i64 ((((R_mesh_Tri ((diceR (R_law15_flat) 0 0 (SkinT.mk ⟨#[]⟩ 0 0 100 (-1) 0) ([] : List TexT)).1) 1).1).B).Z), .int .i64 ((((R_mesh_Tri ((diceR (R_law15_flat) 0 0 (SkinT.mk ⟨#[]⟩ 0 0 100 (-1) 0) ([] : List TexT)).1) 1).1).C).X), .int .i64 ((((R_mesh_Tri ((diceR (R_law15_flat) 0 0 (SkinT.mk ⟨#[]⟩ 0 0 100 (-1) 0) ([] : List TexT)).1) 1).1).C).Y), .int .i64 ((((R_mesh_Tri ((diceR (R_law15_flat) 0 0 (SkinT.mk ⟨#[]⟩ 0 0 100 (-1) 0) ([] : List TexT)).1) 1).1).C).Z)], .bool ((R_mesh_Tri ((diceR (R_law15_flat) 0 0 (SkinT.mk ⟨#[]⟩ 0 0 100 (-1) 0) ([] : List TexT)).1) 1).2)]) rfl rfl ?_)
 refine AOps.cons rfl rfl (AOp.extract (.agg [.int .i64 ((((R_mesh_Tri ((diceR (R_law15_flat) 0 0 (SkinT.mk ⟨#[]⟩ 0 0 100 (-1) 0) ([] : List TexT)).1) 1).1).A).X), .int .i64 ((((R_mesh_Tri ((diceR (R_law15_flat) 0 0 (SkinT.mk ⟨#[]⟩ 0 0 100 (-1) 0) ([] : List TexT)).1) 1).1).A).Y), .int .i64 ((((R_mesh_Tri ((diceR (R_law15_flat) 0 0 (SkinT.mk ⟨#[]⟩ 0 0 100 (-1) 0) ([] : List TexT)).1) 1).1).A).Z), .int .i64 ((((R_mesh_Tri ((diceR (R_law15_flat) 0 0 (SkinT.mk ⟨#[]⟩ 0 0 100 (-1) 0) ([] : List TexT)).1) 1).1).B).X), .int .i64 ((((R_mesh_Tri ((diceR (R_law15_flat) 0 0 (SkinT.mk ⟨#[]⟩ 0 0 100 (-1) 0) ([] : List TexT)).1) 1).1).B).Y), .int .i64 ((((R_mesh_Tri ((diceR (R_law15_flat) 0 0 (SkinT.mk ⟨#[]⟩ 0 0 100 (-1) 0) ([] : List TexT)).1) 1).1).B).Z), .int .i64 ((((R_mesh_Tri ((diceR (R_law15_flat) 0 0 (SkinT.mk ⟨#[]⟩ 0 0 100 (-1) 0) ([] : List TexT)).1) 1).1).C).X), .int .i64 ((((R_mesh_Tri ((diceR (R_law15_flat) 0 0 (SkinT.mk ⟨#[]⟩ 0 0 100 (-1) 0) ([] : List TexT)).1) 1).1).C).Y), .int .i64 ((((R_mesh_Tri ((diceR (R_law15_flat) 0 0 (SkinT.mk ⟨#[]⟩ 0 0 100 (-1) 0) ([] : List TexT)).1) 1).1).C).Z)]) rfl rfl rfl ?_)
 refine AOps.cons rfl rfl (AOp.extract (.bool ((R_mesh_Tri ((diceR (R_law15_flat) 0 0 (SkinT.mk ⟨#[]⟩ 0 0 100 (-1) 0) ([] : List TexT)).1) 1).2)) rfl rfl rfl ?_)
 refine AOps.cons rfl rfl (AOp.alloc rfl tz_47 ?_)
 intro i46 H47 n48 h49 k50
 have z51 := Mono.free m45 n48
 have m52 := Mono.new m45 n48 k50
 refine AOps.cons rfl rfl (AOp.store' (cells' := [.int .i64 ((((R_mesh_Tri ((diceR (R_law15_flat) 0 0 (SkinT.mk ⟨#[]⟩ 0 0 100 (-1) 0) ([] : List TexT)).1) 1).1).A).X), .int .i64 ((((R_mesh_Tri ((diceR (R_law15_flat) 0 0 (SkinT.mk ⟨#[]⟩ 0 0 100 (-1) 0) ([] : List TexT)).1) 1).1).A).Y), .int .i64 ((((R_mesh_Tri ((diceR (R_law15_flat) 0 0 (SkinT.mk ⟨#[]⟩ 0 0 100 (-1) 0) ([] : List TexT)).1) 1).1).A).Z), .int .i64 ((((R_mesh_Tri ((diceR (R_law15_flat) 0 0 (SkinT.mk ⟨#[]⟩ 0 0 100 (-1) 0) ([] : List TexT)).1) 1).1).B).X), .int .i64 ((((R_mesh_Tri ((diceR (R_law15_flat) 0 0 (SkinT.mk ⟨#[]⟩ 0 0 100 (-1) 0) ([] : List TexT)).1) 1).1).B).Y), .int .i64 ((((R_mesh_Tri ((diceR (R_law15_flat) 0 0 (SkinT.mk ⟨#[]⟩ 0 0 100 (-1) 0) ([] : List TexT)).1) 1).1).B).Z), .int .i64 ((((R_mesh_Tri ((diceR (R_law15_flat) 0 0 (SkinT.mk ⟨#[]⟩ 0 0 100 (-1) 0) ([] : List TexT)).1) 1).1).C).X), .int .i64 ((((R_mesh_Tri ((diceR (R_law15_flat) 0 0 (SkinT.mk ⟨#[]⟩ 0 0 100 (-1) 0) ([] : List TexT)).1) 1).1).C).Y), .int .i64 ((((R_mesh_Tri ((diceR (R_law15_flat) 0 0 (SkinT.mk ⟨#[]⟩ 0 0 100 (-1) 0) ([] : List TexT)).1) 1).1).C).Z)]) (.agg [.int .i64 ((((R_mesh_Tri ((diceR (R_law15_flat) 0 0 (SkinT.mk ⟨#[]⟩ 0 0 100 (-1) 0) ([] : List TexT)).1) 1).1).A).X), .int .i64 ((((R_mesh_Tri ((diceR (R_law15_flat) 0 0 (SkinT.mk ⟨#[]⟩ 0 0 100 (-1) 0) ([] : List TexT)).1) 1).1).A).Y), .int .i64 ((((R_mesh_Tri ((diceR (R_law15_flat) 0 0 (SkinT.mk ⟨#[]⟩ 0 0 100 (-1) 0) ([] : List TexT)).1) 1).1).A).Z), .int .i64 ((((R_mesh_Tri ((diceR (R_law15_flat) 0 0 (SkinT.mk ⟨#[]⟩ 0 0 100 (-1) 0) ([] : List TexT)).1) 1).1).B).X), .int .i64 ((((R_mesh_Tri ((diceR (R_law15_flat) 0 0 (SkinT.mk ⟨#[]⟩ 0 0 100 (-1) 0) ([] : List TexT)).1) 1).1).B).Y), .int .i64 ((((R_mesh_Tri ((diceR (R_law15_flat) 0 0 (SkinT.mk ⟨#[]⟩ 0 0 100 (-1) 0) ([] : List TexT)).1) 1).1).B).Z), .int .i64 ((((R_mesh_Tri ((diceR (R_law15_flat) 0 0 (SkinT.mk ⟨#[]⟩ 0 0 100 (-1) 0) ([] : List TexT)).1) 1).1).C).X), .int .i64 ((((R_mesh_Tri ((diceR (R_law15_flat) 0 0 (SkinT.mk ⟨#[]⟩ 0 0 100 (-1) 0) ([] : List TexT)).1) 1).1).C).Y), .int .i64 ((((R_mesh_Tri ((diceR (R_law15_flat) 0 0 (SkinT.mk ⟨#[]⟩ 0 0 100 (-1) 0) ([] : List TexT)).1) 1).1).C).Z)]) rfl rfl ts_47 h49 rfl rfl rfl rfl ?_)
 intro H53 h54 k55
 have m57 := Mono.set m52 z51 k55
 refine AOps.cons rfl rfl (AOp.assign (.bool ((R_mesh_Tri ((diceR (R_law15_flat) 0 0 (SkinT.mk ⟨#[]⟩ 0 0 100 (-1) 0) ([] : List TexT)).1) 1).2)) rfl rfl ?_)
 refine AOps.nil ?_
 change AWP _ _ _ _ _ _
 refine AWP.seq ?_
 refine AWP.frzP 5 h54 z51 rfl m57 fun H58 m59 k60 => ?_
 refine AWP.region (l := [0, 1, 2, 3, 4, 5, 6, 7, 8, 9, 10, 11, 12, 13, 14, 15, 16, 17, 18, 19, 20, 21, 22, 23, 24, 25, 26, 27, 28, 29, 30, 31, 32, 33, 34, 35, 36, 37, 38, 39]) rfl ?_
 refine AOps.cons rfl rfl (AOp.move (.int .i64 ((diceR (R_law15_flat) 0 0 (SkinT.mk ⟨#[]⟩ 0 0 100 (-1) 0) ([] : List TexT)).2)) rfl rfl ?_)
 refine AOps.cons rfl rfl (AOp.bin (.bool (decide ((diceR (R_law15_flat) 0 0 (SkinT.mk ⟨#[]⟩ 0 0 100 (-1) 0) ([] : List TexT)).2 = 0))) rfl rfl rfl ieq ?_)
 refine AOps.cons rfl rfl (AOp.move (.bool (decide ((diceR (R_law15_flat) 0 0 (SkinT.mk ⟨#[]⟩ 0 0 100 (-1) 0) ([] : List TexT)).2 = 0))) rfl rfl ?_)
 refine AOps.yes rfl rfl rfl rfl rfl rfl rfl (decide_eq_true (al_d2)) (AOp.move (.int .i64 ((R_mesh_Bounds (R_law15_flat) (SkinT.mk ⟨#[]⟩ 0 0 1 0 3)).2)) rfl rfl ?_)
 refine AOps.yes rfl rfl rfl rfl rfl rfl rfl (decide_eq_true (al_d2)) (AOp.bin (.bool (decide ((R_mesh_Bounds (R_law15_flat) (SkinT.mk ⟨#[]⟩ 0 0 1 0 3)).2 = 0))) rfl rfl rfl ieq ?_)
 refine AOps.cons rfl rfl (AOp.pickT (.bool (decide ((R_mesh_Bounds (R_law15_flat) (SkinT.mk ⟨#[]⟩ 0 0 1 0 3)).2 = 0))) rfl rfl (decide_eq_true (al_d2)) rfl ?_)
 refine AOps.cons rfl rfl (AOp.move (.bool (decide ((R_mesh_Bounds (R_law15_flat) (SkinT.mk ⟨#[]⟩ 0 0 1 0 3)).2 = 0))) rfl rfl ?_)
 refine AOps.yes rfl rfl rfl rfl rfl rfl rfl (decide_eq_true (al_b2)) (AOp.move (.bool ((R_mesh_Tri ((diceR (R_law15_flat) 0 0 (SkinT.mk ⟨#[]⟩ 0 0 100 (-1) 0) ([] : List TexT)).1) 1).2)) rfl rfl ?_)
 refine AOps.cons rfl rfl (AOp.pickT (.bool ((R_mesh_Tri ((diceR (R_law15_flat) 0 0 (SkinT.mk ⟨#[]⟩ 0 0 100 (-1) 0) ([] : List TexT)).1) 1).2)) rfl rfl (decide_eq_true (al_b2)) rfl ?_)
 refine AOps.cons rfl rfl (AOp.move (.bool ((R_mesh_Tri ((diceR (R_law15_flat) 0 0 (SkinT.mk ⟨#[]⟩ 0 0 100 (-1) 0) ([] : List TexT)).1) 1).2)) rfl rfl ?_)
 refine AOps.yes rfl rfl rfl rfl rfl rfl rfl (al_t2) (AOp.fieldAddrF rfl rfl fl_38_0 ?_)
 refine AOps.yes rfl rfl rfl rfl rfl rfl rfl (al_t2) (AOp.loadF (.sl (((diceR (R_law15_flat) 0 0 (SkinT.mk ⟨#[]⟩ 0 0 100 (-1) 0) ([] : List TexT)).1).Verts).length ((((diceR (R_law15_flat) 0 0 (SkinT.mk ⟨#[]⟩ 0 0 100 (-1) 0) ([] : List TexT)).1).Verts).flatMap eV)) rfl rfl ty_34 rfl ?_)
 refine AOps.yes rfl rfl rfl rfl rfl rfl rfl (al_t2) (AOp.len (m := (((diceR (R_law15_flat) 0 0 (SkinT.mk ⟨#[]⟩ 0 0 100 (-1) 0) ([] : List TexT)).1).Verts).length) rfl rfl (.inr (.inl ⟨_, rfl⟩)) u_34 ?_)
 refine AOps.yes rfl rfl rfl rfl rfl rfl rfl (al_t2) (AOp.bin (.bool (decide ((((((diceR (R_law15_flat) 0 0 (SkinT.mk ⟨#[]⟩ 0 0 100 (-1) 0) ([] : List TexT)).1).Verts).length) : Int) = 4))) rfl rfl rfl ieq ?_)
 refine AOps.cons rfl rfl (AOp.pickT (.bool (decide ((((((diceR (R_law15_flat) 0 0 (SkinT.mk ⟨#[]⟩ 0 0 100 (-1) 0) ([] : List TexT)).1).Verts).length) : Int) = 4))) rfl rfl (al_t2) rfl ?_)
 refine AOps.cons rfl rfl (AOp.move (.bool (decide ((((((diceR (R_law15_flat) 0 0 (SkinT.mk ⟨#[]⟩ 0 0 100 (-1) 0) ([] : List TexT)).1).Verts).length) : Int) = 4))) rfl rfl ?_)
 refine AOps.yes rfl rfl rfl rfl rfl rfl rfl (decide_eq_true (al_v)) (AOp.fieldAddrF rfl rfl fl_38_1 ?_)
 refine AOps.yes rfl rfl rfl rfl rfl rfl rfl (decide_eq_true (al_v)) (AOp.loadF (.sl (((diceR (R_law15_flat) 0 0 (SkinT.mk ⟨#[]⟩ 0 0 100 (-1) 0) ([] : List TexT)).1).Keys).length ((((diceR (R_law15_flat) 0 0 (SkinT.mk ⟨#[]⟩ 0 0 100 (-1) 0) ([] : List TexT)).1).Keys).flatMap eKey)) rfl rfl ty_35 rfl ?_)
 refine AOps.yes rfl rfl rfl rfl rfl rfl rfl (decide_eq_true (al_v)) (AOp.len (m := (((diceR (R_law15_flat) 0 0 (SkinT.mk ⟨#[]⟩ 0 0 100 (-1) 0) ([] : List TexT)).1).Keys).length) rfl rfl (.inr (.inl ⟨_, rfl⟩)) u_35 ?_)
 refine AOps.yes rfl rfl rfl rfl rfl rfl rfl (decide_eq_true (al_v)) (AOp.bin (.bool (decide ((((((diceR (R_law15_flat) 0 0 (SkinT.mk ⟨#[]⟩ 0 0 100 (-1) 0) ([] : List TexT)).1).Keys).length) : Int) = 4))) rfl rfl rfl ieq ?_)
 refine AOps.cons rfl rfl (AOp.pickT (.bool (decide ((((((diceR (R_law15_flat) 0 0 (SkinT.mk ⟨#[]⟩ 0 0 100 (-1) 0) ([] : List TexT)).1).Keys).length) : Int) = 4))) rfl rfl (decide_eq_true (al_v)) rfl ?_)
 refine AOps.cons rfl rfl (AOp.move (.bool (decide ((((((diceR (R_law15_flat) 0 0 (SkinT.mk ⟨#[]⟩ 0 0 100 (-1) 0) ([] : List TexT)).1).Keys).length) : Int) = 4))) rfl rfl ?_)
 refine AOps.yes rfl rfl rfl rfl rfl rfl rfl (decide_eq_true (al_k)) (AOp.fieldAddrF rfl rfl fl_38_2 ?_)
 refine AOps.yes rfl rfl rfl rfl rfl rfl rfl (decide_eq_true (al_k)) (AOp.loadF (.sl (((diceR (R_law15_flat) 0 0 (SkinT.mk ⟨#[]⟩ 0 0 100 (-1) 0) ([] : List TexT)).1).Tris).length ((((diceR (R_law15_flat) 0 0 (SkinT.mk ⟨#[]⟩ 0 0 100 (-1) 0) ([] : List TexT)).1).Tris).flatMap eI3)) rfl rfl ty_36 rfl ?_)
 refine AOps.yes rfl rfl rfl rfl rfl rfl rfl (decide_eq_true (al_k)) (AOp.len (m := (((diceR (R_law15_flat) 0 0 (SkinT.mk ⟨#[]⟩ 0 0 100 (-1) 0) ([] : List TexT)).1).Tris).length) rfl rfl (.inr (.inl ⟨_, rfl⟩)) u_36 ?_)
 refine AOps.yes rfl rfl rfl rfl rfl rfl rfl (decide_eq_true (al_k)) (AOp.bin (.bool (decide ((((((diceR (R_law15_flat) 0 0 (SkinT.mk ⟨#[]⟩ 0 0 100 (-1) 0) ([] : List TexT)).1).Tris).length) : Int) = 2))) rfl rfl rfl ieq ?_)
 refine AOps.cons rfl rfl (AOp.pickT (.bool (decide ((((((diceR (R_law15_flat) 0 0 (SkinT.mk ⟨#[]⟩ 0 0 100 (-1) 0) ([] : List TexT)).1).Tris).length) : Int) = 2))) rfl rfl (decide_eq_true (al_k)) rfl ?_)
 refine AOps.cons rfl rfl (AOp.move (.bool (decide ((((((diceR (R_law15_flat) 0 0 (SkinT.mk ⟨#[]⟩ 0 0 100 (-1) 0) ([] : List TexT)).1).Tris).length) : Int) = 2))) rfl rfl ?_)
 refine AOps.yes rfl rfl rfl rfl rfl rfl rfl (decide_eq_true (al_t)) (AOp.fieldAddrF rfl rfl fl_43_1 ?_)
 refine AOps.yes rfl rfl rfl rfl rfl rfl rfl (decide_eq_true (al_t)) (AOp.loadF (.agg [.int .i64 ((((R_mesh_Bounds (R_law15_flat) (SkinT.mk ⟨#[]⟩ 0 0 1 0 3)).1).Hi).X), .int .i64 ((((R_mesh_Bounds (R_law15_flat) (SkinT.mk ⟨#[]⟩ 0 0 1 0 3)).1).Hi).Y), .int .i64 ((((R_mesh_Bounds (R_law15_flat) (SkinT.mk ⟨#[]⟩ 0 0 1 0 3)).1).Hi).Z)]) rfl rfl ty_23 rfl ?_)
 refine AOps.yes rfl rfl rfl rfl rfl rfl rfl (decide_eq_true (al_t)) (AOp.build (cells := [.int .i64 14, .int .i64 14, .int .i64 5]) rfl tz_23 pl_23 rfl rfl ?_)
 refine AOps.yes rfl rfl rfl rfl rfl rfl rfl (decide_eq_true (al_t)) (AOp.eqAggD rfl rfl rfl teq23 (kokV (by rw [al_hi]; exact ranV_lit (by omega) (by omega) (by omega))) (kokV (ranV_lit (by omega) (by omega) (by omega))) (eV_iff (((R_mesh_Bounds (R_law15_flat) (SkinT.mk ⟨#[]⟩ 0 0 1 0 3)).1).Hi) (VT.mk 14 14 5)) ?_)
 refine AOps.cons rfl rfl (AOp.pickT (.bool (decide ((((R_mesh_Bounds (R_law15_flat) (SkinT.mk ⟨#[]⟩ 0 0 1 0 3)).1).Hi) = (VT.mk 14 14 5)))) rfl rfl (decide_eq_true (al_t)) rfl ?_)
 refine AOps.cons rfl rfl (AOp.move (.bool (decide ((((R_mesh_Bounds (R_law15_flat) (SkinT.mk ⟨#[]⟩ 0 0 1 0 3)).1).Hi) = (VT.mk 14 14 5)))) rfl rfl ?_)
 refine AOps.yes rfl rfl rfl rfl rfl rfl rfl (decide_eq_true (al_hi)) (AOp.fieldAddrF rfl rfl fl_47_1 ?_)
 refine AOps.yes rfl rfl rfl rfl rfl rfl rfl (decide_eq_true (al_hi)) (AOp.loadF (.agg [.int .i64 ((((R_mesh_Tri ((diceR (R_law15_flat) 0 0 (SkinT.mk ⟨#[]⟩ 0 0 100 (-1) 0) ([] : List TexT)).1) 1).1).B).X), .int .i64 ((((R_mesh_Tri ((diceR (R_law15_flat) 0 0 (SkinT.mk ⟨#[]⟩ 0 0 100 (-1) 0) ([] : List TexT)).1) 1).1).B).Y), .int .i64 ((((R_mesh_Tri ((diceR (R_law15_flat) 0 0 (SkinT.mk ⟨#[]⟩ 0 0 100 (-1) 0) ([] : List TexT)).1) 1).1).B).Z)]) rfl rfl ty_23 rfl ?_)
 refine AOps.yes rfl rfl rfl rfl rfl rfl rfl (decide_eq_true (al_hi)) (AOp.build (cells := [.int .i64 9, .int .i64 9, .int .i64 0]) rfl tz_23 pl_23 rfl rfl ?_)
 refine AOps.yes rfl rfl rfl rfl rfl rfl rfl (decide_eq_true (al_hi)) (AOp.eqAggD rfl rfl rfl teq23 (kokV (by rw [al_tb]; exact ranV_lit (by omega) (by omega) (by omega))) (kokV (ranV_lit (by omega) (by omega) (by omega))) (eV_iff (((R_mesh_Tri ((diceR (R_law15_flat) 0 0 (SkinT.mk ⟨#[]⟩ 0 0 100 (-1) 0) ([] : List TexT)).1) 1).1).B) (VT.mk 9 9 0)) ?_)
 refine AOps.cons rfl rfl (AOp.pickT (.bool (decide ((((R_mesh_Tri ((diceR (R_law15_flat) 0 0 (SkinT.mk ⟨#[]⟩ 0 0 100 (-1) 0) ([] : List TexT)).1) 1).1).B) = (VT.mk 9 9 0)))) rfl rfl (decide_eq_true (al_hi)) rfl ?_)
 refine AOps.cons rfl rfl (AOp.assign (.bool (decide ((((R_mesh_Tri ((diceR (R_law15_flat) 0 0 (SkinT.mk ⟨#[]⟩ 0 0 100 (-1) 0) ([] : List TexT)).1) 1).1).B) = (VT.mk 9 9 0)))) rfl rfl ?_)
 refine AOps.nil ?_
 change AWP _ _ _ _ _ _
 refine AWP.ret ?_
 refine ⟨_, _, Ghost.refl, .inr rfl, _, Res.one rfl rfl, ?_, m59⟩
 exact (congrArg AV.bool (show (decide ((((R_mesh_Tri ((diceR (R_law15_flat) 0 0 (SkinT.mk ⟨#[]⟩ 0 0 100 (-1) 0) ([] : List TexT)).1) 1).1).B) = (VT.mk 9 9 0)) : Bool) = true from by first | rfl | omega | simp_all))
end Go.Proofs.M
namespace Go.Proofs.M
open Go Go.AH Go.ChangeShapes Go.WideShapes Go.ChangeAt Go.RowKit Go.Deep Go.Proofs.YtfgfalidpbbkhaaDoor
set_option maxRecDepth 8000
set_option linter.unusedSimpArgs false
set_option linter.unusedVariables false
/-! ### How much is read -/
theorem bulk_one {H : Type} (d : DataW H) : 1 ≤ Rows.uptoBulk d := by
  cases d with
  | lit l => cases l <;> simp [Rows.uptoBulk]
  | _ => simp [Rows.uptoBulk]
theorem bulk_len {H : Type} (l : List (DataW H)) : l.length ≤ Rows.uptoBulkAll l := by
  induction l with
  | nil => simp [Rows.uptoBulkAll]
  | cons x r ih => have := bulk_one x; simp only [Rows.uptoBulkAll, List.length_cons]; omega
theorem bulk_part {H : Type} {d : DataW H} {l : List (DataW H)} (h : d ∈ l) : Rows.uptoBulk d ≤ Rows.uptoBulkAll l := by
  induction l with
  | nil => cases h
  | cons x r ih =>
    simp only [Rows.uptoBulkAll]
    rcases List.mem_cons.1 h with e | e
    · subst e; omega
    · have := ih e; omega
/-! ### The arguments -/
section
variable {H : Type} {enc : TypeId × Value → H} {W : World}
theorem c3 : Tryd.prog.cellsOf 3 = 1 := by kernel_rfl
theorem c9 : Tryd.prog.cellsOf 9 = 1 := by kernel_rfl
theorem c23 : Tryd.prog.cellsOf 23 = 3 := by kernel_rfl
theorem c24 : Tryd.prog.cellsOf 24 = 48 := by kernel_rfl
theorem c25 : Tryd.prog.cellsOf 25 = 4 := by kernel_rfl
theorem c26 : Tryd.prog.cellsOf 26 = 12 := by kernel_rfl
theorem c28 : Tryd.prog.cellsOf 28 = 65 := by kernel_rfl
theorem c30 : Tryd.prog.cellsOf 30 = 6 := by kernel_rfl
theorem c63 : Tryd.prog.cellsOf 63 = 1 := by kernel_rfl
theorem c65 : Tryd.prog.cellsOf 65 = 4 := by kernel_rfl
theorem opI : Opn enc Tryd.prog W 3 (fun n : Int => [.int .i64 n]) (fun n _ => inR n) := (Opn.int u_3).imp fun n _ h => bounds_i64 h
theorem opS : Opn enc Tryd.prog W 9 (fun n : ByteArray => [.str n]) (fun _ _ => True) := (Opn.str (show Tryd.prog.underlying 9 = some .string from rfl)).imp fun _ _ _ => trivial
theorem opV : Opn enc Tryd.prog W 23 eV (fun v _ => ranV v) := fun sp held fuel cs x h => by
  obtain ⟨xs, n, _, rfl, hl, hxl, hf⟩ := DataW.trod_struct Tryd.underlying23 h
  match xs, hxl with
  | [y0, y1, y2], _ =>
    obtain ⟨a, a1, a2⟩ := opI (enc := enc) (W := W) _ _ _ _ _ (hf 0 _ rfl)
    obtain ⟨b, b1, b2⟩ := opI (enc := enc) (W := W) _ _ _ _ _ (hf 1 _ rfl)
    obtain ⟨c, e1, e2⟩ := opI (enc := enc) (W := W) _ _ _ _ _ (hf 2 _ rfl)
    simp only [c3] at a1 b1 e1
    exact ⟨⟨a, b, c⟩, (a1.glue (b1.glue e1 rfl rfl) rfl (n := 3) rfl).whole (by rw [hl, c23]), a2, b2, e2⟩
theorem opInts {t : TypeId} {n : Nat} (ht : Tryd.prog.underlying t = some (.array n 3)) (hc : Tryd.prog.cellsOf t = n) : Opn enc Tryd.prog W t (fun l : List Int => l.map eI) (fun l _ => l.length = n ∧ ∀ x ∈ l, inR x) := fun sp held fuel cs x h => by
  obtain ⟨l, h1, h2, ds, _, h3⟩ := Opn.arr ht c3 (by rw [hc, Nat.mul_one]) opI sp held fuel cs x h
  refine ⟨l, ?_, h2, fun x hx => (h3 x hx).elim fun _ h => h.2⟩
  have e : l.flatMap (fun n : Int => [AV.int .i64 n]) = l.map eI := by rw [List.map_eq_flatMap]; rfl
  show VRs W idM nH (l.map eI) cs
  rw [← e]; exact h1
theorem opVs {t : TypeId} {n : Nat} (ht : Tryd.prog.underlying t = some (.array n 23)) (hc : Tryd.prog.cellsOf t = n * 3) : Opn enc Tryd.prog W t (fun l : List VT => l.flatMap eV) (fun l _ => l.length = n ∧ ∀ x ∈ l, ranV x) := fun sp held fuel cs x h => by
  obtain ⟨l, h1, h2, ds, _, h3⟩ := Opn.arr ht c23 hc opV sp held fuel cs x h
  exact ⟨l, h1, h2, fun x hx => (h3 x hx).elim fun _ h => h.2⟩
theorem opPatch : Opn enc Tryd.prog W 28 ePatch (fun p _ => ∀ c ∈ p.aCorners, inR c) := fun sp held fuel cs x h => by
  obtain ⟨xs, n, _, rfl, hl, hxl, hf⟩ := DataW.trod_struct Tryd.underlying28 h
  match xs, hxl with
  | [y0, y1, y2, y3], _ =>
    obtain ⟨a, a1, a2⟩ := opVs (enc := enc) (W := W) (n := 16) u_24 c24 _ _ _ _ _ (hf 0 _ rfl)
    obtain ⟨b, b1, b2⟩ := opInts (enc := enc) (W := W) (n := 4) u_25 c25 _ _ _ _ _ (hf 1 _ rfl)
    obtain ⟨c, e1, e2⟩ := opVs (enc := enc) (W := W) (n := 4) u_26 c26 _ _ _ _ _ (hf 2 _ rfl)
    obtain ⟨d, f1, f2⟩ := opI (enc := enc) (W := W) _ _ _ _ _ (hf 3 _ rfl)
    simp only [c3, c24, c25, c26] at a1 b1 e1 f1
    refine ⟨⟨a, b, c, d⟩, ?_, ?_⟩
    · have e : ePatch ⟨a, b, c, d⟩ = a.flatMap eV ++ (b.map eI ++ (c.flatMap eV ++ [.int .i64 d])) := by
        show (arrL 16 a).flatMap eV ++ ((arrL 4 b).map eI ++ ((arrL 4 c).flatMap eV ++ [.int .i64 d])) = _
        rw [arrL_self a2.1, arrL_self b2.1, arrL_self e2.1]
      rw [e]
      exact (a1.glue (b1.glue (e1.glue f1 rfl rfl) rfl rfl) rfl (n := 65) rfl).whole (by rw [hl, c28])
    · show ∀ c ∈ arrL 4 b, inR c
      rw [arrL_self b2.1]; exact b2.2
theorem opSkin : Opn enc Tryd.prog W 30 eSkin (fun s _ => inR s.Unit ∧ inR s.Tex ∧ inR s.Height) := fun sp held fuel cs x h => by
  obtain ⟨xs, n, _, rfl, hl, hxl, hf⟩ := DataW.trod_struct Tryd.underlying30 h
  match xs, hxl with
  | [y0, y1, y2, y3, y4, y5], _ =>
    obtain ⟨a, a1, a2⟩ := opS (enc := enc) (W := W) _ _ _ _ _ (hf 0 _ rfl)
    obtain ⟨b, b1, b2⟩ := opI (enc := enc) (W := W) _ _ _ _ _ (hf 1 _ rfl)
    obtain ⟨c, e1, e2⟩ := opI (enc := enc) (W := W) _ _ _ _ _ (hf 2 _ rfl)
    obtain ⟨d, f1, f2⟩ := opI (enc := enc) (W := W) _ _ _ _ _ (hf 3 _ rfl)
    obtain ⟨e, g1, g2⟩ := opI (enc := enc) (W := W) _ _ _ _ _ (hf 4 _ rfl)
    obtain ⟨f, k1, k2⟩ := opI (enc := enc) (W := W) _ _ _ _ _ (hf 5 _ rfl)
    simp only [c3, c9] at a1 b1 e1 f1 g1 k1
    exact ⟨⟨a, b, c, d, e, f⟩, (a1.glue (b1.glue (e1.glue (f1.glue (g1.glue k1 rfl rfl) rfl rfl) rfl rfl) rfl rfl) rfl (n := 6) rfl).whole (by rw [hl, c30]), f2, g2, k2⟩
theorem opRows : Opn enc Tryd.prog W 63 (fun l : List Int => [.sl l.length (l.map eI)]) (fun l d => l.length ≤ Rows.uptoBulk d) := fun sp held fuel cs x h => by
  obtain ⟨l, h1, h2⟩ := Opn.slice u_63 c3 (by omega) opI sp held fuel cs x h
  have e : l.flatMap (fun n : Int => [AV.int .i64 n]) = l.map eI := by rw [List.map_eq_flatMap]; rfl
  refine ⟨l, ?_, ?_⟩
  · show VRs W idM nH [.sl l.length (l.map eI)] cs
    rw [← e]; exact h1
  · rcases h2 with ⟨rfl, _⟩ | ⟨ds, s, he, hlen, _⟩
    · exact Nat.zero_le _
    · rw [he]
      have := bulk_len ds
      simp only [Rows.uptoBulk]; omega
theorem opTex : Opn enc Tryd.prog W 65 eTex (fun t d => t.Rows.length ≤ Rows.uptoBulk d) := fun sp held fuel cs x h => by
  obtain ⟨xs, n, _, rfl, hl, hxl, hf⟩ := DataW.trod_struct Tryd.underlying65 h
  match xs, hxl with
  | [y0, y1, y2, y3], _ =>
    obtain ⟨a, a1, a2⟩ := opS (enc := enc) (W := W) _ _ _ _ _ (hf 0 _ rfl)
    obtain ⟨b, b1, b2⟩ := opI (enc := enc) (W := W) _ _ _ _ _ (hf 1 _ rfl)
    obtain ⟨c, e1, e2⟩ := opI (enc := enc) (W := W) _ _ _ _ _ (hf 2 _ rfl)
    obtain ⟨d, f1, f2⟩ := opRows (enc := enc) (W := W) _ _ _ _ _ (hf 3 _ rfl)
    simp only [c3, c9, c63] at a1 b1 e1 f1
    refine ⟨⟨a, b, c, d⟩, (a1.glue (b1.glue (e1.glue f1 rfl rfl) rfl rfl) rfl (n := 4) rfl).whole (by rw [hl, c65]), ?_⟩
    simp only [List.map_cons, List.map_nil, Rows.uptoBulk, Rows.uptoBulkAll]
    have f2 : d.length ≤ Rows.uptoBulk y3.1 := f2
    omega
theorem opTexs : Opn enc Tryd.prog W 31 (fun l : List TexT => [.sl l.length (l.flatMap eTex)]) (fun l d => l.length ≤ Rows.uptoBulk d ∧ ∀ t ∈ l, t.Rows.length ≤ Rows.uptoBulk d) := fun sp held fuel cs x h => by
  obtain ⟨l, h1, h2⟩ := Opn.slice u_31 c65 (by omega) opTex sp held fuel cs x h
  refine ⟨l, h1, ?_⟩
  rcases h2 with ⟨rfl, _⟩ | ⟨ds, s, he, hlen, hall⟩
  · exact ⟨Nat.zero_le _, fun _ h => by cases h⟩
  · rw [he]
    have := bulk_len ds
    refine ⟨by simp only [Rows.uptoBulk]; omega, fun t ht => ?_⟩
    obtain ⟨y, hy, hb⟩ := hall t ht
    have := bulk_part hy
    simp only [Rows.uptoBulk]; omega
/-- A structure that is handed in. -/
theorem arg_agg {r : Reach} {b0 : Nat} {t : TypeId} {fs : Array Field} {v : Value} {d : DataW H} {p : List MemPlace} {α : Type} {e : α → List AV} {Q : α → DataW H → Prop} (ht : Tryd.prog.underlying t = some (.struct fs)) (ho : Opn enc Tryd.prog W t e Q) (hv : Value.okWide Tryd.prog W r b0 t v) {sp : Nat → Bool} {held : Bool} (hd : DataW.Trod enc Tryd.prog W 0 sp held t v d p) :
    ∃ a, VR W idM nH (.agg (e a)) v ∧ Q a d := by
  obtain ⟨cs, rfl, _, _⟩ : ∃ cs, v = .agg cs ∧ cs.size = Tryd.prog.cellsOf t ∧ Row.okWide Tryd.prog W r b0 t cs := by simpa [Value.okWide, ht] using hv
  obtain ⟨fuel, hf⟩ := hd
  obtain ⟨a, h1, h2⟩ := ho _ _ _ _ _ hf
  exact ⟨a, VRs.agg h1, h2⟩
/-- A slice that is handed in. -/
theorem arg_sl {r : Reach} {b0 : Nat} {t el : TypeId} {v : Value} {d : DataW H} {p : List MemPlace} {α : Type} {e : α → AV} {Q : α → DataW H → Prop} (ht : Tryd.prog.underlying t = some (.slice el)) (ho : Opn enc Tryd.prog W t (fun a => [e a]) Q) (hv : Value.okWide Tryd.prog W r b0 t v) {sp : Nat → Bool} {held : Bool} (hd : DataW.Trod enc Tryd.prog W 0 sp held t v d p) :
    ∃ a, VR W idM nH (e a) v ∧ Q a d := by
  obtain ⟨ad, len, cap, rfl⟩ := okWide_slice ht hv
  obtain ⟨fuel, hf⟩ := hd
  obtain ⟨a, h1, h2⟩ := ho _ _ _ _ _ hf
  exact ⟨a, VRs.get1 h1, h2⟩
/-! ### The variable that is listed -/
theorem gCor : Tryd.prog.globalNamed "relievo/mesh.corners" = some 0 := by kernel_rfl
theorem gCorT : (Tryd.prog.globals[0]?).map (·.type) = some 25 := by kernel_rfl
theorem globs_of {W : World} (h : laidMetH Tryd.prog [("relievo/mesh.corners", Rows.laid_relievo_mesh_corners)] W) : ∀ g cells, Globs.val g = some cells → VR W idM nH (.fptr cells 0) (.pointer (some ⟨g, 0, none⟩)) := by
  have ht : Lib.TabIs Tryd.prog W "relievo/mesh.corners" .i64 [0, 3, 15, 12] := Lib.tabIs_of_head (rest := []) gCor gCorT u_25 u_3 c3 c25 h
  have hk := glob_tab ht gCor (by decide)
  intro g cells hg
  by_cases h0 : g = 0
  · subst h0
    have : cells = [.int .i64 0, .int .i64 3, .int .i64 15, .int .i64 12] := by
      have : some [AV.int .i64 0, .int .i64 3, .int .i64 15, .int .i64 12] = some cells := hg
      cases this; rfl
    subst this; exact hk
  · have : (none : Option (List AV)) = some cells := by
      have e : Globs.val g = none := by show (if g = 0 then _ else none) = none; rw [if_neg h0]
      rw [← e]; exact hg
    cases this
theorem own : ownKnob Tryd.prog.godebug = none := by kernel_rfl
theorem stays {W W' : World} (hs : World.Since W.heap.size W W') {x : MemPlace} (h : x.block < W.heap.size) : W.sameAt W' x := by
  cases x with
  | cell b o => exact hs.cell (a := ⟨b, o, none⟩) h
  | map b => exact hs.block b h
/-- A world for the witness. -/
noncomputable def laidWorld (os : Os) : World :=
  { World.holding Tryd.prog os ⟨#[], #[], []⟩ with heap := (World.holding Tryd.prog os ⟨#[], #[], []⟩).heap.modify 0 fun
      | .cells _ t frozen => .cells #[.int .i64 0, .int .i64 3, .int .i64 15, .int .i64 12] t frozen
      | o => o }
end
end Go.Proofs.M
