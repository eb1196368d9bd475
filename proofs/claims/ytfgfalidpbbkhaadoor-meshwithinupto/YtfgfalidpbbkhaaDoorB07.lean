/- A part of the proof that a law answers true for every input of its row: own work, by an AI agent. -/
import Derived.Test.YtfgfalidpbbkhaaDoorB06
set_option linter.unusedSimpArgs false
set_option linter.unusedVariables false
namespace Go.Proofs.M
open Go Go.AH
set_option maxRecDepth 4000
set_option linter.unusedSimpArgs false
set_option linter.unusedVariables false
set_option maxHeartbeats 4000000
theorem c_MeshWithin (p : PatchT) (s : SkinT) (texs : List TexT) (htl : texs.length ≤ 1048576) (htx : ∀ t ∈ texs, t.Rows.length ≤ 1048576) : PC Tryd.prog 8 [.agg (p.aP.flatMap eV ++ (p.aCorners.map eI ++ (p.aNormals.flatMap eV ++ [.int .i64 p.Skin]))), .agg [.str s.Name, .int .i64 s.Mat, .int .i64 s.Levels, .int .i64 s.Unit, .int .i64 s.Tex, .int .i64 s.Height], .sl texs.length (texs.flatMap eTex)] (.bool true) := by
 intro H0
 refine ACalls.of_body' (n := 58) rfl rfl rfl rfl ?_
 have m0 := Mono.refl H0
 refine AWP.seq ?_
 refine AWP.region (l := [0, 1, 2]) rfl ?_
 refine AOps.cons rfl rfl (AOp.box (.agg (p.aP.flatMap eV ++ (p.aCorners.map eI ++ (p.aNormals.flatMap eV ++ [.int .i64 p.Skin])))) rfl rfl rfl ?_)
 intro i1 H2 n3 h4 k5
 have z6 := Mono.free m0 n3
 have m7 := Mono.new m0 n3 k5
 refine AOps.cons rfl rfl (AOp.box (.agg [.str s.Name, .int .i64 s.Mat, .int .i64 s.Levels, .int .i64 s.Unit, .int .i64 s.Tex, .int .i64 s.Height]) rfl rfl rfl ?_)
 intro i8 H9 n10 h11 k12
 have e13 := ne_new h4 n10
 have z14 := Mono.free m7 n10
 have h15 := keep k12 (ne_new h4 n10) h4
 have m16 := Mono.new m7 n10 k12
 refine AOps.cons rfl rfl (AOp.assign (.bool false) rfl rfl ?_)
 refine AOps.nil ?_
 change AWP _ _ _ _ _ _
 refine AWP.seq ?_
 refine AWP.seq ?_
 refine AWP.frzP 3 h15 z6 rfl m16 fun H17 m18 k19 => ?_
 have h20 := (k19 _ (Ne.symm e13)).trans h11
 refine AWP.frzP 4 h20 z14 rfl m18 fun H21 m22 k23 => ?_
 refine AWP.region (l := [0, 1]) rfl ?_
 refine AOps.cons rfl rfl (AOp.pcall («as» := []) rfl rfl (rfl) tf_9 (c_alive) ?_)
 intro H24 m25
 have m26 := m22.trans m25
 refine AOps.cons rfl rfl (AOp.not rfl rfl ?_)
 refine AOps.nil ?_
 change AWP _ _ _ _ _ _
 refine AWP.condF rfl rfl ?_
 refine AWP.skip ?_
 change AWP _ _ _ _ _ _
 refine AWP.seq ?_
 refine AWP.seq ?_
 refine AWP.region (l := [0, 1]) rfl ?_
 refine AOps.cons rfl rfl (AOp.move (.sl texs.length (texs.flatMap eTex)) rfl rfl ?_)
 refine AOps.cons rfl rfl (AOp.pcall («as» := [.sl texs.length (texs.flatMap eTex)]) rfl rfl (rfl) tf_10 (c_long texs (by first | assumption | omega) (by assumption)) ?_)
 intro H27 m28
 have m29 := m26.trans m28
 refine AOps.nil ?_
 change AWP _ _ _ _ _ _
 rcases Bool.eq_false_or_eq_true (longS texs) with b30 | b30
 ·
  refine AWP.condT rfl b30 ?_
  refine AWP.seq ?_
  refine AWP.region (l := [0]) rfl ?_
  refine AOps.cons rfl rfl (AOp.assign (.bool true) rfl rfl ?_)
  refine AOps.nil ?_
  change AWP _ _ _ _ _ _
  refine AWP.ret ?_
  refine ⟨_, _, Ghost.refl, .inr rfl, _, Res.one rfl rfl, ?_, m29⟩
  exact rfl
 ·
  refine AWP.condF rfl b30 ?_
  refine AWP.skip ?_
  change AWP _ _ _ _ _ _
  refine AWP.seq ?_
  have hla := dice_len p 0 0 s texs
  refine AWP.region (l := [0, 1, 2, 3, 4, 5, 6, 7, 8, 9]) rfl ?_
  refine AOps.cons rfl rfl (AOp.loadF (.agg (p.aP.flatMap eV ++ (p.aCorners.map eI ++ (p.aNormals.flatMap eV ++ [.int .i64 p.Skin])))) rfl rfl ty_28 (ld_all (len_app (m := 48) (n := 17) (k := 65) (lenM eV_len p.lP rfl) (len_app (m := 4) (n := 13) (k := 17) (len1 p.lCorners) (len_app (m := 12) (n := 1) (k := 13) (lenM eV_len p.lNormals rfl) rfl rfl) rfl) rfl)) ?_)
  refine AOps.cons rfl rfl (AOp.loadF (.agg [.str s.Name, .int .i64 s.Mat, .int .i64 s.Levels, .int .i64 s.Unit, .int .i64 s.Tex, .int .i64 s.Height]) rfl rfl ty_30 rfl ?_)
  refine AOps.cons rfl rfl (AOp.move (.sl texs.length (texs.flatMap eTex)) rfl rfl ?_)
  refine AOps.cons rfl rfl (AOp.pcall («as» := [.agg (p.aP.flatMap eV ++ (p.aCorners.map eI ++ (p.aNormals.flatMap eV ++ [.int .i64 p.Skin]))), .int .i64 0, .int .i64 0, .agg [.str s.Name, .int .i64 s.Mat, .int .i64 s.Levels, .int .i64 s.Unit, .int .i64 s.Tex, .int .i64 s.Height], .sl texs.length (texs.flatMap eTex)]) rfl rfl (rfl) tf_11 (c_mesh_Dice p 0 0 s texs (by first | assumption | simp) (by first | assumption | simp)) ?_)
  intro H31 m32
  have m33 := m29.trans m32
  refine AOps.cons rfl rfl (AOp.move (.tup [.agg [.sl (((diceR p 0 0 s texs).1).Verts).length ((((diceR p 0 0 s texs).1).Verts).flatMap eV), .sl (((diceR p 0 0 s texs).1).Keys).length ((((diceR p 0 0 s texs).1).Keys).flatMap eKey), .sl (((diceR p 0 0 s texs).1).Tris).length ((((diceR p 0 0 s texs).1).Tris).flatMap eI3)], .int .i64 ((diceR p 0 0 s texs).2)]) rfl rfl ?_)
  refine AOps.cons rfl rfl (AOp.extract (.agg [.sl (((diceR p 0 0 s texs).1).Verts).length ((((diceR p 0 0 s texs).1).Verts).flatMap eV), .sl (((diceR p 0 0 s texs).1).Keys).length ((((diceR p 0 0 s texs).1).Keys).flatMap eKey), .sl (((diceR p 0 0 s texs).1).Tris).length ((((diceR p 0 0 s texs).1).Tris).flatMap eI3)]) rfl rfl rfl ?_)
  refine AOps.cons rfl rfl (AOp.extract (.int .i64 ((diceR p 0 0 s texs).2)) rfl rfl rfl ?_)
  refine AOps.cons rfl rfl (AOp.alloc rfl tz_38 ?_)
  intro i34 H35 n36 h37 k38
  have z39 := Mono.free m33 n36
  have m40 := Mono.new m33 n36 k38
  refine AOps.cons rfl rfl (AOp.store' (cells' := [.sl (((diceR p 0 0 s texs).1).Verts).length ((((diceR p 0 0 s texs).1).Verts).flatMap eV), .sl (((diceR p 0 0 s texs).1).Keys).length ((((diceR p 0 0 s texs).1).Keys).flatMap eKey), .sl (((diceR p 0 0 s texs).1).Tris).length ((((diceR p 0 0 s texs).1).Tris).flatMap eI3)]) (.agg [.sl (((diceR p 0 0 s texs).1).Verts).length ((((diceR p 0 0 s texs).1).Verts).flatMap eV), .sl (((diceR p 0 0 s texs).1).Keys).length ((((diceR p 0 0 s texs).1).Keys).flatMap eKey), .sl (((diceR p 0 0 s texs).1).Tris).length ((((diceR p 0 0 s texs).1).Tris).flatMap eI3)]) rfl rfl ts_38 h37 rfl rfl rfl rfl ?_)
  intro H41 h42 k43
  have m45 := Mono.set m40 z39 k43
  refine AOps.cons rfl rfl (AOp.assign (.int .i64 ((diceR p 0 0 s texs).2)) rfl rfl ?_)
  refine AOps.nil ?_
  change AWP _ _ _ _ _ _
  refine AWP.seq ?_
  refine AWP.seq ?_
  refine AWP.frzP 7 h42 z39 rfl m45 fun H46 m47 k48 => ?_
  refine AWP.region (l := [0, 1]) rfl ?_
  refine AOps.cons rfl rfl (AOp.move (.int .i64 ((diceR p 0 0 s texs).2)) rfl rfl ?_)
  refine AOps.cons rfl rfl (AOp.bin (.bool (!decide ((diceR p 0 0 s texs).2 = 0))) rfl rfl rfl ine ?_)
  refine AOps.nil ?_
  change AWP _ _ _ _ _ _
  by_cases b49 : (diceR p 0 0 s texs).2 = 0
  ·
   refine AWP.condF rfl (nb (decide_eq_true b49)) ?_
   refine AWP.skip ?_
   change AWP _ _ _ _ _ _
   refine AWP.seq ?_
   have ha0 := b49
   have hwl := within_law (p := p) (s := s) (texs := texs) ha0
   refine AWP.region (l := [0, 1, 2, 3, 4, 5, 6, 7, 8]) rfl ?_
   refine AOps.cons rfl rfl (AOp.loadF (.agg (p.aP.flatMap eV ++ (p.aCorners.map eI ++ (p.aNormals.flatMap eV ++ [.int .i64 p.Skin])))) rfl rfl ty_28 (ld_all (len_app (m := 48) (n := 17) (k := 65) (lenM eV_len p.lP rfl) (len_app (m := 4) (n := 13) (k := 17) (len1 p.lCorners) (len_app (m := 12) (n := 1) (k := 13) (lenM eV_len p.lNormals rfl) rfl rfl) rfl) rfl)) ?_)
   refine AOps.cons rfl rfl (AOp.loadF (.agg [.str s.Name, .int .i64 s.Mat, .int .i64 s.Levels, .int .i64 s.Unit, .int .i64 s.Tex, .int .i64 s.Height]) rfl rfl ty_30 rfl ?_)
   refine AOps.cons rfl rfl (AOp.pcall («as» := [.agg (p.aP.flatMap eV ++ (p.aCorners.map eI ++ (p.aNormals.flatMap eV ++ [.int .i64 p.Skin]))), .agg [.str s.Name, .int .i64 s.Mat, .int .i64 s.Levels, .int .i64 s.Unit, .int .i64 s.Tex, .int .i64 s.Height]]) rfl rfl (rfl) tf_13 (c_mesh_Bounds p s) ?_)
   intro H50 m51
   have m52 := m47.trans m51
   refine AOps.cons rfl rfl (AOp.move (.tup [.agg [.int .i64 ((((R_mesh_Bounds p s).1).Lo).X), .int .i64 ((((R_mesh_Bounds p s).1).Lo).Y), .int .i64 ((((R_mesh_Bounds p s).1).Lo).Z), .int .i64 ((((R_mesh_Bounds p s).1).Hi).X), .int .i64 ((((R_mesh_Bounds p s).1).Hi).Y), .int .i64 ((((R_mesh_Bounds p s).1).Hi).Z)], .int .i64 ((R_mesh_Bounds p s).2)]) rfl rfl ?_)
   refine AOps.cons rfl rfl (AOp.extract (.agg [.int .i64 ((((R_mesh_Bounds p s).1).Lo).X), .int .i64 ((((R_mesh_Bounds p s).1).Lo).Y), .int .i64 ((((R_mesh_Bounds p s).1).Lo).Z), .int .i64 ((((R_mesh_Bounds p s).1).Hi).X), .int .i64 ((((R_mesh_Bounds p s).1).Hi).Y), .int .i64 ((((R_mesh_Bounds p s).1).Hi).Z)]) rfl rfl rfl ?_)
   refine AOps.cons rfl rfl (AOp.extract (.int .i64 ((R_mesh_Bounds p s).2)) rfl rfl rfl ?_)
   refine AOps.cons rfl rfl (AOp.alloc rfl tz_43 ?_)
   intro i53 H54 n55 h56 k57
   have z58 := Mono.free m52 n55
   have m59 := Mono.new m52 n55 k57
   refine AOps.cons rfl rfl (AOp.store' (cells' := [.int .i64 ((((R_mesh_Bounds p s).1).Lo).X), .int .i64 ((((R_mesh_Bounds p s).1).Lo).Y), .int .i64 ((((R_mesh_Bounds p s).1).Lo).Z), .int .i64 ((((R_mesh_Bounds p s).1).Hi).X), .int .i64 ((((R_mesh_Bounds p s).1).Hi).Y), .int .i64 ((((R_mesh_Bounds p s).1).Hi).Z)]) (.agg [.int .i64 ((((R_mesh_Bounds p s).1).Lo).X), .int .i64 ((((R_mesh_Bounds p s).1).Lo).Y), .int .i64 ((((R_mesh_Bounds p s).1).Lo).Z), .int .i64 ((((R_mesh_Bounds p s).1).Hi).X), .int .i64 ((((R_mesh_Bounds p s).1).Hi).Y), .int .i64 ((((R_mesh_Bounds p s).1).Hi).Z)]) rfl rfl ts_43 h56 rfl rfl rfl rfl ?_)
   intro H60 h61 k62
   have m64 := Mono.set m59 z58 k62
   refine AOps.cons rfl rfl (AOp.assign (.int .i64 ((R_mesh_Bounds p s).2)) rfl rfl ?_)
   refine AOps.nil ?_
   change AWP _ _ _ _ _ _
   refine AWP.seq ?_
   refine AWP.seq ?_
   refine AWP.frzP 9 h61 z58 rfl m64 fun H65 m66 k67 => ?_
   refine AWP.region (l := [0]) rfl ?_
   refine AOps.cons rfl rfl (AOp.assign (.int .i64 0) rfl rfl ?_)
   refine AOps.nil ?_
   change AWP _ _ _ _ _ _
   refine AWP.block ?_
   refine AWP.loop (fun q68 fq Hq => ∃ (i : Int), q68 = (((diceR p 0 0 s texs).1.Verts.length : Int) - i).toNat ∧ fq 11 = .int .i64 i ∧ fq 7 = .fptr [.sl (((diceR p 0 0 s texs).1).Verts).length ((((diceR p 0 0 s texs).1).Verts).flatMap eV), .sl (((diceR p 0 0 s texs).1).Keys).length ((((diceR p 0 0 s texs).1).Keys).flatMap eKey), .sl (((diceR p 0 0 s texs).1).Tris).length ((((diceR p 0 0 s texs).1).Tris).flatMap eI3)] 0 ∧ fq 9 = .fptr [.int .i64 ((((R_mesh_Bounds p s).1).Lo).X), .int .i64 ((((R_mesh_Bounds p s).1).Lo).Y), .int .i64 ((((R_mesh_Bounds p s).1).Lo).Z), .int .i64 ((((R_mesh_Bounds p s).1).Hi).X), .int .i64 ((((R_mesh_Bounds p s).1).Hi).Y), .int .i64 ((((R_mesh_Bounds p s).1).Hi).Z)] 0 ∧ fq 10 = .int .i64 ((R_mesh_Bounds p s).2) ∧ Mono H0 Hq ∧ (0 ≤ i) ∧ (i ≤ (diceR p 0 0 s texs).1.Verts.length)) (k := (((diceR p 0 0 s texs).1.Verts.length : Int) - 0).toNat) ?_ ?_
   ·
    exact ⟨0, rfl, rfl, rfl, rfl, rfl, m66, by omega, by omega⟩
   ·
    rintro _ f70 H69 ⟨i, rfl, s71, s72, s73, s74, m75, hi0, hi1⟩
    refine AWP.seq ?_
    refine AWP.seq ?_
    refine AWP.region (l := [0, 1, 2, 3, 4]) rfl ?_
    refine AOps.cons rfl rfl (AOp.move (.int .i64 i) rfl s71 ?_)
    refine AOps.cons rfl rfl (AOp.fieldAddrF rfl s72 fl_38_0 ?_)
    refine AOps.cons rfl rfl (AOp.loadF (.sl (((diceR p 0 0 s texs).1).Verts).length ((((diceR p 0 0 s texs).1).Verts).flatMap eV)) rfl rfl ty_34 rfl ?_)
    refine AOps.cons rfl rfl (AOp.len (m := (((diceR p 0 0 s texs).1).Verts).length) rfl rfl (.inr (.inl ⟨_, rfl⟩)) u_34 ?_)
    refine AOps.cons rfl rfl (AOp.bin (.bool (decide (i < (((((diceR p 0 0 s texs).1).Verts).length) : Int)))) rfl rfl rfl rfl ?_)
    refine AOps.nil ?_
    change AWP _ _ _ _ _ _
    by_cases b76 : i < (((((diceR p 0 0 s texs).1).Verts).length) : Int)
    ·
     refine AWP.condT rfl (decide_eq_true b76) ?_
     refine AWP.skip ?_
     change AWP _ _ _ _ _ _
     refine AWP.seq ?_
     refine AWP.block ?_
     refine AWP.seq ?_
     have hwi := hwl.2 i hi0 (by omega)
     refine AWP.region_quiet mixed (by kernel_rfl) 8 [] rfl (by kernel_rfl) (Mono H69) (Mono.refl _) ?_
     refine QE.op rfl rfl (.inl ⟨rfl, fun f' H' hf hM => AOp.loadF (.agg [.int .i64 ((((R_mesh_Bounds p s).1).Lo).X), .int .i64 ((((R_mesh_Bounds p s).1).Lo).Y), .int .i64 ((((R_mesh_Bounds p s).1).Lo).Z), .int .i64 ((((R_mesh_Bounds p s).1).Hi).X), .int .i64 ((((R_mesh_Bounds p s).1).Hi).Y), .int .i64 ((((R_mesh_Bounds p s).1).Hi).Z)]) rfl ((hf 9 rfl).trans s73) ty_43 rfl ⟨rfl, hM⟩⟩) ?_
     refine QE.op rfl rfl (.inl ⟨rfl, fun f' H' hf hM => AOp.fieldAddrF rfl ((hf 7 rfl).trans s72) fl_38_0 ⟨rfl, hM⟩⟩) ?_
     refine QE.op rfl rfl (.inl ⟨rfl, fun f' H' hf hM => AOp.loadF (.sl (((diceR p 0 0 s texs).1).Verts).length ((((diceR p 0 0 s texs).1).Verts).flatMap eV)) rfl ((hf 49 rfl).trans rfl) ty_34 rfl ⟨rfl, hM⟩⟩) ?_
     refine QE.op rfl rfl (.inl ⟨rfl, fun f' H' hf hM => AOp.move (.int .i64 i) rfl ((hf 11 rfl).trans s71) ⟨rfl, hM⟩⟩) ?_
     refine QE.op rfl rfl (.inl ⟨rfl, fun f' H' hf hM => AOp.indexAddrS rfl ((hf 50 rfl).trans rfl) ((hf 51 rfl).trans rfl) sl_34 (by omega) (by omega) ⟨rfl, hM⟩⟩) ?_
     refine QE.op rfl rfl (.inl ⟨rfl, fun f' H' hf hM => AOp.loadF (.agg [.int .i64 ((at_ (((diceR p 0 0 s texs).1).Verts) i).X), .int .i64 ((at_ (((diceR p 0 0 s texs).1).Verts) i).Y), .int .i64 ((at_ (((diceR p 0 0 s texs).1).Verts) i).Z)]) rfl ((hf 52 rfl).trans rfl) ty_23 (ldM eV_len (by omega) (by omega)) ⟨rfl, hM⟩⟩) ?_
     refine QE.op rfl rfl (.inl ⟨rfl, fun f' H' hf hM => AOp.pcall («as» := [.agg [.int .i64 ((((R_mesh_Bounds p s).1).Lo).X), .int .i64 ((((R_mesh_Bounds p s).1).Lo).Y), .int .i64 ((((R_mesh_Bounds p s).1).Lo).Z), .int .i64 ((((R_mesh_Bounds p s).1).Hi).X), .int .i64 ((((R_mesh_Bounds p s).1).Hi).Y), .int .i64 ((((R_mesh_Bounds p s).1).Hi).Z)], .agg [.int .i64 ((at_ (((diceR p 0 0 s texs).1).Verts) i).X), .int .i64 ((at_ (((diceR p 0 0 s texs).1).Verts) i).Y), .int .i64 ((at_ (((diceR p 0 0 s texs).1).Verts) i).Z)]]) rfl rfl (lapp (lcons ((hf 48 rfl).trans rfl) (lcons ((hf 53 rfl).trans rfl) rfl)) rfl) tf_21 (c_vec_Has ((R_mesh_Bounds p s).1) (at_ (((diceR p 0 0 s texs).1).Verts) i)) fun H2 m2 => ⟨rfl, hM.trans m2⟩⟩) ?_
     refine QE.op rfl rfl (.inl ⟨rfl, fun f' H' hf hM => AOp.not rfl ((hf 54 rfl).trans rfl) ⟨rfl, hM⟩⟩) ?_
     refine QE.done fun H77 m78 => ?_
     have m79 := m75.trans m78
     refine AOps.nil ?_
     change AWP _ _ _ _ _ _
     refine AWP.condF rfl (nb (hwi)) ?_
     refine AWP.skip ?_
     change AWP _ _ _ _ _ _
     refine AWP.region (l := [0, 1, 2]) rfl ?_
     refine AOps.cons rfl rfl (AOp.move (.int .i64 i) rfl s71 ?_)
     refine AOps.cons rfl rfl (AOp.bin (.int .i64 (i + 1)) rfl rfl rfl (iadd (by omega)) ?_)
     refine AOps.cons rfl rfl (AOp.assign (.int .i64 (i + 1)) rfl rfl ?_)
     refine AOps.nil ?_
     exact ⟨_, by omega, i + 1, rfl, rfl, s72, s73, s74, m79, by omega, by omega⟩
    ·
     refine AWP.condF rfl (decide_eq_false b76) ?_
     refine AWP.exit ?_
     change AWP _ _ _ _ _ _
     refine AWP.seq ?_
     refine AWP.region (l := [0, 1, 2]) rfl ?_
     refine AOps.cons rfl rfl (AOp.move (.int .i64 ((R_mesh_Bounds p s).2)) rfl s74 ?_)
     refine AOps.cons rfl rfl (AOp.bin (.bool (decide ((R_mesh_Bounds p s).2 = 0))) rfl rfl rfl ieq ?_)
     refine AOps.cons rfl rfl (AOp.assign (.bool (decide ((R_mesh_Bounds p s).2 = 0))) rfl rfl ?_)
     refine AOps.nil ?_
     change AWP _ _ _ _ _ _
     refine AWP.ret ?_
     refine ⟨_, _, Ghost.refl, .inr rfl, _, Res.one rfl rfl, ?_, m75⟩
     exact (congrArg AV.bool (show (decide ((R_mesh_Bounds p s).2 = 0) : Bool) = true from by first | rfl | (exact decide_eq_true hno2) | (exact decide_eq_true hwl.1) | omega))
  ·
   refine AWP.condT rfl (nb (decide_eq_false b49)) ?_
   refine AWP.seq ?_
   have hno := dice_no b49
   have hno1 : ((diceR p 0 0 s texs).1.Verts.length : Int) = 0 := by rw [hno]; rfl
   have hno2 : ((diceR p 0 0 s texs).1.Tris.length : Int) = 0 := by rw [hno]; rfl
   refine AWP.region (l := [0, 1, 2, 3, 4, 5, 6, 7, 8, 9, 10]) rfl ?_
   refine AOps.cons rfl rfl (AOp.fieldAddrF rfl rfl fl_38_0 ?_)
   refine AOps.cons rfl rfl (AOp.loadF (.sl (((diceR p 0 0 s texs).1).Verts).length ((((diceR p 0 0 s texs).1).Verts).flatMap eV)) rfl rfl ty_34 rfl ?_)
   refine AOps.cons rfl rfl (AOp.len (m := (((diceR p 0 0 s texs).1).Verts).length) rfl rfl (.inr (.inl ⟨_, rfl⟩)) u_34 ?_)
   refine AOps.cons rfl rfl (AOp.bin (.bool (decide ((((((diceR p 0 0 s texs).1).Verts).length) : Int) = 0))) rfl rfl rfl ieq ?_)
   refine AOps.cons rfl rfl (AOp.move (.bool (decide ((((((diceR p 0 0 s texs).1).Verts).length) : Int) = 0))) rfl rfl ?_)
   by_cases b80 : (((((diceR p 0 0 s texs).1).Verts).length) : Int) = 0
   ·
    refine AOps.yes rfl rfl rfl rfl rfl rfl rfl (decide_eq_true b80) (AOp.fieldAddrF rfl rfl fl_38_2 ?_)
    refine AOps.yes rfl rfl rfl rfl rfl rfl rfl (decide_eq_true b80) (AOp.loadF (.sl (((diceR p 0 0 s texs).1).Tris).length ((((diceR p 0 0 s texs).1).Tris).flatMap eI3)) rfl rfl ty_36 rfl ?_)
    refine AOps.yes rfl rfl rfl rfl rfl rfl rfl (decide_eq_true b80) (AOp.len (m := (((diceR p 0 0 s texs).1).Tris).length) rfl rfl (.inr (.inl ⟨_, rfl⟩)) u_36 ?_)
    refine AOps.yes rfl rfl rfl rfl rfl rfl rfl (decide_eq_true b80) (AOp.bin (.bool (decide ((((((diceR p 0 0 s texs).1).Tris).length) : Int) = 0))) rfl rfl rfl ieq ?_)
    refine AOps.cons rfl rfl (AOp.pickT (.bool (decide ((((((diceR p 0 0 s texs).1).Tris).length) : Int) = 0))) rfl rfl (decide_eq_true b80) rfl ?_)
    refine AOps.cons rfl rfl (AOp.assign (.bool (decide ((((((diceR p 0 0 s texs).1).Tris).length) : Int) = 0))) rfl rfl ?_)
    refine AOps.nil ?_
    change AWP _ _ _ _ _ _
    refine AWP.ret ?_
    refine ⟨_, _, Ghost.refl, .inr rfl, _, Res.one rfl rfl, ?_, m47⟩
    exact (congrArg AV.bool (show (decide ((((((diceR p 0 0 s texs).1).Tris).length) : Int) = 0) : Bool) = true from by first | rfl | (exact decide_eq_true hno2) | (exact decide_eq_true hwl.1) | omega))
   ·
    refine AOps.no rfl rfl rfl rfl rfl rfl rfl (ble_of (decide_eq_false b80) (by decide)) ?_
    refine AOps.no rfl rfl rfl rfl rfl rfl rfl (ble_of (decide_eq_false b80) (by decide)) ?_
    refine AOps.no rfl rfl rfl rfl rfl rfl rfl (ble_of (decide_eq_false b80) (by decide)) ?_
    refine AOps.no rfl rfl rfl rfl rfl rfl rfl (ble_of (decide_eq_false b80) (by decide)) ?_
    refine AOps.cons rfl rfl (AOp.pickF (.bool false) rfl rfl (decide_eq_false b80) rfl ?_)
    refine AOps.cons rfl rfl (AOp.assign (.bool false) rfl rfl ?_)
    refine AOps.nil ?_
    change AWP _ _ _ _ _ _
    refine AWP.ret ?_
    refine ⟨_, _, Ghost.refl, .inr rfl, _, Res.one rfl rfl, ?_, m47⟩
    exact (congrArg AV.bool (show (false : Bool) = true from by first | rfl | (exact decide_eq_true hno2) | (exact decide_eq_true hwl.1) | omega))
end Go.Proofs.M
