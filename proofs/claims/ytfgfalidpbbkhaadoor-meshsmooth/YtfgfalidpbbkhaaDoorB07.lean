/- A part of the proof that a law answers true for every input of its row: own work, by an AI agent. -/
import Derived.Test.YtfgfalidpbbkhaaDoorB05
import Derived.Test.YtfgfalidpbbkhaaDoorB06
import Derived.Test.YtfgfalidpbbkhaaDoorB01
import Derived.Test.YtfgfalidpbbkhaaDoorCards
import Derived.Test.YtfgfalidpbbkhaaDoorTie
import Derived.WalkKit
import Derived.ProofKit
import Derived.OpenShut
import Derived.Deep.DeepHandedRow
import Derived.Lib.LaidTab
import Derived.WideKeyArgs
import Derived.KernelRfl
set_option linter.unusedSimpArgs false
set_option linter.unusedVariables false
namespace Go.Proofs.M
open Go Go.AH
set_option maxRecDepth 4000
set_option linter.unusedSimpArgs false
set_option linter.unusedVariables false
set_option maxHeartbeats 4000000
theorem c_alive : PC Tryd.prog 9 [] (.bool true) := by
 intro H0
 refine ACalls.of_body' (n := 63) rfl rfl rfl rfl ?_
 have m0 := Mono.refl H0
 refine AWP.seq ?_
 refine AWP.region (l := [0]) rfl ?_
 refine AOps.cons rfl rfl (AOp.assign (.bool false) rfl rfl ?_)
 refine AOps.nil ?_
 change AWP _ _ _ _ _ _
 refine AWP.seq ?_
 refine AWP.region (l := [0, 1, 2, 3, 4, 5, 6, 7, 8]) rfl ?_
 refine AOps.cons rfl rfl (AOp.pcall («as» := []) rfl rfl (rfl) tf_22 (c_law15_flat ) ?_)
 intro H1 m2
 have m3 := m0.trans m2
 refine AOps.cons rfl rfl (AOp.build (cells := [.str ⟨#[]⟩, .int .i64 0, .int .i64 0, .int .i64 100, .int .i64 (-1), .int .i64 0]) rfl tz_30 pl_30 rfl rfl ?_)
 refine AOps.cons rfl rfl (AOp.pcall («as» := [.agg (((R_law15_flat).aP).flatMap eV ++ (((R_law15_flat).aCorners).map eI ++ (((R_law15_flat).aNormals).flatMap eV ++ [.int .i64 ((R_law15_flat).Skin)]))), .int .i64 0, .int .i64 0, .agg [.str ⟨#[]⟩, .int .i64 0, .int .i64 0, .int .i64 100, .int .i64 (-1), .int .i64 0], .snil]) rfl rfl (rfl) tf_11 (c_mesh_Dice0 (R_law15_flat) 0 0 (SkinT.mk ⟨#[]⟩ 0 0 100 (-1) 0)) ?_)
 intro H4 m5
 have m6 := m3.trans m5
 refine AOps.cons rfl rfl (AOp.move (.tup [.agg [.sl (((diceR (R_law15_flat) 0 0 (SkinT.mk ⟨#[]⟩ 0 0 100 (-1) 0) ([] : List TexT)).1).Verts).length ((((diceR (R_law15_flat) 0 0 (SkinT.mk ⟨#[]⟩ 0 0 100 (-1) 0) ([] : List TexT)).1).Verts).flatMap eV), .sl (((diceR (R_law15_flat) 0 0 (SkinT.mk ⟨#[]⟩ 0 0 100 (-1) 0) ([] : List TexT)).1).Keys).length ((((diceR (R_law15_flat) 0 0 (SkinT.mk ⟨#[]⟩ 0 0 100 (-1) 0) ([] : List TexT)).1).Keys).flatMap eKey), .sl (((diceR (R_law15_flat) 0 0 (SkinT.mk ⟨#[]⟩ 0 0 100 (-1) 0) ([] : List TexT)).1).Tris).length ((((diceR (R_law15_flat) 0 0 (SkinT.mk ⟨#[]⟩ 0 0 100 (-1) 0) ([] : List TexT)).1).Tris).flatMap eI3)], .int .i64 ((diceR (R_law15_flat) 0 0 (SkinT.mk ⟨#[]⟩ 0 0 100 (-1) 0) ([] : List TexT)).2)]) rfl rfl ?_)
 refine AOps.cons rfl rfl (AOp.extract (.agg [.sl (((diceR (R_law15_flat) 0 0 (SkinT.mk ⟨#[]⟩ 0 0 100 (-1) 0) ([] : List TexT)).1).Verts).length ((((diceR (R_law15_flat) 0 0 (SkinT.mk ⟨#[]⟩ 0 0 100 (-1) 0) ([] : List TexT)).1).Verts).flatMap eV), .sl (((diceR (R_law15_flat) 0 0 (SkinT.mk ⟨#[]⟩ 0 0 100 (-1) 0) ([] : List TexT)).1).Keys).length ((((diceR (R_law15_flat) 0 0 (SkinT.mk ⟨#[]⟩ 0 0 100 (-1) 0) ([] : List TexT)).1).Keys).flatMap eKey), .sl (((diceR (R_law15_flat) 0 0 (SkinT.mk ⟨#[]⟩ 0 0 100 (-1) 0) ([] : List TexT)).1).Tris).length ((((diceR (R_law15_flat) 0 0 (SkinT.mk ⟨#[]⟩ 0 0 100 (-1) 0) ([] : List TexT)).1).Tris).flatMap eI3)]) rfl rfl rfl ?_)
 refine AOps.cons rfl rfl (AOp.extract (.int .i64 ((diceR (R_law15_flat) 0 0 (SkinT.mk ⟨#[]⟩ 0 0 100 (-1) 0) ([] : List TexT)).2)) rfl rfl rfl ?_)
 refine AOps.cons rfl rfl (AOp.alloc rfl tz_38 ?_)
 intro i7 H8 n9 h10 k11
 have z12 := Mono.free m6 n9
 have m13 := Mono.new m6 n9 k11
 refine AOps.cons rfl rfl (AOp.store' (cells' := [.sl (((diceR (R_law15_flat) 0 0 (SkinT.mk ⟨#[]⟩ 0 0 100 (-1) 0) ([] : List TexT)).1).Verts).length ((((diceR (R_law15_flat) 0 0 (SkinT.mk ⟨#[]⟩ 0 0 100 (-1) 0) ([] : List TexT)).1).Verts).flatMap eV), .sl (((diceR (R_law15_flat) 0 0 (SkinT.mk ⟨#[]⟩ 0 0 100 (-1) 0) ([] : List TexT)).1).Keys).length ((((diceR (R_law15_flat) 0 0 (SkinT.mk ⟨#[]⟩ 0 0 100 (-1) 0) ([] : List TexT)).1).Keys).flatMap eKey), .sl (((diceR (R_law15_flat) 0 0 (SkinT.mk ⟨#[]⟩ 0 0 100 (-1) 0) ([] : List TexT)).1).Tris).length ((((diceR (R_law15_flat) 0 0 (SkinT.mk ⟨#[]⟩ 0 0 100 (-1) 0) ([] : List TexT)).1).Tris).flatMap eI3)]) (.agg [.sl (((diceR (R_law15_flat) 0 0 (SkinT.mk ⟨#[]⟩ 0 0 100 (-1) 0) ([] : List TexT)).1).Verts).length ((((diceR (R_law15_flat) 0 0 (SkinT.mk ⟨#[]⟩ 0 0 100 (-1) 0) ([] : List TexT)).1).Verts).flatMap eV), .sl (((diceR (R_law15_flat) 0 0 (SkinT.mk ⟨#[]⟩ 0 0 100 (-1) 0) ([] : List TexT)).1).Keys).length ((((diceR (R_law15_flat) 0 0 (SkinT.mk ⟨#[]⟩ 0 0 100 (-1) 0) ([] : List TexT)).1).Keys).flatMap eKey), .sl (((diceR (R_law15_flat) 0 0 (SkinT.mk ⟨#[]⟩ 0 0 100 (-1) 0) ([] : List TexT)).1).Tris).length ((((diceR (R_law15_flat) 0 0 (SkinT.mk ⟨#[]⟩ 0 0 100 (-1) 0) ([] : List TexT)).1).Tris).flatMap eI3)]) rfl rfl ts_38 h10 rfl rfl rfl rfl ?_)
 intro H14 h15 k16
 have m18 := Mono.set m13 z12 k16
 refine AOps.cons rfl rfl (AOp.assign (.int .i64 ((diceR (R_law15_flat) 0 0 (SkinT.mk ⟨#[]⟩ 0 0 100 (-1) 0) ([] : List TexT)).2)) rfl rfl ?_)
 refine AOps.nil ?_
 change AWP _ _ _ _ _ _
 refine AWP.seq ?_
 refine AWP.frzP 1 h15 z12 rfl m18 fun H19 m20 k21 => ?_
 have hdl := dice_len R_law15_flat 0 0 (SkinT.mk ⟨#[]⟩ 0 0 100 (-1) 0) ([] : List TexT)
 refine AWP.region (l := [0, 1, 2, 3, 4, 5, 6, 7, 8]) rfl ?_
 refine AOps.cons rfl rfl (AOp.pcall («as» := []) rfl rfl (rfl) tf_22 (c_law15_flat ) ?_)
 intro H22 m23
 have m24 := m20.trans m23
 refine AOps.cons rfl rfl (AOp.build (cells := [.str ⟨#[]⟩, .int .i64 0, .int .i64 0, .int .i64 1, .int .i64 0, .int .i64 3]) rfl tz_30 pl_30 rfl rfl ?_)
 refine AOps.cons rfl rfl (AOp.pcall («as» := [.agg (((R_law15_flat).aP).flatMap eV ++ (((R_law15_flat).aCorners).map eI ++ (((R_law15_flat).aNormals).flatMap eV ++ [.int .i64 ((R_law15_flat).Skin)]))), .agg [.str ⟨#[]⟩, .int .i64 0, .int .i64 0, .int .i64 1, .int .i64 0, .int .i64 3]]) rfl rfl (rfl) tf_13 (c_mesh_Bounds (R_law15_flat) (SkinT.mk ⟨#[]⟩ 0 0 1 0 3)) ?_)
 intro H25 m26
 have m27 := m24.trans m26
 refine AOps.cons rfl rfl (AOp.move (.tup [.agg [.int .i64 ((((R_mesh_Bounds (R_law15_flat) (SkinT.mk ⟨#[]⟩ 0 0 1 0 3)).1).Lo).X), .int .i64 ((((R_mesh_Bounds (R_law15_flat) (SkinT.mk ⟨#[]⟩ 0 0 1 0 3)).1).Lo).Y), .int .i64 ((((R_mesh_Bounds (R_law15_flat) (SkinT.mk ⟨#[]⟩ 0 0 1 0 3)).1).Lo).Z), .int .i64 ((((R_mesh_Bounds (R_law15_flat) (SkinT.mk ⟨#[]⟩ 0 0 1 0 3)).1).Hi).X), .int .i64 ((((R_mesh_Bounds (R_law15_flat) (SkinT.mk ⟨#[]⟩ 0 0 1 0 3)).1).Hi).Y), .int .i64 ((((R_mesh_Bounds (R_law15_flat) (SkinT.mk ⟨#[]⟩ 0 0 1 0 3)).1).Hi).Z)], .int .i64 ((R_mesh_Bounds (R_law15_flat) (SkinT.mk ⟨#[]⟩ 0 0 1 0 3)).2)]) rfl rfl ?_)
 refine AOps.cons rfl rfl (AOp.extract (.agg [.int .i64 ((((R_mesh_Bounds (R_law15_flat) (SkinT.mk ⟨#[]⟩ 0 0 1 0 3)).1).Lo).X), .int .i64 ((((R_mesh_Bounds (R_law15_flat) (SkinT.mk ⟨#[]⟩ 0 0 1 0 3)).1).Lo).Y), .int .i64 ((((R_mesh_Bounds (R_law15_flat) (SkinT.mk ⟨#[]⟩ 0 0 1 0 3)).1).Lo).Z), .int .i64 ((((R_mesh_Bounds (R_law15_flat) (SkinT.mk ⟨#[]⟩ 0 0 1 0 3)).1).Hi).X), .int .i64 ((((R_mesh_Bounds (R_law15_flat) (SkinT.mk ⟨#[]⟩ 0 0 1 0 3)).1).Hi).Y), .int .i64 ((((R_mesh_Bounds (R_law15_flat) (SkinT.mk ⟨#[]⟩ 0 0 1 0 3)).1).Hi).Z)]) rfl rfl rfl ?_)
 refine AOps.cons rfl rfl (AOp.extract (.int .i64 ((R_mesh_Bounds (R_law15_flat) (SkinT.mk ⟨#[]⟩ 0 0 1 0 3)).2)) rfl rfl rfl ?_)
 refine AOps.cons rfl rfl (AOp.alloc rfl tz_43 ?_)
 intro i28 H29 n30 h31 k32
 have z33 := Mono.free m27 n30
 have m34 := Mono.new m27 n30 k32
 refine AOps.cons rfl rfl (AOp.store' (cells' := [.int .i64 ((((R_mesh_Bounds (R_law15_flat) (SkinT.mk ⟨#[]⟩ 0 0 1 0 3)).1).Lo).X), .int .i64 ((((R_mesh_Bounds (R_law15_flat) (SkinT.mk ⟨#[]⟩ 0 0 1 0 3)).1).Lo).Y), .int .i64 ((((R_mesh_Bounds (R_law15_flat) (SkinT.mk ⟨#[]⟩ 0 0 1 0 3)).1).Lo).Z), .int .i64 ((((R_mesh_Bounds (R_law15_flat) (SkinT.mk ⟨#[]⟩ 0 0 1 0 3)).1).Hi).X), .int .i64 ((((R_mesh_Bounds (R_law15_flat) (SkinT.mk ⟨#[]⟩ 0 0 1 0 3)).1).Hi).Y), .int .i64 ((((R_mesh_Bounds (R_law15_flat) (SkinT.mk ⟨#[]⟩ 0 0 1 0 3)).1).Hi).Z)]) (.agg [.int .i64 ((((R_mesh_Bounds (R_law15_flat) (SkinT.mk ⟨#[]⟩ 0 0 1 0 3)).1).Lo).X), .int .i64 ((((R_mesh_Bounds (R_law15_flat) (SkinT.mk ⟨#[]⟩ 0 0 1 0 3)).1).Lo).Y), .int .i64 ((((R_mesh_Bounds (R_law15_flat) (SkinT.mk ⟨#[]⟩ 0 0 1 0 3)).1).Lo).Z), .int .i64 ((((R_mesh_Bounds (R_law15_flat) (SkinT.mk ⟨#[]⟩ 0 0 1 0 3)).1).Hi).X), .int .i64 ((((R_mesh_Bounds (R_law15_flat) (SkinT.mk ⟨#[]⟩ 0 0 1 0 3)).1).Hi).Y), .int .i64 ((((R_mesh_Bounds (R_law15_flat) (SkinT.mk ⟨#[]⟩ 0 0 1 0 3)).1).Hi).Z)]) rfl rfl ts_43 h31 rfl rfl rfl rfl ?_)
 intro H35 h36 k37
 have m39 := Mono.set m34 z33 k37
 refine AOps.cons rfl rfl (AOp.assign (.int .i64 ((R_mesh_Bounds (R_law15_flat) (SkinT.mk ⟨#[]⟩ 0 0 1 0 3)).2)) rfl rfl ?_)
 refine AOps.nil ?_
 change AWP _ _ _ _ _ _
 refine AWP.seq ?_
 refine AWP.frzP 3 h36 z33 rfl m39 fun H40 m41 k42 => ?_
 refine AWP.region (l := [0, 1, 2, 3, 4, 5, 6, 7]) rfl ?_
 refine AOps.cons rfl rfl (AOp.loadF (.agg [.sl (((diceR (R_law15_flat) 0 0 (SkinT.mk ⟨#[]⟩ 0 0 100 (-1) 0) ([] : List TexT)).1).Verts).length ((((diceR (R_law15_flat) 0 0 (SkinT.mk ⟨#[]⟩ 0 0 100 (-1) 0) ([] : List TexT)).1).Verts).flatMap eV), .sl (((diceR (R_law15_flat) 0 0 (SkinT.mk ⟨#[]⟩ 0 0 100 (-1) 0) ([] : List TexT)).1).Keys).length ((((diceR (R_law15_flat) 0 0 (SkinT.mk ⟨#[]⟩ 0 0 100 (-1) 0) ([] : List TexT)).1).Keys).flatMap eKey), .sl (((diceR (R_law15_flat) 0 0 (SkinT.mk ⟨#[]⟩ 0 0 100 (-1) 0) ([] : List TexT)).1).Tris).length ((((diceR (R_law15_flat) 0 0 (SkinT.mk ⟨#[]⟩ 0 0 100 (-1) 0) ([] : List TexT)).1).Tris).flatMap eI3)]) rfl rfl ty_38 rfl ?_)
 refine AOps.cons rfl rfl (AOp.pcall («as» := [.agg [.sl (((diceR (R_law15_flat) 0 0 (SkinT.mk ⟨#[]⟩ 0 0 100 (-1) 0) ([] : List TexT)).1).Verts).length ((((diceR (R_law15_flat) 0 0 (SkinT.mk ⟨#[]⟩ 0 0 100 (-1) 0) ([] : List TexT)).1).Verts).flatMap eV), .sl (((diceR (R_law15_flat) 0 0 (SkinT.mk ⟨#[]⟩ 0 0 100 (-1) 0) ([] : List TexT)).1).Keys).length ((((diceR (R_law15_flat) 0 0 (SkinT.mk ⟨#[]⟩ 0 0 100 (-1) 0) ([] : List TexT)).1).Keys).flatMap eKey), .sl (((diceR (R_law15_flat) 0 0 (SkinT.mk ⟨#[]⟩ 0 0 100 (-1) 0) ([] : List TexT)).1).Tris).length ((((diceR (R_law15_flat) 0 0 (SkinT.mk ⟨#[]⟩ 0 0 100 (-1) 0) ([] : List TexT)).1).Tris).flatMap eI3)], .int .i64 1]) rfl rfl (rfl) tf_15 (c_mesh_Tri ((diceR (R_law15_flat) 0 0 (SkinT.mk ⟨#[]⟩ 0 0 100 (-1) 0) ([] : List TexT)).1) 1 (by first | assumption | omega) (by first | assumption | omega)) ?_)
 intro H43 m44
 have m45 := m41.trans m44
 refine AOps.cons rfl rfl (AOp.move (.tup [.agg [.int .i64 ((((R_mesh_Tri ((diceR (R_law15_flat) 0 0 (SkinT.mk ⟨#[]⟩ 0 0 100 (-1) 0) ([] : List TexT)).1) 1).1).A).X), .int .i64 ((((R_mesh_Tri ((diceR (R_law15_flat) 0 0 (SkinT.mk ⟨#[]⟩ 0 0 100 (-1) 0) ([] : List TexT)).1) 1).1).A).Y), .int .i64 ((((R_mesh_Tri ((diceR (R_law15_flat) 0 0 (SkinT.mk ⟨#[]⟩ 0 0 100 (-1) 0) ([] : List TexT)).1) 1).1).A).Z), .int .i64 ((((R_mesh_Tri ((diceR (R_law15_flat) 0 0 (SkinT.mk ⟨#[]⟩ 0 0 100 (-1) 0) ([] : List TexT)).1) 1).1).B).X), .int .i64 ((((R_mesh_Tri ((diceR (R_law15_flat) 0 0 (SkinT.mk ⟨#[]⟩ 0 0 100 (-1) 0) ([] : List TexT)).1) 1).1).B).Y), .int .i64 ((((R_mesh_Tri ((diceR (R_law15_flat) 0 0 (SkinT.mk ⟨#[]⟩ 0 0 100 (-1) 0) ([] : List TexT)).1) 1).1).B).Z), .int .i64 ((((R_mesh_Tri ((diceR (R_law15_flat) 0 0 (SkinT.mk ⟨#[]⟩ 0 0 100 (-1) 0) ([] : List TexT)).1) 1).1).C).X), .int .i64 ((((R_mesh_Tri ((diceR (R_law15_flat) 0 0 (SkinT.mk ⟨#[]⟩ 0 0 100 (-1) 0) ([] : List TexT)).1) 1).1).C).Y), .int .i64 ((((R_mesh_Tri ((diceR (R_law15_flat) 0 0 (SkinT.mk ⟨#[]⟩ 0 0 100 (-1) 0) ([] : List TexT)).1) 1).1).C).Z)], .bool ((R_mesh_Tri ((diceR (R_law15_flat) 0 0 (SkinT.mk ⟨#[]⟩ 0 0 100 (-1) 0) ([] : List TexT)).1) 1).2)]) rfl rfl ?_)
 refine AOps.cons rfl rfl (AOp.extract (.agg [.int .i64 ((((R_mesh_Tri ((diceR (R_law15_flat) 0 0 (SkinT.mk ⟨#[]⟩ 0 0 100 (-1) 0) ([] : List TexT)).1) 1).1).A).X), .int .i64 ((((R_mesh_Tri ((diceR (R_law15_flat) 0 0 (SkinT.mk ⟨#[]⟩ 0 0 100 (-1) 0) ([] : List TexT)).1) 1).1).A).Y), .int .i64 ((((R_mesh_Tri ((diceR (R_law15_flat) 0 0 (SkinT.mk ⟨#[]⟩ 0 0 100 (-1) 0) ([] : List TexT)).1) 1).1).A).Z), .int .i64 ((((R_mesh_Tri ((diceR (R_law15_flat) 0 0 (SkinT.mk ⟨#[]⟩ 0 0 100 (-1) 0) ([] : List TexT)).1) 1).1).B).X), .int .i64 ((((R_mesh_Tri ((diceR (R_law15_flat) 0 0 (SkinT.mk ⟨#[]⟩ 0 0 100 (-1) 0) ([] : List TexT)).1) 1).1).B).Y), .int .i64 ((((R_mesh_Tri ((diceR (R_law15_flat) 0 0 (SkinT.mk ⟨#[]⟩ 0 0 100 (-1) 0) ([] : List TexT)).1) 1).1).B).Z), .int .i64 ((((R_mesh_Tri ((diceR (R_law15_flat) 0 0 (SkinT.mk ⟨#[]⟩ 0 0 100 (-1) 0) ([] : List TexT)).1) 1).1).C).X), .int .i64 ((((R_mesh_Tri ((diceR (R_law15_flat) 0 0 (SkinT.mk ⟨#[]⟩ 0 0 100 (-1) 0) ([] : List TexT)).1) 1).1).C).Y), .int .i64 ((((R_mesh_Tri ((diceR (R_law15_flat) 0 0 (SkinT.mk ⟨#[]⟩ 0 0 100 (-1) 0) ([] : List TexT)).1) 1).1).C).Z)]) rfl rfl rfl ?_)
 refine AOps.cons rfl rfl (AOp.extract (.bool ((R_mesh_Tri ((diceR (R_law15_flat) 0 0 (SkinT.mk ⟨#[]⟩ 0 0 100 (-1) 0) ([] : List TexT)).1) 1).2)) rfl rfl rfl ?_)
 refine AOps.cons rfl rfl (AOp.alloc rfl tz_47 ?_)
 intro i46 H47 n48 h49 k50
 have z51 := Mono.free m45 n48
 have m52 := Mono.new m45 n48 k50
 refine AOps.cons rfl rfl (AOp.store' (cells' := [.int .i64 ((((R_mesh_Tri ((diceR (R_law15_flat) 0 0 (SkinT.mk ⟨#[]⟩ 0 0 100 (-1) 0) ([] : List TexT)).1) 1).1).A).X), .int .i64 ((((R_mesh_Tri ((diceR (R_law15_flat) 0 0 (SkinT.mk ⟨#[]⟩ 0 0 100 (-1) 0) ([] : List TexT)).1) 1).1).A).Y), .int .i64 ((((R_mesh_Tri ((diceR (R_law15_flat) 0 0 (SkinT.mk ⟨#[]⟩ 0 0 100 (-1) 0) ([] : List TexT)).1) 1).1).A).Z), .int .i64 ((((R_mesh_Tri ((diceR (R_law15_flat) 0 0 (SkinT.mk ⟨#[]⟩ 0 0 100 (-1) 0) ([] : List TexT)).1) 1).1).B).X), .int .i64 ((((R_mesh_Tri ((diceR (R_law15_flat) 0 0 (SkinT.mk ⟨#[]⟩ 0 0 100 (-1) 0) ([] : List TexT)).1) 1).1).B).Y), .int .i64 ((((R_mesh_Tri ((diceR (R_law15_flat) 0 0 (SkinT.mk ⟨#[]⟩ 0 0 100 (-1) 0) ([] : List TexT)).1) 1).1).B).Z), .int .i64 ((((R_mesh_Tri ((diceR (R_law15_flat) 0 0 (SkinT.mk ⟨#[]⟩ 0 0 100 (-1) 0) ([] : List TexT)).1) 1).1).C).X), .int .i64 ((((R_mesh_Tri ((diceR (R_law15_flat) 0 0 (SkinT.mk ⟨#[]⟩ 0 0 100 (-1) 0) ([] : List TexT)).1) 1).1).C).Y), .int .i64 ((((R_mesh_Tri ((diceR (R_law15_flat) 0 0 (SkinT.mk ⟨#[]⟩ 0 0 100 (-1) 0) ([] : List TexT)).1) 1).1).C).Z)]) (.agg [.int .i64 ((((R_mesh_Tri ((diceR (R_law15_flat) 0 0 (SkinT.mk ⟨#[]⟩ 0 0 100 (-1) 0) ([] : List TexT)).1) 1).1).A).X), .int .i64 ((((R_mesh_Tri ((diceR (R_law15_flat) 0 0 (SkinT.mk ⟨#[]⟩ 0 0 100 (-1) 0) ([] : List TexT)).1) 1).1).A).Y), .int .i64 ((((R_mesh_Tri ((diceR (R_law15_flat) 0 0 (SkinT.mk ⟨#[]⟩ 0 0 100 (-1) 0) ([] : List TexT)).1) 1).1).A).Z), .int .i64 ((((R_mesh_Tri ((diceR (R_law15_flat) 0 0 (SkinT.mk ⟨#[]⟩ 0 0 100 (-1) 0) ([] : List TexT)).1) 1).1).B).X), .int .i64 ((((R_mesh_Tri ((diceR (R_law15_flat) 0 0 (SkinT.mk ⟨#[]⟩ 0 0 100 (-1) 0) ([] : List TexT)).1) 1).1).B).Y), .int .i64 ((((R_mesh_Tri ((diceR (R_law15_flat) 0 0 (SkinT.mk ⟨#[]⟩ 0 0 100 (-1) 0) ([] : List TexT)).1) 1).1).B).Z), .int .i64 ((((R_mesh_Tri ((diceR (R_law15_flat) 0 0 (SkinT.mk ⟨#[]⟩ 0 0 100 (-1) 0) ([] : List TexT)).1) 1).1).C).X), .int .i64 ((((R_mesh_Tri ((diceR (R_law15_flat) 0 0 (SkinT.mk ⟨#[]⟩ 0 0 100 (-1) 0) ([] : List TexT)).1) 1).1).C).Y), .int .i64 ((((R_mesh_Tri ((diceR (R_law15_flat) 0 0 (SkinT.mk ⟨#[]⟩ 0 0 100 (-1) 0) ([] : List TexT)).1) 1).1).C).Z)]) rfl rfl ts_47 h49 rfl rfl rfl rfl ?_)
 intro H53 h54 k55
 have m57 := Mono.set m52 z51 k55
 refine AOps.cons rfl rfl (AOp.assign (.bool ((R_mesh_Tri ((diceR (R_law15_flat) 0 0 (SkinT.mk ⟨#[]⟩ 0 0 100 (-1) 0) ([] : List TexT)).1) 1).2)) rfl rfl ?_)
 refine AOps.nil ?_
 change AWP _ _ _ _ _ _
 refine AWP.seq ?_
 refine AWP.frzP 5 h54 z51 rfl m57 fun H58 m59 k60 => ?_
 refine AWP.region (l := [0, 1, 2, 3, 4, 5, 6, 7, 8, 9, 10, 11, 12, 13, 14, 15, 16, 17, 18, 19, 20, 21, 22, 23, 24, 25, 26, 27, 28, 29, 30, 31, 32, 33, 34, 35, 36, 37, 38, 39]) rfl ?_
 refine AOps.cons rfl rfl (AOp.move (.int .i64 ((diceR (R_law15_flat) 0 0 (SkinT.mk ⟨#[]⟩ 0 0 100 (-1) 0) ([] : List TexT)).2)) rfl rfl ?_)
 refine AOps.cons rfl rfl (AOp.bin (.bool (decide ((diceR (R_law15_flat) 0 0 (SkinT.mk ⟨#[]⟩ 0 0 100 (-1) 0) ([] : List TexT)).2 = 0))) rfl rfl rfl ieq ?_)
 refine AOps.cons rfl rfl (AOp.move (.bool (decide ((diceR (R_law15_flat) 0 0 (SkinT.mk ⟨#[]⟩ 0 0 100 (-1) 0) ([] : List TexT)).2 = 0))) rfl rfl ?_)
 refine AOps.yes rfl rfl rfl rfl rfl rfl rfl (decide_eq_true (al_d2)) (AOp.move (.int .i64 ((R_mesh_Bounds (R_law15_flat) (SkinT.mk ⟨#[]⟩ 0 0 1 0 3)).2)) rfl rfl ?_)
 refine AOps.yes rfl rfl rfl rfl rfl rfl rfl (decide_eq_true (al_d2)) (AOp.bin (.bool (decide ((R_mesh_Bounds (R_law15_flat) (SkinT.mk ⟨#[]⟩ 0 0 1 0 3)).2 = 0))) rfl rfl rfl ieq ?_)
 refine AOps.cons rfl rfl (AOp.pickT (.bool (decide ((R_mesh_Bounds (R_law15_flat) (SkinT.mk ⟨#[]⟩ 0 0 1 0 3)).2 = 0))) rfl rfl (decide_eq_true (al_d2)) rfl ?_)
 refine AOps.cons rfl rfl (AOp.move (.bool (decide ((R_mesh_Bounds (R_law15_flat) (SkinT.mk ⟨#[]⟩ 0 0 1 0 3)).2 = 0))) rfl rfl ?_)
 refine AOps.yes rfl rfl rfl rfl rfl rfl rfl (decide_eq_true (al_b2)) (AOp.move (.bool ((R_mesh_Tri ((diceR (R_law15_flat) 0 0 (SkinT.mk ⟨#[]⟩ 0 0 100 (-1) 0) ([] : List TexT)).1) 1).2)) rfl rfl ?_)
 refine AOps.cons rfl rfl (AOp.pickT (.bool ((R_mesh_Tri ((diceR (R_law15_flat) 0 0 (SkinT.mk ⟨#[]⟩ 0 0 100 (-1) 0) ([] : List TexT)).1) 1).2)) rfl rfl (decide_eq_true (al_b2)) rfl ?_)
 refine AOps.cons rfl rfl (AOp.move (.bool ((R_mesh_Tri ((diceR (R_law15_flat) 0 0 (SkinT.mk ⟨#[]⟩ 0 0 100 (-1) 0) ([] : List TexT)).1) 1).2)) rfl rfl ?_)
 refine AOps.yes rfl rfl rfl rfl rfl rfl rfl (al_t2) (AOp.fieldAddrF rfl rfl fl_38_0 ?_)
 refine AOps.yes rfl rfl rfl rfl rfl rfl rfl (al_t2) (AOp.loadF (.sl (((diceR (R_law15_flat) 0 0 (SkinT.mk ⟨#[]⟩ 0 0 100 (-1) 0) ([] : List TexT)).1).Verts).length ((((diceR (R_law15_flat) 0 0 (SkinT.mk ⟨#[]⟩ 0 0 100 (-1) 0) ([] : List TexT)).1).Verts).flatMap eV)) rfl rfl ty_34 rfl ?_)
 refine AOps.yes rfl rfl rfl rfl rfl rfl rfl (al_t2) (AOp.len (m := (((diceR (R_law15_flat) 0 0 (SkinT.mk ⟨#[]⟩ 0 0 100 (-1) 0) ([] : List TexT)).1).Verts).length) rfl rfl (.inr (.inl ⟨_, rfl⟩)) u_34 ?_)
 refine AOps.yes rfl rfl rfl rfl rfl rfl rfl (al_t2) (AOp.bin (.bool (decide ((((((diceR (R_law15_flat) 0 0 (SkinT.mk ⟨#[]⟩ 0 0 100 (-1) 0) ([] : List TexT)).1).Verts).length) : Int) = 4))) rfl rfl rfl ieq ?_)
 refine AOps.cons rfl rfl (AOp.pickT (.bool (decide ((((((diceR (R_law15_flat) 0 0 (SkinT.mk ⟨#[]⟩ 0 0 100 (-1) 0) ([] : List TexT)).1).Verts).length) : Int) = 4))) rfl rfl (al_t2) rfl ?_)
 refine AOps.cons rfl rfl (AOp.move (.bool (decide ((((((diceR (R_law15_flat) 0 0 (SkinT.mk ⟨#[]⟩ 0 0 100 (-1) 0) ([] : List TexT)).1).Verts).length) : Int) = 4))) rfl rfl ?_)
 refine AOps.yes rfl rfl rfl rfl rfl rfl rfl (decide_eq_true (al_v)) (AOp.fieldAddrF rfl rfl fl_38_1 ?_)
 refine AOps.yes rfl rfl rfl rfl rfl rfl rfl (decide_eq_true (al_v)) (AOp.loadF (.sl (((diceR (R_law15_flat) 0 0 (SkinT.mk ⟨#[]⟩ 0 0 100 (-1) 0) ([] : List TexT)).1).Keys).length ((((diceR (R_law15_flat) 0 0 (SkinT.mk ⟨#[]⟩ 0 0 100 (-1) 0) ([] : List TexT)).1).Keys).flatMap eKey)) rfl rfl ty_35 rfl ?_)
 refine AOps.yes rfl rfl rfl rfl rfl rfl rfl (decide_eq_true (al_v)) (AOp.len (m := (((diceR (R_law15_flat) 0 0 (SkinT.mk ⟨#[]⟩ 0 0 100 (-1) 0) ([] : List TexT)).1).Keys).length) rfl rfl (.inr (.inl ⟨_, rfl⟩)) u_35 ?_)
 refine AOps.yes rfl rfl rfl rfl rfl rfl rfl (decide_eq_true (al_v)) (AOp.bin (.bool (decide ((((((diceR (R_law15_flat) 0 0 (SkinT.mk ⟨#[]⟩ 0 0 100 (-1) 0) ([] : List TexT)).1).Keys).length) : Int) = 4))) rfl rfl rfl ieq ?_)
 refine AOps.cons rfl rfl (AOp.pickT (.bool (decide ((((((diceR (R_law15_flat) 0 0 (SkinT.mk ⟨#[]⟩ 0 0 100 (-1) 0) ([] : List TexT)).1).Keys).length) : Int) = 4))) rfl rfl (decide_eq_true (al_v)) rfl ?_)
 refine AOps.cons rfl rfl (AOp.move (.bool (decide ((((((diceR (R_law15_flat) 0 0 (SkinT.mk ⟨#[]⟩ 0 0 100 (-1) 0) ([] : List TexT)).1).Keys).length) : Int) = 4))) rfl rfl ?_)
 refine AOps.yes rfl rfl rfl rfl rfl rfl rfl (decide_eq_true (al_k)) (AOp.fieldAddrF rfl rfl fl_38_2 ?_)
 refine AOps.yes rfl rfl rfl rfl rfl rfl rfl (decide_eq_true (al_k)) (AOp.loadF (.sl (((diceR (R_law15_flat) 0 0 (SkinT.mk ⟨#[]⟩ 0 0 100 (-1) 0) ([] : List TexT)).1).Tris).length ((((diceR (R_law15_flat) 0 0 (SkinT.mk ⟨#[]⟩ 0 0 100 (-1) 0) ([] : List TexT)).1).Tris).flatMap eI3)) rfl rfl ty_36 rfl ?_)
 refine AOps.yes rfl rfl rfl rfl rfl rfl rfl (decide_eq_true (al_k)) (AOp.len (m := (((diceR (R_law15_flat) 0 0 (SkinT.mk ⟨#[]⟩ 0 0 100 (-1) 0) ([] : List TexT)).1).Tris).length) rfl rfl (.inr (.inl ⟨_, rfl⟩)) u_36 ?_)
 refine AOps.yes rfl rfl rfl rfl rfl rfl rfl (decide_eq_true (al_k)) (AOp.bin (.bool (decide ((((((diceR (R_law15_flat) 0 0 (SkinT.mk ⟨#[]⟩ 0 0 100 (-1) 0) ([] : List TexT)).1).Tris).length) : Int) = 2))) rfl rfl rfl ieq ?_)
 refine AOps.cons rfl rfl (AOp.pickT (.bool (decide ((((((diceR (R_law15_flat) 0 0 (SkinT.mk ⟨#[]⟩ 0 0 100 (-1) 0) ([] : List TexT)).1).Tris).length) : Int) = 2))) rfl rfl (decide_eq_true (al_k)) rfl ?_)
 refine AOps.cons rfl rfl (AOp.move (.bool (decide ((((((diceR (R_law15_flat) 0 0 (SkinT.mk ⟨#[]⟩ 0 0 100 (-1) 0) ([] : List TexT)).1).Tris).length) : Int) = 2))) rfl rfl ?_)
 refine AOps.yes rfl rfl rfl rfl rfl rfl rfl (decide_eq_true (al_t)) (AOp.fieldAddrF rfl rfl fl_43_1 ?_)
 refine AOps.yes rfl rfl rfl rfl rfl rfl rfl (decide_eq_true (al_t)) (AOp.loadF (.agg [.int .i64 ((((R_mesh_Bounds (R_law15_flat) (SkinT.mk ⟨#[]⟩ 0 0 1 0 3)).1).Hi).X), .int .i64 ((((R_mesh_Bounds (R_law15_flat) (SkinT.mk ⟨#[]⟩ 0 0 1 0 3)).1).Hi).Y), .int .i64 ((((R_mesh_Bounds (R_law15_flat) (SkinT.mk ⟨#[]⟩ 0 0 1 0 3)).1).Hi).Z)]) rfl rfl ty_23 rfl ?_)
 refine AOps.yes rfl rfl rfl rfl rfl rfl rfl (decide_eq_true (al_t)) (AOp.build (cells := [.int .i64 14, .int .i64 14, .int .i64 5]) rfl tz_23 pl_23 rfl rfl ?_)
 refine AOps.yes rfl rfl rfl rfl rfl rfl rfl (decide_eq_true (al_t)) (AOp.eqAggD rfl rfl rfl teq23 (kokV (by rw [al_hi]; exact ranV_lit (by omega) (by omega) (by omega))) (kokV (ranV_lit (by omega) (by omega) (by omega))) (eV_iff (((R_mesh_Bounds (R_law15_flat) (SkinT.mk ⟨#[]⟩ 0 0 1 0 3)).1).Hi) (VT.mk 14 14 5)) ?_)
 refine AOps.cons rfl rfl (AOp.pickT (.bool (decide ((((R_mesh_Bounds (R_law15_flat) (SkinT.mk ⟨#[]⟩ 0 0 1 0 3)).1).Hi) = (VT.mk 14 14 5)))) rfl rfl (decide_eq_true (al_t)) rfl ?_)
 refine AOps.cons rfl rfl (AOp.move (.bool (decide ((((R_mesh_Bounds (R_law15_flat) (SkinT.mk ⟨#[]⟩ 0 0 1 0 3)).1).Hi) = (VT.mk 14 14 5)))) rfl rfl ?_)
 refine AOps.yes rfl rfl rfl rfl rfl rfl rfl (decide_eq_true (al_hi)) (AOp.fieldAddrF rfl rfl fl_47_1 ?_)
 refine AOps.yes rfl rfl rfl rfl rfl rfl rfl (decide_eq_true (al_hi)) (AOp.loadF (.agg [.int .i64 ((((R_mesh_Tri ((diceR (R_law15_flat) 0 0 (SkinT.mk ⟨#[]⟩ 0 0 100 (-1) 0) ([] : List TexT)).1) 1).1).B).X), .int .i64 ((((R_mesh_Tri ((diceR (R_law15_flat) 0 0 (SkinT.mk ⟨#[]⟩ 0 0 100 (-1) 0) ([] : List TexT)).1) 1).1).B).Y), .int .i64 ((((R_mesh_Tri ((diceR (R_law15_flat) 0 0 (SkinT.mk ⟨#[]⟩ 0 0 100 (-1) 0) ([] : List TexT)).1) 1).1).B).Z)]) rfl rfl ty_23 rfl ?_)
 refine AOps.yes rfl rfl rfl rfl rfl rfl rfl (decide_eq_true (al_hi)) (AOp.build (cells := [.int .i64 9, .int .i64 9, .int .i64 0]) rfl tz_23 pl_23 rfl rfl ?_)
 refine AOps.yes rfl rfl rfl rfl rfl rfl rfl (decide_eq_true (al_hi)) (AOp.eqAggD rfl rfl rfl teq23 (kokV (by rw [al_tb]; exact ranV_lit (by omega) (by omega) (by omega))) (kokV (ranV_lit (by omega) (by omega) (by omega))) (eV_iff (((R_mesh_Tri ((diceR (R_law15_flat) 0 0 (SkinT.mk ⟨#[]⟩ 0 0 100 (-1) 0) ([] : List TexT)).1) 1).1).B) (VT.mk 9 9 0)) ?_)
 refine AOps.cons rfl rfl (AOp.pickT (.bool (decide ((((R_mesh_Tri ((diceR (R_law15_flat) 0 0 (SkinT.mk ⟨#[]⟩ 0 0 100 (-1) 0) ([] : List TexT)).1) 1).1).B) = (VT.mk 9 9 0)))) rfl rfl (decide_eq_true (al_hi)) rfl ?_)
 refine AOps.cons rfl rfl (AOp.assign (.bool (decide ((((R_mesh_Tri ((diceR (R_law15_flat) 0 0 (SkinT.mk ⟨#[]⟩ 0 0 100 (-1) 0) ([] : List TexT)).1) 1).1).B) = (VT.mk 9 9 0)))) rfl rfl ?_)
 refine AOps.nil ?_
 change AWP _ _ _ _ _ _
 refine AWP.ret ?_
 refine ⟨_, _, Ghost.refl, .inr rfl, _, Res.one rfl rfl, ?_, m59⟩
 exact (congrArg AV.bool (show (decide ((((R_mesh_Tri ((diceR (R_law15_flat) 0 0 (SkinT.mk ⟨#[]⟩ 0 0 100 (-1) 0) ([] : List TexT)).1) 1).1).B) = (VT.mk 9 9 0)) : Bool) = true from by first | rfl | omega | simp_all))
theorem c_MeshSmooth (p : PatchT) (unit : Int) (hun : unit ≤ 9223372036854775807) : PC Tryd.prog 4 [.agg (p.aP.flatMap eV ++ (p.aCorners.map eI ++ (p.aNormals.flatMap eV ++ [.int .i64 p.Skin]))), .int .i64 unit] (.bool true) := by
 intro H0
 refine ACalls.of_body' (n := 77) rfl rfl rfl rfl ?_
 have m0 := Mono.refl H0
 refine AWP.seq ?_
 refine AWP.region (l := [0, 1]) rfl ?_
 refine AOps.cons rfl rfl (AOp.box (.agg (p.aP.flatMap eV ++ (p.aCorners.map eI ++ (p.aNormals.flatMap eV ++ [.int .i64 p.Skin])))) rfl rfl rfl ?_)
 intro i1 H2 n3 h4 k5
 have z6 := Mono.free m0 n3
 have m7 := Mono.new m0 n3 k5
 refine AOps.cons rfl rfl (AOp.assign (.bool false) rfl rfl ?_)
 refine AOps.nil ?_
 change AWP _ _ _ _ _ _
 refine AWP.seq ?_
 refine AWP.seq ?_
 refine AWP.frzP 2 h4 z6 rfl m7 fun H8 m9 k10 => ?_
 refine AWP.region (l := [0, 1]) rfl ?_
 refine AOps.cons rfl rfl (AOp.pcall («as» := []) rfl rfl (rfl) tf_9 (c_alive) ?_)
 intro H11 m12
 have m13 := m9.trans m12
 refine AOps.cons rfl rfl (AOp.not rfl rfl ?_)
 refine AOps.nil ?_
 change AWP _ _ _ _ _ _
 refine AWP.condF rfl rfl ?_
 refine AWP.skip ?_
 change AWP _ _ _ _ _ _
 refine AWP.seq ?_
 refine AWP.seq ?_
 refine AWP.region (l := [0, 1]) rfl ?_
 refine AOps.cons rfl rfl (AOp.move (.int .i64 unit) rfl rfl ?_)
 refine AOps.cons rfl rfl (AOp.bin (.bool (decide (unit < 2))) rfl rfl rfl rfl ?_)
 refine AOps.nil ?_
 change AWP _ _ _ _ _ _
 by_cases b14 : unit < 2
 ·
  refine AWP.condT rfl (decide_eq_true b14) ?_
  refine AWP.seq ?_
  refine AWP.region (l := [0]) rfl ?_
  refine AOps.cons rfl rfl (AOp.assign (.bool true) rfl rfl ?_)
  refine AOps.nil ?_
  change AWP _ _ _ _ _ _
  refine AWP.ret ?_
  refine ⟨_, _, Ghost.refl, .inr rfl, _, Res.one rfl rfl, ?_, m13⟩
  exact rfl
 ·
  refine AWP.condF rfl (decide_eq_false b14) ?_
  refine AWP.skip ?_
  change AWP _ _ _ _ _ _
  refine AWP.seq ?_
  refine AWP.region (l := [0, 1, 2, 3, 4, 5, 6, 7, 8, 9]) rfl ?_
  refine AOps.cons rfl rfl (AOp.loadF (.agg (p.aP.flatMap eV ++ (p.aCorners.map eI ++ (p.aNormals.flatMap eV ++ [.int .i64 p.Skin])))) rfl rfl ty_28 (ld_all (len_app (m := 48) (n := 17) (k := 65) (lenM eV_len p.lP rfl) (len_app (m := 4) (n := 13) (k := 17) (len1 p.lCorners) (len_app (m := 12) (n := 1) (k := 13) (lenM eV_len p.lNormals rfl) rfl rfl) rfl) rfl)) ?_)
  refine AOps.cons rfl rfl (AOp.move (.int .i64 unit) rfl rfl ?_)
  refine AOps.cons rfl rfl (AOp.build (cells := [.str ⟨#[]⟩, .int .i64 0, .int .i64 0, .int .i64 unit, .int .i64 (-1), .int .i64 9]) rfl tz_30 pl_30 rfl rfl ?_)
  refine AOps.cons rfl rfl (AOp.pcall («as» := [.agg (p.aP.flatMap eV ++ (p.aCorners.map eI ++ (p.aNormals.flatMap eV ++ [.int .i64 p.Skin]))), .int .i64 0, .int .i64 0, .agg [.str ⟨#[]⟩, .int .i64 0, .int .i64 0, .int .i64 unit, .int .i64 (-1), .int .i64 9], .snil]) rfl rfl (rfl) tf_11 (c_mesh_Dice0 p 0 0 (SkinT.mk ⟨#[]⟩ 0 0 unit (-1) 9)) ?_)
  intro H15 m16
  have m17 := m13.trans m16
  refine AOps.cons rfl rfl (AOp.move (.tup [.agg [.sl (((diceR p 0 0 (SkinT.mk ⟨#[]⟩ 0 0 unit (-1) 9) ([] : List TexT)).1).Verts).length ((((diceR p 0 0 (SkinT.mk ⟨#[]⟩ 0 0 unit (-1) 9) ([] : List TexT)).1).Verts).flatMap eV), .sl (((diceR p 0 0 (SkinT.mk ⟨#[]⟩ 0 0 unit (-1) 9) ([] : List TexT)).1).Keys).length ((((diceR p 0 0 (SkinT.mk ⟨#[]⟩ 0 0 unit (-1) 9) ([] : List TexT)).1).Keys).flatMap eKey), .sl (((diceR p 0 0 (SkinT.mk ⟨#[]⟩ 0 0 unit (-1) 9) ([] : List TexT)).1).Tris).length ((((diceR p 0 0 (SkinT.mk ⟨#[]⟩ 0 0 unit (-1) 9) ([] : List TexT)).1).Tris).flatMap eI3)], .int .i64 ((diceR p 0 0 (SkinT.mk ⟨#[]⟩ 0 0 unit (-1) 9) ([] : List TexT)).2)]) rfl rfl ?_)
  refine AOps.cons rfl rfl (AOp.extract (.agg [.sl (((diceR p 0 0 (SkinT.mk ⟨#[]⟩ 0 0 unit (-1) 9) ([] : List TexT)).1).Verts).length ((((diceR p 0 0 (SkinT.mk ⟨#[]⟩ 0 0 unit (-1) 9) ([] : List TexT)).1).Verts).flatMap eV), .sl (((diceR p 0 0 (SkinT.mk ⟨#[]⟩ 0 0 unit (-1) 9) ([] : List TexT)).1).Keys).length ((((diceR p 0 0 (SkinT.mk ⟨#[]⟩ 0 0 unit (-1) 9) ([] : List TexT)).1).Keys).flatMap eKey), .sl (((diceR p 0 0 (SkinT.mk ⟨#[]⟩ 0 0 unit (-1) 9) ([] : List TexT)).1).Tris).length ((((diceR p 0 0 (SkinT.mk ⟨#[]⟩ 0 0 unit (-1) 9) ([] : List TexT)).1).Tris).flatMap eI3)]) rfl rfl rfl ?_)
  refine AOps.cons rfl rfl (AOp.extract (.int .i64 ((diceR p 0 0 (SkinT.mk ⟨#[]⟩ 0 0 unit (-1) 9) ([] : List TexT)).2)) rfl rfl rfl ?_)
  refine AOps.cons rfl rfl (AOp.alloc rfl tz_38 ?_)
  intro i18 H19 n20 h21 k22
  have z23 := Mono.free m17 n20
  have m24 := Mono.new m17 n20 k22
  refine AOps.cons rfl rfl (AOp.store' (cells' := [.sl (((diceR p 0 0 (SkinT.mk ⟨#[]⟩ 0 0 unit (-1) 9) ([] : List TexT)).1).Verts).length ((((diceR p 0 0 (SkinT.mk ⟨#[]⟩ 0 0 unit (-1) 9) ([] : List TexT)).1).Verts).flatMap eV), .sl (((diceR p 0 0 (SkinT.mk ⟨#[]⟩ 0 0 unit (-1) 9) ([] : List TexT)).1).Keys).length ((((diceR p 0 0 (SkinT.mk ⟨#[]⟩ 0 0 unit (-1) 9) ([] : List TexT)).1).Keys).flatMap eKey), .sl (((diceR p 0 0 (SkinT.mk ⟨#[]⟩ 0 0 unit (-1) 9) ([] : List TexT)).1).Tris).length ((((diceR p 0 0 (SkinT.mk ⟨#[]⟩ 0 0 unit (-1) 9) ([] : List TexT)).1).Tris).flatMap eI3)]) (.agg [.sl (((diceR p 0 0 (SkinT.mk ⟨#[]⟩ 0 0 unit (-1) 9) ([] : List TexT)).1).Verts).length ((((diceR p 0 0 (SkinT.mk ⟨#[]⟩ 0 0 unit (-1) 9) ([] : List TexT)).1).Verts).flatMap eV), .sl (((diceR p 0 0 (SkinT.mk ⟨#[]⟩ 0 0 unit (-1) 9) ([] : List TexT)).1).Keys).length ((((diceR p 0 0 (SkinT.mk ⟨#[]⟩ 0 0 unit (-1) 9) ([] : List TexT)).1).Keys).flatMap eKey), .sl (((diceR p 0 0 (SkinT.mk ⟨#[]⟩ 0 0 unit (-1) 9) ([] : List TexT)).1).Tris).length ((((diceR p 0 0 (SkinT.mk ⟨#[]⟩ 0 0 unit (-1) 9) ([] : List TexT)).1).Tris).flatMap eI3)]) rfl rfl ts_38 h21 rfl rfl rfl rfl ?_)
  intro H25 h26 k27
  have m29 := Mono.set m24 z23 k27
  refine AOps.cons rfl rfl (AOp.assign (.int .i64 ((diceR p 0 0 (SkinT.mk ⟨#[]⟩ 0 0 unit (-1) 9) ([] : List TexT)).2)) rfl rfl ?_)
  refine AOps.nil ?_
  change AWP _ _ _ _ _ _
  refine AWP.seq ?_
  refine AWP.frzP 5 h26 z23 rfl m29 fun H30 m31 k32 => ?_
  refine AWP.region (l := [0, 1, 2, 3, 4, 5, 6, 7, 8, 9, 10]) rfl ?_
  refine AOps.cons rfl rfl (AOp.loadF (.agg (p.aP.flatMap eV ++ (p.aCorners.map eI ++ (p.aNormals.flatMap eV ++ [.int .i64 p.Skin])))) rfl rfl ty_28 (ld_all (len_app (m := 48) (n := 17) (k := 65) (lenM eV_len p.lP rfl) (len_app (m := 4) (n := 13) (k := 17) (len1 p.lCorners) (len_app (m := 12) (n := 1) (k := 13) (lenM eV_len p.lNormals rfl) rfl rfl) rfl) rfl)) ?_)
  refine AOps.cons rfl rfl (AOp.move (.int .i64 unit) rfl rfl ?_)
  refine AOps.cons rfl rfl (AOp.quoP rfl rfl rfl (by omega) ?_)
  refine AOps.cons rfl rfl (AOp.build (cells := [.str ⟨#[]⟩, .int .i64 0, .int .i64 0, .int .i64 (unit / 2), .int .i64 (-1), .int .i64 0]) rfl tz_30 pl_30 rfl rfl ?_)
  refine AOps.cons rfl rfl (AOp.pcall («as» := [.agg (p.aP.flatMap eV ++ (p.aCorners.map eI ++ (p.aNormals.flatMap eV ++ [.int .i64 p.Skin]))), .int .i64 0, .int .i64 0, .agg [.str ⟨#[]⟩, .int .i64 0, .int .i64 0, .int .i64 (unit / 2), .int .i64 (-1), .int .i64 0], .snil]) rfl rfl (rfl) tf_11 (c_mesh_Dice0 p 0 0 (SkinT.mk ⟨#[]⟩ 0 0 (unit / 2) (-1) 0)) ?_)
  intro H33 m34
  have m35 := m31.trans m34
  refine AOps.cons rfl rfl (AOp.move (.tup [.agg [.sl (((diceR p 0 0 (SkinT.mk ⟨#[]⟩ 0 0 (unit / 2) (-1) 0) ([] : List TexT)).1).Verts).length ((((diceR p 0 0 (SkinT.mk ⟨#[]⟩ 0 0 (unit / 2) (-1) 0) ([] : List TexT)).1).Verts).flatMap eV), .sl (((diceR p 0 0 (SkinT.mk ⟨#[]⟩ 0 0 (unit / 2) (-1) 0) ([] : List TexT)).1).Keys).length ((((diceR p 0 0 (SkinT.mk ⟨#[]⟩ 0 0 (unit / 2) (-1) 0) ([] : List TexT)).1).Keys).flatMap eKey), .sl (((diceR p 0 0 (SkinT.mk ⟨#[]⟩ 0 0 (unit / 2) (-1) 0) ([] : List TexT)).1).Tris).length ((((diceR p 0 0 (SkinT.mk ⟨#[]⟩ 0 0 (unit / 2) (-1) 0) ([] : List TexT)).1).Tris).flatMap eI3)], .int .i64 ((diceR p 0 0 (SkinT.mk ⟨#[]⟩ 0 0 (unit / 2) (-1) 0) ([] : List TexT)).2)]) rfl rfl ?_)
  refine AOps.cons rfl rfl (AOp.extract (.agg [.sl (((diceR p 0 0 (SkinT.mk ⟨#[]⟩ 0 0 (unit / 2) (-1) 0) ([] : List TexT)).1).Verts).length ((((diceR p 0 0 (SkinT.mk ⟨#[]⟩ 0 0 (unit / 2) (-1) 0) ([] : List TexT)).1).Verts).flatMap eV), .sl (((diceR p 0 0 (SkinT.mk ⟨#[]⟩ 0 0 (unit / 2) (-1) 0) ([] : List TexT)).1).Keys).length ((((diceR p 0 0 (SkinT.mk ⟨#[]⟩ 0 0 (unit / 2) (-1) 0) ([] : List TexT)).1).Keys).flatMap eKey), .sl (((diceR p 0 0 (SkinT.mk ⟨#[]⟩ 0 0 (unit / 2) (-1) 0) ([] : List TexT)).1).Tris).length ((((diceR p 0 0 (SkinT.mk ⟨#[]⟩ 0 0 (unit / 2) (-1) 0) ([] : List TexT)).1).Tris).flatMap eI3)]) rfl rfl rfl ?_)
  refine AOps.cons rfl rfl (AOp.extract (.int .i64 ((diceR p 0 0 (SkinT.mk ⟨#[]⟩ 0 0 (unit / 2) (-1) 0) ([] : List TexT)).2)) rfl rfl rfl ?_)
  refine AOps.cons rfl rfl (AOp.alloc rfl tz_38 ?_)
  intro i36 H37 n38 h39 k40
  have z41 := Mono.free m35 n38
  have m42 := Mono.new m35 n38 k40
  refine AOps.cons rfl rfl (AOp.store' (cells' := [.sl (((diceR p 0 0 (SkinT.mk ⟨#[]⟩ 0 0 (unit / 2) (-1) 0) ([] : List TexT)).1).Verts).length ((((diceR p 0 0 (SkinT.mk ⟨#[]⟩ 0 0 (unit / 2) (-1) 0) ([] : List TexT)).1).Verts).flatMap eV), .sl (((diceR p 0 0 (SkinT.mk ⟨#[]⟩ 0 0 (unit / 2) (-1) 0) ([] : List TexT)).1).Keys).length ((((diceR p 0 0 (SkinT.mk ⟨#[]⟩ 0 0 (unit / 2) (-1) 0) ([] : List TexT)).1).Keys).flatMap eKey), .sl (((diceR p 0 0 (SkinT.mk ⟨#[]⟩ 0 0 (unit / 2) (-1) 0) ([] : List TexT)).1).Tris).length ((((diceR p 0 0 (SkinT.mk ⟨#[]⟩ 0 0 (unit / 2) (-1) 0) ([] : List TexT)).1).Tris).flatMap eI3)]) (.agg [.sl (((diceR p 0 0 (SkinT.mk ⟨#[]⟩ 0 0 (unit / 2) (-1) 0) ([] : List TexT)).1).Verts).length ((((diceR p 0 0 (SkinT.mk ⟨#[]⟩ 0 0 (unit / 2) (-1) 0) ([] : List TexT)).1).Verts).flatMap eV), .sl (((diceR p 0 0 (SkinT.mk ⟨#[]⟩ 0 0 (unit / 2) (-1) 0) ([] : List TexT)).1).Keys).length ((((diceR p 0 0 (SkinT.mk ⟨#[]⟩ 0 0 (unit / 2) (-1) 0) ([] : List TexT)).1).Keys).flatMap eKey), .sl (((diceR p 0 0 (SkinT.mk ⟨#[]⟩ 0 0 (unit / 2) (-1) 0) ([] : List TexT)).1).Tris).length ((((diceR p 0 0 (SkinT.mk ⟨#[]⟩ 0 0 (unit / 2) (-1) 0) ([] : List TexT)).1).Tris).flatMap eI3)]) rfl rfl ts_38 h39 rfl rfl rfl rfl ?_)
  intro H43 h44 k45
  have m47 := Mono.set m42 z41 k45
  refine AOps.cons rfl rfl (AOp.assign (.int .i64 ((diceR p 0 0 (SkinT.mk ⟨#[]⟩ 0 0 (unit / 2) (-1) 0) ([] : List TexT)).2)) rfl rfl ?_)
  refine AOps.nil ?_
  change AWP _ _ _ _ _ _
  refine AWP.seq ?_
  refine AWP.seq ?_
  refine AWP.frzP 7 h44 z41 rfl m47 fun H48 m49 k50 => ?_
  have hsm := smooth_law (p := p) (unit := unit) (n := ⟨#[]⟩) (n' := ⟨#[]⟩) (a := 0) (b := 0) (a' := 0) (b' := 0) (h := 9) (h' := 0) (texs := []) (by omega) (by omega) (by omega)
  refine AWP.region (l := [0, 1]) rfl ?_
  refine AOps.cons rfl rfl (AOp.move (.int .i64 ((diceR p 0 0 (SkinT.mk ⟨#[]⟩ 0 0 unit (-1) 9) ([] : List TexT)).2)) rfl rfl ?_)
  refine AOps.cons rfl rfl (AOp.bin (.bool (!decide ((diceR p 0 0 (SkinT.mk ⟨#[]⟩ 0 0 unit (-1) 9) ([] : List TexT)).2 = 0))) rfl rfl rfl ine ?_)
  refine AOps.nil ?_
  change AWP _ _ _ _ _ _
  by_cases b51 : (diceR p 0 0 (SkinT.mk ⟨#[]⟩ 0 0 unit (-1) 9) ([] : List TexT)).2 = 0
  ·
   refine AWP.condF rfl (nb (decide_eq_true b51)) ?_
   refine AWP.skip ?_
   change AWP _ _ _ _ _ _
   refine AWP.seq ?_
   have ha0 := b51
   have hb0 := hsm.1.trans ha0
   have htr := hsm.2 ha0
   obtain ⟨hfa, _⟩ := dice_ok0 ha0
   have hla := dice_len p 0 0 (SkinT.mk ⟨#[]⟩ 0 0 unit (-1) 9) ([] : List TexT)
   have hlb := dice_len p 0 0 (SkinT.mk ⟨#[]⟩ 0 0 (unit / 2) (-1) 0) ([] : List TexT)
   refine AWP.region (l := [0, 1, 2]) rfl ?_
   refine AOps.cons rfl rfl (AOp.build (cells := [.int .i64 0, .int .i64 3, .int .i64 15, .int .i64 12]) rfl tz_25 pl_25 rfl rfl ?_)
   refine AOps.cons rfl rfl (AOp.alloc rfl tz_25 ?_)
   intro i52 H53 n54 h55 k56
   have z57 := Mono.free m49 n54
   have m58 := Mono.new m49 n54 k56
   refine AOps.cons rfl rfl (AOp.store' (cells' := [.int .i64 0, .int .i64 3, .int .i64 15, .int .i64 12]) (.agg [.int .i64 0, .int .i64 3, .int .i64 15, .int .i64 12]) rfl rfl ts_25 h55 rfl rfl rfl rfl ?_)
   intro H59 h60 k61
   have m63 := Mono.set m58 z57 k61
   refine AOps.nil ?_
   change AWP _ _ _ _ _ _
   refine AWP.seq ?_
   refine AWP.seq ?_
   refine AWP.frzP 9 h60 z57 rfl m63 fun H64 m65 k66 => ?_
   refine AWP.region (l := [0]) rfl ?_
   refine AOps.cons rfl rfl (AOp.assign (.int .i64 0) rfl rfl ?_)
   refine AOps.nil ?_
   change AWP _ _ _ _ _ _
   refine AWP.block ?_
   refine AWP.loop (fun q67 fq Hq => ∃ (i : Int), q67 = ((4 : Int) - i).toNat ∧ fq 10 = .int .i64 i ∧ fq 2 = .fptr ((p.aP.flatMap eV) ++ ((p.aCorners.map eI) ++ ((p.aNormals.flatMap eV) ++ ([.int .i64 p.Skin] : List AV)))) 0 ∧ fq 5 = .fptr [.sl (((diceR p 0 0 (SkinT.mk ⟨#[]⟩ 0 0 unit (-1) 9) ([] : List TexT)).1).Verts).length ((((diceR p 0 0 (SkinT.mk ⟨#[]⟩ 0 0 unit (-1) 9) ([] : List TexT)).1).Verts).flatMap eV), .sl (((diceR p 0 0 (SkinT.mk ⟨#[]⟩ 0 0 unit (-1) 9) ([] : List TexT)).1).Keys).length ((((diceR p 0 0 (SkinT.mk ⟨#[]⟩ 0 0 unit (-1) 9) ([] : List TexT)).1).Keys).flatMap eKey), .sl (((diceR p 0 0 (SkinT.mk ⟨#[]⟩ 0 0 unit (-1) 9) ([] : List TexT)).1).Tris).length ((((diceR p 0 0 (SkinT.mk ⟨#[]⟩ 0 0 unit (-1) 9) ([] : List TexT)).1).Tris).flatMap eI3)] 0 ∧ fq 7 = .fptr [.sl (((diceR p 0 0 (SkinT.mk ⟨#[]⟩ 0 0 (unit / 2) (-1) 0) ([] : List TexT)).1).Verts).length ((((diceR p 0 0 (SkinT.mk ⟨#[]⟩ 0 0 (unit / 2) (-1) 0) ([] : List TexT)).1).Verts).flatMap eV), .sl (((diceR p 0 0 (SkinT.mk ⟨#[]⟩ 0 0 (unit / 2) (-1) 0) ([] : List TexT)).1).Keys).length ((((diceR p 0 0 (SkinT.mk ⟨#[]⟩ 0 0 (unit / 2) (-1) 0) ([] : List TexT)).1).Keys).flatMap eKey), .sl (((diceR p 0 0 (SkinT.mk ⟨#[]⟩ 0 0 (unit / 2) (-1) 0) ([] : List TexT)).1).Tris).length ((((diceR p 0 0 (SkinT.mk ⟨#[]⟩ 0 0 (unit / 2) (-1) 0) ([] : List TexT)).1).Tris).flatMap eI3)] 0 ∧ fq 8 = .int .i64 ((diceR p 0 0 (SkinT.mk ⟨#[]⟩ 0 0 (unit / 2) (-1) 0) ([] : List TexT)).2) ∧ fq 9 = .fptr [.int .i64 0, .int .i64 3, .int .i64 15, .int .i64 12] 0 ∧ Mono H0 Hq ∧ (0 ≤ i) ∧ (i ≤ 4)) (k := ((4 : Int) - 0).toNat) ?_ ?_
   ·
    exact ⟨0, rfl, rfl, rfl, rfl, rfl, rfl, rfl, m65, by omega, by omega⟩
   ·
    rintro _ f69 H68 ⟨i, rfl, s70, s71, s72, s73, s74, s75, m76, hi0, hi1⟩
    refine AWP.seq ?_
    refine AWP.seq ?_
    refine AWP.region (l := [0, 1]) rfl ?_
    refine AOps.cons rfl rfl (AOp.move (.int .i64 i) rfl s70 ?_)
    refine AOps.cons rfl rfl (AOp.bin (.bool (decide (i < 4))) rfl rfl rfl rfl ?_)
    refine AOps.nil ?_
    change AWP _ _ _ _ _ _
    by_cases b77 : i < 4
    ·
     refine AWP.condT rfl (decide_eq_true b77) ?_
     refine AWP.skip ?_
     change AWP _ _ _ _ _ _
     refine AWP.seq ?_
     refine AWP.block ?_
     refine AWP.seq ?_
     have hv1 := cor_vert rfl ha0 hi0 (by omega)
     have hv2 := cor_vert rfl hb0 hi0 (by omega)
     have hcr := crn_rng hi0 (by omega)
     have hpr := ranV_of ((fine_pts hfa).2.2.2.1 _ hcr.1 hcr.2) (by decide)
     refine AWP.region_quiet mixed (by kernel_rfl) 26 [] rfl (by kernel_rfl) (Mono H68) (Mono.refl _) ?_
     refine QE.op rfl rfl (.inl ⟨rfl, fun f' H' hf hM => AOp.fieldAddrF rfl ((hf 5 rfl).trans s72) fl_38_0 ⟨rfl, hM⟩⟩) ?_
     refine QE.op rfl rfl (.inl ⟨rfl, fun f' H' hf hM => AOp.loadF (.sl (((diceR p 0 0 (SkinT.mk ⟨#[]⟩ 0 0 unit (-1) 9) ([] : List TexT)).1).Verts).length ((((diceR p 0 0 (SkinT.mk ⟨#[]⟩ 0 0 unit (-1) 9) ([] : List TexT)).1).Verts).flatMap eV)) rfl ((hf 40 rfl).trans rfl) ty_34 rfl ⟨rfl, hM⟩⟩) ?_
     refine QE.op rfl rfl (.inl ⟨rfl, fun f' H' hf hM => AOp.move (.int .i64 i) rfl ((hf 10 rfl).trans s70) ⟨rfl, hM⟩⟩) ?_
     refine QE.op rfl rfl (.inl ⟨rfl, fun f' H' hf hM => AOp.indexAddrS rfl ((hf 41 rfl).trans rfl) ((hf 42 rfl).trans rfl) sl_34 (by omega) (by omega) ⟨rfl, hM⟩⟩) ?_
     refine QE.op rfl rfl (.inl ⟨rfl, fun f' H' hf hM => AOp.loadF (.agg [.int .i64 ((at_ (((diceR p 0 0 (SkinT.mk ⟨#[]⟩ 0 0 unit (-1) 9) ([] : List TexT)).1).Verts) i).X), .int .i64 ((at_ (((diceR p 0 0 (SkinT.mk ⟨#[]⟩ 0 0 unit (-1) 9) ([] : List TexT)).1).Verts) i).Y), .int .i64 ((at_ (((diceR p 0 0 (SkinT.mk ⟨#[]⟩ 0 0 unit (-1) 9) ([] : List TexT)).1).Verts) i).Z)]) rfl ((hf 43 rfl).trans rfl) ty_23 (ldM eV_len (by omega) (by omega)) ⟨rfl, hM⟩⟩) ?_
     refine QE.op rfl rfl (.inl ⟨rfl, fun f' H' hf hM => AOp.move (.int .i64 i) rfl ((hf 10 rfl).trans s70) ⟨rfl, hM⟩⟩) ?_
     refine QE.op rfl rfl (.inl ⟨rfl, fun f' H' hf hM => AOp.indexAddrFA rfl ((hf 9 rfl).trans s75) ((hf 45 rfl).trans rfl) ar_25 (by omega) (by omega) ⟨rfl, hM⟩⟩) ?_
     refine QE.op rfl rfl (.inl ⟨rfl, fun f' H' hf hM => AOp.loadF (.int .i64 (at_ ([0, 3, 15, 12] : List Int) i)) rfl ((hf 46 rfl).trans rfl) ty_3 (ld_off (o := 0 + i.toNat * 1) (by omega) (ld1 (i := i) (xs := ([0, 3, 15, 12] : List Int)) (by omega) (by first | (have := (rfl : ([0, 3, 15, 12] : List Int).length = 4); omega) | (simp; omega)))) ⟨rfl, hM⟩⟩) ?_
     refine QE.op rfl rfl (.inl ⟨rfl, fun f' H' hf hM => AOp.fieldAddrF rfl ((hf 2 rfl).trans s71) fl_28_0 ⟨rfl, hM⟩⟩) ?_
     refine QE.op rfl rfl (.inl ⟨rfl, fun f' H' hf hM => AOp.indexAddrFA rfl ((hf 48 rfl).trans rfl) ((hf 47 rfl).trans rfl) ar_24 (by omega) (by omega) ⟨rfl, hM⟩⟩) ?_
     refine QE.op rfl rfl (.inl ⟨rfl, fun f' H' hf hM => AOp.loadF (.agg [.int .i64 ((at_ p.aP (at_ ([0, 3, 15, 12] : List Int) i)).X), .int .i64 ((at_ p.aP (at_ ([0, 3, 15, 12] : List Int) i)).Y), .int .i64 ((at_ p.aP (at_ ([0, 3, 15, 12] : List Int) i)).Z)]) rfl ((hf 49 rfl).trans rfl) ty_23 (ld_off (o := 0 + (at_ ([0, 3, 15, 12] : List Int) i).toNat * 3) (by omega) (ld_fst (fun h => by first | rfl | cases h) (ldM eV_len (i := at_ ([0, 3, 15, 12] : List Int) i) (by omega) (by first | (have := p.lP; omega) | (simp; omega))))) ⟨rfl, hM⟩⟩) ?_
     refine QE.op rfl rfl (.inl ⟨rfl, fun f' H' hf hM => AOp.neAggD rfl ((hf 44 rfl).trans rfl) ((hf 50 rfl).trans rfl) teq23 (kokV (by rw [hv1.1]; exact hpr)) (kokV hpr) (eV_iff (at_ (((diceR p 0 0 (SkinT.mk ⟨#[]⟩ 0 0 unit (-1) 9) ([] : List TexT)).1).Verts) i) (at_ p.aP (at_ ([0, 3, 15, 12] : List Int) i))) ⟨rfl, hM⟩⟩) ?_
     refine QE.op rfl rfl (.inl ⟨rfl, fun f' H' hf hM => AOp.move (.bool (!decide ((at_ (((diceR p 0 0 (SkinT.mk ⟨#[]⟩ 0 0 unit (-1) 9) ([] : List TexT)).1).Verts) i) = (at_ p.aP (at_ ([0, 3, 15, 12] : List Int) i))))) rfl ((hf 51 rfl).trans rfl) ⟨rfl, hM⟩⟩) ?_
     refine QE.op rfl rfl (QOp.yes rfl rfl rfl rfl (nb (decide_eq_true (hv1.1))) fun f' H' hf hM => AOp.fieldAddrF rfl ((hf 7 rfl).trans s73) fl_38_0 ⟨rfl, hM⟩) ?_
     refine QE.op rfl rfl (QOp.yes rfl rfl rfl rfl (nb (decide_eq_true (hv1.1))) fun f' H' hf hM => AOp.loadF (.sl (((diceR p 0 0 (SkinT.mk ⟨#[]⟩ 0 0 (unit / 2) (-1) 0) ([] : List TexT)).1).Verts).length ((((diceR p 0 0 (SkinT.mk ⟨#[]⟩ 0 0 (unit / 2) (-1) 0) ([] : List TexT)).1).Verts).flatMap eV)) rfl ((hf 53 rfl).trans rfl) ty_34 rfl ⟨rfl, hM⟩) ?_
     refine QE.op rfl rfl (QOp.yes rfl rfl rfl rfl (nb (decide_eq_true (hv1.1))) fun f' H' hf hM => AOp.move (.int .i64 i) rfl ((hf 10 rfl).trans s70) ⟨rfl, hM⟩) ?_
     refine QE.op rfl rfl (QOp.yes rfl rfl rfl rfl (nb (decide_eq_true (hv1.1))) fun f' H' hf hM => AOp.indexAddrS rfl ((hf 54 rfl).trans rfl) ((hf 55 rfl).trans rfl) sl_34 (by omega) (by omega) ⟨rfl, hM⟩) ?_
     refine QE.op rfl rfl (QOp.yes rfl rfl rfl rfl (nb (decide_eq_true (hv1.1))) fun f' H' hf hM => AOp.loadF (.agg [.int .i64 ((at_ (((diceR p 0 0 (SkinT.mk ⟨#[]⟩ 0 0 (unit / 2) (-1) 0) ([] : List TexT)).1).Verts) i).X), .int .i64 ((at_ (((diceR p 0 0 (SkinT.mk ⟨#[]⟩ 0 0 (unit / 2) (-1) 0) ([] : List TexT)).1).Verts) i).Y), .int .i64 ((at_ (((diceR p 0 0 (SkinT.mk ⟨#[]⟩ 0 0 (unit / 2) (-1) 0) ([] : List TexT)).1).Verts) i).Z)]) rfl ((hf 56 rfl).trans rfl) ty_23 (ldM eV_len (by omega) (by omega)) ⟨rfl, hM⟩) ?_
     refine QE.op rfl rfl (QOp.yes rfl rfl rfl rfl (nb (decide_eq_true (hv1.1))) fun f' H' hf hM => AOp.move (.int .i64 i) rfl ((hf 10 rfl).trans s70) ⟨rfl, hM⟩) ?_
     refine QE.op rfl rfl (QOp.yes rfl rfl rfl rfl (nb (decide_eq_true (hv1.1))) fun f' H' hf hM => AOp.indexAddrFA rfl ((hf 9 rfl).trans s75) ((hf 58 rfl).trans rfl) ar_25 (by omega) (by omega) ⟨rfl, hM⟩) ?_
     refine QE.op rfl rfl (QOp.yes rfl rfl rfl rfl (nb (decide_eq_true (hv1.1))) fun f' H' hf hM => AOp.loadF (.int .i64 (at_ ([0, 3, 15, 12] : List Int) i)) rfl ((hf 59 rfl).trans rfl) ty_3 (ld_off (o := 0 + i.toNat * 1) (by omega) (ld1 (i := i) (xs := ([0, 3, 15, 12] : List Int)) (by omega) (by first | (have := (rfl : ([0, 3, 15, 12] : List Int).length = 4); omega) | (simp; omega)))) ⟨rfl, hM⟩) ?_
     refine QE.op rfl rfl (QOp.yes rfl rfl rfl rfl (nb (decide_eq_true (hv1.1))) fun f' H' hf hM => AOp.fieldAddrF rfl ((hf 2 rfl).trans s71) fl_28_0 ⟨rfl, hM⟩) ?_
     refine QE.op rfl rfl (QOp.yes rfl rfl rfl rfl (nb (decide_eq_true (hv1.1))) fun f' H' hf hM => AOp.indexAddrFA rfl ((hf 61 rfl).trans rfl) ((hf 60 rfl).trans rfl) ar_24 (by omega) (by omega) ⟨rfl, hM⟩) ?_
     refine QE.op rfl rfl (QOp.yes rfl rfl rfl rfl (nb (decide_eq_true (hv1.1))) fun f' H' hf hM => AOp.loadF (.agg [.int .i64 ((at_ p.aP (at_ ([0, 3, 15, 12] : List Int) i)).X), .int .i64 ((at_ p.aP (at_ ([0, 3, 15, 12] : List Int) i)).Y), .int .i64 ((at_ p.aP (at_ ([0, 3, 15, 12] : List Int) i)).Z)]) rfl ((hf 62 rfl).trans rfl) ty_23 (ld_off (o := 0 + (at_ ([0, 3, 15, 12] : List Int) i).toNat * 3) (by omega) (ld_fst (fun h => by first | rfl | cases h) (ldM eV_len (i := at_ ([0, 3, 15, 12] : List Int) i) (by omega) (by first | (have := p.lP; omega) | (simp; omega))))) ⟨rfl, hM⟩) ?_
     refine QE.op rfl rfl (QOp.yes rfl rfl rfl rfl (nb (decide_eq_true (hv1.1))) fun f' H' hf hM => AOp.neAggD rfl ((hf 57 rfl).trans rfl) ((hf 63 rfl).trans rfl) teq23 (kokV (by rw [hv2.1]; exact hpr)) (kokV hpr) (eV_iff (at_ (((diceR p 0 0 (SkinT.mk ⟨#[]⟩ 0 0 (unit / 2) (-1) 0) ([] : List TexT)).1).Verts) i) (at_ p.aP (at_ ([0, 3, 15, 12] : List Int) i))) ⟨rfl, hM⟩) ?_
     refine QE.op rfl rfl (.inl ⟨rfl, fun f' H' hf hM => AOp.pickF (.bool (!decide ((at_ (((diceR p 0 0 (SkinT.mk ⟨#[]⟩ 0 0 (unit / 2) (-1) 0) ([] : List TexT)).1).Verts) i) = (at_ p.aP (at_ ([0, 3, 15, 12] : List Int) i))))) rfl ((hf 52 rfl).trans rfl) (nb (decide_eq_true (hv1.1))) ((hf 64 rfl).trans rfl) ⟨rfl, hM⟩⟩) ?_
     refine QE.done fun H78 m79 => ?_
     have m80 := m76.trans m79
     refine AOps.nil ?_
     change AWP _ _ _ _ _ _
     refine AWP.condF rfl (nb (decide_eq_true (hv2.1))) ?_
     refine AWP.skip ?_
     change AWP _ _ _ _ _ _
     refine AWP.region (l := [0, 1, 2]) rfl ?_
     refine AOps.cons rfl rfl (AOp.move (.int .i64 i) rfl s70 ?_)
     refine AOps.cons rfl rfl (AOp.bin (.int .i64 (i + 1)) rfl rfl rfl (iadd (by omega)) ?_)
     refine AOps.cons rfl rfl (AOp.assign (.int .i64 (i + 1)) rfl rfl ?_)
     refine AOps.nil ?_
     exact ⟨_, by omega, i + 1, rfl, rfl, s71, s72, s73, s74, s75, m80, by omega, by omega⟩
    ·
     refine AWP.condF rfl (decide_eq_false b77) ?_
     refine AWP.exit ?_
     change AWP _ _ _ _ _ _
     refine AWP.seq ?_
     refine AWP.region (l := [0, 1, 2, 3, 4, 5, 6, 7, 8, 9, 10, 11]) rfl ?_
     refine AOps.cons rfl rfl (AOp.move (.int .i64 ((diceR p 0 0 (SkinT.mk ⟨#[]⟩ 0 0 (unit / 2) (-1) 0) ([] : List TexT)).2)) rfl s74 ?_)
     refine AOps.cons rfl rfl (AOp.bin (.bool (decide ((diceR p 0 0 (SkinT.mk ⟨#[]⟩ 0 0 (unit / 2) (-1) 0) ([] : List TexT)).2 = 0))) rfl rfl rfl ieq ?_)
     refine AOps.cons rfl rfl (AOp.move (.bool (decide ((diceR p 0 0 (SkinT.mk ⟨#[]⟩ 0 0 (unit / 2) (-1) 0) ([] : List TexT)).2 = 0))) rfl rfl ?_)
     refine AOps.yes rfl rfl rfl rfl rfl rfl rfl (decide_eq_true ((hsm.1.trans ha0))) (AOp.fieldAddrF rfl s73 fl_38_2 ?_)
     refine AOps.yes rfl rfl rfl rfl rfl rfl rfl (decide_eq_true ((hsm.1.trans ha0))) (AOp.loadF (.sl (((diceR p 0 0 (SkinT.mk ⟨#[]⟩ 0 0 (unit / 2) (-1) 0) ([] : List TexT)).1).Tris).length ((((diceR p 0 0 (SkinT.mk ⟨#[]⟩ 0 0 (unit / 2) (-1) 0) ([] : List TexT)).1).Tris).flatMap eI3)) rfl rfl ty_36 rfl ?_)
     refine AOps.yes rfl rfl rfl rfl rfl rfl rfl (decide_eq_true ((hsm.1.trans ha0))) (AOp.len (m := (((diceR p 0 0 (SkinT.mk ⟨#[]⟩ 0 0 (unit / 2) (-1) 0) ([] : List TexT)).1).Tris).length) rfl rfl (.inr (.inl ⟨_, rfl⟩)) u_36 ?_)
     refine AOps.yes rfl rfl rfl rfl rfl rfl rfl (decide_eq_true ((hsm.1.trans ha0))) (AOp.fieldAddrF rfl s72 fl_38_2 ?_)
     refine AOps.yes rfl rfl rfl rfl rfl rfl rfl (decide_eq_true ((hsm.1.trans ha0))) (AOp.loadF (.sl (((diceR p 0 0 (SkinT.mk ⟨#[]⟩ 0 0 unit (-1) 9) ([] : List TexT)).1).Tris).length ((((diceR p 0 0 (SkinT.mk ⟨#[]⟩ 0 0 unit (-1) 9) ([] : List TexT)).1).Tris).flatMap eI3)) rfl rfl ty_36 rfl ?_)
     refine AOps.yes rfl rfl rfl rfl rfl rfl rfl (decide_eq_true ((hsm.1.trans ha0))) (AOp.len (m := (((diceR p 0 0 (SkinT.mk ⟨#[]⟩ 0 0 unit (-1) 9) ([] : List TexT)).1).Tris).length) rfl rfl (.inr (.inl ⟨_, rfl⟩)) u_36 ?_)
     refine AOps.yes rfl rfl rfl rfl rfl rfl rfl (decide_eq_true ((hsm.1.trans ha0))) (AOp.bin (.bool (decide ((((((diceR p 0 0 (SkinT.mk ⟨#[]⟩ 0 0 (unit / 2) (-1) 0) ([] : List TexT)).1).Tris).length) : Int) ≥ (((((diceR p 0 0 (SkinT.mk ⟨#[]⟩ 0 0 unit (-1) 9) ([] : List TexT)).1).Tris).length) : Int)))) rfl rfl rfl rfl ?_)
     refine AOps.cons rfl rfl (AOp.pickT (.bool (decide ((((((diceR p 0 0 (SkinT.mk ⟨#[]⟩ 0 0 (unit / 2) (-1) 0) ([] : List TexT)).1).Tris).length) : Int) ≥ (((((diceR p 0 0 (SkinT.mk ⟨#[]⟩ 0 0 unit (-1) 9) ([] : List TexT)).1).Tris).length) : Int)))) rfl rfl (decide_eq_true ((hsm.1.trans ha0))) rfl ?_)
     refine AOps.cons rfl rfl (AOp.assign (.bool (decide ((((((diceR p 0 0 (SkinT.mk ⟨#[]⟩ 0 0 (unit / 2) (-1) 0) ([] : List TexT)).1).Tris).length) : Int) ≥ (((((diceR p 0 0 (SkinT.mk ⟨#[]⟩ 0 0 unit (-1) 9) ([] : List TexT)).1).Tris).length) : Int)))) rfl rfl ?_)
     refine AOps.nil ?_
     change AWP _ _ _ _ _ _
     refine AWP.ret ?_
     refine ⟨_, _, Ghost.refl, .inr rfl, _, Res.one rfl rfl, ?_, m76⟩
     exact (congrArg AV.bool (show (decide ((((((diceR p 0 0 (SkinT.mk ⟨#[]⟩ 0 0 (unit / 2) (-1) 0) ([] : List TexT)).1).Tris).length) : Int) ≥ (((((diceR p 0 0 (SkinT.mk ⟨#[]⟩ 0 0 unit (-1) 9) ([] : List TexT)).1).Tris).length) : Int)) : Bool) = true from by first | rfl | (exact decide_eq_true htr) | (exact decide_eq_true (by omega))))
  ·
   refine AWP.condT rfl (nb (decide_eq_false b51)) ?_
   refine AWP.seq ?_
   refine AWP.region (l := [0, 1, 2, 3]) rfl ?_
   refine AOps.cons rfl rfl (AOp.move (.int .i64 ((diceR p 0 0 (SkinT.mk ⟨#[]⟩ 0 0 (unit / 2) (-1) 0) ([] : List TexT)).2)) rfl rfl ?_)
   refine AOps.cons rfl rfl (AOp.move (.int .i64 ((diceR p 0 0 (SkinT.mk ⟨#[]⟩ 0 0 unit (-1) 9) ([] : List TexT)).2)) rfl rfl ?_)
   refine AOps.cons rfl rfl (AOp.bin (.bool (decide ((diceR p 0 0 (SkinT.mk ⟨#[]⟩ 0 0 (unit / 2) (-1) 0) ([] : List TexT)).2 = (diceR p 0 0 (SkinT.mk ⟨#[]⟩ 0 0 unit (-1) 9) ([] : List TexT)).2))) rfl rfl rfl ieq ?_)
   refine AOps.cons rfl rfl (AOp.assign (.bool (decide ((diceR p 0 0 (SkinT.mk ⟨#[]⟩ 0 0 (unit / 2) (-1) 0) ([] : List TexT)).2 = (diceR p 0 0 (SkinT.mk ⟨#[]⟩ 0 0 unit (-1) 9) ([] : List TexT)).2))) rfl rfl ?_)
   refine AOps.nil ?_
   change AWP _ _ _ _ _ _
   refine AWP.ret ?_
   refine ⟨_, _, Ghost.refl, .inr rfl, _, Res.one rfl rfl, ?_, m49⟩
   exact (congrArg AV.bool (show (decide ((diceR p 0 0 (SkinT.mk ⟨#[]⟩ 0 0 (unit / 2) (-1) 0) ([] : List TexT)).2 = (diceR p 0 0 (SkinT.mk ⟨#[]⟩ 0 0 unit (-1) 9) ([] : List TexT)).2) : Bool) = true from by first | rfl | (exact decide_eq_true htr) | (exact decide_eq_true (by omega))))
end Go.Proofs.M
namespace Go.Proofs.M
open Go Go.AH Go.ChangeShapes Go.WideShapes Go.ChangeAt Go.RowKit Go.Deep Go.Proofs.YtfgfalidpbbkhaaDoor
set_option maxRecDepth 8000
set_option linter.unusedSimpArgs false
set_option linter.unusedVariables false
/-! ### How much is read -/
/-! ### The arguments -/
section
variable {H : Type} {enc : TypeId × Value → H} {W : World}
theorem c3 : Tryd.prog.cellsOf 3 = 1 := by kernel_rfl
theorem c23 : Tryd.prog.cellsOf 23 = 3 := by kernel_rfl
theorem c24 : Tryd.prog.cellsOf 24 = 48 := by kernel_rfl
theorem c25 : Tryd.prog.cellsOf 25 = 4 := by kernel_rfl
theorem c26 : Tryd.prog.cellsOf 26 = 12 := by kernel_rfl
theorem c28 : Tryd.prog.cellsOf 28 = 65 := by kernel_rfl
theorem opI : Opn enc Tryd.prog W 3 (fun n : Int => [.int .i64 n]) (fun n _ => inR n) := (Opn.int u_3).imp fun n _ h => bounds_i64 h
theorem opV : Opn enc Tryd.prog W 23 eV (fun v _ => ranV v) := fun sp held fuel cs x h => by
  obtain ⟨xs, n, _, rfl, hl, hxl, hf⟩ := DataW.trod_struct Tryd.underlying23 h
  match xs, hxl with
  | [y0, y1, y2], _ =>
    obtain ⟨a, a1, a2⟩ := opI (enc := enc) (W := W) _ _ _ _ _ (hf 0 _ rfl)
    obtain ⟨b, b1, b2⟩ := opI (enc := enc) (W := W) _ _ _ _ _ (hf 1 _ rfl)
    obtain ⟨c, e1, e2⟩ := opI (enc := enc) (W := W) _ _ _ _ _ (hf 2 _ rfl)
    simp only [c3] at a1 b1 e1
    exact ⟨⟨a, b, c⟩, (a1.glue (b1.glue e1 rfl rfl) rfl (n := 3) rfl).whole (by rw [hl, c23]), a2, b2, e2⟩
theorem opInts {t : TypeId} {n : Nat} (ht : Tryd.prog.underlying t = some (.array n 3)) (hc : Tryd.prog.cellsOf t = n) : Opn enc Tryd.prog W t (fun l : List Int => l.map eI) (fun l _ => l.length = n ∧ ∀ x ∈ l, inR x) := fun sp held fuel cs x h => by
  obtain ⟨l, h1, h2, ds, _, h3⟩ := Opn.arr ht c3 (by rw [hc, Nat.mul_one]) opI sp held fuel cs x h
  refine ⟨l, ?_, h2, fun x hx => (h3 x hx).elim fun _ h => h.2⟩
  have e : l.flatMap (fun n : Int => [AV.int .i64 n]) = l.map eI := by rw [List.map_eq_flatMap]; rfl
  show VRs W idM nH (l.map eI) cs
  rw [← e]; exact h1
theorem opVs {t : TypeId} {n : Nat} (ht : Tryd.prog.underlying t = some (.array n 23)) (hc : Tryd.prog.cellsOf t = n * 3) : Opn enc Tryd.prog W t (fun l : List VT => l.flatMap eV) (fun l _ => l.length = n ∧ ∀ x ∈ l, ranV x) := fun sp held fuel cs x h => by
  obtain ⟨l, h1, h2, ds, _, h3⟩ := Opn.arr ht c23 hc opV sp held fuel cs x h
  exact ⟨l, h1, h2, fun x hx => (h3 x hx).elim fun _ h => h.2⟩
theorem opPatch : Opn enc Tryd.prog W 28 ePatch (fun p _ => ∀ c ∈ p.aCorners, inR c) := fun sp held fuel cs x h => by
  obtain ⟨xs, n, _, rfl, hl, hxl, hf⟩ := DataW.trod_struct Tryd.underlying28 h
  match xs, hxl with
  | [y0, y1, y2, y3], _ =>
    obtain ⟨a, a1, a2⟩ := opVs (enc := enc) (W := W) (n := 16) u_24 c24 _ _ _ _ _ (hf 0 _ rfl)
    obtain ⟨b, b1, b2⟩ := opInts (enc := enc) (W := W) (n := 4) u_25 c25 _ _ _ _ _ (hf 1 _ rfl)
    obtain ⟨c, e1, e2⟩ := opVs (enc := enc) (W := W) (n := 4) u_26 c26 _ _ _ _ _ (hf 2 _ rfl)
    obtain ⟨d, f1, f2⟩ := opI (enc := enc) (W := W) _ _ _ _ _ (hf 3 _ rfl)
    simp only [c3, c24, c25, c26] at a1 b1 e1 f1
    refine ⟨⟨a, b, c, d⟩, ?_, ?_⟩
    · have e : ePatch ⟨a, b, c, d⟩ = a.flatMap eV ++ (b.map eI ++ (c.flatMap eV ++ [.int .i64 d])) := by
        show (arrL 16 a).flatMap eV ++ ((arrL 4 b).map eI ++ ((arrL 4 c).flatMap eV ++ [.int .i64 d])) = _
        rw [arrL_self a2.1, arrL_self b2.1, arrL_self e2.1]
      rw [e]
      exact (a1.glue (b1.glue (e1.glue f1 rfl rfl) rfl rfl) rfl (n := 65) rfl).whole (by rw [hl, c28])
    · show ∀ c ∈ arrL 4 b, inR c
      rw [arrL_self b2.1]; exact b2.2
/-- A structure that is handed in. -/
theorem arg_agg {r : Reach} {b0 : Nat} {t : TypeId} {fs : Array Field} {v : Value} {d : DataW H} {p : List MemPlace} {α : Type} {e : α → List AV} {Q : α → DataW H → Prop} (ht : Tryd.prog.underlying t = some (.struct fs)) (ho : Opn enc Tryd.prog W t e Q) (hv : Value.okWide Tryd.prog W r b0 t v) {sp : Nat → Bool} {held : Bool} (hd : DataW.Trod enc Tryd.prog W 0 sp held t v d p) :
    ∃ a, VR W idM nH (.agg (e a)) v ∧ Q a d := by
  obtain ⟨cs, rfl, _, _⟩ : ∃ cs, v = .agg cs ∧ cs.size = Tryd.prog.cellsOf t ∧ Row.okWide Tryd.prog W r b0 t cs := by simpa [Value.okWide, ht] using hv
  obtain ⟨fuel, hf⟩ := hd
  obtain ⟨a, h1, h2⟩ := ho _ _ _ _ _ hf
  exact ⟨a, VRs.agg h1, h2⟩
/-! ### The variable that is listed -/
theorem gCor : Tryd.prog.globalNamed "relievo/mesh.corners" = some 0 := by kernel_rfl
theorem gCorT : (Tryd.prog.globals[0]?).map (·.type) = some 25 := by kernel_rfl
theorem globs_of {W : World} (h : laidMetH Tryd.prog [("relievo/mesh.corners", Rows.laid_relievo_mesh_corners)] W) : ∀ g cells, Globs.val g = some cells → VR W idM nH (.fptr cells 0) (.pointer (some ⟨g, 0, none⟩)) := by
  have ht : Lib.TabIs Tryd.prog W "relievo/mesh.corners" .i64 [0, 3, 15, 12] := Lib.tabIs_of_head (rest := []) gCor gCorT u_25 u_3 c3 c25 h
  have hk := glob_tab ht gCor (by decide)
  intro g cells hg
  by_cases h0 : g = 0
  · subst h0
    have : cells = [.int .i64 0, .int .i64 3, .int .i64 15, .int .i64 12] := by
      have : some [AV.int .i64 0, .int .i64 3, .int .i64 15, .int .i64 12] = some cells := hg
      cases this; rfl
    subst this; exact hk
  · have : (none : Option (List AV)) = some cells := by
      have e : Globs.val g = none := by show (if g = 0 then _ else none) = none; rw [if_neg h0]
      rw [← e]; exact hg
    cases this
theorem own : ownKnob Tryd.prog.godebug = none := by kernel_rfl
theorem stays {W W' : World} (hs : World.Since W.heap.size W W') {x : MemPlace} (h : x.block < W.heap.size) : W.sameAt W' x := by
  cases x with
  | cell b o => exact hs.cell (a := ⟨b, o, none⟩) h
  | map b => exact hs.block b h
/-- A world for the witness. -/
noncomputable def laidWorld (os : Os) : World :=
  { World.holding Tryd.prog os ⟨#[], #[], []⟩ with heap := (World.holding Tryd.prog os ⟨#[], #[], []⟩).heap.modify 0 fun
      | .cells _ t frozen => .cells #[.int .i64 0, .int .i64 3, .int .i64 15, .int .i64 12] t frozen
      | o => o }
end
end Go.Proofs.M
