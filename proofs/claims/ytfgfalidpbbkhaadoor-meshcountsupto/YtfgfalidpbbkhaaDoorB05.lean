/- A part of the proof that a law answers true for every input of its row: own work, by an AI agent. -/
import Derived.Test.YtfgfalidpbbkhaaDoorB04
import Derived.Test.YtfgfalidpbbkhaaDoorB01
import Derived.KernelRfl
set_option linter.unusedSimpArgs false
set_option linter.unusedVariables false
namespace Go.Proofs.M
open Go Go.AH
set_option maxRecDepth 4000
set_option linter.unusedSimpArgs false
set_option linter.unusedVariables false
set_option maxHeartbeats 4000000
def R_law15_flat  : PatchT :=
  (PatchT.mk ([(VT.mk 0 0 0), (VT.mk 3 0 0), (VT.mk 6 0 0), (VT.mk 9 0 0), (VT.mk 0 3 0), (VT.mk 3 3 0), (VT.mk 6 3 0), (VT.mk 9 3 0), (VT.mk 0 6 0), (VT.mk 3 6 0), (VT.mk 6 6 0), (VT.mk 9 6 0), (VT.mk 0 9 0), (VT.mk 3 9 0), (VT.mk 6 9 0), (VT.mk 9 9 0)]) ([0, 1, 2, 3]) ([(VT.mk 0 0 0), (VT.mk 0 0 0), (VT.mk 0 0 0), (VT.mk 0 0 0)]) 0)
theorem c_law15_flat : PC Tryd.prog 22 [] (.agg (((R_law15_flat).aP).flatMap eV ++ (((R_law15_flat).aCorners).map eI ++ (((R_law15_flat).aNormals).flatMap eV ++ [.int .i64 ((R_law15_flat).Skin)])))) := by
 intro H0
 refine ACalls.of_body' (n := 20) rfl rfl rfl rfl ?_
 have m0 := Mono.refl H0
 refine AWP.seq ?_
 refine AWP.region (l := [0]) rfl ?_
 refine AOps.cons rfl rfl (AOp.alloc rfl tz_28 ?_)
 intro i1 H2 n3 h4 k5
 have z6 := Mono.free m0 n3
 have m7 := Mono.new m0 n3 k5
 refine AOps.nil ?_
 change AWP _ _ _ _ _ _
 refine AWP.seq ?_
 refine AWP.region (l := [0, 1, 2, 3]) rfl ?_
 refine AOps.cons rfl rfl (AOp.build (cells := [.int .i64 0, .int .i64 1, .int .i64 2, .int .i64 3]) rfl tz_25 pl_25 rfl rfl ?_)
 refine AOps.cons rfl rfl (AOp.build (cells := [.int .i64 0, .int .i64 0, .int .i64 0, .int .i64 0, .int .i64 0, .int .i64 0, .int .i64 0, .int .i64 0, .int .i64 0, .int .i64 0, .int .i64 0, .int .i64 0, .int .i64 0, .int .i64 0, .int .i64 0, .int .i64 0, .int .i64 0, .int .i64 0, .int .i64 0, .int .i64 0, .int .i64 0, .int .i64 0, .int .i64 0, .int .i64 0, .int .i64 0, .int .i64 0, .int .i64 0, .int .i64 0, .int .i64 0, .int .i64 0, .int .i64 0, .int .i64 0, .int .i64 0, .int .i64 0, .int .i64 0, .int .i64 0, .int .i64 0, .int .i64 0, .int .i64 0, .int .i64 0, .int .i64 0, .int .i64 0, .int .i64 0, .int .i64 0, .int .i64 0, .int .i64 0, .int .i64 0, .int .i64 0, .int .i64 0, .int .i64 1, .int .i64 2, .int .i64 3, .int .i64 0, .int .i64 0, .int .i64 0, .int .i64 0, .int .i64 0, .int .i64 0, .int .i64 0, .int .i64 0, .int .i64 0, .int .i64 0, .int .i64 0, .int .i64 0, .int .i64 0]) rfl tz_28 pl_28 rfl rfl ?_)
 refine AOps.cons rfl rfl (AOp.alloc rfl tz_28 ?_)
 intro i8 H9 n10 h11 k12
 have e13 := ne_new h4 n10
 have z14 := Mono.free m7 n10
 have h15 := keep k12 (ne_new h4 n10) h4
 have m16 := Mono.new m7 n10 k12
 refine AOps.cons rfl rfl (AOp.store' (cells' := [.int .i64 0, .int .i64 0, .int .i64 0, .int .i64 0, .int .i64 0, .int .i64 0, .int .i64 0, .int .i64 0, .int .i64 0, .int .i64 0, .int .i64 0, .int .i64 0, .int .i64 0, .int .i64 0, .int .i64 0, .int .i64 0, .int .i64 0, .int .i64 0, .int .i64 0, .int .i64 0, .int .i64 0, .int .i64 0, .int .i64 0, .int .i64 0, .int .i64 0, .int .i64 0, .int .i64 0, .int .i64 0, .int .i64 0, .int .i64 0, .int .i64 0, .int .i64 0, .int .i64 0, .int .i64 0, .int .i64 0, .int .i64 0, .int .i64 0, .int .i64 0, .int .i64 0, .int .i64 0, .int .i64 0, .int .i64 0, .int .i64 0, .int .i64 0, .int .i64 0, .int .i64 0, .int .i64 0, .int .i64 0, .int .i64 0, .int .i64 1, .int .i64 2, .int .i64 3, .int .i64 0, .int .i64 0, .int .i64 0, .int .i64 0, .int .i64 0, .int .i64 0, .int .i64 0, .int .i64 0, .int .i64 0, .int .i64 0, .int .i64 0, .int .i64 0, .int .i64 0]) (.agg [.int .i64 0, .int .i64 0, .int .i64 0, .int .i64 0, .int .i64 0, .int .i64 0, .int .i64 0, .int .i64 0, .int .i64 0, .int .i64 0, .int .i64 0, .int .i64 0, .int .i64 0, .int .i64 0, .int .i64 0, .int .i64 0, .int .i64 0, .int .i64 0, .int .i64 0, .int .i64 0, .int .i64 0, .int .i64 0, .int .i64 0, .int .i64 0, .int .i64 0, .int .i64 0, .int .i64 0, .int .i64 0, .int .i64 0, .int .i64 0, .int .i64 0, .int .i64 0, .int .i64 0, .int .i64 0, .int .i64 0, .int .i64 0, .int .i64 0, .int .i64 0, .int .i64 0, .int .i64 0, .int .i64 0, .int .i64 0, .int .i64 0, .int .i64 0, .int .i64 0, .int .i64 0, .int .i64 0, .int .i64 0, .int .i64 0, .int .i64 1, .int .i64 2, .int .i64 3, .int .i64 0, .int .i64 0, .int .i64 0, .int .i64 0, .int .i64 0, .int .i64 0, .int .i64 0, .int .i64 0, .int .i64 0, .int .i64 0, .int .i64 0, .int .i64 0, .int .i64 0]) rfl rfl ts_28 h11 rfl rfl rfl rfl ?_)
 intro H17 h18 k19
 have h20 := keep k19 e13 h15
 have m22 := Mono.set m16 z14 k19
 refine AOps.nil ?_
 change AWP _ _ _ _ _ _
 refine AWP.seq ?_
 refine AWP.seq ?_
 refine AWP.region (l := [0]) rfl ?_
 refine AOps.cons rfl rfl (AOp.assign (.int .i64 0) rfl rfl ?_)
 refine AOps.nil ?_
 change AWP _ _ _ _ _ _
 refine AWP.block ?_
 refine AWP.unroll 20 ?_
 refine UN.step ?_
 refine AWP.seq ?_
 refine AWP.seq ?_
 refine AWP.region (l := [0, 1]) rfl ?_
 refine AOps.cons rfl rfl (AOp.move (.int .i64 0) rfl rfl ?_)
 refine AOps.cons rfl rfl (AOp.bin (.bool (decide (0 < 16))) rfl rfl rfl rfl ?_)
 refine AOps.nil ?_
 change AWP _ _ _ _ _ _
 refine AWP.condT rfl (decide_eq_true (by decide)) ?_
 refine AWP.skip ?_
 change AWP _ _ _ _ _ _
 refine AWP.seq ?_
 refine AWP.block ?_
 refine AWP.region (l := [0, 1, 2, 3, 4, 5, 6, 7, 8, 9, 10]) rfl ?_
 refine AOps.cons rfl rfl (AOp.move (.int .i64 0) rfl rfl ?_)
 refine AOps.cons rfl rfl (AOp.move (.int .i64 0) rfl rfl ?_)
 refine AOps.cons rfl rfl (AOp.remP rfl rfl rfl (by omega) (by omega) ?_)
 refine AOps.cons rfl rfl (AOp.bin (.int .i64 0) rfl rfl rfl (imul (by omega)) ?_)
 refine AOps.cons rfl rfl (AOp.move (.int .i64 0) rfl rfl ?_)
 refine AOps.cons rfl rfl (AOp.quoP rfl rfl rfl (by omega) ?_)
 refine AOps.cons rfl rfl (AOp.bin (.int .i64 0) rfl rfl rfl (imul (by omega)) ?_)
 refine AOps.cons rfl rfl (AOp.build (cells := [.int .i64 0, .int .i64 0, .int .i64 0]) rfl tz_23 pl_23 rfl rfl ?_)
 refine AOps.cons rfl rfl (AOp.fieldAddr rfl rfl fl_28_0 ?_ (hid := ⟨_, h18⟩))
 refine AOps.cons rfl rfl (AOp.indexAddrA rfl rfl rfl ar_24 (by omega) (by omega) ⟨_, h18⟩ ?_)
 refine AOps.cons rfl rfl (AOp.store' (cells' := [.int .i64 0, .int .i64 0, .int .i64 0, .int .i64 0, .int .i64 0, .int .i64 0, .int .i64 0, .int .i64 0, .int .i64 0, .int .i64 0, .int .i64 0, .int .i64 0, .int .i64 0, .int .i64 0, .int .i64 0, .int .i64 0, .int .i64 0, .int .i64 0, .int .i64 0, .int .i64 0, .int .i64 0, .int .i64 0, .int .i64 0, .int .i64 0, .int .i64 0, .int .i64 0, .int .i64 0, .int .i64 0, .int .i64 0, .int .i64 0, .int .i64 0, .int .i64 0, .int .i64 0, .int .i64 0, .int .i64 0, .int .i64 0, .int .i64 0, .int .i64 0, .int .i64 0, .int .i64 0, .int .i64 0, .int .i64 0, .int .i64 0, .int .i64 0, .int .i64 0, .int .i64 0, .int .i64 0, .int .i64 0, .int .i64 0, .int .i64 1, .int .i64 2, .int .i64 3, .int .i64 0, .int .i64 0, .int .i64 0, .int .i64 0, .int .i64 0, .int .i64 0, .int .i64 0, .int .i64 0, .int .i64 0, .int .i64 0, .int .i64 0, .int .i64 0, .int .i64 0]) (.agg [.int .i64 0, .int .i64 0, .int .i64 0]) rfl rfl ts_23 h18 rfl rfl rfl rfl ?_)
 intro H23 h24 k25
 have h26 := keep k25 e13 h20
 have m28 := Mono.set m22 z14 k25
 refine AOps.nil ?_
 change AWP _ _ _ _ _ _
 refine AWP.region (l := [0, 1, 2]) rfl ?_
 refine AOps.cons rfl rfl (AOp.move (.int .i64 0) rfl rfl ?_)
 refine AOps.cons rfl rfl (AOp.bin (.int .i64 1) rfl rfl rfl (iadd (by omega)) ?_)
 refine AOps.cons rfl rfl (AOp.assign (.int .i64 1) rfl rfl ?_)
 refine AOps.nil ?_
 refine UN.step ?_
 refine AWP.seq ?_
 refine AWP.seq ?_
 refine AWP.region (l := [0, 1]) rfl ?_
 refine AOps.cons rfl rfl (AOp.move (.int .i64 1) rfl rfl ?_)
 refine AOps.cons rfl rfl (AOp.bin (.bool (decide (1 < 16))) rfl rfl rfl rfl ?_)
 refine AOps.nil ?_
 change AWP _ _ _ _ _ _
 refine AWP.condT rfl (decide_eq_true (by decide)) ?_
 refine AWP.skip ?_
 change AWP _ _ _ _ _ _
 refine AWP.seq ?_
 refine AWP.block ?_
 refine AWP.region (l := [0, 1, 2, 3, 4, 5, 6, 7, 8, 9, 10]) rfl ?_
 refine AOps.cons rfl rfl (AOp.move (.int .i64 1) rfl rfl ?_)
 refine AOps.cons rfl rfl (AOp.move (.int .i64 1) rfl rfl ?_)
 refine AOps.cons rfl rfl (AOp.remP rfl rfl rfl (by omega) (by omega) ?_)
 refine AOps.cons rfl rfl (AOp.bin (.int .i64 3) rfl rfl rfl (imul (by omega)) ?_)
 refine AOps.cons rfl rfl (AOp.move (.int .i64 1) rfl rfl ?_)
 refine AOps.cons rfl rfl (AOp.quoP rfl rfl rfl (by omega) ?_)
 refine AOps.cons rfl rfl (AOp.bin (.int .i64 0) rfl rfl rfl (imul (by omega)) ?_)
 refine AOps.cons rfl rfl (AOp.build (cells := [.int .i64 3, .int .i64 0, .int .i64 0]) rfl tz_23 pl_23 rfl rfl ?_)
 refine AOps.cons rfl rfl (AOp.fieldAddr rfl rfl fl_28_0 ?_ (hid := ⟨_, h24⟩))
 refine AOps.cons rfl rfl (AOp.indexAddrA rfl rfl rfl ar_24 (by omega) (by omega) ⟨_, h24⟩ ?_)
 refine AOps.cons rfl rfl (AOp.store' (cells' := [.int .i64 0, .int .i64 0, .int .i64 0, .int .i64 3, .int .i64 0, .int .i64 0, .int .i64 0, .int .i64 0, .int .i64 0, .int .i64 0, .int .i64 0, .int .i64 0, .int .i64 0, .int .i64 0, .int .i64 0, .int .i64 0, .int .i64 0, .int .i64 0, .int .i64 0, .int .i64 0, .int .i64 0, .int .i64 0, .int .i64 0, .int .i64 0, .int .i64 0, .int .i64 0, .int .i64 0, .int .i64 0, .int .i64 0, .int .i64 0, .int .i64 0, .int .i64 0, .int .i64 0, .int .i64 0, .int .i64 0, .int .i64 0, .int .i64 0, .int .i64 0, .int .i64 0, .int .i64 0, .int .i64 0, .int .i64 0, .int .i64 0, .int .i64 0, .int .i64 0, .int .i64 0, .int .i64 0, .int .i64 0, .int .i64 0, .int .i64 1, .int .i64 2, .int .i64 3, .int .i64 0, .int .i64 0, .int .i64 0, .int .i64 0, .int .i64 0, .int .i64 0, .int .i64 0, .int .i64 0, .int .i64 0, .int .i64 0, .int .i64 0, .int .i64 0, .int .i64 0]) (.agg [.int .i64 3, .int .i64 0, .int .i64 0]) rfl rfl ts_23 h24 rfl rfl rfl rfl ?_)
 intro H29 h30 k31
 have h32 := keep k31 e13 h26
 have m34 := Mono.set m28 z14 k31
 refine AOps.nil ?_
 change AWP _ _ _ _ _ _
 refine AWP.region (l := [0, 1, 2]) rfl ?_
 refine AOps.cons rfl rfl (AOp.move (.int .i64 1) rfl rfl ?_)
 refine AOps.cons rfl rfl (AOp.bin (.int .i64 2) rfl rfl rfl (iadd (by omega)) ?_)
 refine AOps.cons rfl rfl (AOp.assign (.int .i64 2) rfl rfl ?_)
 refine AOps.nil ?_
 refine UN.step ?_
 refine AWP.seq ?_
 refine AWP.seq ?_
 refine AWP.region (l := [0, 1]) rfl ?_
 refine AOps.cons rfl rfl (AOp.move (.int .i64 2) rfl rfl ?_)
 refine AOps.cons rfl rfl (AOp.bin (.bool (decide (2 < 16))) rfl rfl rfl rfl ?_)
 refine AOps.nil ?_
 change AWP _ _ _ _ _ _
 refine AWP.condT rfl (decide_eq_true (by decide)) ?_
 refine AWP.skip ?_
 change AWP _ _ _ _ _ _
 refine AWP.seq ?_
 refine AWP.block ?_
 refine AWP.region (l := [0, 1, 2, 3, 4, 5, 6, 7, 8, 9, 10]) rfl ?_
 refine AOps.cons rfl rfl (AOp.move (.int .i64 2) rfl rfl ?_)
 refine AOps.cons rfl rfl (AOp.move (.int .i64 2) rfl rfl ?_)
 refine AOps.cons rfl rfl (AOp.remP rfl rfl rfl (by omega) (by omega) ?_)
 refine AOps.cons rfl rfl (AOp.bin (.int .i64 6) rfl rfl rfl (imul (by omega)) ?_)
 refine AOps.cons rfl rfl (AOp.move (.int .i64 2) rfl rfl ?_)
 refine AOps.cons rfl rfl (AOp.quoP rfl rfl rfl (by omega) ?_)
 refine AOps.cons rfl rfl (AOp.bin (.int .i64 0) rfl rfl rfl (imul (by omega)) ?_)
 refine AOps.cons rfl rfl (AOp.build (cells := [.int .i64 6, .int .i64 0, .int .i64 0]) rfl tz_23 pl_23 rfl rfl ?_)
 refine AOps.cons rfl rfl (AOp.fieldAddr rfl rfl fl_28_0 ?_ (hid := ⟨_, h30⟩))
 refine AOps.cons rfl rfl (AOp.indexAddrA rfl rfl rfl ar_24 (by omega) (by omega) ⟨_, h30⟩ ?_)
 refine AOps.cons rfl rfl (AOp.store' (cells' := [.int .i64 0, .int .i64 0, .int .i64 0, .int .i64 3, .int .i64 0, .int .i64 0, .int .i64 6, .int .i64 0, .int .i64 0, .int .i64 0, .int .i64 0, .int .i64 0, .int .i64 0, .int .i64 0, .int .i64 0, .int .i64 0, .int .i64 0, .int .i64 0, .int .i64 0, .int .i64 0, .int .i64 0, .int .i64 0, .int .i64 0, .int .i64 0, .int .i64 0, .int .i64 0, .int .i64 0, .int .i64 0, .int .i64 0, .int .i64 0, .int .i64 0, .int .i64 0, .int .i64 0, .int .i64 0, .int .i64 0, .int .i64 0, .int .i64 0, .int .i64 0, .int .i64 0, .int .i64 0, .int .i64 0, .int .i64 0, .int .i64 0, .int .i64 0, .int .i64 0, .int .i64 0, .int .i64 0, .int .i64 0, .int .i64 0, .int .i64 1, .int .i64 2, .int .i64 3, .int .i64 0, .int .i64 0, .int .i64 0, .int .i64 0, .int .i64 0, .int .i64 0, .int .i64 0, .int .i64 0, .int .i64 0, .int .i64 0, .int .i64 0, .int .i64 0, .int .i64 0]) (.agg [.int .i64 6, .int .i64 0, .int .i64 0]) rfl rfl ts_23 h30 rfl rfl rfl rfl ?_)
 intro H35 h36 k37
 have h38 := keep k37 e13 h32
 have m40 := Mono.set m34 z14 k37
 refine AOps.nil ?_
 change AWP _ _ _ _ _ _
 refine AWP.region (l := [0, 1, 2]) rfl ?_
 refine AOps.cons rfl rfl (AOp.move (.int .i64 2) rfl rfl ?_)
 refine AOps.cons rfl rfl (AOp.bin (.int .i64 3) rfl rfl rfl (iadd (by omega)) ?_)
 refine AOps.cons rfl rfl (AOp.assign (.int .i64 3) rfl rfl ?_)
 refine AOps.nil ?_
 refine UN.step ?_
 refine AWP.seq ?_
 refine AWP.seq ?_
 refine AWP.region (l := [0, 1]) rfl ?_
 refine AOps.cons rfl rfl (AOp.move (.int .i64 3) rfl rfl ?_)
 refine AOps.cons rfl rfl (AOp.bin (.bool (decide (3 < 16))) rfl rfl rfl rfl ?_)
 refine AOps.nil ?_
 change AWP _ _ _ _ _ _
 refine AWP.condT rfl (decide_eq_true (by decide)) ?_
 refine AWP.skip ?_
 change AWP _ _ _ _ _ _
 refine AWP.seq ?_
 refine AWP.block ?_
 refine AWP.region (l := [0, 1, 2, 3, 4, 5, 6, 7, 8, 9, 10]) rfl ?_
 refine AOps.cons rfl rfl (AOp.move (.int .i64 3) rfl rfl ?_)
 refine AOps.cons rfl rfl (AOp.move (.int .i64 3) rfl rfl ?_)
 refine AOps.cons rfl rfl (AOp.remP rfl rfl rfl (by omega) (by omega) ?_)
 refine AOps.cons rfl rfl (AOp.bin (.int .i64 9) rfl rfl rfl (imul (by omega)) ?_)
 refine AOps.cons rfl rfl (AOp.move (.int .i64 3) rfl rfl ?_)
 refine AOps.cons rfl rfl (AOp.quoP rfl rfl rfl (by omega) ?_)
 refine AOps.cons rfl rfl (AOp.bin (.int .i64 0) rfl rfl rfl (imul (by omega)) ?_)
 refine AOps.cons rfl rfl (AOp.build (cells := [.int .i64 9, .int .i64 0, .int .i64 0]) rfl tz_23 pl_23 rfl rfl ?_)
 refine AOps.cons rfl rfl (AOp.fieldAddr rfl rfl fl_28_0 ?_ (hid := ⟨_, h36⟩))
 refine AOps.cons rfl rfl (AOp.indexAddrA rfl rfl rfl ar_24 (by omega) (by omega) ⟨_, h36⟩ ?_)
 refine AOps.cons rfl rfl (AOp.store' (cells' := [.int .i64 0, .int .i64 0, .int .i64 0, .int .i64 3, .int .i64 0, .int .i64 0, .int .i64 6, .int .i64 0, .int .i64 0, .int .i64 9, .int .i64 0, .int .i64 0, .int .i64 0, .int .i64 0, .int .i64 0, .int .i64 0, .int .i64 0, .int .i64 0, .int .i64 0, .int .i64 0, .int .i64 0, .int .i64 0, .int .i64 0, .int .i64 0, .int .i64 0, .int .i64 0, .int .i64 0, .int .i64 0, .int .i64 0, .int .i64 0, .int .i64 0, .int .i64 0, .int .i64 0, .int .i64 0, .int .i64 0, .int .i64 0, .int .i64 0, .int .i64 0, .int .i64 0, .int .i64 0, .int .i64 0, .int .i64 0, .int .i64 0, .int .i64 0, .int .i64 0, .int .i64 0, .int .i64 0, .int .i64 0, .int .i64 0, .int .i64 1, .int .i64 2, .int .i64 3, .int .i64 0, .int .i64 0, .int .i64 0, .int .i64 0, .int .i64 0, .int .i64 0, .int .i64 0, .int .i64 0, .int .i64 0, .int .i64 0, .int .i64 0, .int .i64 0, .int .i64 0]) (.agg [.int .i64 9, .int .i64 0, .int .i64 0]) rfl rfl ts_23 h36 rfl rfl rfl rfl ?_)
 intro H41 h42 k43
 have h44 := keep k43 e13 h38
 have m46 := Mono.set m40 z14 k43
 refine AOps.nil ?_
 change AWP _ _ _ _ _ _
 refine AWP.region (l := [0, 1, 2]) rfl ?_
 refine AOps.cons rfl rfl (AOp.move (.int .i64 3) rfl rfl ?_)
 refine AOps.cons rfl rfl (AOp.bin (.int .i64 4) rfl rfl rfl (iadd (by omega)) ?_)
 refine AOps.cons rfl rfl (AOp.assign (.int .i64 4) rfl rfl ?_)
 refine AOps.nil ?_
 refine UN.step ?_
 refine AWP.seq ?_
 refine AWP.seq ?_
 refine AWP.region (l := [0, 1]) rfl ?_
 refine AOps.cons rfl rfl (AOp.move (.int .i64 4) rfl rfl ?_)
 refine AOps.cons rfl rfl (AOp.bin (.bool (decide (4 < 16))) rfl rfl rfl rfl ?_)
 refine AOps.nil ?_
 change AWP _ _ _ _ _ _
 refine AWP.condT rfl (decide_eq_true (by decide)) ?_
 refine AWP.skip ?_
 change AWP _ _ _ _ _ _
 refine AWP.seq ?_
 refine AWP.block ?_
 refine AWP.region (l := [0, 1, 2, 3, 4, 5, 6, 7, 8, 9, 10]) rfl ?_
 refine AOps.cons rfl rfl (AOp.move (.int .i64 4) rfl rfl ?_)
 refine AOps.cons rfl rfl (AOp.move (.int .i64 4) rfl rfl ?_)
 refine AOps.cons rfl rfl (AOp.remP rfl rfl rfl (by omega) (by omega) ?_)
 refine AOps.cons rfl rfl (AOp.bin (.int .i64 0) rfl rfl rfl (imul (by omega)) ?_)
 refine AOps.cons rfl rfl (AOp.move (.int .i64 4) rfl rfl ?_)
 refine AOps.cons rfl rfl (AOp.quoP rfl rfl rfl (by omega) ?_)
 refine AOps.cons rfl rfl (AOp.bin (.int .i64 3) rfl rfl rfl (imul (by omega)) ?_)
 refine AOps.cons rfl rfl (AOp.build (cells := [.int .i64 0, .int .i64 3, .int .i64 0]) rfl tz_23 pl_23 rfl rfl ?_)
 refine AOps.cons rfl rfl (AOp.fieldAddr rfl rfl fl_28_0 ?_ (hid := ⟨_, h42⟩))
 refine AOps.cons rfl rfl (AOp.indexAddrA rfl rfl rfl ar_24 (by omega) (by omega) ⟨_, h42⟩ ?_)
 refine AOps.cons rfl rfl (AOp.store' (cells' := [.int .i64 0, .int .i64 0, .int .i64 0, .int .i64 3, .int .i64 0, .int .i64 0, .int .i64 6, .int .i64 0, .int .i64 0, .int .i64 9, .int .i64 0, .int .i64 0, .int .i64 0, .int .i64 3, .int .i64 0, .int .i64 0, .int .i64 0, .int .i64 0, .int .i64 0, .int .i64 0, .int .i64 0, .int .i64 0, .int .i64 0, .int .i64 0, .int .i64 0, .int .i64 0, .int .i64 0, .int .i64 0, .int .i64 0, .int .i64 0, .int .i64 0, .int .i64 0, .int .i64 0, .int .i64 0, .int .i64 0, .int .i64 0, .int .i64 0, .int .i64 0, .int .i64 0, .int .i64 0, .int .i64 0, .int .i64 0, .int .i64 0, .int .i64 0, .int .i64 0, .int .i64 0, .int .i64 0, .int .i64 0, .int .i64 0, .int .i64 1, .int .i64 2, .int .i64 3, .int .i64 0, .int .i64 0, .int .i64 0, .int .i64 0, .int .i64 0, .int .i64 0, .int .i64 0, .int .i64 0, .int .i64 0, .int .i64 0, .int .i64 0, .int .i64 0, .int .i64 0]) (.agg [.int .i64 0, .int .i64 3, .int .i64 0]) rfl rfl ts_23 h42 rfl rfl rfl rfl ?_)
 intro H47 h48 k49
 have h50 := keep k49 e13 h44
 have m52 := Mono.set m46 z14 k49
 refine AOps.nil ?_
 change AWP _ _ _ _ _ _
 refine AWP.region (l := [0, 1, 2]) rfl ?_
 refine AOps.cons rfl rfl (AOp.move (.int .i64 4) rfl rfl ?_)
 refine AOps.cons rfl rfl (AOp.bin (.int .i64 5) rfl rfl rfl (iadd (by omega)) ?_)
 refine AOps.cons rfl rfl (AOp.assign (.int .i64 5) rfl rfl ?_)
 refine AOps.nil ?_
 refine UN.step ?_
 refine AWP.seq ?_
 refine AWP.seq ?_
 refine AWP.region (l := [0, 1]) rfl ?_
 refine AOps.cons rfl rfl (AOp.move (.int .i64 5) rfl rfl ?_)
 refine AOps.cons rfl rfl (AOp.bin (.bool (decide (5 < 16))) rfl rfl rfl rfl ?_)
 refine AOps.nil ?_
 change AWP _ _ _ _ _ _
 refine AWP.condT rfl (decide_eq_true (by decide)) ?_
 refine AWP.skip ?_
 change AWP _ _ _ _ _ _
 refine AWP.seq ?_
 refine AWP.block ?_
 refine AWP.region (l := [0, 1, 2, 3, 4, 5, 6, 7, 8, 9, 10]) rfl ?_
 refine AOps.cons rfl rfl (AOp.move (.int .i64 5) rfl rfl ?_)
 refine AOps.cons rfl rfl (AOp.move (.int .i64 5) rfl rfl ?_)
 refine AOps.cons rfl rfl (AOp.remP rfl rfl rfl (by omega) (by omega) ?_)
 refine AOps.cons rfl rfl (AOp.bin (.int .i64 3) rfl rfl rfl (imul (by omega)) ?_)
 refine AOps.cons rfl rfl (AOp.move (.int .i64 5) rfl rfl ?_)
 refine AOps.cons rfl rfl (AOp.quoP rfl rfl rfl (by omega) ?_)
 refine AOps.cons rfl rfl (AOp.bin (.int .i64 3) rfl rfl rfl (imul (by omega)) ?_)
 refine AOps.cons rfl rfl (AOp.build (cells := [.int .i64 3, .int .i64 3, .int .i64 0]) rfl tz_23 pl_23 rfl rfl ?_)
 refine AOps.cons rfl rfl (AOp.fieldAddr rfl rfl fl_28_0 ?_ (hid := ⟨_, h48⟩))
 refine AOps.cons rfl rfl (AOp.indexAddrA rfl rfl rfl ar_24 (by omega) (by omega) ⟨_, h48⟩ ?_)
 refine AOps.cons rfl rfl (AOp.store' (cells' := [.int .i64 0, .int .i64 0, .int .i64 0, .int .i64 3, .int .i64 0, .int .i64 0, .int .i64 6, .int .i64 0, .int .i64 0, .int .i64 9, .int .i64 0, .int .i64 0, .int .i64 0, .int .i64 3, .int .i64 0, .int .i64 3, .int .i64 3, .int .i64 0, .int .i64 0, .int .i64 0, .int .i64 0, .int .i64 0, .int .i64 0, .int .i64 0, .int .i64 0, .int .i64 0, .int .i64 0, .int .i64 0, .int .i64 0, .int .i64 0, .int .i64 0, .int .i64 0, .int .i64 0, .int .i64 0, .int .i64 0, .int .i64 0, .int .i64 0, .int .i64 0, .int .i64 0, .int .i64 0, .int .i64 0, .int .i64 0, .int .i64 0, .int .i64 0, .int .i64 0, .int .i64 0, .int .i64 0, .int .i64 0, .int .i64 0, .int .i64 1, .int .i64 2, .int .i64 3, .int .i64 0, .int .i64 0, .int .i64 0, .int .i64 0, .int .i64 0, .int .i64 0, .int .i64 0, .int .i64 0, .int .i64 0, .int .i64 0, .int .i64 0, .int .i64 0, .int .i64 0]) (.agg [.int .i64 3, .int .i64 3, .int .i64 0]) rfl rfl ts_23 h48 rfl rfl rfl rfl ?_)
 intro H53 h54 k55
 have h56 := keep k55 e13 h50
 have m58 := Mono.set m52 z14 k55
 refine AOps.nil ?_
 change AWP _ _ _ _ _ _
 refine AWP.region (l := [0, 1, 2]) rfl ?_
 refine AOps.cons rfl rfl (AOp.move (.int .i64 5) rfl rfl ?_)
 refine AOps.cons rfl rfl (AOp.bin (.int .i64 6) rfl rfl rfl (iadd (by omega)) ?_)
 refine AOps.cons rfl rfl (AOp.assign (.int .i64 6) rfl rfl ?_)
 refine AOps.nil ?_
 refine UN.step ?_
 refine AWP.seq ?_
 refine AWP.seq ?_
 refine AWP.region (l := [0, 1]) rfl ?_
 refine AOps.cons rfl rfl (AOp.move (.int .i64 6) rfl rfl ?_)
 refine AOps.cons rfl rfl (AOp.bin (.bool (decide (6 < 16))) rfl rfl rfl rfl ?_)
 refine AOps.nil ?_
 change AWP _ _ _ _ _ _
 refine AWP.condT rfl (decide_eq_true (by decide)) ?_
 refine AWP.skip ?_
 change AWP _ _ _ _ _ _
 refine AWP.seq ?_
 refine AWP.block ?_
 refine AWP.region (l := [0, 1, 2, 3, 4, 5, 6, 7, 8, 9, 10]) rfl ?_
 refine AOps.cons rfl rfl (AOp.move (.int .i64 6) rfl rfl ?_)
 refine AOps.cons rfl rfl (AOp.move (.int .i64 6) rfl rfl ?_)
 refine AOps.cons rfl rfl (AOp.remP rfl rfl rfl (by omega) (by omega) ?_)
 refine AOps.cons rfl rfl (AOp.bin (.int .i64 6) rfl rfl rfl (imul (by omega)) ?_)
 refine AOps.cons rfl rfl (AOp.move (.int .i64 6) rfl rfl ?_)
 refine AOps.cons rfl rfl (AOp.quoP rfl rfl rfl (by omega) ?_)
 refine AOps.cons rfl rfl (AOp.bin (.int .i64 3) rfl rfl rfl (imul (by omega)) ?_)
 refine AOps.cons rfl rfl (AOp.build (cells := [.int .i64 6, .int .i64 3, .int .i64 0]) rfl tz_23 pl_23 rfl rfl ?_)
 refine AOps.cons rfl rfl (AOp.fieldAddr rfl rfl fl_28_0 ?_ (hid := ⟨_, h54⟩))
 refine AOps.cons rfl rfl (AOp.indexAddrA rfl rfl rfl ar_24 (by omega) (by omega) ⟨_, h54⟩ ?_)
 refine AOps.cons rfl rfl (AOp.store' (cells' := [.int .i64 0, .int .i64 0, .int .i64 0, .int .i64 3, .int .i64 0, .int .i64 0, .int .i64 6, .int .i64 0, .int .i64 0, .int .i64 9, .int .i64 0, .int .i64 0, .int .i64 0, .int .i64 3, .int .i64 0, .int .i64 3, .int .i64 3, .int .i64 0, .int .i64 6, .int .i64 3, .int .i64 0, .int .i64 0, .int .i64 0, .int .i64 0, .int .i64 0, .int .i64 0, .int .i64 0, .int .i64 0, .int .i64 0, .int .i64 0, .int .i64 0, .int .i64 0, .int .i64 0, .int .i64 0, .int .i64 0, .int .i64 0, .int .i64 0, .int .i64 0, .int .i64 0, .int .i64 0, .int .i64 0, .int .i64 0, .int .i64 0, .int .i64 0, .int .i64 0, .int .i64 0, .int .i64 0, .int .i64 0, .int .i64 0, .int .i64 1, .int .i64 2, .int .i64 3, .int .i64 0, .int .i64 0, .int .i64 0, .int .i64 0, .int .i64 0, .int .i64 0, .int .i64 0, .int .i64 0, .int .i64 0, .int .i64 0, .int .i64 0, .int .i64 0, .int .i64 0]) (.agg [.int .i64 6, .int .i64 3, .int .i64 0]) rfl rfl ts_23 h54 rfl rfl rfl rfl ?_)
 intro H59 h60 k61
 have h62 := keep k61 e13 h56
 have m64 := Mono.set m58 z14 k61
 refine AOps.nil ?_
 change AWP _ _ _ _ _ _
 refine AWP.region (l := [0, 1, 2]) rfl ?_
 refine AOps.cons rfl rfl (AOp.move (.int .i64 6) rfl rfl ?_)
 refine AOps.cons rfl rfl (AOp.bin (.int .i64 7) rfl rfl rfl (iadd (by omega)) ?_)
 refine AOps.cons rfl rfl (AOp.assign (.int .i64 7) rfl rfl ?_)
 refine AOps.nil ?_
 refine UN.step ?_
 refine AWP.seq ?_
 refine AWP.seq ?_
 refine AWP.region (l := [0, 1]) rfl ?_
 refine AOps.cons rfl rfl (AOp.move (.int .i64 7) rfl rfl ?_)
 refine AOps.cons rfl rfl (AOp.bin (.bool (decide (7 < 16))) rfl rfl rfl rfl ?_)
 refine AOps.nil ?_
 change AWP _ _ _ _ _ _
 refine AWP.condT rfl (decide_eq_true (by decide)) ?_
 refine AWP.skip ?_
 change AWP _ _ _ _ _ _
 refine AWP.seq ?_
 refine AWP.block ?_
 refine AWP.region (l := [0, 1, 2, 3, 4, 5, 6, 7, 8, 9, 10]) rfl ?_
 refine AOps.cons rfl rfl (AOp.move (.int .i64 7) rfl rfl ?_)
 refine AOps.cons rfl rfl (AOp.move (.int .i64 7) rfl rfl ?_)
 refine AOps.cons rfl rfl (AOp.remP rfl rfl rfl (by omega) (by omega) ?_)
 refine AOps.cons rfl rfl (AOp.bin (.int .i64 9) rfl rfl rfl (imul (by omega)) ?_)
 refine AOps.cons rfl rfl (AOp.move (.int .i64 7) rfl rfl ?_)
 refine AOps.cons rfl rfl (AOp.quoP rfl rfl rfl (by omega) ?_)
 refine AOps.cons rfl rfl (AOp.bin (.int .i64 3) rfl rfl rfl (imul (by omega)) ?_)
 refine AOps.cons rfl rfl (AOp.build (cells := [.int .i64 9, .int .i64 3, .int .i64 0]) rfl tz_23 pl_23 rfl rfl ?_)
 refine AOps.cons rfl rfl (AOp.fieldAddr rfl rfl fl_28_0 ?_ (hid := ⟨_, h60⟩))
 refine AOps.cons rfl rfl (AOp.indexAddrA rfl rfl rfl ar_24 (by omega) (by omega) ⟨_, h60⟩ ?_)
 refine AOps.cons rfl rfl (AOp.store' (cells' := [.int .i64 0, .int .i64 0, .int .i64 0, .int .i64 3, .int .i64 0, .int .i64 0, .int .i64 6, .int .i64 0, .int .i64 0, .int .i64 9, .int .i64 0, .int .i64 0, .int .i64 0, .int .i64 3, .int .i64 0, .int .i64 3, .int .i64 3, .int .i64 0, .int .i64 6, .int .i64 3, .int .i64 0, .int .i64 9, .int .i64 3, .int .i64 0, .int .i64 0, .int .i64 0, .int .i64 0, .int .i64 0, .int .i64 0, .int .i64 0, .int .i64 0, .int .i64 0, .int .i64 0, .int .i64 0, .int .i64 0, .int .i64 0, .int .i64 0, .int .i64 0, .int .i64 0, .int .i64 0, .int .i64 0, .int .i64 0, .int .i64 0, .int .i64 0, .int .i64 0, .int .i64 0, .int .i64 0, .int .i64 0, .int .i64 0, .int .i64 1, .int .i64 2, .int .i64 3, .int .i64 0, .int .i64 0, .int .i64 0, .int .i64 0, .int .i64 0, .int .i64 0, .int .i64 0, .int .i64 0, .int .i64 0, .int .i64 0, .int .i64 0, .int .i64 0, .int .i64 0]) (.agg [.int .i64 9, .int .i64 3, .int .i64 0]) rfl rfl ts_23 h60 rfl rfl rfl rfl ?_)
 intro H65 h66 k67
 have h68 := keep k67 e13 h62
 have m70 := Mono.set m64 z14 k67
 refine AOps.nil ?_
 change AWP _ _ _ _ _ _
 refine AWP.region (l := [0, 1, 2]) rfl ?_
 refine AOps.cons rfl rfl (AOp.move (.int .i64 7) rfl rfl ?_)
 refine AOps.cons rfl rfl (AOp.bin (.int .i64 8) rfl rfl rfl (iadd (by omega)) ?_)
 refine AOps.cons rfl rfl (AOp.assign (.int .i64 8) rfl rfl ?_)
 refine AOps.nil ?_
 refine UN.step ?_
 refine AWP.seq ?_
 refine AWP.seq ?_
 refine AWP.region (l := [0, 1]) rfl ?_
 refine AOps.cons rfl rfl (AOp.move (.int .i64 8) rfl rfl ?_)
 refine AOps.cons rfl rfl (AOp.bin (.bool (decide (8 < 16))) rfl rfl rfl rfl ?_)
 refine AOps.nil ?_
 change AWP _ _ _ _ _ _
 refine AWP.condT rfl (decide_eq_true (by decide)) ?_
 refine AWP.skip ?_
 change AWP _ _ _ _ _ _
 refine AWP.seq ?_
 refine AWP.block ?_
 refine AWP.region (l := [0, 1, 2, 3, 4, 5, 6, 7, 8, 9, 10]) rfl ?_
 refine AOps.cons rfl rfl (AOp.move (.int .i64 8) rfl rfl ?_)
 refine AOps.cons rfl rfl (AOp.move (.int .i64 8) rfl rfl ?_)
 refine AOps.cons rfl rfl (AOp.remP rfl rfl rfl (by omega) (by omega) ?_)
 refine AOps.cons rfl rfl (AOp.bin (.int .i64 0) rfl rfl rfl (imul (by omega)) ?_)
 refine AOps.cons rfl rfl (AOp.move (.int .i64 8) rfl rfl ?_)
 refine AOps.cons rfl rfl (AOp.quoP rfl rfl rfl (by omega) ?_)
 refine AOps.cons rfl rfl (AOp.bin (.int .i64 6) rfl rfl rfl (imul (by omega)) ?_)
 refine AOps.cons rfl rfl (AOp.build (cells := [.int .i64 0, .int .i64 6, .int .i64 0]) rfl tz_23 pl_23 rfl rfl ?_)
 refine AOps.cons rfl rfl (AOp.fieldAddr rfl rfl fl_28_0 ?_ (hid := ⟨_, h66⟩))
 refine AOps.cons rfl rfl (AOp.indexAddrA rfl rfl rfl ar_24 (by omega) (by omega) ⟨_, h66⟩ ?_)
 refine AOps.cons rfl rfl (AOp.store' (cells' := [.int .i64 0, .int .i64 0, .int .i64 0, .int .i64 3, .int .i64 0, .int .i64 0, .int .i64 6, .int .i64 0, .int .i64 0, .int .i64 9, .int .i64 0, .int .i64 0, .int .i64 0, .int .i64 3, .int .i64 0, .int .i64 3, .int .i64 3, .int .i64 0, .int .i64 6, .int .i64 3, .int .i64 0, .int .i64 9, .int .i64 3, .int .i64 0, .int .i64 0, .int .i64 6, .int .i64 0, .int .i64 0, .int .i64 0, .int .i64 0, .int .i64 0, .int .i64 0, .int .i64 0, .int .i64 0, .int .i64 0, .int .i64 0, .int .i64 0, .int .i64 0, .int .i64 0, .int .i64 0, .int .i64 0, .int .i64 0, .int .i64 0, .int .i64 0, .int .i64 0, .int .i64 0, .int .i64 0, .int .i64 0, .int .i64 0, .int .i64 1, .int .i64 2, .int .i64 3, .int .i64 0, .int .i64 0, .int .i64 0, .int .i64 0, .int .i64 0, .int .i64 0, .int .i64 0, .int .i64 0, .int .i64 0, .int .i64 0, .int .i64 0, .int .i64 0, .int .i64 0]) (.agg [.int .i64 0, .int .i64 6, .int .i64 0]) rfl rfl ts_23 h66 rfl rfl rfl rfl ?_)
 intro H71 h72 k73
 have h74 := keep k73 e13 h68
 have m76 := Mono.set m70 z14 k73
 refine AOps.nil ?_
 change AWP _ _ _ _ _ _
 refine AWP.region (l := [0, 1, 2]) rfl ?_
 refine AOps.cons rfl rfl (AOp.move (.int .i64 8) rfl rfl ?_)
 refine AOps.cons rfl rfl (AOp.bin (.int .i64 9) rfl rfl rfl (iadd (by omega)) ?_)
 refine AOps.cons rfl rfl (AOp.assign (.int .i64 9) rfl rfl ?_)
 refine AOps.nil ?_
 refine UN.step ?_
 refine AWP.seq ?_
 refine AWP.seq ?_
 refine AWP.region (l := [0, 1]) rfl ?_
 refine AOps.cons rfl rfl (AOp.move (.int .i64 9) rfl rfl ?_)
 refine AOps.cons rfl rfl (AOp.bin (.bool (decide (9 < 16))) rfl rfl rfl rfl ?_)
 refine AOps.nil ?_
 change AWP _ _ _ _ _ _
 refine AWP.condT rfl (decide_eq_true (by decide)) ?_
 refine AWP.skip ?_
 change AWP _ _ _ _ _ _
 refine AWP.seq ?_
 refine AWP.block ?_
 refine AWP.region (l := [0, 1, 2, 3, 4, 5, 6, 7, 8, 9, 10]) rfl ?_
 refine AOps.cons rfl rfl (AOp.move (.int .i64 9) rfl rfl ?_)
 refine AOps.cons rfl rfl (AOp.move (.int .i64 9) rfl rfl ?_)
 refine AOps.cons rfl rfl (AOp.remP rfl rfl rfl (by omega) (by omega) ?_)
 refine AOps.cons rfl rfl (AOp.bin (.int .i64 3) rfl rfl rfl (imul (by omega)) ?_)
 refine AOps.cons rfl rfl (AOp.move (.int .i64 9) rfl rfl ?_)
 refine AOps.cons rfl rfl (AOp.quoP rfl rfl rfl (by omega) ?_)
 refine AOps.cons rfl rfl (AOp.bin (.int .i64 6) rfl rfl rfl (imul (by omega)) ?_)
 refine AOps.cons rfl rfl (AOp.build (cells := [.int .i64 3, .int .i64 6, .int .i64 0]) rfl tz_23 pl_23 rfl rfl ?_)
 refine AOps.cons rfl rfl (AOp.fieldAddr rfl rfl fl_28_0 ?_ (hid := ⟨_, h72⟩))
 refine AOps.cons rfl rfl (AOp.indexAddrA rfl rfl rfl ar_24 (by omega) (by omega) ⟨_, h72⟩ ?_)
 refine AOps.cons rfl rfl (AOp.store' (cells' := [.int .i64 0, .int .i64 0, .int .i64 0, .int .i64 3, .int .i64 0, .int .i64 0, .int .i64 6, .int .i64 0, .int .i64 0, .int .i64 9, .int .i64 0, .int .i64 0, .int .i64 0, .int .i64 3, .int .i64 0, .int .i64 3, .int .i64 3, .int .i64 0, .int .i64 6, .int .i64 3, .int .i64 0, .int .i64 9, .int .i64 3, .int .i64 0, .int .i64 0, .int .i64 6, .int .i64 0, .int .i64 3, .int .i64 6, .int .i64 0, .int .i64 0, .int .i64 0, .int .i64 0, .int .i64 0, .int .i64 0, .int .i64 0, .int .i64 0, .int .i64 0, .int .i64 0, .int .i64 0, .int .i64 0, .int .i64 0, .int .i64 0, .int .i64 0, .int .i64 0, .int .i64 0, .int .i64 0, .int .i64 0, .int .i64 0, .int .i64 1, .int .i64 2, .int .i64 3, .int .i64 0, .int .i64 0, .int .i64 0, .int .i64 0, .int .i64 0, .int .i64 0, .int .i64 0, .int .i64 0, .int .i64 0, .int .i64 0, .int .i64 0, .int .i64 0, .int .i64 0]) (.agg [.int .i64 3, .int .i64 6, .int .i64 0]) rfl rfl ts_23 h72 rfl rfl rfl rfl ?_)
 intro H77 h78 k79
 have h80 := keep k79 e13 h74
 have m82 := Mono.set m76 z14 k79
 refine AOps.nil ?_
 change AWP _ _ _ _ _ _
 refine AWP.region (l := [0, 1, 2]) rfl ?_
 refine AOps.cons rfl rfl (AOp.move (.int .i64 9) rfl rfl ?_)
 refine AOps.cons rfl rfl (AOp.bin (.int .i64 10) rfl rfl rfl (iadd (by omega)) ?_)
 refine AOps.cons rfl rfl (AOp.assign (.int .i64 10) rfl rfl ?_)
 refine AOps.nil ?_
 refine UN.step ?_
 refine AWP.seq ?_
 refine AWP.seq ?_
 refine AWP.region (l := [0, 1]) rfl ?_
 refine AOps.cons rfl rfl (AOp.move (.int .i64 10) rfl rfl ?_)
 refine AOps.cons rfl rfl (AOp.bin (.bool (decide (10 < 16))) rfl rfl rfl rfl ?_)
 refine AOps.nil ?_
 change AWP _ _ _ _ _ _
 refine AWP.condT rfl (decide_eq_true (by decide)) ?_
 refine AWP.skip ?_
 change AWP _ _ _ _ _ _
 refine AWP.seq ?_
 refine AWP.block ?_
 refine AWP.region (l := [0, 1, 2, 3, 4, 5, 6, 7, 8, 9, 10]) rfl ?_
 refine AOps.cons rfl rfl (AOp.move (.int .i64 10) rfl rfl ?_)
 refine AOps.cons rfl rfl (AOp.move (.int .i64 10) rfl rfl ?_)
 refine AOps.cons rfl rfl (AOp.remP rfl rfl rfl (by omega) (by omega) ?_)
 refine AOps.cons rfl rfl (AOp.bin (.int .i64 6) rfl rfl rfl (imul (by omega)) ?_)
 refine AOps.cons rfl rfl (AOp.move (.int .i64 10) rfl rfl ?_)
 refine AOps.cons rfl rfl (AOp.quoP rfl rfl rfl (by omega) ?_)
 refine AOps.cons rfl rfl (AOp.bin (.int .i64 6) rfl rfl rfl (imul (by omega)) ?_)
 refine AOps.cons rfl rfl (AOp.build (cells := [.int .i64 6, .int .i64 6, .int .i64 0]) rfl tz_23 pl_23 rfl rfl ?_)
 refine AOps.cons rfl rfl (AOp.fieldAddr rfl rfl fl_28_0 ?_ (hid := ⟨_, h78⟩))
 refine AOps.cons rfl rfl (AOp.indexAddrA rfl rfl rfl ar_24 (by omega) (by omega) ⟨_, h78⟩ ?_)
 refine AOps.cons rfl rfl (AOp.store' (cells' := [.int .i64 0, .int .i64 0, .int .i64 0, .int .i64 3, .int .i64 0, .int .i64 0, .int .i64 6, .int .i64 0, .int .i64 0, .int .i64 9, .int .i64 0, .int .i64 0, .int .i64 0, .int .i64 3, .int .i64 0, .int .i64 3, .int .i64 3, .int .i64 0, .int .i64 6, .int .i64 3, .int .i64 0, .int .i64 9, .int .i64 3, .int .i64 0, .int .i64 0, .int .i64 6, .int .i64 0, .int .i64 3, .int .i64 6, .int .i64 0, .int .i64 6, .int .i64 6, .int .i64 0, .int .i64 0, .int .i64 0, .int .i64 0, .int .i64 0, .int .i64 0, .int .i64 0, .int .i64 0, .int .i64 0, .int .i64 0, .int .i64 0, .int .i64 0, .int .i64 0, .int .i64 0, .int .i64 0, .int .i64 0, .int .i64 0, .int .i64 1, .int .i64 2, .int .i64 3, .int .i64 0, .int .i64 0, .int .i64 0, .int .i64 0, .int .i64 0, .int .i64 0, .int .i64 0, .int .i64 0, .int .i64 0, .int .i64 0, .int .i64 0, .int .i64 0, .int .i64 0]) (.agg [.int .i64 6, .int .i64 6, .int .i64 0]) rfl rfl ts_23 h78 rfl rfl rfl rfl ?_)
 intro H83 h84 k85
 have h86 := keep k85 e13 h80
 have m88 := Mono.set m82 z14 k85
 refine AOps.nil ?_
 change AWP _ _ _ _ _ _
 refine AWP.region (l := [0, 1, 2]) rfl ?_
 refine AOps.cons rfl rfl (AOp.move (.int .i64 10) rfl rfl ?_)
 refine AOps.cons rfl rfl (AOp.bin (.int .i64 11) rfl rfl rfl (iadd (by omega)) ?_)
 refine AOps.cons rfl rfl (AOp.assign (.int .i64 11) rfl rfl ?_)
 refine AOps.nil ?_
 refine UN.step ?_
 refine AWP.seq ?_
 refine AWP.seq ?_
 refine AWP.region (l := [0, 1]) rfl ?_
 refine AOps.cons rfl rfl (AOp.move (.int .i64 11) rfl rfl ?_)
 refine AOps.cons rfl rfl (AOp.bin (.bool (decide (11 < 16))) rfl rfl rfl rfl ?_)
 refine AOps.nil ?_
 change AWP _ _ _ _ _ _
 refine AWP.condT rfl (decide_eq_true (by decide)) ?_
 refine AWP.skip ?_
 change AWP _ _ _ _ _ _
 refine AWP.seq ?_
 refine AWP.block ?_
 refine AWP.region (l := [0, 1, 2, 3, 4, 5, 6, 7, 8, 9, 10]) rfl ?_
 refine AOps.cons rfl rfl (AOp.move (.int .i64 11) rfl rfl ?_)
 refine AOps.cons rfl rfl (AOp.move (.int .i64 11) rfl rfl ?_)
 refine AOps.cons rfl rfl (AOp.remP rfl rfl rfl (by omega) (by omega) ?_)
 refine AOps.cons rfl rfl (AOp.bin (.int .i64 9) rfl rfl rfl (imul (by omega)) ?_)
 refine AOps.cons rfl rfl (AOp.move (.int .i64 11) rfl rfl ?_)
 refine AOps.cons rfl rfl (AOp.quoP rfl rfl rfl (by omega) ?_)
 refine AOps.cons rfl rfl (AOp.bin (.int .i64 6) rfl rfl rfl (imul (by omega)) ?_)
 refine AOps.cons rfl rfl (AOp.build (cells := [.int .i64 9, .int .i64 6, .int .i64 0]) rfl tz_23 pl_23 rfl rfl ?_)
 refine AOps.cons rfl rfl (AOp.fieldAddr rfl rfl fl_28_0 ?_ (hid := ⟨_, h84⟩))
 refine AOps.cons rfl rfl (AOp.indexAddrA rfl rfl rfl ar_24 (by omega) (by omega) ⟨_, h84⟩ ?_)
 refine AOps.cons rfl rfl (AOp.store' (cells' := [.int .i64 0, .int .i64 0, .int .i64 0, .int .i64 3, .int .i64 0, .int .i64 0, .int .i64 6, .int .i64 0, .int .i64 0, .int .i64 9, .int .i64 0, .int .i64 0, .int .i64 0, .int .i64 3, .int .i64 0, .int .i64 3, .int .i64 3, .int .i64 0, .int .i64 6, .int .i64 3, .int .i64 0, .int .i64 9, .int .i64 3, .int .i64 0, .int .i64 0, .int .i64 6, .int .i64 0, .int .i64 3, .int .i64 6, .int .i64 0, .int .i64 6, .int .i64 6, .int .i64 0, .int .i64 9, .int .i64 6, .int .i64 0, .int .i64 0, .int .i64 0, .int .i64 0, .int .i64 0, .int .i64 0, .int .i64 0, .int .i64 0, .int .i64 0, .int .i64 0, .int .i64 0, .int .i64 0, .int .i64 0, .int .i64 0, .int .i64 1, .int .i64 2, .int .i64 3, .int .i64 0, .int .i64 0, .int .i64 0, .int .i64 0, .int .i64 0, .int .i64 0, .int .i64 0, .int .i64 0, .int .i64 0, .int .i64 0, .int .i64 0, .int .i64 0, .int .i64 0]) (.agg [.int .i64 9, .int .i64 6, .int .i64 0]) rfl rfl ts_23 h84 rfl rfl rfl rfl ?_)
 intro H89 h90 k91
 have h92 := keep k91 e13 h86
 have m94 := Mono.set m88 z14 k91
 refine AOps.nil ?_
 change AWP _ _ _ _ _ _
 refine AWP.region (l := [0, 1, 2]) rfl ?_
 refine AOps.cons rfl rfl (AOp.move (.int .i64 11) rfl rfl ?_)
 refine AOps.cons rfl rfl (AOp.bin (.int .i64 12) rfl rfl rfl (iadd (by omega)) ?_)
 refine AOps.cons rfl rfl (AOp.assign (.int .i64 12) rfl rfl ?_)
 refine AOps.nil ?_
 refine UN.step ?_
 refine AWP.seq ?_
 refine AWP.seq ?_
 refine AWP.region (l := [0, 1]) rfl ?_
 refine AOps.cons rfl rfl (AOp.move (.int .i64 12) rfl rfl ?_)
 refine AOps.cons rfl rfl (AOp.bin (.bool (decide (12 < 16))) rfl rfl rfl rfl ?_)
 refine AOps.nil ?_
 change AWP _ _ _ _ _ _
 refine AWP.condT rfl (decide_eq_true (by decide)) ?_
 refine AWP.skip ?_
 change AWP _ _ _ _ _ _
 refine AWP.seq ?_
 refine AWP.block ?_
 refine AWP.region (l := [0, 1, 2, 3, 4, 5, 6, 7, 8, 9, 10]) rfl ?_
 refine AOps.cons rfl rfl (AOp.move (.int .i64 12) rfl rfl ?_)
 refine AOps.cons rfl rfl (AOp.move (.int .i64 12) rfl rfl ?_)
 refine AOps.cons rfl rfl (AOp.remP rfl rfl rfl (by omega) (by omega) ?_)
 refine AOps.cons rfl rfl (AOp.bin (.int .i64 0) rfl rfl rfl (imul (by omega)) ?_)
 refine AOps.cons rfl rfl (AOp.move (.int .i64 12) rfl rfl ?_)
 refine AOps.cons rfl rfl (AOp.quoP rfl rfl rfl (by omega) ?_)
 refine AOps.cons rfl rfl (AOp.bin (.int .i64 9) rfl rfl rfl (imul (by omega)) ?_)
 refine AOps.cons rfl rfl (AOp.build (cells := [.int .i64 0, .int .i64 9, .int .i64 0]) rfl tz_23 pl_23 rfl rfl ?_)
 refine AOps.cons rfl rfl (AOp.fieldAddr rfl rfl fl_28_0 ?_ (hid := ⟨_, h90⟩))
 refine AOps.cons rfl rfl (AOp.indexAddrA rfl rfl rfl ar_24 (by omega) (by omega) ⟨_, h90⟩ ?_)
 refine AOps.cons rfl rfl (AOp.store' (cells' := [.int .i64 0, .int .i64 0, .int .i64 0, .int .i64 3, .int .i64 0, .int .i64 0, .int .i64 6, .int .i64 0, .int .i64 0, .int .i64 9, .int .i64 0, .int .i64 0, .int .i64 0, .int .i64 3, .int .i64 0, .int .i64 3, .int .i64 3, .int .i64 0, .int .i64 6, .int .i64 3, .int .i64 0, .int .i64 9, .int .i64 3, .int .i64 0, .int .i64 0, .int .i64 6, .int .i64 0, .int .i64 3, .int .i64 6, .int .i64 0, .int .i64 6, .int .i64 6, .int .i64 0, .int .i64 9, .int .i64 6, .int .i64 0, .int .i64 0, .int .i64 9, .int .i64 0, .int .i64 0, .int .i64 0, .int .i64 0, .int .i64 0, .int .i64 0, .int .i64 0, .int .i64 0, .int .i64 0, .int .i64 0, .int .i64 0, .int .i64 1, .int .i64 2, .int .i64 3, .int .i64 0, .int .i64 0, .int .i64 0, .int .i64 0, .int .i64 0, .int .i64 0, .int .i64 0, .int .i64 0, .int .i64 0, .int .i64 0, .int .i64 0, .int .i64 0, .int .i64 0]) (.agg [.int .i64 0, .int .i64 9, .int .i64 0]) rfl rfl ts_23 h90 rfl rfl rfl rfl ?_)
 intro H95 h96 k97
 have h98 := keep k97 e13 h92
 have m100 := Mono.set m94 z14 k97
 refine AOps.nil ?_
 change AWP _ _ _ _ _ _
 refine AWP.region (l := [0, 1, 2]) rfl ?_
 refine AOps.cons rfl rfl (AOp.move (.int .i64 12) rfl rfl ?_)
 refine AOps.cons rfl rfl (AOp.bin (.int .i64 13) rfl rfl rfl (iadd (by omega)) ?_)
 refine AOps.cons rfl rfl (AOp.assign (.int .i64 13) rfl rfl ?_)
 refine AOps.nil ?_
 refine UN.step ?_
 refine AWP.seq ?_
 refine AWP.seq ?_
 refine AWP.region (l := [0, 1]) rfl ?_
 refine AOps.cons rfl rfl (AOp.move (.int .i64 13) rfl rfl ?_)
 refine AOps.cons rfl rfl (AOp.bin (.bool (decide (13 < 16))) rfl rfl rfl rfl ?_)
 refine AOps.nil ?_
 change AWP _ _ _ _ _ _
 refine AWP.condT rfl (decide_eq_true (by decide)) ?_
 refine AWP.skip ?_
 change AWP _ _ _ _ _ _
 refine AWP.seq ?_
 refine AWP.block ?_
 refine AWP.region (l := [0, 1, 2, 3, 4, 5, 6, 7, 8, 9, 10]) rfl ?_
 refine AOps.cons rfl rfl (AOp.move (.int .i64 13) rfl rfl ?_)
 refine AOps.cons rfl rfl (AOp.move (.int .i64 13) rfl rfl ?_)
 refine AOps.cons rfl rfl (AOp.remP rfl rfl rfl (by omega) (by omega) ?_)
 refine AOps.cons rfl rfl (AOp.bin (.int .i64 3) rfl rfl rfl (imul (by omega)) ?_)
 refine AOps.cons rfl rfl (AOp.move (.int .i64 13) rfl rfl ?_)
 refine AOps.cons rfl rfl (AOp.quoP rfl rfl rfl (by omega) ?_)
 refine AOps.cons rfl rfl (AOp.bin (.int .i64 9) rfl rfl rfl (imul (by omega)) ?_)
 refine AOps.cons rfl rfl (AOp.build (cells := [.int .i64 3, .int .i64 9, .int .i64 0]) rfl tz_23 pl_23 rfl rfl ?_)
 refine AOps.cons rfl rfl (AOp.fieldAddr rfl rfl fl_28_0 ?_ (hid := ⟨_, h96⟩))
 refine AOps.cons rfl rfl (AOp.indexAddrA rfl rfl rfl ar_24 (by omega) (by omega) ⟨_, h96⟩ ?_)
 refine AOps.cons rfl rfl (AOp.store' (cells' := [.int .i64 0, .int .i64 0, .int .i64 0, .int .i64 3, .int .i64 0, .int .i64 0, .int .i64 6, .int .i64 0, .int .i64 0, .int .i64 9, .int .i64 0, .int .i64 0, .int .i64 0, .int .i64 3, .int .i64 0, .int .i64 3, .int .i64 3, .int .i64 0, .int .i64 6, .int .i64 3, .int .i64 0, .int .i64 9, .int .i64 3, .int .i64 0, .int .i64 0, .int .i64 6, .int .i64 0, .int .i64 3, .int .i64 6, .int .i64 0, .int .i64 6, .int .i64 6, .int .i64 0, .int .i64 9, .int .i64 6, .int .i64 0, .int .i64 0, .int .i64 9, .int .i64 0, .int .i64 3, .int .i64 9, .int .i64 0, .int .i64 0, .int .i64 0, .int .i64 0, .int .i64 0, .int .i64 0, .int .i64 0, .int .i64 0, .int .i64 1, .int .i64 2, .int .i64 3, .int .i64 0, .int .i64 0, .int .i64 0, .int .i64 0, .int .i64 0, .int .i64 0, .int .i64 0, .int .i64 0, .int .i64 0, .int .i64 0, .int .i64 0, .int .i64 0, .int .i64 0]) (.agg [.int .i64 3, .int .i64 9, .int .i64 0]) rfl rfl ts_23 h96 rfl rfl rfl rfl ?_)
 intro H101 h102 k103
 have h104 := keep k103 e13 h98
 have m106 := Mono.set m100 z14 k103
 refine AOps.nil ?_
 change AWP _ _ _ _ _ _
 refine AWP.region (l := [0, 1, 2]) rfl ?_
 refine AOps.cons rfl rfl (AOp.move (.int .i64 13) rfl rfl ?_)
 refine AOps.cons rfl rfl (AOp.bin (.int .i64 14) rfl rfl rfl (iadd (by omega)) ?_)
 refine AOps.cons rfl rfl (AOp.assign (.int .i64 14) rfl rfl ?_)
 refine AOps.nil ?_
 refine UN.step ?_
 refine AWP.seq ?_
 refine AWP.seq ?_
 refine AWP.region (l := [0, 1]) rfl ?_
 refine AOps.cons rfl rfl (AOp.move (.int .i64 14) rfl rfl ?_)
 refine AOps.cons rfl rfl (AOp.bin (.bool (decide (14 < 16))) rfl rfl rfl rfl ?_)
 refine AOps.nil ?_
 change AWP _ _ _ _ _ _
 refine AWP.condT rfl (decide_eq_true (by decide)) ?_
 refine AWP.skip ?_
 change AWP _ _ _ _ _ _
 refine AWP.seq ?_
 refine AWP.block ?_
 refine AWP.region (l := [0, 1, 2, 3, 4, 5, 6, 7, 8, 9, 10]) rfl ?_
 refine AOps.cons rfl rfl (AOp.move (.int .i64 14) rfl rfl ?_)
 refine AOps.cons rfl rfl (AOp.move (.int .i64 14) rfl rfl ?_)
 refine AOps.cons rfl rfl (AOp.remP rfl rfl rfl (by omega) (by omega) ?_)
 refine AOps.cons rfl rfl (AOp.bin (.int .i64 6) rfl rfl rfl (imul (by omega)) ?_)
 refine AOps.cons rfl rfl (AOp.move (.int .i64 14) rfl rfl ?_)
 refine AOps.cons rfl rfl (AOp.quoP rfl rfl rfl (by omega) ?_)
 refine AOps.cons rfl rfl (AOp.bin (.int .i64 9) rfl rfl rfl (imul (by omega)) ?_)
 refine AOps.cons rfl rfl (AOp.build (cells := [.int .i64 6, .int .i64 9, .int .i64 0]) rfl tz_23 pl_23 rfl rfl ?_)
 refine AOps.cons rfl rfl (AOp.fieldAddr rfl rfl fl_28_0 ?_ (hid := ⟨_, h102⟩))
 refine AOps.cons rfl rfl (AOp.indexAddrA rfl rfl rfl ar_24 (by omega) (by omega) ⟨_, h102⟩ ?_)
 refine AOps.cons rfl rfl (AOp.store' (cells' := [.int .i64 0, .int .i64 0, .int .i64 0, .int .i64 3, .int .i64 0, .int .i64 0, .int .i64 6, .int .i64 0, .int .i64 0, .int .i64 9, .int .i64 0, .int .i64 0, .int .i64 0, .int .i64 3, .int .i64 0, .int .i64 3, .int .i64 3, .int .i64 0, .int .i64 6, .int .i64 3, .int .i64 0, .int .i64 9, .int .i64 3, .int .i64 0, .int .i64 0, .int .i64 6, .int .i64 0, .int .i64 3, .int .i64 6, .int .i64 0, .int .i64 6, .int .i64 6, .int .i64 0, .int .i64 9, .int .i64 6, .int .i64 0, .int .i64 0, .int .i64 9, .int .i64 0, .int .i64 3, .int .i64 9, .int .i64 0, .int .i64 6, .int .i64 9, .int .i64 0, .int .i64 0, .int .i64 0, .int .i64 0, .int .i64 0, .int .i64 1, .int .i64 2, .int .i64 3, .int .i64 0, .int .i64 0, .int .i64 0, .int .i64 0, .int .i64 0, .int .i64 0, .int .i64 0, .int .i64 0, .int .i64 0, .int .i64 0, .int .i64 0, .int .i64 0, .int .i64 0]) (.agg [.int .i64 6, .int .i64 9, .int .i64 0]) rfl rfl ts_23 h102 rfl rfl rfl rfl ?_)
 intro H107 h108 k109
 have h110 := keep k109 e13 h104
 have m112 := Mono.set m106 z14 k109
 refine AOps.nil ?_
 change AWP _ _ _ _ _ _
 refine AWP.region (l := [0, 1, 2]) rfl ?_
 refine AOps.cons rfl rfl (AOp.move (.int .i64 14) rfl rfl ?_)
 refine AOps.cons rfl rfl (AOp.bin (.int .i64 15) rfl rfl rfl (iadd (by omega)) ?_)
 refine AOps.cons rfl rfl (AOp.assign (.int .i64 15) rfl rfl ?_)
 refine AOps.nil ?_
 refine UN.step ?_
 refine AWP.seq ?_
 refine AWP.seq ?_
 refine AWP.region (l := [0, 1]) rfl ?_
 refine AOps.cons rfl rfl (AOp.move (.int .i64 15) rfl rfl ?_)
 refine AOps.cons rfl rfl (AOp.bin (.bool (decide (15 < 16))) rfl rfl rfl rfl ?_)
 refine AOps.nil ?_
 change AWP _ _ _ _ _ _
 refine AWP.condT rfl (decide_eq_true (by decide)) ?_
 refine AWP.skip ?_
 change AWP _ _ _ _ _ _
 refine AWP.seq ?_
 refine AWP.block ?_
 refine AWP.region (l := [0, 1, 2, 3, 4, 5, 6, 7, 8, 9, 10]) rfl ?_
 refine AOps.cons rfl rfl (AOp.move (.int .i64 15) rfl rfl ?_)
 refine AOps.cons rfl rfl (AOp.move (.int .i64 15) rfl rfl ?_)
 refine AOps.cons rfl rfl (AOp.remP rfl rfl rfl (by omega) (by omega) ?_)
 refine AOps.cons rfl rfl (AOp.bin (.int .i64 9) rfl rfl rfl (imul (by omega)) ?_)
 refine AOps.cons rfl rfl (AOp.move (.int .i64 15) rfl rfl ?_)
 refine AOps.cons rfl rfl (AOp.quoP rfl rfl rfl (by omega) ?_)
 refine AOps.cons rfl rfl (AOp.bin (.int .i64 9) rfl rfl rfl (imul (by omega)) ?_)
 refine AOps.cons rfl rfl (AOp.build (cells := [.int .i64 9, .int .i64 9, .int .i64 0]) rfl tz_23 pl_23 rfl rfl ?_)
 refine AOps.cons rfl rfl (AOp.fieldAddr rfl rfl fl_28_0 ?_ (hid := ⟨_, h108⟩))
 refine AOps.cons rfl rfl (AOp.indexAddrA rfl rfl rfl ar_24 (by omega) (by omega) ⟨_, h108⟩ ?_)
 refine AOps.cons rfl rfl (AOp.store' (cells' := [.int .i64 0, .int .i64 0, .int .i64 0, .int .i64 3, .int .i64 0, .int .i64 0, .int .i64 6, .int .i64 0, .int .i64 0, .int .i64 9, .int .i64 0, .int .i64 0, .int .i64 0, .int .i64 3, .int .i64 0, .int .i64 3, .int .i64 3, .int .i64 0, .int .i64 6, .int .i64 3, .int .i64 0, .int .i64 9, .int .i64 3, .int .i64 0, .int .i64 0, .int .i64 6, .int .i64 0, .int .i64 3, .int .i64 6, .int .i64 0, .int .i64 6, .int .i64 6, .int .i64 0, .int .i64 9, .int .i64 6, .int .i64 0, .int .i64 0, .int .i64 9, .int .i64 0, .int .i64 3, .int .i64 9, .int .i64 0, .int .i64 6, .int .i64 9, .int .i64 0, .int .i64 9, .int .i64 9, .int .i64 0, .int .i64 0, .int .i64 1, .int .i64 2, .int .i64 3, .int .i64 0, .int .i64 0, .int .i64 0, .int .i64 0, .int .i64 0, .int .i64 0, .int .i64 0, .int .i64 0, .int .i64 0, .int .i64 0, .int .i64 0, .int .i64 0, .int .i64 0]) (.agg [.int .i64 9, .int .i64 9, .int .i64 0]) rfl rfl ts_23 h108 rfl rfl rfl rfl ?_)
 intro H113 h114 k115
 have h116 := keep k115 e13 h110
 have m118 := Mono.set m112 z14 k115
 refine AOps.nil ?_
 change AWP _ _ _ _ _ _
 refine AWP.region (l := [0, 1, 2]) rfl ?_
 refine AOps.cons rfl rfl (AOp.move (.int .i64 15) rfl rfl ?_)
 refine AOps.cons rfl rfl (AOp.bin (.int .i64 16) rfl rfl rfl (iadd (by omega)) ?_)
 refine AOps.cons rfl rfl (AOp.assign (.int .i64 16) rfl rfl ?_)
 refine AOps.nil ?_
 refine UN.step ?_
 refine AWP.seq ?_
 refine AWP.seq ?_
 refine AWP.region (l := [0, 1]) rfl ?_
 refine AOps.cons rfl rfl (AOp.move (.int .i64 16) rfl rfl ?_)
 refine AOps.cons rfl rfl (AOp.bin (.bool (decide (16 < 16))) rfl rfl rfl rfl ?_)
 refine AOps.nil ?_
 change AWP _ _ _ _ _ _
 refine AWP.condF rfl (decide_eq_false (by decide)) ?_
 refine AWP.exit ?_
 change AWP _ _ _ _ _ _
 refine AWP.seq ?_
 refine AWP.region (l := [0, 1]) rfl ?_
 refine AOps.cons rfl rfl (AOp.load (.agg [.int .i64 0, .int .i64 0, .int .i64 0, .int .i64 3, .int .i64 0, .int .i64 0, .int .i64 6, .int .i64 0, .int .i64 0, .int .i64 9, .int .i64 0, .int .i64 0, .int .i64 0, .int .i64 3, .int .i64 0, .int .i64 3, .int .i64 3, .int .i64 0, .int .i64 6, .int .i64 3, .int .i64 0, .int .i64 9, .int .i64 3, .int .i64 0, .int .i64 0, .int .i64 6, .int .i64 0, .int .i64 3, .int .i64 6, .int .i64 0, .int .i64 6, .int .i64 6, .int .i64 0, .int .i64 9, .int .i64 6, .int .i64 0, .int .i64 0, .int .i64 9, .int .i64 0, .int .i64 3, .int .i64 9, .int .i64 0, .int .i64 6, .int .i64 9, .int .i64 0, .int .i64 9, .int .i64 9, .int .i64 0, .int .i64 0, .int .i64 1, .int .i64 2, .int .i64 3, .int .i64 0, .int .i64 0, .int .i64 0, .int .i64 0, .int .i64 0, .int .i64 0, .int .i64 0, .int .i64 0, .int .i64 0, .int .i64 0, .int .i64 0, .int .i64 0, .int .i64 0]) rfl rfl ty_28 h114 rfl ?_)
 refine AOps.cons rfl rfl (AOp.store' (cells' := [.int .i64 0, .int .i64 0, .int .i64 0, .int .i64 3, .int .i64 0, .int .i64 0, .int .i64 6, .int .i64 0, .int .i64 0, .int .i64 9, .int .i64 0, .int .i64 0, .int .i64 0, .int .i64 3, .int .i64 0, .int .i64 3, .int .i64 3, .int .i64 0, .int .i64 6, .int .i64 3, .int .i64 0, .int .i64 9, .int .i64 3, .int .i64 0, .int .i64 0, .int .i64 6, .int .i64 0, .int .i64 3, .int .i64 6, .int .i64 0, .int .i64 6, .int .i64 6, .int .i64 0, .int .i64 9, .int .i64 6, .int .i64 0, .int .i64 0, .int .i64 9, .int .i64 0, .int .i64 3, .int .i64 9, .int .i64 0, .int .i64 6, .int .i64 9, .int .i64 0, .int .i64 9, .int .i64 9, .int .i64 0, .int .i64 0, .int .i64 1, .int .i64 2, .int .i64 3, .int .i64 0, .int .i64 0, .int .i64 0, .int .i64 0, .int .i64 0, .int .i64 0, .int .i64 0, .int .i64 0, .int .i64 0, .int .i64 0, .int .i64 0, .int .i64 0, .int .i64 0]) (.agg [.int .i64 0, .int .i64 0, .int .i64 0, .int .i64 3, .int .i64 0, .int .i64 0, .int .i64 6, .int .i64 0, .int .i64 0, .int .i64 9, .int .i64 0, .int .i64 0, .int .i64 0, .int .i64 3, .int .i64 0, .int .i64 3, .int .i64 3, .int .i64 0, .int .i64 6, .int .i64 3, .int .i64 0, .int .i64 9, .int .i64 3, .int .i64 0, .int .i64 0, .int .i64 6, .int .i64 0, .int .i64 3, .int .i64 6, .int .i64 0, .int .i64 6, .int .i64 6, .int .i64 0, .int .i64 9, .int .i64 6, .int .i64 0, .int .i64 0, .int .i64 9, .int .i64 0, .int .i64 3, .int .i64 9, .int .i64 0, .int .i64 6, .int .i64 9, .int .i64 0, .int .i64 9, .int .i64 9, .int .i64 0, .int .i64 0, .int .i64 1, .int .i64 2, .int .i64 3, .int .i64 0, .int .i64 0, .int .i64 0, .int .i64 0, .int .i64 0, .int .i64 0, .int .i64 0, .int .i64 0, .int .i64 0, .int .i64 0, .int .i64 0, .int .i64 0, .int .i64 0]) rfl rfl ts_28 h116 rfl rfl rfl rfl ?_)
 intro H119 h120 k121
 have h123 := keep k121 (Ne.symm e13) h114
 have m124 := Mono.set m118 z6 k121
 refine AOps.nil ?_
 change AWP _ _ _ _ _ _
 refine AWP.ret ?_
 refine ⟨_, _, Ghost.refl, .inr rfl, _, Res.list1 rfl (.cell (v := .agg [.int .i64 0, .int .i64 0, .int .i64 0, .int .i64 3, .int .i64 0, .int .i64 0, .int .i64 6, .int .i64 0, .int .i64 0, .int .i64 9, .int .i64 0, .int .i64 0, .int .i64 0, .int .i64 3, .int .i64 0, .int .i64 3, .int .i64 3, .int .i64 0, .int .i64 6, .int .i64 3, .int .i64 0, .int .i64 9, .int .i64 3, .int .i64 0, .int .i64 0, .int .i64 6, .int .i64 0, .int .i64 3, .int .i64 6, .int .i64 0, .int .i64 6, .int .i64 6, .int .i64 0, .int .i64 9, .int .i64 6, .int .i64 0, .int .i64 0, .int .i64 9, .int .i64 0, .int .i64 3, .int .i64 9, .int .i64 0, .int .i64 6, .int .i64 9, .int .i64 0, .int .i64 9, .int .i64 9, .int .i64 0, .int .i64 0, .int .i64 1, .int .i64 2, .int .i64 3, .int .i64 0, .int .i64 0, .int .i64 0, .int .i64 0, .int .i64 0, .int .i64 0, .int .i64 0, .int .i64 0, .int .i64 0, .int .i64 0, .int .i64 0, .int .i64 0, .int .i64 0]) rfl ty_28 h120 rfl (.nil)), ?_, m124⟩
 have hR : R_law15_flat = (PatchT.mk ([(VT.mk 0 0 0), (VT.mk 3 0 0), (VT.mk 6 0 0), (VT.mk 9 0 0), (VT.mk 0 3 0), (VT.mk 3 3 0), (VT.mk 6 3 0), (VT.mk 9 3 0), (VT.mk 0 6 0), (VT.mk 3 6 0), (VT.mk 6 6 0), (VT.mk 9 6 0), (VT.mk 0 9 0), (VT.mk 3 9 0), (VT.mk 6 9 0), (VT.mk 9 9 0)]) ([0, 1, 2, 3]) ([(VT.mk 0 0 0), (VT.mk 0 0 0), (VT.mk 0 0 0), (VT.mk 0 0 0)]) 0) := rfl
 exact (congrArg (fun r : PatchT => (.agg (r.aP.flatMap eV ++ (r.aCorners.map eI ++ (r.aNormals.flatMap eV ++ [.int .i64 r.Skin]))) : AV)) hR).symm
theorem c_long (texs : List TexT) (htl : texs.length ≤ 1048576) (htx : ∀ t ∈ texs, t.Rows.length ≤ 1048576) : PC Tryd.prog 10 [.sl texs.length (texs.flatMap eTex)] (.bool (longS texs)) := by
 intro H0
 refine ACalls.of_body' (n := 28) rfl rfl rfl rfl ?_
 have m0 := Mono.refl H0
 refine AWP.seq ?_
 refine AWP.region (l := [0]) rfl ?_
 refine AOps.cons rfl rfl (AOp.assign (.bool false) rfl rfl ?_)
 refine AOps.nil ?_
 change AWP _ _ _ _ _ _
 refine AWP.seq ?_
 refine AWP.region (l := [0]) rfl ?_
 refine AOps.cons rfl rfl (AOp.assign (.int .i64 0) rfl rfl ?_)
 refine AOps.nil ?_
 change AWP _ _ _ _ _ _
 refine AWP.seq ?_
 refine AWP.seq ?_
 refine AWP.region (l := [0]) rfl ?_
 refine AOps.cons rfl rfl (AOp.assign (.int .i64 0) rfl rfl ?_)
 refine AOps.nil ?_
 change AWP _ _ _ _ _ _
 refine AWP.block ?_
 refine AWP.loop (fun q1 fq Hq => ∃ (i : Int), q1 = (((texs.length : Int) : Int) - i).toNat ∧ fq 4 = .int .i64 i ∧ fq 3 = .int .i64 (sumR texs i.toNat) ∧ fq 0 = .sl texs.length (texs.flatMap eTex) ∧ Mono H0 Hq ∧ (0 ≤ i) ∧ (i ≤ (texs.length : Int)) ∧ (i ≤ 20) ∧ (0 ≤ sumR texs i.toNat ∧ sumR texs i.toNat ≤ 3000) ∧ (∀ j : Int, 0 ≤ j → j < i → sumR texs (j + 1).toNat ≤ 3000)) (k := (((texs.length : Int) : Int) - 0).toNat) ?_ ?_
 ·
  exact ⟨0, rfl, rfl, (congrArg (AV.int .i64) (show (0 : Int) = sumR texs (0 : Int).toNat from by rfl)), rfl, m0, by omega, by omega, by omega, by exact ⟨by simp [sumR], by simp [sumR]⟩, by intro j; omega⟩
 ·
  rintro _ f3 H2 ⟨i, rfl, s4, s5, s6, m7, hi0, hi1, hi2, hs, pre⟩
  refine AWP.seq ?_
  refine AWP.seq ?_
  refine AWP.region (l := [0, 1, 2, 3, 4, 5, 6, 7]) rfl ?_
  refine AOps.cons rfl rfl (AOp.move (.int .i64 i) rfl s4 ?_)
  refine AOps.cons rfl rfl (AOp.move (.sl texs.length (texs.flatMap eTex)) rfl s6 ?_)
  refine AOps.cons rfl rfl (AOp.len (m := texs.length) rfl rfl (.inr (.inl ⟨_, rfl⟩)) u_31 ?_)
  refine AOps.cons rfl rfl (AOp.bin (.bool (decide (i < (texs.length : Int)))) rfl rfl rfl rfl ?_)
  refine AOps.cons rfl rfl (AOp.move (.bool (decide (i < (texs.length : Int)))) rfl rfl ?_)
  by_cases b8 : i < (texs.length : Int)
  ·
   refine AOps.yes rfl rfl rfl rfl rfl rfl rfl (decide_eq_true b8) (AOp.move (.int .i64 i) rfl s4 ?_)
   refine AOps.yes rfl rfl rfl rfl rfl rfl rfl (decide_eq_true b8) (AOp.bin (.bool (decide (i < 20))) rfl rfl rfl rfl ?_)
   refine AOps.cons rfl rfl (AOp.pickT (.bool (decide (i < 20))) rfl rfl (decide_eq_true b8) rfl ?_)
   refine AOps.nil ?_
   change AWP _ _ _ _ _ _
   by_cases b9 : i < 20
   ·
    refine AWP.condT rfl (decide_eq_true b9) ?_
    refine AWP.skip ?_
    change AWP _ _ _ _ _ _
    refine AWP.seq ?_
    refine AWP.block ?_
    refine AWP.seq ?_
    have htr := htx _ (at_mem (i := i) (l := texs) (by omega) (by omega))
    have hpr := sumR_step (texs := texs) hi0 (by omega)
    refine AWP.region (l := [0, 1, 2, 3, 4, 5, 6, 7, 8]) rfl ?_
    refine AOps.cons rfl rfl (AOp.move (.int .i64 (sumR texs i.toNat)) rfl s5 ?_)
    refine AOps.cons rfl rfl (AOp.move (.sl texs.length (texs.flatMap eTex)) rfl s6 ?_)
    refine AOps.cons rfl rfl (AOp.move (.int .i64 i) rfl s4 ?_)
    refine AOps.cons rfl rfl (AOp.indexAddrS rfl rfl rfl sl_31 (by omega) (by omega) ?_)
    refine AOps.cons rfl rfl (AOp.fieldAddrF rfl rfl fl_65_3 ?_)
    refine AOps.cons rfl rfl (AOp.loadF (.sl ((at_ texs i).Rows).length (((at_ texs i).Rows).map eI)) rfl rfl ty_63 (ldF eTex_len (by omega) (by omega) rfl (by decide)) ?_)
    refine AOps.cons rfl rfl (AOp.len (m := ((at_ texs i).Rows).length) rfl rfl (.inr (.inl ⟨_, rfl⟩)) u_63 ?_)
    refine AOps.cons rfl rfl (AOp.bin (.int .i64 (sumR texs i.toNat + ((((at_ texs i).Rows).length) : Int))) rfl rfl rfl (iadd (by omega)) ?_)
    refine AOps.cons rfl rfl (AOp.assign (.int .i64 (sumR texs i.toNat + ((((at_ texs i).Rows).length) : Int))) rfl rfl ?_)
    refine AOps.nil ?_
    change AWP _ _ _ _ _ _
    refine AWP.seq ?_
    refine AWP.region (l := [0, 1]) rfl ?_
    refine AOps.cons rfl rfl (AOp.move (.int .i64 (sumR texs i.toNat + ((((at_ texs i).Rows).length) : Int))) rfl rfl ?_)
    refine AOps.cons rfl rfl (AOp.bin (.bool (decide (sumR texs i.toNat + ((((at_ texs i).Rows).length) : Int) > 3000))) rfl rfl rfl rfl ?_)
    refine AOps.nil ?_
    change AWP _ _ _ _ _ _
    by_cases b10 : sumR texs i.toNat + ((((at_ texs i).Rows).length) : Int) > 3000
    ·
     refine AWP.condT rfl (decide_eq_true b10) ?_
     refine AWP.seq ?_
     refine AWP.region (l := [0]) rfl ?_
     refine AOps.cons rfl rfl (AOp.assign (.bool true) rfl rfl ?_)
     refine AOps.nil ?_
     change AWP _ _ _ _ _ _
     refine AWP.ret ?_
     refine ⟨_, _, Ghost.refl, .inr rfl, _, Res.one rfl rfl, ?_, m7⟩
     exact (congrArg AV.bool (show (true : Bool) = longS texs from by first | exact long_hit hi0 (by omega) (by omega) (by omega) | exact long_end pre (by omega)))
    ·
     refine AWP.condF rfl (decide_eq_false b10) ?_
     refine AWP.skip ?_
     change AWP _ _ _ _ _ _
     refine AWP.region (l := [0, 1, 2]) rfl ?_
     refine AOps.cons rfl rfl (AOp.move (.int .i64 i) rfl s4 ?_)
     refine AOps.cons rfl rfl (AOp.bin (.int .i64 (i + 1)) rfl rfl rfl (iadd (by omega)) ?_)
     refine AOps.cons rfl rfl (AOp.assign (.int .i64 (i + 1)) rfl rfl ?_)
     refine AOps.nil ?_
     exact ⟨_, by omega, i + 1, rfl, rfl, (congrArg (AV.int .i64) (show (sumR texs i.toNat + ((((at_ texs i).Rows).length) : Int) : Int) = sumR texs (i + 1).toNat from by exact hpr)), s6, m7, by omega, by omega, by omega, by omega, by exact fa_step pre (by omega)⟩
   ·
    refine AWP.condF rfl (decide_eq_false b9) ?_
    refine AWP.exit ?_
    change AWP _ _ _ _ _ _
    refine AWP.seq ?_
    refine AWP.region (l := [0, 1, 2, 3]) rfl ?_
    refine AOps.cons rfl rfl (AOp.move (.sl texs.length (texs.flatMap eTex)) rfl s6 ?_)
    refine AOps.cons rfl rfl (AOp.len (m := texs.length) rfl rfl (.inr (.inl ⟨_, rfl⟩)) u_31 ?_)
    refine AOps.cons rfl rfl (AOp.bin (.bool (decide ((texs.length : Int) > 20))) rfl rfl rfl rfl ?_)
    refine AOps.cons rfl rfl (AOp.assign (.bool (decide ((texs.length : Int) > 20))) rfl rfl ?_)
    refine AOps.nil ?_
    change AWP _ _ _ _ _ _
    refine AWP.ret ?_
    refine ⟨_, _, Ghost.refl, .inr rfl, _, Res.one rfl rfl, ?_, m7⟩
    exact (congrArg AV.bool (show (decide ((texs.length : Int) > 20) : Bool) = longS texs from by first | exact long_hit hi0 (by omega) (by omega) (by omega) | exact long_end pre (by omega)))
  ·
   refine AOps.no rfl rfl rfl rfl rfl rfl rfl (ble_of (decide_eq_false b8) (by decide)) ?_
   refine AOps.no rfl rfl rfl rfl rfl rfl rfl (ble_of (decide_eq_false b8) (by decide)) ?_
   refine AOps.cons rfl rfl (AOp.pickF (.bool false) rfl rfl (decide_eq_false b8) rfl ?_)
   refine AOps.nil ?_
   change AWP _ _ _ _ _ _
   refine AWP.condF rfl rfl ?_
   refine AWP.exit ?_
   change AWP _ _ _ _ _ _
   refine AWP.seq ?_
   refine AWP.region (l := [0, 1, 2, 3]) rfl ?_
   refine AOps.cons rfl rfl (AOp.move (.sl texs.length (texs.flatMap eTex)) rfl s6 ?_)
   refine AOps.cons rfl rfl (AOp.len (m := texs.length) rfl rfl (.inr (.inl ⟨_, rfl⟩)) u_31 ?_)
   refine AOps.cons rfl rfl (AOp.bin (.bool (decide ((texs.length : Int) > 20))) rfl rfl rfl rfl ?_)
   refine AOps.cons rfl rfl (AOp.assign (.bool (decide ((texs.length : Int) > 20))) rfl rfl ?_)
   refine AOps.nil ?_
   change AWP _ _ _ _ _ _
   refine AWP.ret ?_
   refine ⟨_, _, Ghost.refl, .inr rfl, _, Res.one rfl rfl, ?_, m7⟩
   exact (congrArg AV.bool (show (decide ((texs.length : Int) > 20) : Bool) = longS texs from by first | exact long_hit hi0 (by omega) (by omega) (by omega) | exact long_end pre (by omega)))
end Go.Proofs.M
namespace Go.Proofs.M
open Go Go.AH
/-! ### The plain laws of a patch's mesh: hulls, rates, lifts -/
abbrev inB (b : BoxT) (v : VT) : Prop := b.Lo.X ≤ v.X ∧ v.X ≤ b.Hi.X ∧ b.Lo.Y ≤ v.Y ∧ v.Y ≤ b.Hi.Y ∧ b.Lo.Z ≤ v.Z ∧ v.Z ≤ b.Hi.Z
theorem fine_pts {p : PatchT} {s : SkinT} (h : R_mesh_fine p s = 0) : 1 ≤ s.Unit ∧ 0 ≤ s.Height ∧ s.Height ≤ 255 ∧ (∀ i : Int, 0 ≤ i → i < 16 → inV 60000 (at_ p.aP i)) ∧ (∀ i : Int, 0 ≤ i → i < 4 → inV 1023 (at_ p.aNormals i)) := by
  obtain ⟨h1, h2, h3, h4, h5⟩ := fine_ok h
  have a := p.lP
  have b := p.lNormals
  exact ⟨h1, h2, h3, fun i i0 i1 => allIn_T.1 h4 i i0 (by omega), fun i i0 i1 => allIn_T.1 h5 i i0 (by omega)⟩
theorem row_all {p : List VT} {Q : VT → Prop} (hp : ∀ i : Int, 0 ≤ i → i < 16 → Q (at_ p i)) {k : Int} (h0 : 0 ≤ k) (h4 : k < 4) : ∀ j : Int, 0 ≤ j → j < 4 → Q (at_ (R_curve_Row p k) j) := by
  rcases (by omega : k = 0 ∨ k = 1 ∨ k = 2 ∨ k = 3) with rfl | rfl | rfl | rfl
  · exact int4 (hp 0 (by omega) (by omega)) (hp 1 (by omega) (by omega)) (hp 2 (by omega) (by omega)) (hp 3 (by omega) (by omega))
  · exact int4 (hp 3 (by omega) (by omega)) (hp 7 (by omega) (by omega)) (hp 11 (by omega) (by omega)) (hp 15 (by omega) (by omega))
  · exact int4 (hp 15 (by omega) (by omega)) (hp 14 (by omega) (by omega)) (hp 13 (by omega) (by omega)) (hp 12 (by omega) (by omega))
  · exact int4 (hp 12 (by omega) (by omega)) (hp 8 (by omega) (by omega)) (hp 4 (by omega) (by omega)) (hp 0 (by omega) (by omega))
theorem len_ok {l : List VT} (hl : ∀ j : Int, 0 ≤ j → j < 4 → inV 65536 (at_ l j)) : (R_rate_Length l).2 = true := by
  unfold R_rate_Length
  rw [if_pos (withinvec_iff.2 (hl 0 (by omega) (by omega))), if_pos (withinvec_iff.2 (hl 1 (by omega) (by omega))), if_pos (withinvec_iff.2 (hl 2 (by omega) (by omega))), if_pos (withinvec_iff.2 (hl 3 (by omega) (by omega)))]
theorem edge_ok {l : List VT} {u : Int} (hl : ∀ j : Int, 0 ≤ j → j < 4 → inV 65536 (at_ l j)) (hu : 1 ≤ u) : R_rate_Edge l u = min (1 + (R_rate_Length l).1 / u) 16 ∧ 1 ≤ R_rate_Edge l u ∧ R_rate_Edge l u ≤ 16 := by
  have h := len_rng_rate l
  have hq := ediv_rng (n := (R_rate_Length l).1) (d := u) h.1 hu
  have e : R_rate_Edge l u = min (1 + (R_rate_Length l).1 / u) 16 := by
    unfold R_rate_Edge; rw [if_pos (len_ok hl), if_neg (by omega)]
  refine ⟨e, ?_, ?_⟩ <;> rw [e] <;> omega
theorem sides_rates {p : List VT} {u : Int} (hp : ∀ i : Int, 0 ≤ i → i < 16 → inV 60000 (at_ p i)) (hu : 1 ≤ u) : rates (R_rate_Sides p u) := by
  have h : ∀ k : Int, 0 ≤ k → k < 4 → 1 ≤ R_rate_Edge (R_curve_Row p k) u ∧ R_rate_Edge (R_curve_Row p k) u ≤ 16 := fun k h0 h4 =>
    (edge_ok (row_all (Q := inV 65536) (fun i i0 i1 => inV_le (hp i i0 i1) (by decide)) h0 h4) hu).2
  exact int4 (h 0 (by omega) (by omega)) (h 1 (by omega) (by omega)) (h 2 (by omega) (by omega)) (h 3 (by omega) (by omega))
/-! ### Rounded sums of weights stay within a box -/
theorem rnd_btw {n d lo hi : Int} (hd : 1 ≤ d) (h1 : lo * d ≤ n) (h2 : n ≤ hi * d) : lo ≤ rnd n d ∧ rnd n d ≤ hi := by
  have g := (rnd_iff (n := n) (q := rnd n d) hd).1 rfl
  have e1 : 2 * d * (rnd n d - hi) < 2 * d * 1 := by
    rw [Int.mul_sub]; have : 2 * d * hi = 2 * (hi * d) := by rw [Int.mul_assoc, Int.mul_comm d hi]
    omega
  have e2 : 2 * d * (-1) < 2 * d * (rnd n d - lo) := by
    rw [Int.mul_sub]; have : 2 * d * lo = 2 * (lo * d) := by rw [Int.mul_assoc, Int.mul_comm d lo]
    omega
  have := Int.lt_of_mul_lt_mul_left e1 (by omega)
  have := Int.lt_of_mul_lt_mul_left e2 (by omega)
  omega
theorem sumV_box {l : List VT} {wt : Int → Int} {b : BoxT} {n : Nat} (hl : ∀ k : Nat, k < n → inB b (at_ l (k : Int))) (hw : ∀ k : Nat, k < n → 0 ≤ wt (k : Int)) :
    b.Lo.X * sumW wt n ≤ (sumV l wt n).X ∧ (sumV l wt n).X ≤ b.Hi.X * sumW wt n ∧ b.Lo.Y * sumW wt n ≤ (sumV l wt n).Y ∧ (sumV l wt n).Y ≤ b.Hi.Y * sumW wt n ∧ b.Lo.Z * sumW wt n ≤ (sumV l wt n).Z ∧ (sumV l wt n).Z ≤ b.Hi.Z * sumW wt n := by
  induction n with
  | zero => simp [sumW, sumV]
  | succ n ih =>
    obtain ⟨a1, a2, a3, a4, a5, a6⟩ := ih (fun k hk => hl k (by omega)) (fun k hk => hw k (by omega))
    obtain ⟨c1, c2, c3, c4, c5, c6⟩ := hl n (by omega)
    have w := hw n (by omega)
    have d1 := Int.mul_le_mul_of_nonneg_right c1 w
    have d2 := Int.mul_le_mul_of_nonneg_right c2 w
    have d3 := Int.mul_le_mul_of_nonneg_right c3 w
    have d4 := Int.mul_le_mul_of_nonneg_right c4 w
    have d5 := Int.mul_le_mul_of_nonneg_right c5 w
    have d6 := Int.mul_le_mul_of_nonneg_right c6 w
    simp only [sumW, sumV, R_vec_Add, R_vec_Scale, Int.mul_add]
    exact ⟨by omega, by omega, by omega, by omega, by omega, by omega⟩
abbrev rndV (v : VT) (d : Int) : VT := VT.mk (rnd v.X d) (rnd v.Y d) (rnd v.Z d)
theorem round_V {v : VT} {d : Int} (h : inV 2305843009213693952 v) (h1 : 1 ≤ d) (hd : d ≤ 2305843009213693952) : VT.mk (R_vec_Round v.X d) (R_vec_Round v.Y d) (R_vec_Round v.Z d) = rndV v d := by
  obtain ⟨a1, a2, a3, a4, a5, a6⟩ := h
  rw [vround_eq ⟨a1, a2⟩ h1 hd, vround_eq ⟨a3, a4⟩ h1 hd, vround_eq ⟨a5, a6⟩ h1 hd]
theorem cube_rng {n : Int} (h1 : 1 ≤ n) (h2 : n ≤ 16) : 1 ≤ n * n * n ∧ n * n * n ≤ 4096 := by
  have a := Int.mul_le_mul h2 h2 (by omega) (by omega)
  have b := Int.mul_le_mul a h2 (by omega) (by omega)
  have c := Int.mul_le_mul h1 h1 (by omega) (by omega)
  have d := Int.mul_le_mul c h1 (by omega) (by omega)
  omega
theorem cubic_eq {p : List VT} (hp : p.length = 4) {i n : Int} (h : 1 ≤ n ∧ n ≤ 16 ∧ 0 ≤ i ∧ i ≤ n) (ha : ∀ j : Int, 0 ≤ j → j < 4 → inV 65536 (at_ p j)) :
    (R_curve_Cubic p i n).1 = rndV (sumV p (fun k => at_ (R_ref11_Weights i n) k) 4) (n * n * n) := by
  have hA : allIn p 65536 = true := allIn_T.2 fun j h0 h1 => ha j h0 (by omega)
  have hw := wts_rng h.2.2.1 h.2.2.2 h.2.1
  have hs := sumV_rng (l := p) (wt := fun k => at_ (R_ref11_Weights i n) k) (B := 12288) (n := 4) (fun k hk => ha k (by omega) (by omega)) (fun k hk => hw k (by omega) (by omega))
  have hc := cube_rng h.1 h.2.1
  unfold R_curve_Cubic
  rw [weights_ok h, if_pos rfl]
  unfold weighR
  rw [if_pos hA, hp, sumW4]
  exact round_V (inV_le hs (by decide)) hc.1 (by omega)
theorem point_eq {p : List VT} (hp : p.length = 16) {i n j m : Int} (h : 1 ≤ n ∧ n ≤ 16 ∧ 0 ≤ i ∧ i ≤ n) (g : 1 ≤ m ∧ m ≤ 16 ∧ 0 ≤ j ∧ j ≤ m) (ha : ∀ j : Int, 0 ≤ j → j < 16 → inV 65536 (at_ p j)) :
    (R_curve_Point p i n j m).1 = rndV (sumV p (fun k => at_ (R_ref11_Weights i n) (k % 4) * at_ (R_ref11_Weights j m) (k / 4)) 16) (n * n * n * m * m * m) ∧ 1 ≤ n * n * n * m * m * m := by
  have hA : allIn p 65536 = true := allIn_T.2 fun j h0 h1 => ha j h0 (by omega)
  have hw := wts_rng h.2.2.1 h.2.2.2 h.2.1
  have hw2 := wts_rng g.2.2.1 g.2.2.2 g.2.1
  have hs := sumV_rng (l := p) (wt := fun k => at_ (R_ref11_Weights i n) (k % 4) * at_ (R_ref11_Weights j m) (k / 4)) (B := 12288 * 12288) (n := 16) (fun k hk => ha k (by omega) (by omega)) (fun k hk => by
          have a := hw ((k : Int) % 4) (by omega) (by omega)
          have b := hw2 ((k : Int) / 4) (by omega) (by omega)
          exact ⟨Int.mul_nonneg a.1 b.1, Int.mul_le_mul a.2 b.2 b.1 (by omega)⟩)
  have hc := cube_rng h.1 h.2.1
  have hd := cube_rng g.1 g.2.1
  have e : n * n * n * m * m * m = n * n * n * (m * m * m) := by grind
  have u := Int.mul_le_mul hc.2 hd.2 (by omega) (by omega)
  have v := Int.mul_le_mul hc.1 hd.1 (by omega) (by omega)
  refine ⟨?_, by rw [e]; omega⟩
  unfold R_curve_Point
  rw [weights_ok h, weights_ok g, if_pos rfl, if_pos rfl]
  unfold weighR
  rw [if_pos hA, hp, sumW16]
  exact round_V (inV_le hs (by decide)) (by rw [e]; omega) (by rw [e]; omega)
theorem cubic_box {p : List VT} (hp : p.length = 4) {i n : Int} {b : BoxT} (h : 1 ≤ n ∧ n ≤ 16 ∧ 0 ≤ i ∧ i ≤ n) (ha : ∀ j : Int, 0 ≤ j → j < 4 → inV 65536 (at_ p j)) (hb : ∀ j : Int, 0 ≤ j → j < 4 → inB b (at_ p j)) : inB b (R_curve_Cubic p i n).1 := by
  have hw := wts_rng h.2.2.1 h.2.2.2 h.2.1
  rw [cubic_eq hp h ha]
  obtain ⟨a1, a2, a3, a4, a5, a6⟩ := sumV_box (l := p) (wt := fun k => at_ (R_ref11_Weights i n) k) (b := b) (n := 4) (fun k hk => hb k (by omega) (by omega)) (fun k hk => (hw k (by omega) (by omega)).1)
  rw [sumW4] at a1 a2 a3 a4 a5 a6
  have hc := cube_rng h.1 h.2.1
  have x := rnd_btw hc.1 a1 a2
  have y := rnd_btw hc.1 a3 a4
  have z := rnd_btw hc.1 a5 a6
  exact ⟨x.1, x.2, y.1, y.2, z.1, z.2⟩
theorem point_box {p : List VT} (hp : p.length = 16) {i n j m : Int} {b : BoxT} (h : 1 ≤ n ∧ n ≤ 16 ∧ 0 ≤ i ∧ i ≤ n) (g : 1 ≤ m ∧ m ≤ 16 ∧ 0 ≤ j ∧ j ≤ m) (ha : ∀ j : Int, 0 ≤ j → j < 16 → inV 65536 (at_ p j)) (hb : ∀ j : Int, 0 ≤ j → j < 16 → inB b (at_ p j)) : inB b (R_curve_Point p i n j m).1 := by
  have hw := wts_rng h.2.2.1 h.2.2.2 h.2.1
  have hw2 := wts_rng g.2.2.1 g.2.2.2 g.2.1
  obtain ⟨e, hc⟩ := point_eq hp h g ha
  rw [e]
  obtain ⟨a1, a2, a3, a4, a5, a6⟩ := sumV_box (l := p) (wt := fun k => at_ (R_ref11_Weights i n) (k % 4) * at_ (R_ref11_Weights j m) (k / 4)) (b := b) (n := 16) (fun k hk => hb k (by omega) (by omega)) (fun k hk => Int.mul_nonneg (hw ((k : Int) % 4) (by omega) (by omega)).1 (hw2 ((k : Int) / 4) (by omega) (by omega)).1)
  rw [sumW16] at a1 a2 a3 a4 a5 a6
  have x := rnd_btw hc a1 a2
  have y := rnd_btw hc a3 a4
  have z := rnd_btw hc a5 a6
  exact ⟨x.1, x.2, y.1, y.2, z.1, z.2⟩
theorem Row_len4 (p : List VT) (k : Int) : (R_curve_Row p k).length = 4 := R_curve_Row_len _ _
/-! ### A spot's vertex -/
theorem vtx_box {p : PatchT} {cage id : Int} {s : SkinT} {b : BoxT} (hf : R_mesh_fine p s = 0) {x : SpotT} (hx : x ∈ spotsL (R_rate_Sides p.aP s.Unit) (maxL (R_rate_Sides p.aP s.Unit))) (hb : ∀ j : Int, 0 ≤ j → j < 16 → inB b (at_ p.aP j)) : inB b (vtxD p cage id s x).atF := by
  obtain ⟨h1, h2, h3, h4, h5⟩ := fine_pts hf
  have hr := sides_rates h4 h1
  obtain ⟨m1, m2, _⟩ := weave_T (R_rate_Sides_len p.aP s.Unit) hr
  have h6 : ∀ i : Int, 0 ≤ i → i < 16 → inV 65536 (at_ p.aP i) := fun i i0 i1 => inV_le (h4 i i0 i1) (by decide)
  unfold vtxD R_mesh_vertex
  rcases mem_spots.1 hx with ⟨k1, k2, k3, k4⟩ | ⟨k1, k2, k3, k4, k5⟩ | ⟨k1, k2, k3, k4, k5⟩
  · rw [if_pos k1]
    have hg := crn_rng k2 k3
    exact hb _ hg.1 hg.2
  · rw [if_neg (by omega), if_pos k1]
    have hk := hr x.A k2 k3
    have := cubic_box (b := b) (Row_len4 p.aP x.A) (i := x.B) (n := at_ (R_rate_Sides p.aP s.Unit) x.A) ⟨hk.1, hk.2, by omega, by omega⟩ (row_all (Q := inV 65536) h6 k2 k3) (row_all (Q := inB b) hb k2 k3)
    unfold R_mesh_side
    split <;> exact this
  · rw [if_neg (by omega), if_neg (by omega)]
    exact point_box p.lP ⟨m2, m1, by omega, by omega⟩ ⟨m2, m1, by omega, by omega⟩ h6 hb
theorem vtx_in {p : PatchT} {cage id : Int} {s : SkinT} (hf : R_mesh_fine p s = 0) {x : SpotT} (hx : x ∈ spotsL (R_rate_Sides p.aP s.Unit) (maxL (R_rate_Sides p.aP s.Unit))) : inV 60000 (vtxD p cage id s x).atF :=
  vtx_box (b := ⟨⟨-60000, -60000, -60000⟩, ⟨60000, 60000, 60000⟩⟩) hf hx fun j h0 h1 => (fine_pts hf).2.2.2.1 j h0 h1
theorem vtx_up {p : PatchT} {cage id : Int} {s : SkinT} (hf : R_mesh_fine p s = 0) {x : SpotT} (hx : x ∈ spotsL (R_rate_Sides p.aP s.Unit) (maxL (R_rate_Sides p.aP s.Unit))) : inV 1023 (vtxD p cage id s x).up := by
  obtain ⟨h1, h2, h3, h4, h5⟩ := fine_pts hf
  unfold vtxD R_mesh_vertex
  rcases mem_spots.1 hx with ⟨k1, k2, k3, k4⟩ | ⟨k1, k2, k3, k4, k5⟩ | ⟨k1, k2, k3, k4, k5⟩
  · rw [if_pos k1]; exact h5 _ k2 k3
  · rw [if_neg (by omega), if_pos k1]
    unfold R_mesh_side
    split <;> exact inV_relief_Blend _ _ _ _
  · rw [if_neg (by omega), if_neg (by omega)]
    exact inV_relief_Mix _ _ _ _ _
/-! ### Lifts -/
theorem lift_near {v n : VT} {t h : Int} (hv : inV 60000 v) (hn : inV 1023 n) (ht : 0 ≤ t ∧ t ≤ 255) (hh : 0 ≤ h ∧ h ≤ 255) : ∃ d, (R_relief_Lift v n t h).1 = R_vec_Add v d ∧ inV h d := by
  unfold R_relief_Lift
  rw [if_pos (withinvec_iff.2 (inV_le hv (by decide))), if_pos (withinvec_iff.2 hn), if_neg (by omega), if_neg (by omega)]
  refine ⟨_, rfl, ?_⟩
  have hm := mul_nn (x := t) (k := h) ht hh
  have hk : 0 ≤ R_vec_Round (t * h) 255 ∧ R_vec_Round (t * h) 255 ≤ h := by
    rw [vround_eq (by omega) (by omega) (by omega)]
    have := Int.mul_le_mul_of_nonneg_right ht.2 hh.1
    exact rnd_btw (by omega) (by omega) (by rw [Int.mul_comm h 255]; exact this)
  obtain ⟨n1, n2, n3, n4, n5, n6⟩ := hn
  have one : ∀ c : Int, -1023 ≤ c → c ≤ 1023 → -h ≤ R_vec_Round (c * R_vec_Round (t * h) 255) 1024 ∧ R_vec_Round (c * R_vec_Round (t * h) 255) 1024 ≤ h := fun c c1 c2 => by
    have g := mul_rng (x := c) (k := R_vec_Round (t * h) 255) (A := 1023) (C := h) ⟨c1, c2⟩ (by omega)
    rw [vround_eq (by omega) (by omega) (by omega)]
    exact rnd_btw (by omega) (by omega) (by omega)
  have x := one n.X n1 n2
  have y := one n.Y n3 n4
  have z := one n.Z n5 n6
  exact ⟨x.1, x.2, y.1, y.2, z.1, z.2⟩
theorem texel_rng {t : TexT} {p : VT} (h : (R_relief_Texel t p).2 = true) : 0 ≤ (R_relief_Texel t p).1 ∧ (R_relief_Texel t p).1 ≤ 255 := by
  unfold R_relief_Texel at h ⊢
  split at h
  · rename_i hr
    split at h
    · rename_i hp
      rw [if_pos hr, if_pos hp]
      obtain ⟨a1, a2, a3, a4, a5, a6⟩ := right_iff.1 hr
      have s1 := step_rng (n := p.Y + p.Z) (m := t.H) a3
      have s2 := step_rng (n := p.X) (m := t.W) a1
      have := idx_lt s1 s2
      exact a6 _ this.1 (by omega)
    · cases h
  · cases h
theorem fD_near {p : PatchT} {cage id : Int} {s : SkinT} {texs : List TexT} (hf : R_mesh_fine p s = 0) {x : SpotT} (hx : x ∈ spotsL (R_rate_Sides p.aP s.Unit) (maxL (R_rate_Sides p.aP s.Unit))) (ho : (plT s texs (vtxD p cage id s x)).isSome = true) :
    ∃ d, fD p cage id s texs x = R_vec_Add (vtxD p cage id s x).atF d ∧ inV s.Height d := by
  obtain ⟨h1, h2, h3, h4, h5⟩ := fine_pts hf
  unfold fD
  unfold plT at ho ⊢
  split at ho
  · rename_i hc
    rw [if_pos hc]
    split at ho
    · rename_i ht
      rw [if_pos ht]
      have := texel_rng ht
      exact lift_near (vtx_in hf hx) (vtx_up hf hx) this ⟨h2, h3⟩
    · cases ho
  · rename_i hc
    rw [if_neg hc]
    refine ⟨⟨0, 0, 0⟩, ?_, inV_zero h2⟩
    simp [R_vec_Add]
/-! ### What is diced -/
theorem err_fine {p : PatchT} {s : SkinT} {texs : List TexT} (h : errD p s texs = 0) : R_mesh_fine p s = 0 := by
  unfold errD at h
  split at h
  · omega
  · exact h
theorem dice_2 {p : PatchT} {cage id : Int} {s : SkinT} {texs : List TexT} (h : (diceR p cage id s texs).2 = 0) : errD p s texs = 0 ∧ ∀ x ∈ (weaveR (R_rate_Sides p.aP s.Unit)).1, (plT s texs (vtxD p cage id s x)).isSome = true := by
  unfold diceR at h
  split at h
  · rename_i he; simp only at h; exact absurd h he
  · rename_i he
    have he : errD p s texs = 0 := by omega
    refine ⟨he, ?_⟩
    split at h
    · rename_i ha; exact List.all_eq_true.1 ha
    · simp at h
theorem dice_all {p : PatchT} {cage id : Int} {s : SkinT} {texs : List TexT} (h : errD p s texs = 0) (ha : ∀ x ∈ (weaveR (R_rate_Sides p.aP s.Unit)).1, (plT s texs (vtxD p cage id s x)).isSome = true) :
    diceR p cage id s texs = (⟨(spotsL (R_rate_Sides p.aP s.Unit) (maxL (R_rate_Sides p.aP s.Unit))).map (fD p cage id s texs), (spotsL (R_rate_Sides p.aP s.Unit) (maxL (R_rate_Sides p.aP s.Unit))).map (kD p cage id s), trisL (numL (spotsL (R_rate_Sides p.aP s.Unit) (maxL (R_rate_Sides p.aP s.Unit)))) (R_rate_Sides p.aP s.Unit) (maxL (R_rate_Sides p.aP s.Unit))⟩, 0) := by
  obtain ⟨h1, h2, h3, h4, h5⟩ := fine_pts (err_fine h)
  obtain ⟨m1, m2, e⟩ := weave_T (R_rate_Sides_len p.aP s.Unit) (sides_rates h4 h1)
  unfold diceR
  rw [if_neg (by omega), if_pos (List.all_eq_true.2 ha), e]
theorem dice_ok0 {p : PatchT} {cage id : Int} {s : SkinT} {texs : List TexT} (h : (diceR p cage id s texs).2 = 0) :
    R_mesh_fine p s = 0 ∧ rates (R_rate_Sides p.aP s.Unit) ∧ maxL (R_rate_Sides p.aP s.Unit) ≤ 16 ∧ 1 ≤ maxL (R_rate_Sides p.aP s.Unit) ∧ (∀ x ∈ spotsL (R_rate_Sides p.aP s.Unit) (maxL (R_rate_Sides p.aP s.Unit)), (plT s texs (vtxD p cage id s x)).isSome = true) ∧
    diceR p cage id s texs = (⟨(spotsL (R_rate_Sides p.aP s.Unit) (maxL (R_rate_Sides p.aP s.Unit))).map (fD p cage id s texs), (spotsL (R_rate_Sides p.aP s.Unit) (maxL (R_rate_Sides p.aP s.Unit))).map (kD p cage id s), trisL (numL (spotsL (R_rate_Sides p.aP s.Unit) (maxL (R_rate_Sides p.aP s.Unit)))) (R_rate_Sides p.aP s.Unit) (maxL (R_rate_Sides p.aP s.Unit))⟩, 0) := by
  obtain ⟨he, ha⟩ := dice_2 h
  have hf := err_fine he
  obtain ⟨h1, h2, h3, h4, h5⟩ := fine_pts hf
  obtain ⟨m1, m2, e⟩ := weave_T (R_rate_Sides_len p.aP s.Unit) (sides_rates h4 h1)
  refine ⟨hf, sides_rates h4 h1, m1, m2, fun x hx => ha x (by rw [e]; exact hx), dice_all he ha⟩
theorem tris_len {N : SpotT → Int} {rs : List Int} {m : Int} (hr : rates rs) (hm : m ≤ 16) : (trisL N rs m).length ≤ 1000 := by
  unfold trisL
  split
  · decide
  · have := midO_len (N := N) hm (b := m - 1) (by omega)
    have := strO_len (N := N) hr hm (k := 4) (by omega)
    rw [List.length_append]; omega
theorem dice_len (p : PatchT) (cage id : Int) (s : SkinT) (texs : List TexT) : (diceR p cage id s texs).1.Verts.length ≤ 400 ∧ (diceR p cage id s texs).1.Keys.length ≤ 400 ∧ (diceR p cage id s texs).1.Tris.length ≤ 1000 := by
  by_cases h : (diceR p cage id s texs).2 = 0
  · obtain ⟨hf, hr, m1, m2, ho, e⟩ := dice_ok0 h
    have a := spots_len hr m1
    rw [e]
    simp only [List.length_map]
    exact ⟨a, a, tris_len hr m1⟩
  · unfold diceR at h ⊢
    split
    · simp
    · split
      · rename_i h1 h2
        rw [if_neg h1, if_pos h2] at h
        exact absurd rfl h
      · simp
theorem dice_no {p : PatchT} {cage id : Int} {s : SkinT} {texs : List TexT} (h : ¬ (diceR p cage id s texs).2 = 0) : (diceR p cage id s texs).1 = ⟨[], [], []⟩ := by
  unfold diceR at h ⊢
  split
  · rfl
  · split
    · rename_i h1 h2
      rw [if_neg h1, if_pos h2] at h
      exact absurd rfl h
    · rfl
end Go.Proofs.M
namespace Go.Proofs.M
open Go Go.AH
/-! ### The tiny mesh that each law begins with -/
theorem al_d2 : (diceR R_law15_flat 0 0 (SkinT.mk ⟨#[]⟩ 0 0 100 (-1) 0) ([] : List TexT)).2 = 0 := by kernel_rfl
theorem al_b2 : (R_mesh_Bounds R_law15_flat (SkinT.mk ⟨#[]⟩ 0 0 1 0 3)).2 = 0 := by kernel_rfl
theorem al_t2 : (R_mesh_Tri ((diceR R_law15_flat 0 0 (SkinT.mk ⟨#[]⟩ 0 0 100 (-1) 0) ([] : List TexT)).1) 1).2 = true := by kernel_rfl
theorem al_v : (((((diceR R_law15_flat 0 0 (SkinT.mk ⟨#[]⟩ 0 0 100 (-1) 0) ([] : List TexT)).1).Verts).length) : Int) = 4 := by kernel_rfl
theorem al_k : (((((diceR R_law15_flat 0 0 (SkinT.mk ⟨#[]⟩ 0 0 100 (-1) 0) ([] : List TexT)).1).Keys).length) : Int) = 4 := by kernel_rfl
theorem al_t : (((((diceR R_law15_flat 0 0 (SkinT.mk ⟨#[]⟩ 0 0 100 (-1) 0) ([] : List TexT)).1).Tris).length) : Int) = 2 := by kernel_rfl
theorem al_hi : (R_mesh_Bounds R_law15_flat (SkinT.mk ⟨#[]⟩ 0 0 1 0 3)).1.Hi = VT.mk 14 14 5 := by kernel_rfl
theorem al_tb : (R_mesh_Tri ((diceR R_law15_flat 0 0 (SkinT.mk ⟨#[]⟩ 0 0 100 (-1) 0) ([] : List TexT)).1) 1).1.B = VT.mk 9 9 0 := by kernel_rfl
theorem ranV_lit {x y z : Int} (hx : -1000 ≤ x ∧ x ≤ 1000) (hy : -1000 ≤ y ∧ y ≤ 1000) (hz : -1000 ≤ z ∧ z ≤ 1000) : ranV (VT.mk x y z) := ranV_of (B := 1000) ⟨hx.1, hx.2, hy.1, hy.2, hz.1, hz.2⟩ (by decide)
/-! ### How many triangles -/
theorem fm_eq {α β : Type} {f : α → List β} {c : Nat} : ∀ {l : List α}, (∀ x ∈ l, (f x).length = c) → (l.flatMap f).length = l.length * c
  | [], _ => by simp
  | a :: l, h => by
    rw [List.flatMap_cons, List.length_append, List.length_cons, Nat.add_mul, h a (.head _), fm_eq (l := l) fun x hx => h x (.tail _ hx)]
    omega
theorem strF_full {N : SpotT → Int} {k r m : Int} : ∀ {n : Nat} {i t : Int}, i ≤ r → t ≤ m - 1 → (n : Int) = (r - i) + (m - 1 - t) → (strF N k r m n i t).length = n
  | 0, _, _, _, _, _ => rfl
  | n + 1, i, t, h1, h2, h3 => by
    unfold strF
    rw [if_pos (by omega)]
    split
    · rename_i h; rw [List.length_cons, strF_full (n := n) (i := i + 1) (t := t) (by omega) h2 (by omega)]
    · rename_i h
      have : t < m - 1 := by
        rcases Int.lt_or_le t (m - 1) with g | g
        · exact g
        · exact absurd ⟨by omega, .inl (by omega)⟩ h
      rw [List.length_cons, strF_full (n := n) (i := i) (t := t + 1) h1 (by omega) (by omega)]
theorem tris_cnt {N : SpotT → Int} {rs : List Int} {m : Int} (hl : rs.length = 4) (hr : rates rs) (hm : m = maxL rs) (h1 : 1 ≤ m) : ((trisL N rs m).length : Int) = 2 * (m * (m - 2)) + (at_ rs 0 + at_ rs 1 + at_ rs 2 + at_ rs 3) := by
  have hx : ∀ k : Int, 0 ≤ k → k < 4 → 1 ≤ at_ rs k ∧ at_ rs k ≤ m := fun k h0 h4 => ⟨(hr k h0 h4).1, by rw [hm]; exact (maxL_iff (l := rs) (by omega)).1 (Int.le_refl _) _ (at_mem h0 (by omega))⟩
  have a0 := hx 0 (by omega) (by omega)
  have a1 := hx 1 (by omega) (by omega)
  have a2 := hx 2 (by omega) (by omega)
  have a3 := hx 3 (by omega) (by omega)
  unfold trisL
  split
  · rename_i e; subst e; simp; omega
  · rename_i e
    have e1 : ∀ b, (midI N b (m - 1)).length = (m - 2).toNat * 2 := fun b => by
      unfold midI
      rw [fm_eq (c := 2) (fun _ _ => rfl), rg_len]
      rw [show (m - 1 - 1) = m - 2 by omega]
    have e2 : (midO N m (m - 1)).length = (m - 2).toNat * ((m - 2).toNat * 2) := by
      unfold midO
      rw [fm_eq (c := (m - 2).toNat * 2) (fun b _ => e1 b), rg_len]
      rw [show (m - 1 - 1) = m - 2 by omega]
    have e3 : ∀ k : Int, 0 ≤ k → k < 4 → ((strT N k (at_ rs k) m 0 1).length : Int) = at_ rs k + (m - 2) := fun k h0 h4 => by
      have := hx k h0 h4
      unfold strT
      rw [strF_full (by omega) (by omega) (by omega)]
      omega
    have e4 : strO N rs m 4 = strT N 0 (at_ rs 0) m 0 1 ++ (strT N 1 (at_ rs 1) m 0 1 ++ (strT N 2 (at_ rs 2) m 0 1 ++ (strT N 3 (at_ rs 3) m 0 1 ++ []))) := rfl
    rw [e4]
    simp only [List.length_append, List.length_nil]
    have b0 := e3 0 (by omega) (by omega)
    have b1 := e3 1 (by omega) (by omega)
    have b2 := e3 2 (by omega) (by omega)
    have b3 := e3 3 (by omega) (by omega)
    have e5 : ((midO N m (m - 1)).length : Int) = (m - 2) * (m - 2) * 2 := by
      rw [e2, Int.natCast_mul, Int.natCast_mul, Int.toNat_of_nonneg (by omega), Int.mul_assoc]; rfl
    have e6 : (m - 2) * (m - 2) * 2 + 4 * (m - 2) = 2 * (m * (m - 2)) := by grind
    omega
/-! ### MeshSmooth -/
theorem cor_at {rs : List Int} {m k : Int} (h0 : 0 ≤ k) (h4 : k < 4) : at_ (spotsL rs m) k = cor k ∧ k < (spotsL rs m).length := by
  have h := numL_mem (spot_cor (rs := rs) (m := m) h0 h4)
  have e : numL (spotsL rs m) (cor k) = k := numL_cor h0 h4
  rw [e] at h
  exact ⟨h.2.2, h.2.1⟩
/-! ### MeshNear -/
/-! ### MeshWithin -/
end Go.Proofs.M
