/- A part of the proof that a law answers true for every input of its row: own work, by an AI agent. -/
import Derived.Test.YtfgfalidpbbkhaaDoorB01
import Derived.KernelRfl
set_option linter.unusedSimpArgs false
set_option linter.unusedVariables false
namespace Go.Proofs.M
open Go Go.AH
set_option maxRecDepth 4000
set_option linter.unusedSimpArgs false
set_option linter.unusedVariables false
def R_relief_Mix (n : (List VT)) (i : Int) (k : Int) (j : Int) (m : Int) : VT × Bool :=
  if (R_relief_Blend (at_ n 0) (at_ n 1) i k).2 = true then (if (R_relief_Blend (at_ n 3) (at_ n 2) i k).2 = true then (((R_relief_Blend ((R_relief_Blend (at_ n 0) (at_ n 1) i k).1) ((R_relief_Blend (at_ n 3) (at_ n 2) i k).1) j m).1), (R_relief_Blend ((R_relief_Blend (at_ n 0) (at_ n 1) i k).1) ((R_relief_Blend (at_ n 3) (at_ n 2) i k).1) j m).2) else ((VT.mk 0 0 0), false)) else ((VT.mk 0 0 0), false)
abbrev Zrelief_Mix_0 (n : (List VT)) (i : Int) (k : Int) (j : Int) (m : Int) := R_relief_Blend ((R_relief_Blend (at_ n 0) (at_ n 1) i k).1) ((R_relief_Blend (at_ n 3) (at_ n 2) i k).1) j m
theorem c_relief_Mix (n : (List VT)) (h_n : n.length = 4) (i : Int) (k : Int) (j : Int) (m : Int) : PC Tryd.prog 87 [.agg (n.flatMap eV), J i, J k, J j, J m] (.tup [.agg [J (((R_relief_Mix n i k j m).1).X), J (((R_relief_Mix n i k j m).1).Y), J (((R_relief_Mix n i k j m).1).Z)], .bool ((R_relief_Mix n i k j m).2)]) := by
 intro H0
 refine ACalls.of_body' (n := 50) rfl rfl rfl rfl ?_
 have m0 := Mono.refl H0
 refine AWP.seq (AWP.region rfl ?_)
 refine AOps.cons rfl rfl (AOp.box (.agg (n.flatMap eV)) rfl rfl rfl ?_)
 intro i1 H2 n3 h4 k5
 have z6 := Mono.free m0 n3
 have m7 := Mono.new m0 n3 k5
 refine AOps.cons rfl rfl (AOp.alloc rfl tz_23 ?_)
 intro i8 H9 n10 h11 k12
 have e13 := ne_new h4 n10
 have z14 := Mono.free m7 n10
 have h15 := keep k12 (ne_new h4 n10) h4
 have m16 := Mono.new m7 n10 k12
 refine AOps.cons rfl rfl (AOp.assign _ rfl rfl ?_)
 refine AWP.seq ?_
 refine AWP.frzP 5 h15 z6 rfl m16 fun H17 m18 k19 => ?_
 have h20 := (k19 _ (Ne.symm e13)).trans h11
 refine AWP.region rfl ?_
 refine AOps.cons rfl rfl (AOp.indexAddrFA rfl rfl rfl ar_26 (by omega) (by omega) (AOps.cons rfl rfl (AOp.loadF _ rfl rfl ty_23 (ldM eV_len (i := 0) (by omega) (by have := h_n; omega)) (AOps.cons rfl rfl (AOp.indexAddrFA rfl rfl rfl ar_26 (by omega) (by omega) (AOps.cons rfl rfl (AOp.loadF _ rfl rfl ty_23 (ldM eV_len (i := 1) (by omega) (by have := h_n; omega)) (AOps.cons rfl rfl (AOp.move _ rfl rfl (AOps.cons rfl rfl (AOp.move _ rfl rfl ?_)))))))))))
 refine AOps.cons rfl rfl (AOp.pcall («as» := [.agg [J ((at_ n 0).X), J ((at_ n 0).Y), J ((at_ n 0).Z)], .agg [J ((at_ n 1).X), J ((at_ n 1).Y), J ((at_ n 1).Z)], J i, J k]) rfl rfl (rfl) tf_85 (c_relief_Blend (at_ n 0) (at_ n 1) i k) ?_)
 intro H21 m22
 have h23 := m22 _ _ h20
 have m24 := m18.trans m22
 refine AOps.cons rfl rfl (AOp.move _ rfl rfl (AOps.cons rfl rfl (AOp.extract _ rfl rfl rfl (AOps.cons rfl rfl (AOp.extract _ rfl rfl rfl (AOps.cons rfl rfl (AOp.alloc rfl tz_23 ?_)))))))
 intro i25 H26 n27 h28 k29
 have e30 := ne_new h23 n27
 have z31 := Mono.free m24 n27
 have h32 := keep k29 (ne_new h23 n27) h23
 have m33 := Mono.new m24 n27 k29
 refine AOps.cons rfl rfl (AOp.store' (cells' := [J (((R_relief_Blend (at_ n 0) (at_ n 1) i k).1).X), J (((R_relief_Blend (at_ n 0) (at_ n 1) i k).1).Y), J (((R_relief_Blend (at_ n 0) (at_ n 1) i k).1).Z)]) (.agg [J (((R_relief_Blend (at_ n 0) (at_ n 1) i k).1).X), J (((R_relief_Blend (at_ n 0) (at_ n 1) i k).1).Y), J (((R_relief_Blend (at_ n 0) (at_ n 1) i k).1).Z)]) rfl rfl ts_23 h28 rfl rfl rfl rfl ?_)
 intro H34 h35 k36
 have h37 := keep k36 e30 h32
 have m39 := Mono.set m33 z31 k36
 refine AOps.cons rfl rfl (AOp.assign _ rfl rfl ?_)
 refine AWP.seq ?_
 refine AWP.frzP 12 h35 z31 rfl m39 fun H40 m41 k42 => ?_
 have h43 := (k42 _ e30).trans h37
 refine AWP.region rfl ?_
 refine AOps.cons rfl rfl (AOp.indexAddrFA rfl rfl rfl ar_26 (by omega) (by omega) (AOps.cons rfl rfl (AOp.loadF _ rfl rfl ty_23 (ldM eV_len (i := 3) (by omega) (by have := h_n; omega)) (AOps.cons rfl rfl (AOp.indexAddrFA rfl rfl rfl ar_26 (by omega) (by omega) (AOps.cons rfl rfl (AOp.loadF _ rfl rfl ty_23 (ldM eV_len (i := 2) (by omega) (by have := h_n; omega)) (AOps.cons rfl rfl (AOp.move _ rfl rfl (AOps.cons rfl rfl (AOp.move _ rfl rfl ?_)))))))))))
 refine AOps.cons rfl rfl (AOp.pcall («as» := [.agg [J ((at_ n 3).X), J ((at_ n 3).Y), J ((at_ n 3).Z)], .agg [J ((at_ n 2).X), J ((at_ n 2).Y), J ((at_ n 2).Z)], J i, J k]) rfl rfl (rfl) tf_85 (c_relief_Blend (at_ n 3) (at_ n 2) i k) ?_)
 intro H44 m45
 have h46 := m45 _ _ h43
 have m47 := m41.trans m45
 refine AOps.cons rfl rfl (AOp.move _ rfl rfl (AOps.cons rfl rfl (AOp.extract _ rfl rfl rfl (AOps.cons rfl rfl (AOp.extract _ rfl rfl rfl (AOps.cons rfl rfl (AOp.alloc rfl tz_23 ?_)))))))
 intro i48 H49 n50 h51 k52
 have e53 := ne_new h46 n50
 have z54 := Mono.free m47 n50
 have h55 := keep k52 (ne_new h46 n50) h46
 have m56 := Mono.new m47 n50 k52
 refine AOps.cons rfl rfl (AOp.store' (cells' := [J (((R_relief_Blend (at_ n 3) (at_ n 2) i k).1).X), J (((R_relief_Blend (at_ n 3) (at_ n 2) i k).1).Y), J (((R_relief_Blend (at_ n 3) (at_ n 2) i k).1).Z)]) (.agg [J (((R_relief_Blend (at_ n 3) (at_ n 2) i k).1).X), J (((R_relief_Blend (at_ n 3) (at_ n 2) i k).1).Y), J (((R_relief_Blend (at_ n 3) (at_ n 2) i k).1).Z)]) rfl rfl ts_23 h51 rfl rfl rfl rfl ?_)
 intro H57 h58 k59
 have h60 := keep k59 e53 h55
 have m62 := Mono.set m56 z54 k59
 refine AOps.cons rfl rfl (AOp.assign _ rfl rfl ?_)
 refine AWP.seq ?_
 refine AWP.seq ?_
 refine AWP.frzP 14 h58 z54 rfl m62 fun H63 m64 k65 => ?_
 have h66 := (k65 _ e53).trans h60
 refine AWP.region rfl ?_
 refine AOps.cons rfl rfl (AOp.move _ rfl rfl (AOps.cons rfl rfl (AOp.not rfl rfl (AOps.cons rfl rfl (AOp.move _ rfl rfl ?_)))))
 rcases Bool.eq_false_or_eq_true ((R_relief_Blend (at_ n 0) (at_ n 1) i k).2) with b67 | b67
 refine AOps.yes rfl rfl rfl rfl rfl rfl rfl (nb b67) (AOp.move _ rfl rfl (AOps.yes rfl rfl rfl rfl rfl rfl rfl (nb b67) (AOp.not rfl rfl (AOps.cons rfl rfl (AOp.pickF _ rfl rfl (nb b67) rfl ?_)))))
 refine AOps.nil ?_
 change AWP _ _ _ _ _ _
 rcases Bool.eq_false_or_eq_true ((R_relief_Blend (at_ n 3) (at_ n 2) i k).2) with b68 | b68
 refine AWP.condF rfl (nb b68) ?_
 refine AWP.skip ?_
 refine AWP.seq (AWP.region rfl ?_)
 refine AOps.cons rfl rfl (AOp.loadF _ rfl rfl ty_23 rfl (AOps.cons rfl rfl (AOp.loadF _ rfl rfl ty_23 rfl (AOps.cons rfl rfl (AOp.move _ rfl rfl (AOps.cons rfl rfl (AOp.move _ rfl rfl (AOps.cons rfl rfl (AOp.pcall («as» := [.agg [J (((R_relief_Blend (at_ n 0) (at_ n 1) i k).1).X), J (((R_relief_Blend (at_ n 0) (at_ n 1) i k).1).Y), J (((R_relief_Blend (at_ n 0) (at_ n 1) i k).1).Z)], .agg [J (((R_relief_Blend (at_ n 3) (at_ n 2) i k).1).X), J (((R_relief_Blend (at_ n 3) (at_ n 2) i k).1).Y), J (((R_relief_Blend (at_ n 3) (at_ n 2) i k).1).Z)], J j, J m]) rfl rfl (rfl) tf_85 (c_relief_Blend ((R_relief_Blend (at_ n 0) (at_ n 1) i k).1) ((R_relief_Blend (at_ n 3) (at_ n 2) i k).1) j m) ?_)))))))))
 intro H69 m70
 have h71 := m70 _ _ h66
 have m72 := m64.trans m70
 refine AOps.cons rfl rfl (AOp.extract _ rfl rfl rfl (AOps.cons rfl rfl (AOp.extract _ rfl rfl rfl (AOps.cons rfl rfl (AOp.store' (cells' := [J (((Zrelief_Mix_0 n i k j m).1).X), J (((Zrelief_Mix_0 n i k j m).1).Y), J (((Zrelief_Mix_0 n i k j m).1).Z)]) (.agg [J (((Zrelief_Mix_0 n i k j m).1).X), J (((Zrelief_Mix_0 n i k j m).1).Y), J (((Zrelief_Mix_0 n i k j m).1).Z)]) rfl rfl ts_23 h71 rfl rfl rfl rfl ?_)))))
 intro H73 h74 k75
 have m77 := Mono.set m72 z14 k75
 refine AOps.cons rfl rfl (AOp.assign _ rfl rfl ?_)
 refine AWP.ret ?_
 refine ⟨_, _, Ghost.refl, .inr rfl, _, Res.list rfl rfl (.cell (v := .agg [J (((Zrelief_Mix_0 n i k j m).1).X), J (((Zrelief_Mix_0 n i k j m).1).Y), J (((Zrelief_Mix_0 n i k j m).1).Z)]) rfl ty_23 h74 rfl (.tmp rfl (.nil))), ?_, m77⟩
 have hR : R_relief_Mix n i k j m = (((Zrelief_Mix_0 n i k j m).1), (Zrelief_Mix_0 n i k j m).2) := by unfold R_relief_Mix; rw [if_pos b67, if_pos b68]
 exact (congrArg (fun r : VT × Bool => (.tup [.agg [J r.1.X, J r.1.Y, J r.1.Z], .bool r.2] : AV)) hR).symm
 refine AWP.condT rfl (nb b68) ?_
 refine AWP.seq (AWP.region rfl ?_)
 refine AOps.cons rfl rfl (AOp.build (cells := [J 0, J 0, J 0]) rfl tz_23 pl_23 rfl rfl (AOps.cons rfl rfl (AOp.store' (cells' := [J 0, J 0, J 0]) (.agg [J 0, J 0, J 0]) rfl rfl ts_23 h66 rfl rfl rfl rfl ?_)))
 intro H78 h79 k80
 have m82 := Mono.set m64 z14 k80
 refine AOps.cons rfl rfl (AOp.assign _ rfl rfl ?_)
 refine AWP.ret ?_
 refine ⟨_, _, Ghost.refl, .inr rfl, _, Res.list rfl rfl (.cell (v := .agg [J 0, J 0, J 0]) rfl ty_23 h79 rfl (.tmp rfl (.nil))), ?_, m82⟩
 have hR : R_relief_Mix n i k j m = ((VT.mk 0 0 0), false) := by unfold R_relief_Mix; rw [if_pos b67, if_neg (ff b68)]
 exact (congrArg (fun r : VT × Bool => (.tup [.agg [J r.1.X, J r.1.Y, J r.1.Z], .bool r.2] : AV)) hR).symm
 refine AOps.no rfl rfl rfl rfl rfl rfl rfl (ble_of (nb b67) (by decide)) (AOps.no rfl rfl rfl rfl rfl rfl rfl (ble_of (nb b67) (by decide)) (AOps.cons rfl rfl (AOp.pickT _ rfl rfl (nb b67) rfl ?_)))
 refine AWP.condT rfl rfl ?_
 refine AWP.seq (AWP.region rfl ?_)
 refine AOps.cons rfl rfl (AOp.build (cells := [J 0, J 0, J 0]) rfl tz_23 pl_23 rfl rfl (AOps.cons rfl rfl (AOp.store' (cells' := [J 0, J 0, J 0]) (.agg [J 0, J 0, J 0]) rfl rfl ts_23 h66 rfl rfl rfl rfl ?_)))
 intro H83 h84 k85
 have m87 := Mono.set m64 z14 k85
 refine AOps.cons rfl rfl (AOp.assign _ rfl rfl ?_)
 refine AWP.ret ?_
 refine ⟨_, _, Ghost.refl, .inr rfl, _, Res.list rfl rfl (.cell (v := .agg [J 0, J 0, J 0]) rfl ty_23 h84 rfl (.tmp rfl (.nil))), ?_, m87⟩
 have hR : R_relief_Mix n i k j m = ((VT.mk 0 0 0), false) := by unfold R_relief_Mix; rw [if_neg (ff b67)]
 exact (congrArg (fun r : VT × Bool => (.tup [.agg [J r.1.X, J r.1.Y, J r.1.Z], .bool r.2] : AV)) hR).symm
def R_relief_Lift (p : VT) (n : VT) (t : Int) (h : Int) : VT × Bool :=
  if R_vec_Within p 65024 = true then (if R_vec_Within n 1023 = true then (if min t h < 0 then ((VT.mk 0 0 0), false) else (if max t h > 255 then ((VT.mk 0 0 0), false) else ((R_vec_Add p (R_relief_of (R_vec_Scale n (R_vec_Round (t * h) 255)) 1024)), true))) else ((VT.mk 0 0 0), false)) else ((VT.mk 0 0 0), false)
abbrev Zrelief_Lift_0 (n : VT) (t : Int) (h : Int) := R_relief_of (R_vec_Scale n (R_vec_Round (t * h) 255)) 1024
theorem c_relief_Lift (p : VT) (n : VT) (t : Int) (h : Int) : PC Tryd.prog 29 [.agg [J p.X, J p.Y, J p.Z], .agg [J n.X, J n.Y, J n.Z], J t, J h] (.tup [.agg [J (((R_relief_Lift p n t h).1).X), J (((R_relief_Lift p n t h).1).Y), J (((R_relief_Lift p n t h).1).Z)], .bool ((R_relief_Lift p n t h).2)]) := by
 intro H0
 refine ACalls.of_body' (n := 42) rfl rfl rfl rfl ?_
 have m0 := Mono.refl H0
 refine AWP.seq (AWP.region rfl ?_)
 refine AOps.cons rfl rfl (AOp.box (.agg [J p.X, J p.Y, J p.Z]) rfl rfl rfl ?_)
 intro i1 H2 n3 h4 k5
 have z6 := Mono.free m0 n3
 have m7 := Mono.new m0 n3 k5
 refine AOps.cons rfl rfl (AOp.box (.agg [J n.X, J n.Y, J n.Z]) rfl rfl rfl ?_)
 intro i8 H9 n10 h11 k12
 have e13 := ne_new h4 n10
 have z14 := Mono.free m7 n10
 have h15 := keep k12 (ne_new h4 n10) h4
 have m16 := Mono.new m7 n10 k12
 refine AOps.cons rfl rfl (AOp.alloc rfl tz_23 ?_)
 intro i17 H18 n19 h20 k21
 have e22 := ne_new h15 n19
 have e23 := ne_new h11 n19
 have z24 := Mono.free m16 n19
 have h25 := keep k21 (ne_new h15 n19) h15
 have h26 := keep k21 (ne_new h11 n19) h11
 have m27 := Mono.new m16 n19 k21
 refine AOps.cons rfl rfl (AOp.assign _ rfl rfl ?_)
 refine AWP.seq ?_
 refine AWP.seq ?_
 refine AWP.frzP 4 h25 z6 rfl m27 fun H28 m29 k30 => ?_
 have h31 := (k30 _ (Ne.symm e13)).trans h26
 have h32 := (k30 _ (Ne.symm e22)).trans h20
 refine AWP.frzP 5 h31 z14 rfl m29 fun H33 m34 k35 => ?_
 have h36 := (k35 _ (Ne.symm e23)).trans h32
 refine AWP.region rfl ?_
 refine AOps.cons rfl rfl (AOp.loadF _ rfl rfl ty_23 rfl (AOps.cons rfl rfl (AOp.pcall («as» := [.agg [J p.X, J p.Y, J p.Z], J 65024]) rfl rfl (rfl) tf_18 (c_vec_Within p 65024 (by first | omega | assumption | (constructor <;> omega) | simp)) ?_)))
 intro H37 m38
 have h39 := m38 _ _ h36
 have m40 := m34.trans m38
 refine AOps.cons rfl rfl (AOp.not rfl rfl (AOps.cons rfl rfl (AOp.move _ rfl rfl ?_)))
 rcases Bool.eq_false_or_eq_true (R_vec_Within p 65024) with b41 | b41
 have iv42 : inV 65024 p := withinvec_in b41
 refine AOps.yes rfl rfl rfl rfl rfl rfl rfl (nb b41) (AOp.loadF _ rfl rfl ty_23 rfl (AOps.yes rfl rfl rfl rfl rfl rfl rfl (nb b41) (AOp.pcall («as» := [.agg [J n.X, J n.Y, J n.Z], J 1023]) rfl rfl (rfl) tf_18 (c_vec_Within n 1023 (by first | omega | assumption | (constructor <;> omega) | simp)) ?_)))
 intro H43 m44
 have h45 := m44 _ _ h39
 have m46 := m40.trans m44
 refine AOps.yes rfl rfl rfl rfl rfl rfl rfl (nb b41) (AOp.not rfl rfl (AOps.cons rfl rfl (AOp.pickF _ rfl rfl (nb b41) rfl (AOps.cons rfl rfl (AOp.move _ rfl rfl ?_)))))
 rcases Bool.eq_false_or_eq_true (R_vec_Within n 1023) with b47 | b47
 have iv48 : inV 1023 n := withinvec_in b47
 refine AOps.yes rfl rfl rfl rfl rfl rfl rfl (nb b47) (AOp.move _ rfl rfl (AOps.yes rfl rfl rfl rfl rfl rfl rfl (nb b47) (AOp.move _ rfl rfl (AOps.yes rfl rfl rfl rfl rfl rfl rfl (nb b47) (AOp.min2 rfl rfl rfl (AOps.yes rfl rfl rfl rfl rfl rfl rfl (nb b47) (AOp.bin _ rfl rfl rfl rfl (AOps.cons rfl rfl (AOp.pickF _ rfl rfl (nb b47) rfl (AOps.cons rfl rfl (AOp.move _ rfl rfl ?_)))))))))))
 by_cases b49 : min t h < 0
 refine AOps.no rfl rfl rfl rfl rfl rfl rfl (ble_of (decide_eq_true b49) (by decide)) (AOps.no rfl rfl rfl rfl rfl rfl rfl (ble_of (decide_eq_true b49) (by decide)) (AOps.no rfl rfl rfl rfl rfl rfl rfl (ble_of (decide_eq_true b49) (by decide)) (AOps.no rfl rfl rfl rfl rfl rfl rfl (ble_of (decide_eq_true b49) (by decide)) (AOps.cons rfl rfl (AOp.pickT _ rfl rfl (decide_eq_true b49) rfl ?_)))))
 refine AWP.condT rfl rfl ?_
 refine AWP.seq (AWP.region rfl ?_)
 refine AOps.cons rfl rfl (AOp.build (cells := [J 0, J 0, J 0]) rfl tz_23 pl_23 rfl rfl (AOps.cons rfl rfl (AOp.store' (cells' := [J 0, J 0, J 0]) (.agg [J 0, J 0, J 0]) rfl rfl ts_23 h45 rfl rfl rfl rfl ?_)))
 intro H50 h51 k52
 have m54 := Mono.set m46 z24 k52
 refine AOps.cons rfl rfl (AOp.assign _ rfl rfl ?_)
 refine AWP.ret ?_
 refine ⟨_, _, Ghost.refl, .inr rfl, _, Res.list rfl rfl (.cell (v := .agg [J 0, J 0, J 0]) rfl ty_23 h51 rfl (.tmp rfl (.nil))), ?_, m54⟩
 have hR : R_relief_Lift p n t h = ((VT.mk 0 0 0), false) := by unfold R_relief_Lift; rw [if_pos b41, if_pos b47, if_pos b49]
 exact (congrArg (fun r : VT × Bool => (.tup [.agg [J r.1.X, J r.1.Y, J r.1.Z], .bool r.2] : AV)) hR).symm
 refine AOps.yes rfl rfl rfl rfl rfl rfl rfl (decide_eq_false b49) (AOp.move _ rfl rfl (AOps.yes rfl rfl rfl rfl rfl rfl rfl (decide_eq_false b49) (AOp.move _ rfl rfl (AOps.yes rfl rfl rfl rfl rfl rfl rfl (decide_eq_false b49) (AOp.max2 rfl rfl rfl (AOps.yes rfl rfl rfl rfl rfl rfl rfl (decide_eq_false b49) (AOp.bin _ rfl rfl rfl rfl (AOps.cons rfl rfl (AOp.pickF _ rfl rfl (decide_eq_false b49) rfl ?_)))))))))
 refine AOps.nil ?_
 change AWP _ _ _ _ _ _
 by_cases b55 : max t h > 255
 refine AWP.condT rfl (decide_eq_true b55) ?_
 refine AWP.seq (AWP.region rfl ?_)
 refine AOps.cons rfl rfl (AOp.build (cells := [J 0, J 0, J 0]) rfl tz_23 pl_23 rfl rfl (AOps.cons rfl rfl (AOp.store' (cells' := [J 0, J 0, J 0]) (.agg [J 0, J 0, J 0]) rfl rfl ts_23 h45 rfl rfl rfl rfl ?_)))
 intro H56 h57 k58
 have m60 := Mono.set m46 z24 k58
 refine AOps.cons rfl rfl (AOp.assign _ rfl rfl ?_)
 refine AWP.ret ?_
 refine ⟨_, _, Ghost.refl, .inr rfl, _, Res.list rfl rfl (.cell (v := .agg [J 0, J 0, J 0]) rfl ty_23 h57 rfl (.tmp rfl (.nil))), ?_, m60⟩
 have hR : R_relief_Lift p n t h = ((VT.mk 0 0 0), false) := by unfold R_relief_Lift; rw [if_pos b41, if_pos b47, if_neg b49, if_pos b55]
 exact (congrArg (fun r : VT × Bool => (.tup [.agg [J r.1.X, J r.1.Y, J r.1.Z], .bool r.2] : AV)) hR).symm
 refine AWP.condF rfl (decide_eq_false b55) ?_
 refine AWP.skip ?_
 refine AWP.seq ?_
 have hm := mul_rng (x := t) (k := h) (A := 255) (C := 255) (by omega) (by omega)
 refine AWP.region rfl ?_
 refine AOps.cons rfl rfl (AOp.move _ rfl rfl (AOps.cons rfl rfl (AOp.move _ rfl rfl (AOps.cons rfl rfl (AOp.bin _ rfl rfl rfl (imul (by have := mul_rng (x := t) (k := h) (A := 255) (C := 255) (by omega) (by omega); omega)) (AOps.cons rfl rfl (AOp.pcall («as» := [J (t * h), J 255]) rfl rfl (rfl) tf_57 (c_vec_Round (t * h) 255 (by first | omega | assumption | (constructor <;> omega) | simp) (by first | omega | assumption | (constructor <;> omega) | simp)) ?_)))))))
 intro H61 m62
 have h63 := m62 _ _ h45
 have m64 := m46.trans m62
 refine AOps.cons rfl rfl (AOp.assign _ rfl rfl ?_)
 refine AWP.seq ?_
 have hk := vround_rng (n := t * h) (d := 255) (B := 65025) (by omega) (by decide) (by decide)
 refine AWP.region_quiet mixed (by kernel_rfl) 6 [6, 7] rfl (by kernel_rfl) (Mono H61) (Mono.refl _) ?_
 refine QE.op rfl rfl (.inl ⟨rfl, fun f' H' hf hM => AOp.loadF _ rfl ((hf 4 rfl).trans rfl) ty_23 rfl ⟨rfl, hM⟩⟩) ?_
 refine QE.op rfl rfl (.inl ⟨rfl, fun f' H' hf hM => AOp.loadF _ rfl ((hf 5 rfl).trans rfl) ty_23 rfl ⟨rfl, hM⟩⟩) ?_
 refine QE.op rfl rfl (.inl ⟨rfl, fun f' H' hf hM => AOp.move _ rfl ((hf 10 rfl).trans rfl) ⟨rfl, hM⟩⟩) ?_
 refine QE.op rfl rfl (.inl ⟨rfl, fun f' H' hf hM => AOp.pcall («as» := [.agg [J n.X, J n.Y, J n.Z], J (R_vec_Round (t * h) 255)]) rfl rfl (lapp (lcons ((hf 37 rfl).trans rfl) (lcons ((hf 38 rfl).trans rfl) rfl)) rfl) tf_59 (c_vec_Scale n (R_vec_Round (t * h) 255) (mulV_of iv48 (C := 65025) hk (by decide))) fun H2 m2 => ⟨rfl, hM.trans m2⟩⟩) ?_
 refine QE.op rfl rfl (.inl ⟨rfl, fun f' H' hf hM => AOp.pcall («as» := [.agg [J ((R_vec_Scale n (R_vec_Round (t * h) 255)).X), J ((R_vec_Scale n (R_vec_Round (t * h) 255)).Y), J ((R_vec_Scale n (R_vec_Round (t * h) 255)).Z)], J 1024]) rfl rfl (lapp (lcons ((hf 39 rfl).trans rfl) (lcons rfl rfl)) rfl) tf_58 (c_relief_of (R_vec_Scale n (R_vec_Round (t * h) 255)) 1024 (inV_le (inV_le (inV_vec_Scale iv48 (C := 65025) hk) (by decide) : inV 66520575 _) (by decide)) (by first | omega | assumption)) fun H2 m2 => ⟨rfl, hM.trans m2⟩⟩) ?_
 refine QE.op rfl rfl (.inl ⟨rfl, fun f' H' hf hM => AOp.pcall («as» := [.agg [J p.X, J p.Y, J p.Z], .agg [J ((Zrelief_Lift_0 n t h).X), J ((Zrelief_Lift_0 n t h).Y), J ((Zrelief_Lift_0 n t h).Z)]]) rfl rfl (lapp (lcons ((hf 36 rfl).trans rfl) (lcons ((hf 40 rfl).trans rfl) rfl)) rfl) tf_38 (c_vec_Add p (Zrelief_Lift_0 n t h) (inV_le iv42 (by decide)) (inV_le (inV_relief_of (inV_le (inV_vec_Scale iv48 (C := 65025) hk) (by decide) : inV 66520575 _) (by decide) (by omega)) (by decide))) fun H2 m2 => ⟨rfl, hM.trans m2⟩⟩) ?_
 refine QE.done fun H65 m66 => ?_
 have h67 := m66 _ _ h63
 have m68 := m64.trans m66
 refine AOps.cons rfl rfl (AOp.store' (cells' := [J ((R_vec_Add p (Zrelief_Lift_0 n t h)).X), J ((R_vec_Add p (Zrelief_Lift_0 n t h)).Y), J ((R_vec_Add p (Zrelief_Lift_0 n t h)).Z)]) (.agg [J ((R_vec_Add p (Zrelief_Lift_0 n t h)).X), J ((R_vec_Add p (Zrelief_Lift_0 n t h)).Y), J ((R_vec_Add p (Zrelief_Lift_0 n t h)).Z)]) rfl rfl ts_23 h67 rfl rfl rfl rfl ?_)
 intro H69 h70 k71
 have m73 := Mono.set m68 z24 k71
 refine AOps.cons rfl rfl (AOp.assign _ rfl rfl ?_)
 refine AWP.ret ?_
 refine ⟨_, _, Ghost.refl, .inr rfl, _, Res.list rfl rfl (.cell (v := .agg [J ((R_vec_Add p (Zrelief_Lift_0 n t h)).X), J ((R_vec_Add p (Zrelief_Lift_0 n t h)).Y), J ((R_vec_Add p (Zrelief_Lift_0 n t h)).Z)]) rfl ty_23 h70 rfl (.tmp rfl (.nil))), ?_, m73⟩
 have hR : R_relief_Lift p n t h = ((R_vec_Add p (Zrelief_Lift_0 n t h)), true) := by unfold R_relief_Lift; rw [if_pos b41, if_pos b47, if_neg b49, if_neg b55]
 exact (congrArg (fun r : VT × Bool => (.tup [.agg [J r.1.X, J r.1.Y, J r.1.Z], .bool r.2] : AV)) hR).symm
 refine AOps.no rfl rfl rfl rfl rfl rfl rfl (ble_of (nb b47) (by decide)) (AOps.no rfl rfl rfl rfl rfl rfl rfl (ble_of (nb b47) (by decide)) (AOps.no rfl rfl rfl rfl rfl rfl rfl (ble_of (nb b47) (by decide)) (AOps.no rfl rfl rfl rfl rfl rfl rfl (ble_of (nb b47) (by decide)) (AOps.cons rfl rfl (AOp.pickT _ rfl rfl (nb b47) rfl (AOps.cons rfl rfl (AOp.move _ rfl rfl ?_)))))))
 refine AOps.no rfl rfl rfl rfl rfl rfl rfl (ble_of rfl (by decide)) (AOps.no rfl rfl rfl rfl rfl rfl rfl (ble_of rfl (by decide)) (AOps.no rfl rfl rfl rfl rfl rfl rfl (ble_of rfl (by decide)) (AOps.no rfl rfl rfl rfl rfl rfl rfl (ble_of rfl (by decide)) (AOps.cons rfl rfl (AOp.pickT _ rfl rfl rfl rfl ?_)))))
 refine AWP.condT rfl rfl ?_
 refine AWP.seq (AWP.region rfl ?_)
 refine AOps.cons rfl rfl (AOp.build (cells := [J 0, J 0, J 0]) rfl tz_23 pl_23 rfl rfl (AOps.cons rfl rfl (AOp.store' (cells' := [J 0, J 0, J 0]) (.agg [J 0, J 0, J 0]) rfl rfl ts_23 h45 rfl rfl rfl rfl ?_)))
 intro H74 h75 k76
 have m78 := Mono.set m46 z24 k76
 refine AOps.cons rfl rfl (AOp.assign _ rfl rfl ?_)
 refine AWP.ret ?_
 refine ⟨_, _, Ghost.refl, .inr rfl, _, Res.list rfl rfl (.cell (v := .agg [J 0, J 0, J 0]) rfl ty_23 h75 rfl (.tmp rfl (.nil))), ?_, m78⟩
 have hR : R_relief_Lift p n t h = ((VT.mk 0 0 0), false) := by unfold R_relief_Lift; rw [if_pos b41, if_neg (ff b47)]
 exact (congrArg (fun r : VT × Bool => (.tup [.agg [J r.1.X, J r.1.Y, J r.1.Z], .bool r.2] : AV)) hR).symm
 refine AOps.no rfl rfl rfl rfl rfl rfl rfl (ble_of (nb b41) (by decide)) (AOps.no rfl rfl rfl rfl rfl rfl rfl (ble_of (nb b41) (by decide)) (AOps.no rfl rfl rfl rfl rfl rfl rfl (ble_of (nb b41) (by decide)) (AOps.cons rfl rfl (AOp.pickT _ rfl rfl (nb b41) rfl (AOps.cons rfl rfl (AOp.move _ rfl rfl (AOps.no rfl rfl rfl rfl rfl rfl rfl (ble_of rfl (by decide)) ?_)))))))
 refine AOps.no rfl rfl rfl rfl rfl rfl rfl (ble_of rfl (by decide)) (AOps.no rfl rfl rfl rfl rfl rfl rfl (ble_of rfl (by decide)) (AOps.no rfl rfl rfl rfl rfl rfl rfl (ble_of rfl (by decide)) (AOps.cons rfl rfl (AOp.pickT _ rfl rfl rfl rfl (AOps.cons rfl rfl (AOp.move _ rfl rfl (AOps.no rfl rfl rfl rfl rfl rfl rfl (ble_of rfl (by decide)) ?_)))))))
 refine AOps.no rfl rfl rfl rfl rfl rfl rfl (ble_of rfl (by decide)) (AOps.no rfl rfl rfl rfl rfl rfl rfl (ble_of rfl (by decide)) (AOps.no rfl rfl rfl rfl rfl rfl rfl (ble_of rfl (by decide)) (AOps.cons rfl rfl (AOp.pickT _ rfl rfl rfl rfl ?_))))
 refine AWP.condT rfl rfl ?_
 refine AWP.seq (AWP.region rfl ?_)
 refine AOps.cons rfl rfl (AOp.build (cells := [J 0, J 0, J 0]) rfl tz_23 pl_23 rfl rfl (AOps.cons rfl rfl (AOp.store' (cells' := [J 0, J 0, J 0]) (.agg [J 0, J 0, J 0]) rfl rfl ts_23 h39 rfl rfl rfl rfl ?_)))
 intro H79 h80 k81
 have m83 := Mono.set m40 z24 k81
 refine AOps.cons rfl rfl (AOp.assign _ rfl rfl ?_)
 refine AWP.ret ?_
 refine ⟨_, _, Ghost.refl, .inr rfl, _, Res.list rfl rfl (.cell (v := .agg [J 0, J 0, J 0]) rfl ty_23 h80 rfl (.tmp rfl (.nil))), ?_, m83⟩
 have hR : R_relief_Lift p n t h = ((VT.mk 0 0 0), false) := by unfold R_relief_Lift; rw [if_neg (ff b41)]
 exact (congrArg (fun r : VT × Bool => (.tup [.agg [J r.1.X, J r.1.Y, J r.1.Z], .bool r.2] : AV)) hR).symm
def R_relief_right (t : TexT) : Bool :=
  if t.W ≥ 1 then (if t.W ≤ 16 then (if t.H ≥ 1 then (if t.H ≤ 16 then (if (t.Rows.length : Int) = t.W * t.H then (if minL t.Rows ≥ 0 then decide (maxL t.Rows ≤ 255) else false) else false) else false) else false) else false) else false
theorem c_relief_right (t : TexT) (ht : t.Rows.length ≤ 1048576) : PC Tryd.prog 55 [.agg [.str t.Name, J t.W, J t.H, .sl t.Rows.length (t.Rows.map eI)]] (.bool (R_relief_right t)) := by
 intro H0
 refine ACalls.of_body' (n := 44) rfl rfl rfl rfl ?_
 have m0 := Mono.refl H0
 refine AWP.seq (AWP.region rfl ?_)
 refine AOps.cons rfl rfl (AOp.box (.agg [.str t.Name, J t.W, J t.H, .sl t.Rows.length (t.Rows.map eI)]) rfl rfl rfl ?_)
 intro i1 H2 n3 h4 k5
 have z6 := Mono.free m0 n3
 have m7 := Mono.new m0 n3 k5
 refine AOps.cons rfl rfl (AOp.assign _ rfl rfl ?_)
 refine AWP.seq ?_
 refine AWP.frzP 1 h4 z6 rfl m7 fun H8 m9 k10 => ?_
 refine AWP.region rfl ?_
 refine AOps.cons rfl rfl (AOp.fieldAddrF rfl rfl fl_65_1 (AOps.cons rfl rfl (AOp.loadF _ rfl rfl ty_3 rfl (AOps.cons rfl rfl (AOp.bin _ rfl rfl rfl rfl (AOps.cons rfl rfl (AOp.move _ rfl rfl ?_)))))))
 by_cases b11 : t.W ≥ 1
 refine AOps.yes rfl rfl rfl rfl rfl rfl rfl (decide_eq_true b11) (AOp.fieldAddrF rfl rfl fl_65_1 (AOps.yes rfl rfl rfl rfl rfl rfl rfl (decide_eq_true b11) (AOp.loadF _ rfl rfl ty_3 rfl (AOps.yes rfl rfl rfl rfl rfl rfl rfl (decide_eq_true b11) (AOp.bin _ rfl rfl rfl rfl (AOps.cons rfl rfl (AOp.pickT _ rfl rfl (decide_eq_true b11) rfl (AOps.cons rfl rfl (AOp.move _ rfl rfl ?_)))))))))
 by_cases b12 : t.W ≤ 16
 refine AOps.yes rfl rfl rfl rfl rfl rfl rfl (decide_eq_true b12) (AOp.fieldAddrF rfl rfl fl_65_2 (AOps.yes rfl rfl rfl rfl rfl rfl rfl (decide_eq_true b12) (AOp.loadF _ rfl rfl ty_3 rfl (AOps.yes rfl rfl rfl rfl rfl rfl rfl (decide_eq_true b12) (AOp.bin _ rfl rfl rfl rfl (AOps.cons rfl rfl (AOp.pickT _ rfl rfl (decide_eq_true b12) rfl (AOps.cons rfl rfl (AOp.move _ rfl rfl ?_)))))))))
 by_cases b13 : t.H ≥ 1
 refine AOps.yes rfl rfl rfl rfl rfl rfl rfl (decide_eq_true b13) (AOp.fieldAddrF rfl rfl fl_65_2 (AOps.yes rfl rfl rfl rfl rfl rfl rfl (decide_eq_true b13) (AOp.loadF _ rfl rfl ty_3 rfl (AOps.yes rfl rfl rfl rfl rfl rfl rfl (decide_eq_true b13) (AOp.bin _ rfl rfl rfl rfl (AOps.cons rfl rfl (AOp.pickT _ rfl rfl (decide_eq_true b13) rfl (AOps.cons rfl rfl (AOp.move _ rfl rfl ?_)))))))))
 by_cases b14 : t.H ≤ 16
 refine AOps.yes rfl rfl rfl rfl rfl rfl rfl (decide_eq_true b14) (AOp.fieldAddrF rfl rfl fl_65_3 (AOps.yes rfl rfl rfl rfl rfl rfl rfl (decide_eq_true b14) (AOp.loadF _ rfl rfl ty_63 rfl (AOps.yes rfl rfl rfl rfl rfl rfl rfl (decide_eq_true b14) (AOp.len (m := t.Rows.length) rfl rfl (.inr (.inl ⟨_, rfl⟩)) u_63 (AOps.yes rfl rfl rfl rfl rfl rfl rfl (decide_eq_true b14) (AOp.fieldAddrF rfl rfl fl_65_1 (AOps.yes rfl rfl rfl rfl rfl rfl rfl (decide_eq_true b14) (AOp.loadF _ rfl rfl ty_3 rfl (AOps.yes rfl rfl rfl rfl rfl rfl rfl (decide_eq_true b14) (AOp.fieldAddrF rfl rfl fl_65_2 ?_)))))))))))
 refine AOps.yes rfl rfl rfl rfl rfl rfl rfl (decide_eq_true b14) (AOp.loadF _ rfl rfl ty_3 rfl (AOps.yes rfl rfl rfl rfl rfl rfl rfl (decide_eq_true b14) (AOp.bin _ rfl rfl rfl (imul (by have := mul_rng (x := t.W) (k := t.H) (A := 16) (C := 16) (by omega) (by omega); omega)) (AOps.yes rfl rfl rfl rfl rfl rfl rfl (decide_eq_true b14) (AOp.bin _ rfl rfl rfl ieq (AOps.cons rfl rfl (AOp.pickT _ rfl rfl (decide_eq_true b14) rfl (AOps.cons rfl rfl (AOp.move _ rfl rfl ?_)))))))))
 by_cases b15 : (t.Rows.length : Int) = t.W * t.H
 refine AOps.yes rfl rfl rfl rfl rfl rfl rfl (decide_eq_true b15) (AOp.fieldAddrF rfl rfl fl_65_3 (AOps.yes rfl rfl rfl rfl rfl rfl rfl (decide_eq_true b15) (AOp.loadF _ rfl rfl ty_63 rfl (AOps.yes rfl rfl rfl rfl rfl rfl rfl (decide_eq_true b15) (AOp.pcall («as» := [.sl t.Rows.length (t.Rows.map eI)]) rfl rfl (rfl) tf_40 (c_Min t.Rows (by first | omega | assumption | (simp; omega) | simp) (len_pos (by assumption) (by omega) (by omega))) ?_)))))
 intro H16 m17
 have m18 := m9.trans m17
 refine AOps.yes rfl rfl rfl rfl rfl rfl rfl (decide_eq_true b15) (AOp.bin _ rfl rfl rfl rfl (AOps.cons rfl rfl (AOp.pickT _ rfl rfl (decide_eq_true b15) rfl (AOps.cons rfl rfl (AOp.move _ rfl rfl ?_)))))
 by_cases b19 : minL t.Rows ≥ 0
 refine AOps.yes rfl rfl rfl rfl rfl rfl rfl (decide_eq_true b19) (AOp.fieldAddrF rfl rfl fl_65_3 (AOps.yes rfl rfl rfl rfl rfl rfl rfl (decide_eq_true b19) (AOp.loadF _ rfl rfl ty_63 rfl (AOps.yes rfl rfl rfl rfl rfl rfl rfl (decide_eq_true b19) (AOp.pcall («as» := [.sl t.Rows.length (t.Rows.map eI)]) rfl rfl (rfl) tf_26 (c_Max t.Rows (by first | omega | assumption | (simp; omega) | simp) (len_pos (by assumption) (by omega) (by omega))) ?_)))))
 intro H20 m21
 have m22 := m18.trans m21
 refine AOps.yes rfl rfl rfl rfl rfl rfl rfl (decide_eq_true b19) (AOp.bin _ rfl rfl rfl rfl (AOps.cons rfl rfl (AOp.pickT _ rfl rfl (decide_eq_true b19) rfl (AOps.cons rfl rfl (AOp.assign _ rfl rfl ?_)))))
 refine AWP.ret ?_
 refine ⟨_, _, Ghost.refl, .inr rfl, _, Res.one rfl rfl, ?_, m22⟩
 have hR : R_relief_right t = decide (maxL t.Rows ≤ 255) := by unfold R_relief_right; rw [if_pos b11, if_pos b12, if_pos b13, if_pos b14, if_pos b15, if_pos b19]
 exact (congrArg (fun r : Bool => (.bool r : AV)) hR).symm
 refine AOps.no rfl rfl rfl rfl rfl rfl rfl (ble_of (decide_eq_false b19) (by decide)) (AOps.no rfl rfl rfl rfl rfl rfl rfl (ble_of (decide_eq_false b19) (by decide)) (AOps.no rfl rfl rfl rfl rfl rfl rfl (ble_of (decide_eq_false b19) (by decide)) (AOps.no rfl rfl rfl rfl rfl rfl rfl (ble_of (decide_eq_false b19) (by decide)) (AOps.cons rfl rfl (AOp.pickF _ rfl rfl (decide_eq_false b19) rfl (AOps.cons rfl rfl (AOp.assign _ rfl rfl ?_)))))))
 refine AWP.ret ?_
 refine ⟨_, _, Ghost.refl, .inr rfl, _, Res.one rfl rfl, ?_, m18⟩
 have hR : R_relief_right t = false := by unfold R_relief_right; rw [if_pos b11, if_pos b12, if_pos b13, if_pos b14, if_pos b15, if_neg b19]
 exact (congrArg (fun r : Bool => (.bool r : AV)) hR).symm
 refine AOps.no rfl rfl rfl rfl rfl rfl rfl (ble_of (decide_eq_false b15) (by decide)) (AOps.no rfl rfl rfl rfl rfl rfl rfl (ble_of (decide_eq_false b15) (by decide)) (AOps.no rfl rfl rfl rfl rfl rfl rfl (ble_of (decide_eq_false b15) (by decide)) (AOps.no rfl rfl rfl rfl rfl rfl rfl (ble_of (decide_eq_false b15) (by decide)) (AOps.cons rfl rfl (AOp.pickF _ rfl rfl (decide_eq_false b15) rfl (AOps.cons rfl rfl (AOp.move _ rfl rfl ?_)))))))
 refine AOps.no rfl rfl rfl rfl rfl rfl rfl (ble_of rfl (by decide)) (AOps.no rfl rfl rfl rfl rfl rfl rfl (ble_of rfl (by decide)) (AOps.no rfl rfl rfl rfl rfl rfl rfl (ble_of rfl (by decide)) (AOps.no rfl rfl rfl rfl rfl rfl rfl (ble_of rfl (by decide)) (AOps.cons rfl rfl (AOp.pickF _ rfl rfl rfl rfl (AOps.cons rfl rfl (AOp.assign _ rfl rfl ?_)))))))
 refine AWP.ret ?_
 refine ⟨_, _, Ghost.refl, .inr rfl, _, Res.one rfl rfl, ?_, m9⟩
 have hR : R_relief_right t = false := by unfold R_relief_right; rw [if_pos b11, if_pos b12, if_pos b13, if_pos b14, if_neg b15]
 exact (congrArg (fun r : Bool => (.bool r : AV)) hR).symm
 refine AOps.no rfl rfl rfl rfl rfl rfl rfl (ble_of (decide_eq_false b14) (by decide)) (AOps.no rfl rfl rfl rfl rfl rfl rfl (ble_of (decide_eq_false b14) (by decide)) (AOps.no rfl rfl rfl rfl rfl rfl rfl (ble_of (decide_eq_false b14) (by decide)) (AOps.no rfl rfl rfl rfl rfl rfl rfl (ble_of (decide_eq_false b14) (by decide)) (AOps.no rfl rfl rfl rfl rfl rfl rfl (ble_of (decide_eq_false b14) (by decide)) (AOps.no rfl rfl rfl rfl rfl rfl rfl (ble_of (decide_eq_false b14) (by decide)) ?_)))))
 refine AOps.no rfl rfl rfl rfl rfl rfl rfl (ble_of (decide_eq_false b14) (by decide)) (AOps.no rfl rfl rfl rfl rfl rfl rfl (ble_of (decide_eq_false b14) (by decide)) (AOps.no rfl rfl rfl rfl rfl rfl rfl (ble_of (decide_eq_false b14) (by decide)) (AOps.cons rfl rfl (AOp.pickF _ rfl rfl (decide_eq_false b14) rfl (AOps.cons rfl rfl (AOp.move _ rfl rfl (AOps.no rfl rfl rfl rfl rfl rfl rfl (ble_of rfl (by decide)) ?_)))))))
 refine AOps.no rfl rfl rfl rfl rfl rfl rfl (ble_of rfl (by decide)) (AOps.no rfl rfl rfl rfl rfl rfl rfl (ble_of rfl (by decide)) (AOps.no rfl rfl rfl rfl rfl rfl rfl (ble_of rfl (by decide)) (AOps.cons rfl rfl (AOp.pickF _ rfl rfl rfl rfl (AOps.cons rfl rfl (AOp.move _ rfl rfl (AOps.no rfl rfl rfl rfl rfl rfl rfl (ble_of rfl (by decide)) ?_)))))))
 refine AOps.no rfl rfl rfl rfl rfl rfl rfl (ble_of rfl (by decide)) (AOps.no rfl rfl rfl rfl rfl rfl rfl (ble_of rfl (by decide)) (AOps.no rfl rfl rfl rfl rfl rfl rfl (ble_of rfl (by decide)) (AOps.cons rfl rfl (AOp.pickF _ rfl rfl rfl rfl (AOps.cons rfl rfl (AOp.assign _ rfl rfl ?_))))))
 refine AWP.ret ?_
 refine ⟨_, _, Ghost.refl, .inr rfl, _, Res.one rfl rfl, ?_, m9⟩
 have hR : R_relief_right t = false := by unfold R_relief_right; rw [if_pos b11, if_pos b12, if_pos b13, if_neg b14]
 exact (congrArg (fun r : Bool => (.bool r : AV)) hR).symm
 refine AOps.no rfl rfl rfl rfl rfl rfl rfl (ble_of (decide_eq_false b13) (by decide)) (AOps.no rfl rfl rfl rfl rfl rfl rfl (ble_of (decide_eq_false b13) (by decide)) (AOps.no rfl rfl rfl rfl rfl rfl rfl (ble_of (decide_eq_false b13) (by decide)) (AOps.cons rfl rfl (AOp.pickF _ rfl rfl (decide_eq_false b13) rfl (AOps.cons rfl rfl (AOp.move _ rfl rfl (AOps.no rfl rfl rfl rfl rfl rfl rfl (ble_of rfl (by decide)) ?_)))))))
 refine AOps.no rfl rfl rfl rfl rfl rfl rfl (ble_of rfl (by decide)) (AOps.no rfl rfl rfl rfl rfl rfl rfl (ble_of rfl (by decide)) (AOps.no rfl rfl rfl rfl rfl rfl rfl (ble_of rfl (by decide)) (AOps.no rfl rfl rfl rfl rfl rfl rfl (ble_of rfl (by decide)) (AOps.no rfl rfl rfl rfl rfl rfl rfl (ble_of rfl (by decide)) (AOps.no rfl rfl rfl rfl rfl rfl rfl (ble_of rfl (by decide)) ?_)))))
 refine AOps.no rfl rfl rfl rfl rfl rfl rfl (ble_of rfl (by decide)) (AOps.no rfl rfl rfl rfl rfl rfl rfl (ble_of rfl (by decide)) (AOps.cons rfl rfl (AOp.pickF _ rfl rfl rfl rfl (AOps.cons rfl rfl (AOp.move _ rfl rfl (AOps.no rfl rfl rfl rfl rfl rfl rfl (ble_of rfl (by decide)) (AOps.no rfl rfl rfl rfl rfl rfl rfl (ble_of rfl (by decide)) ?_)))))))
 refine AOps.no rfl rfl rfl rfl rfl rfl rfl (ble_of rfl (by decide)) (AOps.no rfl rfl rfl rfl rfl rfl rfl (ble_of rfl (by decide)) (AOps.cons rfl rfl (AOp.pickF _ rfl rfl rfl rfl (AOps.cons rfl rfl (AOp.move _ rfl rfl (AOps.no rfl rfl rfl rfl rfl rfl rfl (ble_of rfl (by decide)) (AOps.no rfl rfl rfl rfl rfl rfl rfl (ble_of rfl (by decide)) ?_)))))))
 refine AOps.no rfl rfl rfl rfl rfl rfl rfl (ble_of rfl (by decide)) (AOps.no rfl rfl rfl rfl rfl rfl rfl (ble_of rfl (by decide)) (AOps.cons rfl rfl (AOp.pickF _ rfl rfl rfl rfl (AOps.cons rfl rfl (AOp.assign _ rfl rfl ?_)))))
 refine AWP.ret ?_
 refine ⟨_, _, Ghost.refl, .inr rfl, _, Res.one rfl rfl, ?_, m9⟩
 have hR : R_relief_right t = false := by unfold R_relief_right; rw [if_pos b11, if_pos b12, if_neg b13]
 exact (congrArg (fun r : Bool => (.bool r : AV)) hR).symm
 refine AOps.no rfl rfl rfl rfl rfl rfl rfl (ble_of (decide_eq_false b12) (by decide)) (AOps.no rfl rfl rfl rfl rfl rfl rfl (ble_of (decide_eq_false b12) (by decide)) (AOps.no rfl rfl rfl rfl rfl rfl rfl (ble_of (decide_eq_false b12) (by decide)) (AOps.cons rfl rfl (AOp.pickF _ rfl rfl (decide_eq_false b12) rfl (AOps.cons rfl rfl (AOp.move _ rfl rfl (AOps.no rfl rfl rfl rfl rfl rfl rfl (ble_of rfl (by decide)) ?_)))))))
 refine AOps.no rfl rfl rfl rfl rfl rfl rfl (ble_of rfl (by decide)) (AOps.no rfl rfl rfl rfl rfl rfl rfl (ble_of rfl (by decide)) (AOps.cons rfl rfl (AOp.pickF _ rfl rfl rfl rfl (AOps.cons rfl rfl (AOp.move _ rfl rfl (AOps.no rfl rfl rfl rfl rfl rfl rfl (ble_of rfl (by decide)) (AOps.no rfl rfl rfl rfl rfl rfl rfl (ble_of rfl (by decide)) ?_)))))))
 refine AOps.no rfl rfl rfl rfl rfl rfl rfl (ble_of rfl (by decide)) (AOps.no rfl rfl rfl rfl rfl rfl rfl (ble_of rfl (by decide)) (AOps.no rfl rfl rfl rfl rfl rfl rfl (ble_of rfl (by decide)) (AOps.no rfl rfl rfl rfl rfl rfl rfl (ble_of rfl (by decide)) (AOps.no rfl rfl rfl rfl rfl rfl rfl (ble_of rfl (by decide)) (AOps.no rfl rfl rfl rfl rfl rfl rfl (ble_of rfl (by decide)) ?_)))))
 refine AOps.no rfl rfl rfl rfl rfl rfl rfl (ble_of rfl (by decide)) (AOps.cons rfl rfl (AOp.pickF _ rfl rfl rfl rfl (AOps.cons rfl rfl (AOp.move _ rfl rfl (AOps.no rfl rfl rfl rfl rfl rfl rfl (ble_of rfl (by decide)) (AOps.no rfl rfl rfl rfl rfl rfl rfl (ble_of rfl (by decide)) (AOps.no rfl rfl rfl rfl rfl rfl rfl (ble_of rfl (by decide)) ?_)))))))
 refine AOps.no rfl rfl rfl rfl rfl rfl rfl (ble_of rfl (by decide)) (AOps.cons rfl rfl (AOp.pickF _ rfl rfl rfl rfl (AOps.cons rfl rfl (AOp.move _ rfl rfl (AOps.no rfl rfl rfl rfl rfl rfl rfl (ble_of rfl (by decide)) (AOps.no rfl rfl rfl rfl rfl rfl rfl (ble_of rfl (by decide)) (AOps.no rfl rfl rfl rfl rfl rfl rfl (ble_of rfl (by decide)) ?_)))))))
 refine AOps.no rfl rfl rfl rfl rfl rfl rfl (ble_of rfl (by decide)) (AOps.cons rfl rfl (AOp.pickF _ rfl rfl rfl rfl (AOps.cons rfl rfl (AOp.assign _ rfl rfl ?_))))
 refine AWP.ret ?_
 refine ⟨_, _, Ghost.refl, .inr rfl, _, Res.one rfl rfl, ?_, m9⟩
 have hR : R_relief_right t = false := by unfold R_relief_right; rw [if_pos b11, if_neg b12]
 exact (congrArg (fun r : Bool => (.bool r : AV)) hR).symm
 refine AOps.no rfl rfl rfl rfl rfl rfl rfl (ble_of (decide_eq_false b11) (by decide)) (AOps.no rfl rfl rfl rfl rfl rfl rfl (ble_of (decide_eq_false b11) (by decide)) (AOps.no rfl rfl rfl rfl rfl rfl rfl (ble_of (decide_eq_false b11) (by decide)) (AOps.cons rfl rfl (AOp.pickF _ rfl rfl (decide_eq_false b11) rfl (AOps.cons rfl rfl (AOp.move _ rfl rfl (AOps.no rfl rfl rfl rfl rfl rfl rfl (ble_of rfl (by decide)) ?_)))))))
 refine AOps.no rfl rfl rfl rfl rfl rfl rfl (ble_of rfl (by decide)) (AOps.no rfl rfl rfl rfl rfl rfl rfl (ble_of rfl (by decide)) (AOps.cons rfl rfl (AOp.pickF _ rfl rfl rfl rfl (AOps.cons rfl rfl (AOp.move _ rfl rfl (AOps.no rfl rfl rfl rfl rfl rfl rfl (ble_of rfl (by decide)) (AOps.no rfl rfl rfl rfl rfl rfl rfl (ble_of rfl (by decide)) ?_)))))))
 refine AOps.no rfl rfl rfl rfl rfl rfl rfl (ble_of rfl (by decide)) (AOps.cons rfl rfl (AOp.pickF _ rfl rfl rfl rfl (AOps.cons rfl rfl (AOp.move _ rfl rfl (AOps.no rfl rfl rfl rfl rfl rfl rfl (ble_of rfl (by decide)) (AOps.no rfl rfl rfl rfl rfl rfl rfl (ble_of rfl (by decide)) (AOps.no rfl rfl rfl rfl rfl rfl rfl (ble_of rfl (by decide)) ?_)))))))
 refine AOps.no rfl rfl rfl rfl rfl rfl rfl (ble_of rfl (by decide)) (AOps.no rfl rfl rfl rfl rfl rfl rfl (ble_of rfl (by decide)) (AOps.no rfl rfl rfl rfl rfl rfl rfl (ble_of rfl (by decide)) (AOps.no rfl rfl rfl rfl rfl rfl rfl (ble_of rfl (by decide)) (AOps.no rfl rfl rfl rfl rfl rfl rfl (ble_of rfl (by decide)) (AOps.no rfl rfl rfl rfl rfl rfl rfl (ble_of rfl (by decide)) ?_)))))
 refine AOps.cons rfl rfl (AOp.pickF _ rfl rfl rfl rfl (AOps.cons rfl rfl (AOp.move _ rfl rfl (AOps.no rfl rfl rfl rfl rfl rfl rfl (ble_of rfl (by decide)) (AOps.no rfl rfl rfl rfl rfl rfl rfl (ble_of rfl (by decide)) (AOps.no rfl rfl rfl rfl rfl rfl rfl (ble_of rfl (by decide)) (AOps.no rfl rfl rfl rfl rfl rfl rfl (ble_of rfl (by decide)) ?_)))))))
 refine AOps.cons rfl rfl (AOp.pickF _ rfl rfl rfl rfl (AOps.cons rfl rfl (AOp.move _ rfl rfl (AOps.no rfl rfl rfl rfl rfl rfl rfl (ble_of rfl (by decide)) (AOps.no rfl rfl rfl rfl rfl rfl rfl (ble_of rfl (by decide)) (AOps.no rfl rfl rfl rfl rfl rfl rfl (ble_of rfl (by decide)) (AOps.no rfl rfl rfl rfl rfl rfl rfl (ble_of rfl (by decide)) ?_)))))))
 refine AOps.cons rfl rfl (AOp.pickF _ rfl rfl rfl rfl (AOps.cons rfl rfl (AOp.assign _ rfl rfl ?_)))
 refine AWP.ret ?_
 refine ⟨_, _, Ghost.refl, .inr rfl, _, Res.one rfl rfl, ?_, m9⟩
 have hR : R_relief_right t = false := by unfold R_relief_right; rw [if_neg b11]
 exact (congrArg (fun r : Bool => (.bool r : AV)) hR).symm
end Go.Proofs.M
namespace Go.Proofs.M
open Go Go.AH
theorem foldmin_le {l : List Int} : ∀ x, l.foldl min x ≤ x ∧ ∀ y ∈ l, l.foldl min x ≤ y := by
  induction l with
  | nil => intro x; exact ⟨Int.le_refl _, fun y h => by cases h⟩
  | cons a l ih =>
    intro x
    obtain ⟨h1, h2⟩ := ih (min x a)
    refine ⟨by rw [List.foldl_cons]; omega, fun y hy => ?_⟩
    rw [List.foldl_cons]
    rcases List.mem_cons.1 hy with rfl | hy
    · omega
    · exact h2 y hy
theorem foldmin_mem {l : List Int} : ∀ x, l.foldl min x = x ∨ l.foldl min x ∈ l := by
  induction l with
  | nil => intro x; exact .inl rfl
  | cons a l ih =>
    intro x
    rw [List.foldl_cons]
    rcases ih (min x a) with h | h
    · rw [h]
      rcases Int.le_total x a with g | g
      · left; omega
      · right; rw [Int.min_eq_right g]; exact .head _
    · right; exact .tail _ h
theorem foldmax_ge {l : List Int} : ∀ x, x ≤ l.foldl max x ∧ ∀ y ∈ l, y ≤ l.foldl max x := by
  induction l with
  | nil => intro x; exact ⟨Int.le_refl _, fun y h => by cases h⟩
  | cons a l ih =>
    intro x
    obtain ⟨h1, h2⟩ := ih (max x a)
    refine ⟨by rw [List.foldl_cons]; omega, fun y hy => ?_⟩
    rw [List.foldl_cons]
    rcases List.mem_cons.1 hy with rfl | hy
    · omega
    · exact h2 y hy
theorem foldmax_mem {l : List Int} : ∀ x, l.foldl max x = x ∨ l.foldl max x ∈ l := by
  induction l with
  | nil => intro x; exact .inl rfl
  | cons a l ih =>
    intro x
    rw [List.foldl_cons]
    rcases ih (max x a) with h | h
    · rw [h]
      rcases Int.le_total a x with g | g
      · left; omega
      · right; rw [Int.max_eq_right g]; exact .head _
    · right; exact .tail _ h
theorem minL_iff {l : List Int} (h1 : 1 ≤ l.length) {c : Int} : c ≤ minL l ↔ ∀ x ∈ l, c ≤ x := by
  unfold minL
  have h0 : at_ l 0 ∈ l := at_mem (by omega) (by omega)
  constructor
  · intro h x hx; have := (foldmin_le (l := l) (at_ l 0)).2 x hx; omega
  · intro h
    rcases foldmin_mem (l := l) (at_ l 0) with e | e
    · rw [e]; exact h _ h0
    · exact h _ e
theorem maxL_iff {l : List Int} (h1 : 1 ≤ l.length) {c : Int} : maxL l ≤ c ↔ ∀ x ∈ l, x ≤ c := by
  unfold maxL
  have h0 : at_ l 0 ∈ l := at_mem (by omega) (by omega)
  constructor
  · intro h x hx; have := (foldmax_ge (l := l) (at_ l 0)).2 x hx; omega
  · intro h
    rcases foldmax_mem (l := l) (at_ l 0) with e | e
    · rw [e]; exact h _ h0
    · exact h _ e
theorem right_iff {t : TexT} : R_relief_right t = true ↔ RightP t := by
  unfold R_relief_right
  constructor
  · intro h
    split at h
    · split at h
      · split at h
        · split at h
          · split at h
            · rename_i c1 c2 c3 c4 c5
              have hl := len_pos c5 c1 c3
              split at h
              · rename_i c6
                have e1 := (minL_iff hl (c := 0)).1 c6
                have e2 := (maxL_iff hl (c := 255)).1 (of_decide_eq_true h)
                exact ⟨c1, c2, c3, c4, c5, fun j j0 j1 => ⟨e1 _ (at_mem j0 j1), e2 _ (at_mem j0 j1)⟩⟩
              · cases h
            · cases h
          · cases h
        · cases h
      · cases h
    · cases h
  · rintro ⟨a1, a2, a3, a4, a5, a6⟩
    have hl := len_pos a5 a1 a3
    rw [if_pos (by omega), if_pos (by omega), if_pos (by omega), if_pos (by omega), if_pos a5, if_pos, decide_eq_true_eq]
    · refine (maxL_iff hl).2 fun x hx => ?_
      obtain ⟨i, i0, i1, rfl⟩ := mem_at hx
      exact (a6 i i0 i1).2
    · refine (minL_iff hl).2 fun x hx => ?_
      obtain ⟨i, i0, i1, rfl⟩ := mem_at hx
      exact (a6 i i0 i1).1
theorem right_same (t : TexT) : R_relief_right t = rightS t := Bool.eq_iff_iff.2 (right_iff.trans rightS_iff.symm)
theorem right_in_rightS {t : TexT} (ht : t.Rows.length ≤ 1048576) (h : rightS t = true) : 1 ≤ t.W ∧ t.W ≤ 16 ∧ 1 ≤ t.H ∧ t.H ≤ 16 ∧ (t.Rows.length : Int) = t.W * t.H := by
  have h := rightS_iff.1 h
  exact ⟨h.1, h.2.1, h.2.2.1, h.2.2.2.1, h.2.2.2.2.1⟩
theorem right_in_relief_right {t : TexT} (ht : t.Rows.length ≤ 1048576) (h : R_relief_right t = true) : 1 ≤ t.W ∧ t.W ≤ 16 ∧ 1 ≤ t.H ∧ t.H ≤ 16 ∧ (t.Rows.length : Int) = t.W * t.H := by
  rw [right_same] at h; exact right_in_rightS ht h
theorem idx_lt {a b w h : Int} (ha : 0 ≤ a ∧ a < h) (hb : 0 ≤ b ∧ b < w) : 0 ≤ a * w + b ∧ a * w + b < w * h := by
  have h1 : 0 ≤ a * w := Int.mul_nonneg ha.1 (by omega)
  have h2 : a * w + w ≤ h * w := by
    have := Int.mul_le_mul_of_nonneg_right (show a + 1 ≤ h by omega) (show 0 ≤ w by omega)
    rw [Int.add_mul] at this; omega
  rw [Int.mul_comm w h]
  omega
theorem inV_relief_Mix (n : List VT) (i k j m : Int) : inV 1023 (R_relief_Mix n i k j m).1 := by
  unfold R_relief_Mix
  repeat' split
  all_goals first | exact inV_relief_Blend _ _ _ _ | exact inV_zero (by decide)
end Go.Proofs.M
namespace Go.Proofs.M
open Go Go.AH
set_option maxRecDepth 4000
set_option linter.unusedSimpArgs false
set_option linter.unusedVariables false
def R_relief_Texel (t : TexT) (p : VT) : Int × Bool :=
  if R_relief_right t = true then (if R_vec_Within p 65536 = true then (at_ t.Rows ((R_relief_step (p.Y + p.Z) t.H) * t.W + (R_relief_step p.X t.W)), true) else (0, false)) else (0, false)
theorem c_relief_Texel (t : TexT) (p : VT) (ht : t.Rows.length ≤ 1048576) : PC Tryd.prog 28 [.agg [.str t.Name, J t.W, J t.H, .sl t.Rows.length (t.Rows.map eI)], .agg [J p.X, J p.Y, J p.Z]] (.tup [J ((R_relief_Texel t p).1), .bool ((R_relief_Texel t p).2)]) := by
 intro H0
 refine ACalls.of_body' (n := 35) rfl rfl rfl rfl ?_
 have m0 := Mono.refl H0
 refine AWP.seq (AWP.region rfl ?_)
 refine AOps.cons rfl rfl (AOp.box (.agg [.str t.Name, J t.W, J t.H, .sl t.Rows.length (t.Rows.map eI)]) rfl rfl rfl ?_)
 intro i1 H2 n3 h4 k5
 have z6 := Mono.free m0 n3
 have m7 := Mono.new m0 n3 k5
 refine AOps.cons rfl rfl (AOp.box (.agg [J p.X, J p.Y, J p.Z]) rfl rfl rfl ?_)
 intro i8 H9 n10 h11 k12
 have e13 := ne_new h4 n10
 have z14 := Mono.free m7 n10
 have h15 := keep k12 (ne_new h4 n10) h4
 have m16 := Mono.new m7 n10 k12
 refine AOps.cons rfl rfl (AOp.assign _ rfl rfl (AOps.cons rfl rfl (AOp.assign _ rfl rfl ?_)))
 refine AWP.seq ?_
 refine AWP.seq ?_
 refine AWP.frzP 2 h15 z6 rfl m16 fun H17 m18 k19 => ?_
 have h20 := (k19 _ (Ne.symm e13)).trans h11
 refine AWP.frzP 3 h20 z14 rfl m18 fun H21 m22 k23 => ?_
 refine AWP.region rfl ?_
 refine AOps.cons rfl rfl (AOp.loadF _ rfl rfl ty_65 rfl (AOps.cons rfl rfl (AOp.pcall («as» := [.agg [.str t.Name, J t.W, J t.H, .sl t.Rows.length (t.Rows.map eI)]]) rfl rfl (rfl) tf_55 (c_relief_right t (by first | omega | assumption)) ?_)))
 intro H24 m25
 have m26 := m22.trans m25
 refine AOps.cons rfl rfl (AOp.not rfl rfl (AOps.cons rfl rfl (AOp.move _ rfl rfl ?_)))
 rcases Bool.eq_false_or_eq_true (R_relief_right t) with b27 | b27
 have rt28 := right_in_relief_right (by assumption) b27
 refine AOps.yes rfl rfl rfl rfl rfl rfl rfl (nb b27) (AOp.loadF _ rfl rfl ty_23 rfl (AOps.yes rfl rfl rfl rfl rfl rfl rfl (nb b27) (AOp.pcall («as» := [.agg [J p.X, J p.Y, J p.Z], J 65536]) rfl rfl (rfl) tf_18 (c_vec_Within p 65536 (by first | omega | assumption | (constructor <;> omega) | simp)) ?_)))
 intro H29 m30
 have m31 := m26.trans m30
 refine AOps.yes rfl rfl rfl rfl rfl rfl rfl (nb b27) (AOp.not rfl rfl (AOps.cons rfl rfl (AOp.pickF _ rfl rfl (nb b27) rfl ?_)))
 refine AOps.nil ?_
 change AWP _ _ _ _ _ _
 rcases Bool.eq_false_or_eq_true (R_vec_Within p 65536) with b32 | b32
 have iv33 : inV 65536 p := withinvec_in b32
 refine AWP.condF rfl (nb b32) ?_
 refine AWP.skip ?_
 refine AWP.seq ?_
 obtain ⟨r1, r2, r3, r4, r5⟩ := rt28
 have ivp := iv33
 have s1 := step_rng (n := p.Y + p.Z) (m := t.H) (by omega)
 have s2 := step_rng (n := p.X) (m := t.W) (by omega)
 have ix := idx_lt s1 s2
 have mm := mul_rng (x := R_relief_step (p.Y + p.Z) t.H) (k := t.W) (A := 16) (C := 16) (by omega) (by omega)
 refine AWP.region_quiet mixed (by kernel_rfl) 23 [] rfl (by kernel_rfl) (Mono H29) (Mono.refl _) ?_
 refine QE.op rfl rfl (.inl ⟨rfl, fun f' H' hf hM => AOp.fieldAddrF rfl ((hf 2 rfl).trans rfl) fl_65_3 ⟨rfl, hM⟩⟩) ?_
 refine QE.op rfl rfl (.inl ⟨rfl, fun f' H' hf hM => AOp.loadF _ rfl ((hf 14 rfl).trans rfl) ty_63 rfl ⟨rfl, hM⟩⟩) ?_
 refine QE.op rfl rfl (.inl ⟨rfl, fun f' H' hf hM => AOp.fieldAddrF rfl ((hf 3 rfl).trans rfl) fl_23_1 ⟨rfl, hM⟩⟩) ?_
 refine QE.op rfl rfl (.inl ⟨rfl, fun f' H' hf hM => AOp.loadF _ rfl ((hf 16 rfl).trans rfl) ty_3 rfl ⟨rfl, hM⟩⟩) ?_
 refine QE.op rfl rfl (.inl ⟨rfl, fun f' H' hf hM => AOp.fieldAddrF rfl ((hf 3 rfl).trans rfl) fl_23_2 ⟨rfl, hM⟩⟩) ?_
 refine QE.op rfl rfl (.inl ⟨rfl, fun f' H' hf hM => AOp.loadF _ rfl ((hf 18 rfl).trans rfl) ty_3 rfl ⟨rfl, hM⟩⟩) ?_
 refine QE.op rfl rfl (.inl ⟨rfl, fun f' H' hf hM => AOp.bin _ rfl ((hf 17 rfl).trans rfl) ((hf 19 rfl).trans rfl) (iadd (by omega)) ⟨rfl, hM⟩⟩) ?_
 refine QE.op rfl rfl (.inl ⟨rfl, fun f' H' hf hM => AOp.fieldAddrF rfl ((hf 2 rfl).trans rfl) fl_65_2 ⟨rfl, hM⟩⟩) ?_
 refine QE.op rfl rfl (.inl ⟨rfl, fun f' H' hf hM => AOp.loadF _ rfl ((hf 21 rfl).trans rfl) ty_3 rfl ⟨rfl, hM⟩⟩) ?_
 refine QE.op rfl rfl (.inl ⟨rfl, fun f' H' hf hM => AOp.pcall («as» := [J (p.Y + p.Z), J t.H]) rfl rfl (lapp (lcons ((hf 20 rfl).trans rfl) (lcons ((hf 22 rfl).trans rfl) rfl)) rfl) tf_56 (c_relief_step (p.Y + p.Z) t.H (by first | omega | assumption | (constructor <;> omega) | simp) (by first | omega | assumption | (constructor <;> omega) | simp)) fun H2 m2 => ⟨rfl, hM.trans m2⟩⟩) ?_
 refine QE.op rfl rfl (.inl ⟨rfl, fun f' H' hf hM => AOp.fieldAddrF rfl ((hf 2 rfl).trans rfl) fl_65_1 ⟨rfl, hM⟩⟩) ?_
 refine QE.op rfl rfl (.inl ⟨rfl, fun f' H' hf hM => AOp.loadF _ rfl ((hf 24 rfl).trans rfl) ty_3 rfl ⟨rfl, hM⟩⟩) ?_
 refine QE.op rfl rfl (.inl ⟨rfl, fun f' H' hf hM => AOp.bin _ rfl ((hf 23 rfl).trans rfl) ((hf 25 rfl).trans rfl) (imul (by omega)) ⟨rfl, hM⟩⟩) ?_
 refine QE.op rfl rfl (.inl ⟨rfl, fun f' H' hf hM => AOp.fieldAddrF rfl ((hf 3 rfl).trans rfl) fl_23_0 ⟨rfl, hM⟩⟩) ?_
 refine QE.op rfl rfl (.inl ⟨rfl, fun f' H' hf hM => AOp.loadF _ rfl ((hf 27 rfl).trans rfl) ty_3 rfl ⟨rfl, hM⟩⟩) ?_
 refine QE.op rfl rfl (.inl ⟨rfl, fun f' H' hf hM => AOp.fieldAddrF rfl ((hf 2 rfl).trans rfl) fl_65_1 ⟨rfl, hM⟩⟩) ?_
 refine QE.op rfl rfl (.inl ⟨rfl, fun f' H' hf hM => AOp.loadF _ rfl ((hf 29 rfl).trans rfl) ty_3 rfl ⟨rfl, hM⟩⟩) ?_
 refine QE.op rfl rfl (.inl ⟨rfl, fun f' H' hf hM => AOp.pcall («as» := [J p.X, J t.W]) rfl rfl (lapp (lcons ((hf 28 rfl).trans rfl) (lcons ((hf 30 rfl).trans rfl) rfl)) rfl) tf_56 (c_relief_step p.X t.W (by first | omega | assumption | (constructor <;> omega) | simp) (by first | omega | assumption | (constructor <;> omega) | simp)) fun H2 m2 => ⟨rfl, hM.trans m2⟩⟩) ?_
 refine QE.op rfl rfl (.inl ⟨rfl, fun f' H' hf hM => AOp.bin _ rfl ((hf 26 rfl).trans rfl) ((hf 31 rfl).trans rfl) (iadd (by omega)) ⟨rfl, hM⟩⟩) ?_
 refine QE.op rfl rfl (.inl ⟨rfl, fun f' H' hf hM => AOp.indexAddrS rfl ((hf 15 rfl).trans rfl) ((hf 32 rfl).trans rfl) sl_63 (by omega) (by omega) ⟨rfl, hM⟩⟩) ?_
 refine QE.op rfl rfl (.inl ⟨rfl, fun f' H' hf hM => AOp.loadF _ rfl ((hf 33 rfl).trans rfl) ty_3 (ld1 (by omega) (by omega)) ⟨rfl, hM⟩⟩) ?_
 refine QE.op rfl rfl (.inl ⟨rfl, fun f' H' hf hM => AOp.assign _ rfl ((hf 34 rfl).trans rfl) ⟨rfl, hM⟩⟩) ?_
 refine QE.op rfl rfl (.inl ⟨rfl, fun f' H' hf hM => AOp.assign _ rfl rfl ⟨rfl, hM⟩⟩) ?_
 refine QE.done fun H34 m35 => ?_
 have m36 := m31.trans m35
 refine AWP.ret ?_
 refine ⟨_, _, Ghost.refl, .inr rfl, _, Res.two rfl rfl rfl, ?_, m36⟩
 have hR : R_relief_Texel t p = (at_ t.Rows ((R_relief_step (p.Y + p.Z) t.H) * t.W + (R_relief_step p.X t.W)), true) := by unfold R_relief_Texel; rw [if_pos b27, if_pos b32]
 exact (congrArg (fun r : Int × Bool => (.tup [J r.1, .bool r.2] : AV)) hR).symm
 refine AWP.condT rfl (nb b32) ?_
 refine AWP.seq (AWP.region rfl ?_)
 refine AOps.cons rfl rfl (AOp.assign _ rfl rfl (AOps.cons rfl rfl (AOp.assign _ rfl rfl ?_)))
 refine AWP.ret ?_
 refine ⟨_, _, Ghost.refl, .inr rfl, _, Res.two rfl rfl rfl, ?_, m31⟩
 have hR : R_relief_Texel t p = (0, false) := by unfold R_relief_Texel; rw [if_pos b27, if_neg (ff b32)]
 exact (congrArg (fun r : Int × Bool => (.tup [J r.1, .bool r.2] : AV)) hR).symm
 refine AOps.no rfl rfl rfl rfl rfl rfl rfl (ble_of (nb b27) (by decide)) (AOps.no rfl rfl rfl rfl rfl rfl rfl (ble_of (nb b27) (by decide)) (AOps.no rfl rfl rfl rfl rfl rfl rfl (ble_of (nb b27) (by decide)) (AOps.cons rfl rfl (AOp.pickT _ rfl rfl (nb b27) rfl ?_))))
 refine AWP.condT rfl rfl ?_
 refine AWP.seq (AWP.region rfl ?_)
 refine AOps.cons rfl rfl (AOp.assign _ rfl rfl (AOps.cons rfl rfl (AOp.assign _ rfl rfl ?_)))
 refine AWP.ret ?_
 refine ⟨_, _, Ghost.refl, .inr rfl, _, Res.two rfl rfl rfl, ?_, m26⟩
 have hR : R_relief_Texel t p = (0, false) := by unfold R_relief_Texel; rw [if_neg (ff b27)]
 exact (congrArg (fun r : Int × Bool => (.tup [J r.1, .bool r.2] : AV)) hR).symm
def R_curve_weights (i : Int) (n : Int) : (List Int) × Bool :=
  if n < 1 then ([0, 0, 0, 0], false) else (if n > 16 then ([0, 0, 0, 0], false) else (if i < 0 then ([0, 0, 0, 0], false) else (if i > n then ([0, 0, 0, 0], false) else ([((n - i) * (n - i)) * (n - i), ((3 * (n - i)) * (n - i)) * i, ((3 * (n - i)) * i) * i, (i * i) * i], true))))
theorem R_curve_weights_len (i n : Int) : (R_curve_weights i n).1.length = 4 := by
  unfold R_curve_weights; (repeat' split) <;> rfl
theorem c_curve_weights (i : Int) (n : Int) : PC Tryd.prog 92 [J i, J n] (.tup [.agg (((R_curve_weights i n).1).map eI), .bool ((R_curve_weights i n).2)]) := by
 intro H0
 refine ACalls.of_body' (n := 49) rfl rfl rfl rfl ?_
 have m0 := Mono.refl H0
 refine AWP.seq (AWP.region rfl ?_)
 refine AOps.cons rfl rfl (AOp.alloc rfl tz_25 ?_)
 intro i1 H2 n3 h4 k5
 have z6 := Mono.free m0 n3
 have m7 := Mono.new m0 n3 k5
 refine AOps.cons rfl rfl (AOp.assign _ rfl rfl ?_)
 refine AWP.seq ?_
 refine AWP.seq (AWP.region rfl ?_)
 refine AOps.cons rfl rfl (AOp.move _ rfl rfl (AOps.cons rfl rfl (AOp.bin _ rfl rfl rfl rfl (AOps.cons rfl rfl (AOp.move _ rfl rfl ?_)))))
 by_cases b8 : n < 1
 refine AOps.no rfl rfl rfl rfl rfl rfl rfl (ble_of (decide_eq_true b8) (by decide)) (AOps.no rfl rfl rfl rfl rfl rfl rfl (ble_of (decide_eq_true b8) (by decide)) (AOps.cons rfl rfl (AOp.pickT _ rfl rfl (decide_eq_true b8) rfl (AOps.cons rfl rfl (AOp.move _ rfl rfl (AOps.no rfl rfl rfl rfl rfl rfl rfl (ble_of rfl (by decide)) (AOps.no rfl rfl rfl rfl rfl rfl rfl (ble_of rfl (by decide)) ?_)))))))
 refine AOps.cons rfl rfl (AOp.pickT _ rfl rfl rfl rfl (AOps.cons rfl rfl (AOp.move _ rfl rfl (AOps.no rfl rfl rfl rfl rfl rfl rfl (ble_of rfl (by decide)) (AOps.no rfl rfl rfl rfl rfl rfl rfl (ble_of rfl (by decide)) (AOps.no rfl rfl rfl rfl rfl rfl rfl (ble_of rfl (by decide)) (AOps.cons rfl rfl (AOp.pickT _ rfl rfl rfl rfl ?_))))))))
 refine AWP.condT rfl rfl ?_
 refine AWP.seq (AWP.region rfl ?_)
 refine AOps.cons rfl rfl (AOp.build (cells := [J 0, J 0, J 0, J 0]) rfl tz_25 pl_25 rfl rfl (AOps.cons rfl rfl (AOp.store' (cells' := [J 0, J 0, J 0, J 0]) (.agg [J 0, J 0, J 0, J 0]) rfl rfl ts_25 h4 rfl rfl rfl rfl ?_)))
 intro H9 h10 k11
 have m13 := Mono.set m7 z6 k11
 refine AOps.cons rfl rfl (AOp.assign _ rfl rfl ?_)
 refine AWP.ret ?_
 refine ⟨_, _, Ghost.refl, .inr rfl, _, Res.list rfl rfl (.cell (v := .agg [J 0, J 0, J 0, J 0]) rfl ty_25 h10 rfl (.tmp rfl (.nil))), ?_, m13⟩
 have hR : R_curve_weights i n = ([0, 0, 0, 0], false) := by unfold R_curve_weights; rw [if_pos b8]
 exact (congrArg (fun r : (List Int) × Bool => (.tup [.agg (r.1.map eI), .bool r.2] : AV)) hR).symm
 refine AOps.yes rfl rfl rfl rfl rfl rfl rfl (decide_eq_false b8) (AOp.move _ rfl rfl (AOps.yes rfl rfl rfl rfl rfl rfl rfl (decide_eq_false b8) (AOp.bin _ rfl rfl rfl rfl (AOps.cons rfl rfl (AOp.pickF _ rfl rfl (decide_eq_false b8) rfl (AOps.cons rfl rfl (AOp.move _ rfl rfl ?_)))))))
 by_cases b14 : n > 16
 refine AOps.no rfl rfl rfl rfl rfl rfl rfl (ble_of (decide_eq_true b14) (by decide)) (AOps.no rfl rfl rfl rfl rfl rfl rfl (ble_of (decide_eq_true b14) (by decide)) (AOps.cons rfl rfl (AOp.pickT _ rfl rfl (decide_eq_true b14) rfl (AOps.cons rfl rfl (AOp.move _ rfl rfl (AOps.no rfl rfl rfl rfl rfl rfl rfl (ble_of rfl (by decide)) (AOps.no rfl rfl rfl rfl rfl rfl rfl (ble_of rfl (by decide)) ?_)))))))
 refine AOps.no rfl rfl rfl rfl rfl rfl rfl (ble_of rfl (by decide)) (AOps.cons rfl rfl (AOp.pickT _ rfl rfl rfl rfl ?_))
 refine AWP.condT rfl rfl ?_
 refine AWP.seq (AWP.region rfl ?_)
 refine AOps.cons rfl rfl (AOp.build (cells := [J 0, J 0, J 0, J 0]) rfl tz_25 pl_25 rfl rfl (AOps.cons rfl rfl (AOp.store' (cells' := [J 0, J 0, J 0, J 0]) (.agg [J 0, J 0, J 0, J 0]) rfl rfl ts_25 h4 rfl rfl rfl rfl ?_)))
 intro H15 h16 k17
 have m19 := Mono.set m7 z6 k17
 refine AOps.cons rfl rfl (AOp.assign _ rfl rfl ?_)
 refine AWP.ret ?_
 refine ⟨_, _, Ghost.refl, .inr rfl, _, Res.list rfl rfl (.cell (v := .agg [J 0, J 0, J 0, J 0]) rfl ty_25 h16 rfl (.tmp rfl (.nil))), ?_, m19⟩
 have hR : R_curve_weights i n = ([0, 0, 0, 0], false) := by unfold R_curve_weights; rw [if_neg b8, if_pos b14]
 exact (congrArg (fun r : (List Int) × Bool => (.tup [.agg (r.1.map eI), .bool r.2] : AV)) hR).symm
 refine AOps.yes rfl rfl rfl rfl rfl rfl rfl (decide_eq_false b14) (AOp.move _ rfl rfl (AOps.yes rfl rfl rfl rfl rfl rfl rfl (decide_eq_false b14) (AOp.bin _ rfl rfl rfl rfl (AOps.cons rfl rfl (AOp.pickF _ rfl rfl (decide_eq_false b14) rfl (AOps.cons rfl rfl (AOp.move _ rfl rfl ?_)))))))
 by_cases b20 : i < 0
 refine AOps.no rfl rfl rfl rfl rfl rfl rfl (ble_of (decide_eq_true b20) (by decide)) (AOps.no rfl rfl rfl rfl rfl rfl rfl (ble_of (decide_eq_true b20) (by decide)) (AOps.no rfl rfl rfl rfl rfl rfl rfl (ble_of (decide_eq_true b20) (by decide)) (AOps.cons rfl rfl (AOp.pickT _ rfl rfl (decide_eq_true b20) rfl ?_))))
 refine AWP.condT rfl rfl ?_
 refine AWP.seq (AWP.region rfl ?_)
 refine AOps.cons rfl rfl (AOp.build (cells := [J 0, J 0, J 0, J 0]) rfl tz_25 pl_25 rfl rfl (AOps.cons rfl rfl (AOp.store' (cells' := [J 0, J 0, J 0, J 0]) (.agg [J 0, J 0, J 0, J 0]) rfl rfl ts_25 h4 rfl rfl rfl rfl ?_)))
 intro H21 h22 k23
 have m25 := Mono.set m7 z6 k23
 refine AOps.cons rfl rfl (AOp.assign _ rfl rfl ?_)
 refine AWP.ret ?_
 refine ⟨_, _, Ghost.refl, .inr rfl, _, Res.list rfl rfl (.cell (v := .agg [J 0, J 0, J 0, J 0]) rfl ty_25 h22 rfl (.tmp rfl (.nil))), ?_, m25⟩
 have hR : R_curve_weights i n = ([0, 0, 0, 0], false) := by unfold R_curve_weights; rw [if_neg b8, if_neg b14, if_pos b20]
 exact (congrArg (fun r : (List Int) × Bool => (.tup [.agg (r.1.map eI), .bool r.2] : AV)) hR).symm
 refine AOps.yes rfl rfl rfl rfl rfl rfl rfl (decide_eq_false b20) (AOp.move _ rfl rfl (AOps.yes rfl rfl rfl rfl rfl rfl rfl (decide_eq_false b20) (AOp.move _ rfl rfl (AOps.yes rfl rfl rfl rfl rfl rfl rfl (decide_eq_false b20) (AOp.bin _ rfl rfl rfl rfl (AOps.cons rfl rfl (AOp.pickF _ rfl rfl (decide_eq_false b20) rfl ?_)))))))
 refine AOps.nil ?_
 change AWP _ _ _ _ _ _
 by_cases b26 : i > n
 refine AWP.condT rfl (decide_eq_true b26) ?_
 refine AWP.seq (AWP.region rfl ?_)
 refine AOps.cons rfl rfl (AOp.build (cells := [J 0, J 0, J 0, J 0]) rfl tz_25 pl_25 rfl rfl (AOps.cons rfl rfl (AOp.store' (cells' := [J 0, J 0, J 0, J 0]) (.agg [J 0, J 0, J 0, J 0]) rfl rfl ts_25 h4 rfl rfl rfl rfl ?_)))
 intro H27 h28 k29
 have m31 := Mono.set m7 z6 k29
 refine AOps.cons rfl rfl (AOp.assign _ rfl rfl ?_)
 refine AWP.ret ?_
 refine ⟨_, _, Ghost.refl, .inr rfl, _, Res.list rfl rfl (.cell (v := .agg [J 0, J 0, J 0, J 0]) rfl ty_25 h28 rfl (.tmp rfl (.nil))), ?_, m31⟩
 have hR : R_curve_weights i n = ([0, 0, 0, 0], false) := by unfold R_curve_weights; rw [if_neg b8, if_neg b14, if_neg b20, if_pos b26]
 exact (congrArg (fun r : (List Int) × Bool => (.tup [.agg (r.1.map eI), .bool r.2] : AV)) hR).symm
 refine AWP.condF rfl (decide_eq_false b26) ?_
 refine AWP.skip ?_
 refine AWP.seq (AWP.region rfl ?_)
 refine AOps.cons rfl rfl (AOp.move _ rfl rfl (AOps.cons rfl rfl (AOp.move _ rfl rfl (AOps.cons rfl rfl (AOp.bin _ rfl rfl rfl (isub (by omega)) (AOps.cons rfl rfl (AOp.assign _ rfl rfl ?_)))))))
 refine AWP.seq (AWP.region rfl ?_)
 refine AOps.cons rfl rfl (AOp.move _ rfl rfl (AOps.cons rfl rfl (AOp.move _ rfl rfl (AOps.cons rfl rfl (AOp.bin _ rfl rfl rfl (imul (by have := mul_rng (x := n - i) (k := n - i) (A := 16) (C := 16) (by omega) (by omega); omega)) (AOps.cons rfl rfl (AOp.move _ rfl rfl (AOps.cons rfl rfl (AOp.bin _ rfl rfl rfl (imul (by have := mul_rng (x := (n - i) * (n - i)) (k := n - i) (A := 256) (C := 16) (by have := mul_rng (x := (n - i)) (k := (n - i)) (A := 16) (C := 16) (by omega) (by omega); omega) (by omega); omega)) (AOps.cons rfl rfl (AOp.move _ rfl rfl ?_)))))))))))
 refine AOps.cons rfl rfl (AOp.bin _ rfl rfl rfl (imul (by omega)) (AOps.cons rfl rfl (AOp.move _ rfl rfl (AOps.cons rfl rfl (AOp.bin _ rfl rfl rfl (imul (by have := mul_rng (x := 3 * (n - i)) (k := n - i) (A := 48) (C := 16) (by have := mul_rng (x := 3) (k := (n - i)) (A := 3) (C := 16) (by omega) (by omega); omega) (by omega); omega)) (AOps.cons rfl rfl (AOp.move _ rfl rfl (AOps.cons rfl rfl (AOp.bin _ rfl rfl rfl (imul (by have := mul_rng (x := (3 * (n - i)) * (n - i)) (k := i) (A := 768) (C := 16) (by have := mul_rng (x := (3 * (n - i))) (k := (n - i)) (A := 48) (C := 16) (by have := mul_rng (x := 3) (k := (n - i)) (A := 3) (C := 16) (by omega) (by omega); omega) (by omega); omega) (by omega); omega)) (AOps.cons rfl rfl (AOp.move _ rfl rfl ?_)))))))))))
 refine AOps.cons rfl rfl (AOp.bin _ rfl rfl rfl (imul (by omega)) (AOps.cons rfl rfl (AOp.move _ rfl rfl (AOps.cons rfl rfl (AOp.bin _ rfl rfl rfl (imul (by have := mul_rng (x := 3 * (n - i)) (k := i) (A := 48) (C := 16) (by have := mul_rng (x := 3) (k := (n - i)) (A := 3) (C := 16) (by omega) (by omega); omega) (by omega); omega)) (AOps.cons rfl rfl (AOp.move _ rfl rfl (AOps.cons rfl rfl (AOp.bin _ rfl rfl rfl (imul (by have := mul_rng (x := (3 * (n - i)) * i) (k := i) (A := 768) (C := 16) (by have := mul_rng (x := (3 * (n - i))) (k := i) (A := 48) (C := 16) (by have := mul_rng (x := 3) (k := (n - i)) (A := 3) (C := 16) (by omega) (by omega); omega) (by omega); omega) (by omega); omega)) (AOps.cons rfl rfl (AOp.move _ rfl rfl ?_)))))))))))
 refine AOps.cons rfl rfl (AOp.move _ rfl rfl (AOps.cons rfl rfl (AOp.bin _ rfl rfl rfl (imul (by have := mul_rng (x := i) (k := i) (A := 16) (C := 16) (by omega) (by omega); omega)) (AOps.cons rfl rfl (AOp.move _ rfl rfl (AOps.cons rfl rfl (AOp.bin _ rfl rfl rfl (imul (by have := mul_rng (x := i * i) (k := i) (A := 256) (C := 16) (by have := mul_rng (x := i) (k := i) (A := 16) (C := 16) (by omega) (by omega); omega) (by omega); omega)) (AOps.cons rfl rfl (AOp.build (cells := [J (((n - i) * (n - i)) * (n - i)), J (((3 * (n - i)) * (n - i)) * i), J (((3 * (n - i)) * i) * i), J ((i * i) * i)]) rfl tz_25 pl_25 rfl rfl (AOps.cons rfl rfl (AOp.store' (cells' := [J (((n - i) * (n - i)) * (n - i)), J (((3 * (n - i)) * (n - i)) * i), J (((3 * (n - i)) * i) * i), J ((i * i) * i)]) (.agg [J (((n - i) * (n - i)) * (n - i)), J (((3 * (n - i)) * (n - i)) * i), J (((3 * (n - i)) * i) * i), J ((i * i) * i)]) rfl rfl ts_25 h4 rfl rfl rfl rfl ?_)))))))))))
 intro H32 h33 k34
 have m36 := Mono.set m7 z6 k34
 refine AOps.cons rfl rfl (AOp.assign _ rfl rfl ?_)
 refine AWP.ret ?_
 refine ⟨_, _, Ghost.refl, .inr rfl, _, Res.list rfl rfl (.cell (v := .agg [J (((n - i) * (n - i)) * (n - i)), J (((3 * (n - i)) * (n - i)) * i), J (((3 * (n - i)) * i) * i), J ((i * i) * i)]) rfl ty_25 h33 rfl (.tmp rfl (.nil))), ?_, m36⟩
 have hR : R_curve_weights i n = ([((n - i) * (n - i)) * (n - i), ((3 * (n - i)) * (n - i)) * i, ((3 * (n - i)) * i) * i, (i * i) * i], true) := by unfold R_curve_weights; rw [if_neg b8, if_neg b14, if_neg b20, if_neg b26]
 exact (congrArg (fun r : (List Int) × Bool => (.tup [.agg (r.1.map eI), .bool r.2] : AV)) hR).symm
def R_ref11_Weights (i : Int) (n : Int) : (List Int) :=
  [((n - i) * (n - i)) * (n - i), ((3 * (n - i)) * (n - i)) * i, ((3 * (n - i)) * i) * i, (i * i) * i]
def R_curve_Row (p : (List VT)) (side : Int) : (List VT) :=
  if side = 0 then [(at_ p 0), (at_ p 1), (at_ p 2), (at_ p 3)] else (if side = 1 then [(at_ p 3), (at_ p 7), (at_ p 11), (at_ p 15)] else (if side = 2 then [(at_ p 15), (at_ p 14), (at_ p 13), (at_ p 12)] else (if side = 3 then [(at_ p 12), (at_ p 8), (at_ p 4), (at_ p 0)] else [(VT.mk 0 0 0), (VT.mk 0 0 0), (VT.mk 0 0 0), (VT.mk 0 0 0)])))
theorem R_curve_Row_len (p : List VT) (side : Int) : (R_curve_Row p side).length = 4 := by
  unfold R_curve_Row; (repeat' split) <;> rfl
theorem c_curve_Row (p : (List VT)) (h_p : p.length = 16) (side : Int) : PC Tryd.prog 47 [.agg (p.flatMap eV), J side] (.agg ((R_curve_Row p side).flatMap eV)) := by
 intro H0
 refine ACalls.of_body' (n := 33) rfl rfl rfl rfl ?_
 have m0 := Mono.refl H0
 refine AWP.seq (AWP.region rfl ?_)
 refine AOps.cons rfl rfl (AOp.box (.agg (p.flatMap eV)) rfl rfl rfl ?_)
 intro i1 H2 n3 h4 k5
 have z6 := Mono.free m0 n3
 have m7 := Mono.new m0 n3 k5
 refine AOps.cons rfl rfl (AOp.alloc rfl tz_26 ?_)
 intro i8 H9 n10 h11 k12
 have e13 := ne_new h4 n10
 have z14 := Mono.free m7 n10
 have h15 := keep k12 (ne_new h4 n10) h4
 have m16 := Mono.new m7 n10 k12
 refine AWP.seq ?_
 refine AWP.frzP 2 h15 z6 rfl m16 fun H17 m18 k19 => ?_
 have h20 := (k19 _ (Ne.symm e13)).trans h11
 refine AWP.region rfl ?_
 refine AOps.cons rfl rfl (AOp.assign _ rfl rfl (AOps.cons rfl rfl (AOp.assign _ rfl rfl ?_)))
 refine AWP.seq ?_
 refine AWP.seq (AWP.region rfl ?_)
 refine AOps.cons rfl rfl (AOp.move _ rfl rfl ?_)
 refine AWP.block ?_
 refine AWP.seq (AWP.region rfl ?_)
 refine AOps.cons rfl rfl (AOp.bin _ rfl rfl rfl ieq (AOps.cons rfl rfl (AOp.assign _ rfl rfl ?_)))
 refine AOps.nil ?_
 change AWP _ _ _ _ _ _
 by_cases b21 : side = 0
 refine AWP.condT rfl (decide_eq_true b21) ?_
 refine AWP.region rfl ?_
 refine AOps.cons rfl rfl (AOp.assign _ rfl rfl (AOps.cons rfl rfl (AOp.assign _ rfl rfl ?_)))
 refine AWP.seq (AWP.region rfl ?_)
 refine AOps.cons rfl rfl (AOp.alloc rfl tz_26 ?_)
 intro i22 H23 n24 h25 k26
 have e27 := ne_new h20 n24
 have z28 := Mono.free m18 n24
 have h29 := keep k26 (ne_new h20 n24) h20
 have m30 := Mono.new m18 n24 k26
 refine AWP.seq ?_
 refine AWP.seq (AWP.region rfl ?_)
 refine AOps.cons rfl rfl (AOp.move _ rfl rfl ?_)
 refine AWP.block ?_
 refine AWP.unroll 20 ?_
 refine UN.step ?_
 refine AWP.seq (AWP.region rfl ?_)
 refine AOps.cons rfl rfl (AOp.bin _ rfl rfl rfl rfl ?_)
 refine AWP.seq ?_
 refine AWP.condT rfl (decide_eq_true (by decide)) ?_
 refine AWP.skip ?_
 refine AWP.seq ?_
 refine AWP.block ?_
 refine AWP.seq (AWP.region rfl ?_)
 refine AOps.cons rfl rfl (AOp.move _ rfl rfl (AOps.cons rfl rfl (AOp.assign _ rfl rfl ?_)))
 refine AWP.region rfl ?_
 refine AOps.cons rfl rfl (AOp.move _ rfl rfl (AOps.cons rfl rfl (AOp.move _ rfl rfl (AOps.cons rfl rfl (AOp.move _ rfl rfl (AOps.cons rfl rfl (AOp.move _ rfl rfl (AOps.cons rfl rfl (AOp.bin _ rfl rfl rfl (imul (by omega)) (AOps.cons rfl rfl (AOp.bin _ rfl rfl rfl (iadd (by omega)) ?_)))))))))))
 refine AOps.cons rfl rfl (AOp.indexAddrFA rfl rfl rfl ar_24 (by omega) (by omega) (AOps.cons rfl rfl (AOp.loadF _ rfl rfl ty_23 (ldM eV_len (i := 0) (by omega) (by have := h_p; omega)) (AOps.cons rfl rfl (AOp.indexAddrA rfl rfl rfl ar_26 (by omega) (by omega) ⟨_, h25⟩ (AOps.cons rfl rfl (AOp.store' (cells' := [J ((at_ p 0).X), J ((at_ p 0).Y), J ((at_ p 0).Z), J 0, J 0, J 0, J 0, J 0, J 0, J 0, J 0, J 0]) (.agg [J ((at_ p 0).X), J ((at_ p 0).Y), J ((at_ p 0).Z)]) rfl rfl ts_23 h25 rfl rfl rfl rfl ?_)))))))
 intro H31 h32 k33
 have h34 := keep k33 e27 h29
 have m36 := Mono.set m30 z28 k33
 refine AWP.region rfl ?_
 refine AOps.cons rfl rfl (AOp.bin _ rfl rfl rfl (iadd (by omega)) (AOps.cons rfl rfl (AOp.move _ rfl rfl ?_)))
 refine AOps.nil ?_
 refine UN.step ?_
 refine AWP.seq (AWP.region rfl ?_)
 refine AOps.cons rfl rfl (AOp.bin _ rfl rfl rfl rfl ?_)
 refine AWP.seq ?_
 refine AWP.condT rfl (decide_eq_true (by decide)) ?_
 refine AWP.skip ?_
 refine AWP.seq ?_
 refine AWP.block ?_
 refine AWP.seq (AWP.region rfl ?_)
 refine AOps.cons rfl rfl (AOp.move _ rfl rfl (AOps.cons rfl rfl (AOp.assign _ rfl rfl ?_)))
 refine AWP.region rfl ?_
 refine AOps.cons rfl rfl (AOp.move _ rfl rfl (AOps.cons rfl rfl (AOp.move _ rfl rfl (AOps.cons rfl rfl (AOp.move _ rfl rfl (AOps.cons rfl rfl (AOp.move _ rfl rfl (AOps.cons rfl rfl (AOp.bin _ rfl rfl rfl (imul (by omega)) (AOps.cons rfl rfl (AOp.bin _ rfl rfl rfl (iadd (by omega)) ?_)))))))))))
 refine AOps.cons rfl rfl (AOp.indexAddrFA rfl rfl rfl ar_24 (by omega) (by omega) (AOps.cons rfl rfl (AOp.loadF _ rfl rfl ty_23 (ldM eV_len (i := 1) (by omega) (by have := h_p; omega)) (AOps.cons rfl rfl (AOp.indexAddrA rfl rfl rfl ar_26 (by omega) (by omega) ⟨_, h32⟩ (AOps.cons rfl rfl (AOp.store' (cells' := [J ((at_ p 0).X), J ((at_ p 0).Y), J ((at_ p 0).Z), J ((at_ p 1).X), J ((at_ p 1).Y), J ((at_ p 1).Z), J 0, J 0, J 0, J 0, J 0, J 0]) (.agg [J ((at_ p 1).X), J ((at_ p 1).Y), J ((at_ p 1).Z)]) rfl rfl ts_23 h32 rfl rfl rfl rfl ?_)))))))
 intro H37 h38 k39
 have h40 := keep k39 e27 h34
 have m42 := Mono.set m36 z28 k39
 refine AWP.region rfl ?_
 refine AOps.cons rfl rfl (AOp.bin _ rfl rfl rfl (iadd (by omega)) (AOps.cons rfl rfl (AOp.move _ rfl rfl ?_)))
 refine AOps.nil ?_
 refine UN.step ?_
 refine AWP.seq (AWP.region rfl ?_)
 refine AOps.cons rfl rfl (AOp.bin _ rfl rfl rfl rfl ?_)
 refine AWP.seq ?_
 refine AWP.condT rfl (decide_eq_true (by decide)) ?_
 refine AWP.skip ?_
 refine AWP.seq ?_
 refine AWP.block ?_
 refine AWP.seq (AWP.region rfl ?_)
 refine AOps.cons rfl rfl (AOp.move _ rfl rfl (AOps.cons rfl rfl (AOp.assign _ rfl rfl ?_)))
 refine AWP.region rfl ?_
 refine AOps.cons rfl rfl (AOp.move _ rfl rfl (AOps.cons rfl rfl (AOp.move _ rfl rfl (AOps.cons rfl rfl (AOp.move _ rfl rfl (AOps.cons rfl rfl (AOp.move _ rfl rfl (AOps.cons rfl rfl (AOp.bin _ rfl rfl rfl (imul (by omega)) (AOps.cons rfl rfl (AOp.bin _ rfl rfl rfl (iadd (by omega)) ?_)))))))))))
 refine AOps.cons rfl rfl (AOp.indexAddrFA rfl rfl rfl ar_24 (by omega) (by omega) (AOps.cons rfl rfl (AOp.loadF _ rfl rfl ty_23 (ldM eV_len (i := 2) (by omega) (by have := h_p; omega)) (AOps.cons rfl rfl (AOp.indexAddrA rfl rfl rfl ar_26 (by omega) (by omega) ⟨_, h38⟩ (AOps.cons rfl rfl (AOp.store' (cells' := [J ((at_ p 0).X), J ((at_ p 0).Y), J ((at_ p 0).Z), J ((at_ p 1).X), J ((at_ p 1).Y), J ((at_ p 1).Z), J ((at_ p 2).X), J ((at_ p 2).Y), J ((at_ p 2).Z), J 0, J 0, J 0]) (.agg [J ((at_ p 2).X), J ((at_ p 2).Y), J ((at_ p 2).Z)]) rfl rfl ts_23 h38 rfl rfl rfl rfl ?_)))))))
 intro H43 h44 k45
 have h46 := keep k45 e27 h40
 have m48 := Mono.set m42 z28 k45
 refine AWP.region rfl ?_
 refine AOps.cons rfl rfl (AOp.bin _ rfl rfl rfl (iadd (by omega)) (AOps.cons rfl rfl (AOp.move _ rfl rfl ?_)))
 refine AOps.nil ?_
 refine UN.step ?_
 refine AWP.seq (AWP.region rfl ?_)
 refine AOps.cons rfl rfl (AOp.bin _ rfl rfl rfl rfl ?_)
 refine AWP.seq ?_
 refine AWP.condT rfl (decide_eq_true (by decide)) ?_
 refine AWP.skip ?_
 refine AWP.seq ?_
 refine AWP.block ?_
 refine AWP.seq (AWP.region rfl ?_)
 refine AOps.cons rfl rfl (AOp.move _ rfl rfl (AOps.cons rfl rfl (AOp.assign _ rfl rfl ?_)))
 refine AWP.region rfl ?_
 refine AOps.cons rfl rfl (AOp.move _ rfl rfl (AOps.cons rfl rfl (AOp.move _ rfl rfl (AOps.cons rfl rfl (AOp.move _ rfl rfl (AOps.cons rfl rfl (AOp.move _ rfl rfl (AOps.cons rfl rfl (AOp.bin _ rfl rfl rfl (imul (by omega)) (AOps.cons rfl rfl (AOp.bin _ rfl rfl rfl (iadd (by omega)) ?_)))))))))))
 refine AOps.cons rfl rfl (AOp.indexAddrFA rfl rfl rfl ar_24 (by omega) (by omega) (AOps.cons rfl rfl (AOp.loadF _ rfl rfl ty_23 (ldM eV_len (i := 3) (by omega) (by have := h_p; omega)) (AOps.cons rfl rfl (AOp.indexAddrA rfl rfl rfl ar_26 (by omega) (by omega) ⟨_, h44⟩ (AOps.cons rfl rfl (AOp.store' (cells' := [J ((at_ p 0).X), J ((at_ p 0).Y), J ((at_ p 0).Z), J ((at_ p 1).X), J ((at_ p 1).Y), J ((at_ p 1).Z), J ((at_ p 2).X), J ((at_ p 2).Y), J ((at_ p 2).Z), J ((at_ p 3).X), J ((at_ p 3).Y), J ((at_ p 3).Z)]) (.agg [J ((at_ p 3).X), J ((at_ p 3).Y), J ((at_ p 3).Z)]) rfl rfl ts_23 h44 rfl rfl rfl rfl ?_)))))))
 intro H49 h50 k51
 have h52 := keep k51 e27 h46
 have m54 := Mono.set m48 z28 k51
 refine AWP.region rfl ?_
 refine AOps.cons rfl rfl (AOp.bin _ rfl rfl rfl (iadd (by omega)) (AOps.cons rfl rfl (AOp.move _ rfl rfl ?_)))
 refine AOps.nil ?_
 refine UN.step ?_
 refine AWP.seq (AWP.region rfl ?_)
 refine AOps.cons rfl rfl (AOp.bin _ rfl rfl rfl rfl ?_)
 refine AWP.seq ?_
 refine AWP.condF rfl (decide_eq_false (by decide)) ?_
 refine AWP.exit ?_
 change AWP _ _ _ _ _ _
 refine AWP.seq (AWP.region rfl ?_)
 refine AOps.cons rfl rfl (AOp.load _ rfl rfl ty_26 h50 rfl (AOps.cons rfl rfl (AOp.store' (cells' := [J ((at_ p 0).X), J ((at_ p 0).Y), J ((at_ p 0).Z), J ((at_ p 1).X), J ((at_ p 1).Y), J ((at_ p 1).Z), J ((at_ p 2).X), J ((at_ p 2).Y), J ((at_ p 2).Z), J ((at_ p 3).X), J ((at_ p 3).Y), J ((at_ p 3).Z)]) (.agg [J ((at_ p 0).X), J ((at_ p 0).Y), J ((at_ p 0).Z), J ((at_ p 1).X), J ((at_ p 1).Y), J ((at_ p 1).Z), J ((at_ p 2).X), J ((at_ p 2).Y), J ((at_ p 2).Z), J ((at_ p 3).X), J ((at_ p 3).Y), J ((at_ p 3).Z)]) rfl rfl ts_26 h52 rfl rfl rfl rfl ?_)))
 intro H55 h56 k57
 have m60 := Mono.set m54 z14 k57
 refine AWP.ret ?_
 refine ⟨_, _, Ghost.refl, .inr rfl, _, Res.list1 rfl (.cell (v := .agg [J ((at_ p 0).X), J ((at_ p 0).Y), J ((at_ p 0).Z), J ((at_ p 1).X), J ((at_ p 1).Y), J ((at_ p 1).Z), J ((at_ p 2).X), J ((at_ p 2).Y), J ((at_ p 2).Z), J ((at_ p 3).X), J ((at_ p 3).Y), J ((at_ p 3).Z)]) rfl ty_26 h56 rfl (.nil)), ?_, m60⟩
 have hR : R_curve_Row p side = [(at_ p 0), (at_ p 1), (at_ p 2), (at_ p 3)] := by unfold R_curve_Row; rw [if_pos b21]
 exact (congrArg (fun r : (List VT) => (.agg (r.flatMap eV) : AV)) hR).symm
 refine AWP.condF rfl (decide_eq_false b21) ?_
 refine AWP.seq (AWP.region rfl ?_)
 refine AOps.cons rfl rfl (AOp.bin _ rfl rfl rfl ieq (AOps.cons rfl rfl (AOp.assign _ rfl rfl ?_)))
 refine AOps.nil ?_
 change AWP _ _ _ _ _ _
 by_cases b61 : side = 1
 refine AWP.condT rfl (decide_eq_true b61) ?_
 refine AWP.region rfl ?_
 refine AOps.cons rfl rfl (AOp.assign _ rfl rfl (AOps.cons rfl rfl (AOp.assign _ rfl rfl ?_)))
 refine AWP.seq (AWP.region rfl ?_)
 refine AOps.cons rfl rfl (AOp.alloc rfl tz_26 ?_)
 intro i62 H63 n64 h65 k66
 have e67 := ne_new h20 n64
 have z68 := Mono.free m18 n64
 have h69 := keep k66 (ne_new h20 n64) h20
 have m70 := Mono.new m18 n64 k66
 refine AWP.seq ?_
 refine AWP.seq (AWP.region rfl ?_)
 refine AOps.cons rfl rfl (AOp.move _ rfl rfl ?_)
 refine AWP.block ?_
 refine AWP.unroll 20 ?_
 refine UN.step ?_
 refine AWP.seq (AWP.region rfl ?_)
 refine AOps.cons rfl rfl (AOp.bin _ rfl rfl rfl rfl ?_)
 refine AWP.seq ?_
 refine AWP.condT rfl (decide_eq_true (by decide)) ?_
 refine AWP.skip ?_
 refine AWP.seq ?_
 refine AWP.block ?_
 refine AWP.seq (AWP.region rfl ?_)
 refine AOps.cons rfl rfl (AOp.move _ rfl rfl (AOps.cons rfl rfl (AOp.assign _ rfl rfl ?_)))
 refine AWP.region rfl ?_
 refine AOps.cons rfl rfl (AOp.move _ rfl rfl (AOps.cons rfl rfl (AOp.move _ rfl rfl (AOps.cons rfl rfl (AOp.move _ rfl rfl (AOps.cons rfl rfl (AOp.move _ rfl rfl (AOps.cons rfl rfl (AOp.bin _ rfl rfl rfl (imul (by omega)) (AOps.cons rfl rfl (AOp.bin _ rfl rfl rfl (iadd (by omega)) ?_)))))))))))
 refine AOps.cons rfl rfl (AOp.indexAddrFA rfl rfl rfl ar_24 (by omega) (by omega) (AOps.cons rfl rfl (AOp.loadF _ rfl rfl ty_23 (ldM eV_len (i := 3) (by omega) (by have := h_p; omega)) (AOps.cons rfl rfl (AOp.indexAddrA rfl rfl rfl ar_26 (by omega) (by omega) ⟨_, h65⟩ (AOps.cons rfl rfl (AOp.store' (cells' := [J ((at_ p 3).X), J ((at_ p 3).Y), J ((at_ p 3).Z), J 0, J 0, J 0, J 0, J 0, J 0, J 0, J 0, J 0]) (.agg [J ((at_ p 3).X), J ((at_ p 3).Y), J ((at_ p 3).Z)]) rfl rfl ts_23 h65 rfl rfl rfl rfl ?_)))))))
 intro H71 h72 k73
 have h74 := keep k73 e67 h69
 have m76 := Mono.set m70 z68 k73
 refine AWP.region rfl ?_
 refine AOps.cons rfl rfl (AOp.bin _ rfl rfl rfl (iadd (by omega)) (AOps.cons rfl rfl (AOp.move _ rfl rfl ?_)))
 refine AOps.nil ?_
 refine UN.step ?_
 refine AWP.seq (AWP.region rfl ?_)
 refine AOps.cons rfl rfl (AOp.bin _ rfl rfl rfl rfl ?_)
 refine AWP.seq ?_
 refine AWP.condT rfl (decide_eq_true (by decide)) ?_
 refine AWP.skip ?_
 refine AWP.seq ?_
 refine AWP.block ?_
 refine AWP.seq (AWP.region rfl ?_)
 refine AOps.cons rfl rfl (AOp.move _ rfl rfl (AOps.cons rfl rfl (AOp.assign _ rfl rfl ?_)))
 refine AWP.region rfl ?_
 refine AOps.cons rfl rfl (AOp.move _ rfl rfl (AOps.cons rfl rfl (AOp.move _ rfl rfl (AOps.cons rfl rfl (AOp.move _ rfl rfl (AOps.cons rfl rfl (AOp.move _ rfl rfl (AOps.cons rfl rfl (AOp.bin _ rfl rfl rfl (imul (by omega)) (AOps.cons rfl rfl (AOp.bin _ rfl rfl rfl (iadd (by omega)) ?_)))))))))))
 refine AOps.cons rfl rfl (AOp.indexAddrFA rfl rfl rfl ar_24 (by omega) (by omega) (AOps.cons rfl rfl (AOp.loadF _ rfl rfl ty_23 (ldM eV_len (i := 7) (by omega) (by have := h_p; omega)) (AOps.cons rfl rfl (AOp.indexAddrA rfl rfl rfl ar_26 (by omega) (by omega) ⟨_, h72⟩ (AOps.cons rfl rfl (AOp.store' (cells' := [J ((at_ p 3).X), J ((at_ p 3).Y), J ((at_ p 3).Z), J ((at_ p 7).X), J ((at_ p 7).Y), J ((at_ p 7).Z), J 0, J 0, J 0, J 0, J 0, J 0]) (.agg [J ((at_ p 7).X), J ((at_ p 7).Y), J ((at_ p 7).Z)]) rfl rfl ts_23 h72 rfl rfl rfl rfl ?_)))))))
 intro H77 h78 k79
 have h80 := keep k79 e67 h74
 have m82 := Mono.set m76 z68 k79
 refine AWP.region rfl ?_
 refine AOps.cons rfl rfl (AOp.bin _ rfl rfl rfl (iadd (by omega)) (AOps.cons rfl rfl (AOp.move _ rfl rfl ?_)))
 refine AOps.nil ?_
 refine UN.step ?_
 refine AWP.seq (AWP.region rfl ?_)
 refine AOps.cons rfl rfl (AOp.bin _ rfl rfl rfl rfl ?_)
 refine AWP.seq ?_
 refine AWP.condT rfl (decide_eq_true (by decide)) ?_
 refine AWP.skip ?_
 refine AWP.seq ?_
 refine AWP.block ?_
 refine AWP.seq (AWP.region rfl ?_)
 refine AOps.cons rfl rfl (AOp.move _ rfl rfl (AOps.cons rfl rfl (AOp.assign _ rfl rfl ?_)))
 refine AWP.region rfl ?_
 refine AOps.cons rfl rfl (AOp.move _ rfl rfl (AOps.cons rfl rfl (AOp.move _ rfl rfl (AOps.cons rfl rfl (AOp.move _ rfl rfl (AOps.cons rfl rfl (AOp.move _ rfl rfl (AOps.cons rfl rfl (AOp.bin _ rfl rfl rfl (imul (by omega)) (AOps.cons rfl rfl (AOp.bin _ rfl rfl rfl (iadd (by omega)) ?_)))))))))))
 refine AOps.cons rfl rfl (AOp.indexAddrFA rfl rfl rfl ar_24 (by omega) (by omega) (AOps.cons rfl rfl (AOp.loadF _ rfl rfl ty_23 (ldM eV_len (i := 11) (by omega) (by have := h_p; omega)) (AOps.cons rfl rfl (AOp.indexAddrA rfl rfl rfl ar_26 (by omega) (by omega) ⟨_, h78⟩ (AOps.cons rfl rfl (AOp.store' (cells' := [J ((at_ p 3).X), J ((at_ p 3).Y), J ((at_ p 3).Z), J ((at_ p 7).X), J ((at_ p 7).Y), J ((at_ p 7).Z), J ((at_ p 11).X), J ((at_ p 11).Y), J ((at_ p 11).Z), J 0, J 0, J 0]) (.agg [J ((at_ p 11).X), J ((at_ p 11).Y), J ((at_ p 11).Z)]) rfl rfl ts_23 h78 rfl rfl rfl rfl ?_)))))))
 intro H83 h84 k85
 have h86 := keep k85 e67 h80
 have m88 := Mono.set m82 z68 k85
 refine AWP.region rfl ?_
 refine AOps.cons rfl rfl (AOp.bin _ rfl rfl rfl (iadd (by omega)) (AOps.cons rfl rfl (AOp.move _ rfl rfl ?_)))
 refine AOps.nil ?_
 refine UN.step ?_
 refine AWP.seq (AWP.region rfl ?_)
 refine AOps.cons rfl rfl (AOp.bin _ rfl rfl rfl rfl ?_)
 refine AWP.seq ?_
 refine AWP.condT rfl (decide_eq_true (by decide)) ?_
 refine AWP.skip ?_
 refine AWP.seq ?_
 refine AWP.block ?_
 refine AWP.seq (AWP.region rfl ?_)
 refine AOps.cons rfl rfl (AOp.move _ rfl rfl (AOps.cons rfl rfl (AOp.assign _ rfl rfl ?_)))
 refine AWP.region rfl ?_
 refine AOps.cons rfl rfl (AOp.move _ rfl rfl (AOps.cons rfl rfl (AOp.move _ rfl rfl (AOps.cons rfl rfl (AOp.move _ rfl rfl (AOps.cons rfl rfl (AOp.move _ rfl rfl (AOps.cons rfl rfl (AOp.bin _ rfl rfl rfl (imul (by omega)) (AOps.cons rfl rfl (AOp.bin _ rfl rfl rfl (iadd (by omega)) ?_)))))))))))
 refine AOps.cons rfl rfl (AOp.indexAddrFA rfl rfl rfl ar_24 (by omega) (by omega) (AOps.cons rfl rfl (AOp.loadF _ rfl rfl ty_23 (ldM eV_len (i := 15) (by omega) (by have := h_p; omega)) (AOps.cons rfl rfl (AOp.indexAddrA rfl rfl rfl ar_26 (by omega) (by omega) ⟨_, h84⟩ (AOps.cons rfl rfl (AOp.store' (cells' := [J ((at_ p 3).X), J ((at_ p 3).Y), J ((at_ p 3).Z), J ((at_ p 7).X), J ((at_ p 7).Y), J ((at_ p 7).Z), J ((at_ p 11).X), J ((at_ p 11).Y), J ((at_ p 11).Z), J ((at_ p 15).X), J ((at_ p 15).Y), J ((at_ p 15).Z)]) (.agg [J ((at_ p 15).X), J ((at_ p 15).Y), J ((at_ p 15).Z)]) rfl rfl ts_23 h84 rfl rfl rfl rfl ?_)))))))
 intro H89 h90 k91
 have h92 := keep k91 e67 h86
 have m94 := Mono.set m88 z68 k91
 refine AWP.region rfl ?_
 refine AOps.cons rfl rfl (AOp.bin _ rfl rfl rfl (iadd (by omega)) (AOps.cons rfl rfl (AOp.move _ rfl rfl ?_)))
 refine AOps.nil ?_
 refine UN.step ?_
 refine AWP.seq (AWP.region rfl ?_)
 refine AOps.cons rfl rfl (AOp.bin _ rfl rfl rfl rfl ?_)
 refine AWP.seq ?_
 refine AWP.condF rfl (decide_eq_false (by decide)) ?_
 refine AWP.exit ?_
 change AWP _ _ _ _ _ _
 refine AWP.seq (AWP.region rfl ?_)
 refine AOps.cons rfl rfl (AOp.load _ rfl rfl ty_26 h90 rfl (AOps.cons rfl rfl (AOp.store' (cells' := [J ((at_ p 3).X), J ((at_ p 3).Y), J ((at_ p 3).Z), J ((at_ p 7).X), J ((at_ p 7).Y), J ((at_ p 7).Z), J ((at_ p 11).X), J ((at_ p 11).Y), J ((at_ p 11).Z), J ((at_ p 15).X), J ((at_ p 15).Y), J ((at_ p 15).Z)]) (.agg [J ((at_ p 3).X), J ((at_ p 3).Y), J ((at_ p 3).Z), J ((at_ p 7).X), J ((at_ p 7).Y), J ((at_ p 7).Z), J ((at_ p 11).X), J ((at_ p 11).Y), J ((at_ p 11).Z), J ((at_ p 15).X), J ((at_ p 15).Y), J ((at_ p 15).Z)]) rfl rfl ts_26 h92 rfl rfl rfl rfl ?_)))
 intro H95 h96 k97
 have m100 := Mono.set m94 z14 k97
 refine AWP.ret ?_
 refine ⟨_, _, Ghost.refl, .inr rfl, _, Res.list1 rfl (.cell (v := .agg [J ((at_ p 3).X), J ((at_ p 3).Y), J ((at_ p 3).Z), J ((at_ p 7).X), J ((at_ p 7).Y), J ((at_ p 7).Z), J ((at_ p 11).X), J ((at_ p 11).Y), J ((at_ p 11).Z), J ((at_ p 15).X), J ((at_ p 15).Y), J ((at_ p 15).Z)]) rfl ty_26 h96 rfl (.nil)), ?_, m100⟩
 have hR : R_curve_Row p side = [(at_ p 3), (at_ p 7), (at_ p 11), (at_ p 15)] := by unfold R_curve_Row; rw [if_neg b21, if_pos b61]
 exact (congrArg (fun r : (List VT) => (.agg (r.flatMap eV) : AV)) hR).symm
 refine AWP.condF rfl (decide_eq_false b61) ?_
 refine AWP.seq (AWP.region rfl ?_)
 refine AOps.cons rfl rfl (AOp.bin _ rfl rfl rfl ieq (AOps.cons rfl rfl (AOp.assign _ rfl rfl ?_)))
 refine AOps.nil ?_
 change AWP _ _ _ _ _ _
 by_cases b101 : side = 2
 refine AWP.condT rfl (decide_eq_true b101) ?_
 refine AWP.region rfl ?_
 refine AOps.cons rfl rfl (AOp.assign _ rfl rfl (AOps.cons rfl rfl (AOp.assign _ rfl rfl ?_)))
 refine AWP.seq (AWP.region rfl ?_)
 refine AOps.cons rfl rfl (AOp.alloc rfl tz_26 ?_)
 intro i102 H103 n104 h105 k106
 have e107 := ne_new h20 n104
 have z108 := Mono.free m18 n104
 have h109 := keep k106 (ne_new h20 n104) h20
 have m110 := Mono.new m18 n104 k106
 refine AWP.seq ?_
 refine AWP.seq (AWP.region rfl ?_)
 refine AOps.cons rfl rfl (AOp.move _ rfl rfl ?_)
 refine AWP.block ?_
 refine AWP.unroll 20 ?_
 refine UN.step ?_
 refine AWP.seq (AWP.region rfl ?_)
 refine AOps.cons rfl rfl (AOp.bin _ rfl rfl rfl rfl ?_)
 refine AWP.seq ?_
 refine AWP.condT rfl (decide_eq_true (by decide)) ?_
 refine AWP.skip ?_
 refine AWP.seq ?_
 refine AWP.block ?_
 refine AWP.seq (AWP.region rfl ?_)
 refine AOps.cons rfl rfl (AOp.move _ rfl rfl (AOps.cons rfl rfl (AOp.assign _ rfl rfl ?_)))
 refine AWP.region rfl ?_
 refine AOps.cons rfl rfl (AOp.move _ rfl rfl (AOps.cons rfl rfl (AOp.move _ rfl rfl (AOps.cons rfl rfl (AOp.move _ rfl rfl (AOps.cons rfl rfl (AOp.move _ rfl rfl (AOps.cons rfl rfl (AOp.bin _ rfl rfl rfl (imul (by omega)) (AOps.cons rfl rfl (AOp.bin _ rfl rfl rfl (iadd (by omega)) ?_)))))))))))
 refine AOps.cons rfl rfl (AOp.indexAddrFA rfl rfl rfl ar_24 (by omega) (by omega) (AOps.cons rfl rfl (AOp.loadF _ rfl rfl ty_23 (ldM eV_len (i := 15) (by omega) (by have := h_p; omega)) (AOps.cons rfl rfl (AOp.indexAddrA rfl rfl rfl ar_26 (by omega) (by omega) ⟨_, h105⟩ (AOps.cons rfl rfl (AOp.store' (cells' := [J ((at_ p 15).X), J ((at_ p 15).Y), J ((at_ p 15).Z), J 0, J 0, J 0, J 0, J 0, J 0, J 0, J 0, J 0]) (.agg [J ((at_ p 15).X), J ((at_ p 15).Y), J ((at_ p 15).Z)]) rfl rfl ts_23 h105 rfl rfl rfl rfl ?_)))))))
 intro H111 h112 k113
 have h114 := keep k113 e107 h109
 have m116 := Mono.set m110 z108 k113
 refine AWP.region rfl ?_
 refine AOps.cons rfl rfl (AOp.bin _ rfl rfl rfl (iadd (by omega)) (AOps.cons rfl rfl (AOp.move _ rfl rfl ?_)))
 refine AOps.nil ?_
 refine UN.step ?_
 refine AWP.seq (AWP.region rfl ?_)
 refine AOps.cons rfl rfl (AOp.bin _ rfl rfl rfl rfl ?_)
 refine AWP.seq ?_
 refine AWP.condT rfl (decide_eq_true (by decide)) ?_
 refine AWP.skip ?_
 refine AWP.seq ?_
 refine AWP.block ?_
 refine AWP.seq (AWP.region rfl ?_)
 refine AOps.cons rfl rfl (AOp.move _ rfl rfl (AOps.cons rfl rfl (AOp.assign _ rfl rfl ?_)))
 refine AWP.region rfl ?_
 refine AOps.cons rfl rfl (AOp.move _ rfl rfl (AOps.cons rfl rfl (AOp.move _ rfl rfl (AOps.cons rfl rfl (AOp.move _ rfl rfl (AOps.cons rfl rfl (AOp.move _ rfl rfl (AOps.cons rfl rfl (AOp.bin _ rfl rfl rfl (imul (by omega)) (AOps.cons rfl rfl (AOp.bin _ rfl rfl rfl (iadd (by omega)) ?_)))))))))))
 refine AOps.cons rfl rfl (AOp.indexAddrFA rfl rfl rfl ar_24 (by omega) (by omega) (AOps.cons rfl rfl (AOp.loadF _ rfl rfl ty_23 (ldM eV_len (i := 14) (by omega) (by have := h_p; omega)) (AOps.cons rfl rfl (AOp.indexAddrA rfl rfl rfl ar_26 (by omega) (by omega) ⟨_, h112⟩ (AOps.cons rfl rfl (AOp.store' (cells' := [J ((at_ p 15).X), J ((at_ p 15).Y), J ((at_ p 15).Z), J ((at_ p 14).X), J ((at_ p 14).Y), J ((at_ p 14).Z), J 0, J 0, J 0, J 0, J 0, J 0]) (.agg [J ((at_ p 14).X), J ((at_ p 14).Y), J ((at_ p 14).Z)]) rfl rfl ts_23 h112 rfl rfl rfl rfl ?_)))))))
 intro H117 h118 k119
 have h120 := keep k119 e107 h114
 have m122 := Mono.set m116 z108 k119
 refine AWP.region rfl ?_
 refine AOps.cons rfl rfl (AOp.bin _ rfl rfl rfl (iadd (by omega)) (AOps.cons rfl rfl (AOp.move _ rfl rfl ?_)))
 refine AOps.nil ?_
 refine UN.step ?_
 refine AWP.seq (AWP.region rfl ?_)
 refine AOps.cons rfl rfl (AOp.bin _ rfl rfl rfl rfl ?_)
 refine AWP.seq ?_
 refine AWP.condT rfl (decide_eq_true (by decide)) ?_
 refine AWP.skip ?_
 refine AWP.seq ?_
 refine AWP.block ?_
 refine AWP.seq (AWP.region rfl ?_)
 refine AOps.cons rfl rfl (AOp.move _ rfl rfl (AOps.cons rfl rfl (AOp.assign _ rfl rfl ?_)))
 refine AWP.region rfl ?_
 refine AOps.cons rfl rfl (AOp.move _ rfl rfl (AOps.cons rfl rfl (AOp.move _ rfl rfl (AOps.cons rfl rfl (AOp.move _ rfl rfl (AOps.cons rfl rfl (AOp.move _ rfl rfl (AOps.cons rfl rfl (AOp.bin _ rfl rfl rfl (imul (by omega)) (AOps.cons rfl rfl (AOp.bin _ rfl rfl rfl (iadd (by omega)) ?_)))))))))))
 refine AOps.cons rfl rfl (AOp.indexAddrFA rfl rfl rfl ar_24 (by omega) (by omega) (AOps.cons rfl rfl (AOp.loadF _ rfl rfl ty_23 (ldM eV_len (i := 13) (by omega) (by have := h_p; omega)) (AOps.cons rfl rfl (AOp.indexAddrA rfl rfl rfl ar_26 (by omega) (by omega) ⟨_, h118⟩ (AOps.cons rfl rfl (AOp.store' (cells' := [J ((at_ p 15).X), J ((at_ p 15).Y), J ((at_ p 15).Z), J ((at_ p 14).X), J ((at_ p 14).Y), J ((at_ p 14).Z), J ((at_ p 13).X), J ((at_ p 13).Y), J ((at_ p 13).Z), J 0, J 0, J 0]) (.agg [J ((at_ p 13).X), J ((at_ p 13).Y), J ((at_ p 13).Z)]) rfl rfl ts_23 h118 rfl rfl rfl rfl ?_)))))))
 intro H123 h124 k125
 have h126 := keep k125 e107 h120
 have m128 := Mono.set m122 z108 k125
 refine AWP.region rfl ?_
 refine AOps.cons rfl rfl (AOp.bin _ rfl rfl rfl (iadd (by omega)) (AOps.cons rfl rfl (AOp.move _ rfl rfl ?_)))
 refine AOps.nil ?_
 refine UN.step ?_
 refine AWP.seq (AWP.region rfl ?_)
 refine AOps.cons rfl rfl (AOp.bin _ rfl rfl rfl rfl ?_)
 refine AWP.seq ?_
 refine AWP.condT rfl (decide_eq_true (by decide)) ?_
 refine AWP.skip ?_
 refine AWP.seq ?_
 refine AWP.block ?_
 refine AWP.seq (AWP.region rfl ?_)
 refine AOps.cons rfl rfl (AOp.move _ rfl rfl (AOps.cons rfl rfl (AOp.assign _ rfl rfl ?_)))
 refine AWP.region rfl ?_
 refine AOps.cons rfl rfl (AOp.move _ rfl rfl (AOps.cons rfl rfl (AOp.move _ rfl rfl (AOps.cons rfl rfl (AOp.move _ rfl rfl (AOps.cons rfl rfl (AOp.move _ rfl rfl (AOps.cons rfl rfl (AOp.bin _ rfl rfl rfl (imul (by omega)) (AOps.cons rfl rfl (AOp.bin _ rfl rfl rfl (iadd (by omega)) ?_)))))))))))
 refine AOps.cons rfl rfl (AOp.indexAddrFA rfl rfl rfl ar_24 (by omega) (by omega) (AOps.cons rfl rfl (AOp.loadF _ rfl rfl ty_23 (ldM eV_len (i := 12) (by omega) (by have := h_p; omega)) (AOps.cons rfl rfl (AOp.indexAddrA rfl rfl rfl ar_26 (by omega) (by omega) ⟨_, h124⟩ (AOps.cons rfl rfl (AOp.store' (cells' := [J ((at_ p 15).X), J ((at_ p 15).Y), J ((at_ p 15).Z), J ((at_ p 14).X), J ((at_ p 14).Y), J ((at_ p 14).Z), J ((at_ p 13).X), J ((at_ p 13).Y), J ((at_ p 13).Z), J ((at_ p 12).X), J ((at_ p 12).Y), J ((at_ p 12).Z)]) (.agg [J ((at_ p 12).X), J ((at_ p 12).Y), J ((at_ p 12).Z)]) rfl rfl ts_23 h124 rfl rfl rfl rfl ?_)))))))
 intro H129 h130 k131
 have h132 := keep k131 e107 h126
 have m134 := Mono.set m128 z108 k131
 refine AWP.region rfl ?_
 refine AOps.cons rfl rfl (AOp.bin _ rfl rfl rfl (iadd (by omega)) (AOps.cons rfl rfl (AOp.move _ rfl rfl ?_)))
 refine AOps.nil ?_
 refine UN.step ?_
 refine AWP.seq (AWP.region rfl ?_)
 refine AOps.cons rfl rfl (AOp.bin _ rfl rfl rfl rfl ?_)
 refine AWP.seq ?_
 refine AWP.condF rfl (decide_eq_false (by decide)) ?_
 refine AWP.exit ?_
 change AWP _ _ _ _ _ _
 refine AWP.seq (AWP.region rfl ?_)
 refine AOps.cons rfl rfl (AOp.load _ rfl rfl ty_26 h130 rfl (AOps.cons rfl rfl (AOp.store' (cells' := [J ((at_ p 15).X), J ((at_ p 15).Y), J ((at_ p 15).Z), J ((at_ p 14).X), J ((at_ p 14).Y), J ((at_ p 14).Z), J ((at_ p 13).X), J ((at_ p 13).Y), J ((at_ p 13).Z), J ((at_ p 12).X), J ((at_ p 12).Y), J ((at_ p 12).Z)]) (.agg [J ((at_ p 15).X), J ((at_ p 15).Y), J ((at_ p 15).Z), J ((at_ p 14).X), J ((at_ p 14).Y), J ((at_ p 14).Z), J ((at_ p 13).X), J ((at_ p 13).Y), J ((at_ p 13).Z), J ((at_ p 12).X), J ((at_ p 12).Y), J ((at_ p 12).Z)]) rfl rfl ts_26 h132 rfl rfl rfl rfl ?_)))
 intro H135 h136 k137
 have m140 := Mono.set m134 z14 k137
 refine AWP.ret ?_
 refine ⟨_, _, Ghost.refl, .inr rfl, _, Res.list1 rfl (.cell (v := .agg [J ((at_ p 15).X), J ((at_ p 15).Y), J ((at_ p 15).Z), J ((at_ p 14).X), J ((at_ p 14).Y), J ((at_ p 14).Z), J ((at_ p 13).X), J ((at_ p 13).Y), J ((at_ p 13).Z), J ((at_ p 12).X), J ((at_ p 12).Y), J ((at_ p 12).Z)]) rfl ty_26 h136 rfl (.nil)), ?_, m140⟩
 have hR : R_curve_Row p side = [(at_ p 15), (at_ p 14), (at_ p 13), (at_ p 12)] := by unfold R_curve_Row; rw [if_neg b21, if_neg b61, if_pos b101]
 exact (congrArg (fun r : (List VT) => (.agg (r.flatMap eV) : AV)) hR).symm
 refine AWP.condF rfl (decide_eq_false b101) ?_
 refine AWP.seq (AWP.region rfl ?_)
 refine AOps.cons rfl rfl (AOp.bin _ rfl rfl rfl ieq (AOps.cons rfl rfl (AOp.assign _ rfl rfl ?_)))
 refine AOps.nil ?_
 change AWP _ _ _ _ _ _
 by_cases b141 : side = 3
 refine AWP.condT rfl (decide_eq_true b141) ?_
 refine AWP.region rfl ?_
 refine AOps.cons rfl rfl (AOp.assign _ rfl rfl (AOps.cons rfl rfl (AOp.assign _ rfl rfl ?_)))
 refine AWP.seq (AWP.region rfl ?_)
 refine AOps.cons rfl rfl (AOp.alloc rfl tz_26 ?_)
 intro i142 H143 n144 h145 k146
 have e147 := ne_new h20 n144
 have z148 := Mono.free m18 n144
 have h149 := keep k146 (ne_new h20 n144) h20
 have m150 := Mono.new m18 n144 k146
 refine AWP.seq ?_
 refine AWP.seq (AWP.region rfl ?_)
 refine AOps.cons rfl rfl (AOp.move _ rfl rfl ?_)
 refine AWP.block ?_
 refine AWP.unroll 20 ?_
 refine UN.step ?_
 refine AWP.seq (AWP.region rfl ?_)
 refine AOps.cons rfl rfl (AOp.bin _ rfl rfl rfl rfl ?_)
 refine AWP.seq ?_
 refine AWP.condT rfl (decide_eq_true (by decide)) ?_
 refine AWP.skip ?_
 refine AWP.seq ?_
 refine AWP.block ?_
 refine AWP.seq (AWP.region rfl ?_)
 refine AOps.cons rfl rfl (AOp.move _ rfl rfl (AOps.cons rfl rfl (AOp.assign _ rfl rfl ?_)))
 refine AWP.region rfl ?_
 refine AOps.cons rfl rfl (AOp.move _ rfl rfl (AOps.cons rfl rfl (AOp.move _ rfl rfl (AOps.cons rfl rfl (AOp.move _ rfl rfl (AOps.cons rfl rfl (AOp.move _ rfl rfl (AOps.cons rfl rfl (AOp.bin _ rfl rfl rfl (imul (by omega)) (AOps.cons rfl rfl (AOp.bin _ rfl rfl rfl (iadd (by omega)) ?_)))))))))))
 refine AOps.cons rfl rfl (AOp.indexAddrFA rfl rfl rfl ar_24 (by omega) (by omega) (AOps.cons rfl rfl (AOp.loadF _ rfl rfl ty_23 (ldM eV_len (i := 12) (by omega) (by have := h_p; omega)) (AOps.cons rfl rfl (AOp.indexAddrA rfl rfl rfl ar_26 (by omega) (by omega) ⟨_, h145⟩ (AOps.cons rfl rfl (AOp.store' (cells' := [J ((at_ p 12).X), J ((at_ p 12).Y), J ((at_ p 12).Z), J 0, J 0, J 0, J 0, J 0, J 0, J 0, J 0, J 0]) (.agg [J ((at_ p 12).X), J ((at_ p 12).Y), J ((at_ p 12).Z)]) rfl rfl ts_23 h145 rfl rfl rfl rfl ?_)))))))
 intro H151 h152 k153
 have h154 := keep k153 e147 h149
 have m156 := Mono.set m150 z148 k153
 refine AWP.region rfl ?_
 refine AOps.cons rfl rfl (AOp.bin _ rfl rfl rfl (iadd (by omega)) (AOps.cons rfl rfl (AOp.move _ rfl rfl ?_)))
 refine AOps.nil ?_
 refine UN.step ?_
 refine AWP.seq (AWP.region rfl ?_)
 refine AOps.cons rfl rfl (AOp.bin _ rfl rfl rfl rfl ?_)
 refine AWP.seq ?_
 refine AWP.condT rfl (decide_eq_true (by decide)) ?_
 refine AWP.skip ?_
 refine AWP.seq ?_
 refine AWP.block ?_
 refine AWP.seq (AWP.region rfl ?_)
 refine AOps.cons rfl rfl (AOp.move _ rfl rfl (AOps.cons rfl rfl (AOp.assign _ rfl rfl ?_)))
 refine AWP.region rfl ?_
 refine AOps.cons rfl rfl (AOp.move _ rfl rfl (AOps.cons rfl rfl (AOp.move _ rfl rfl (AOps.cons rfl rfl (AOp.move _ rfl rfl (AOps.cons rfl rfl (AOp.move _ rfl rfl (AOps.cons rfl rfl (AOp.bin _ rfl rfl rfl (imul (by omega)) (AOps.cons rfl rfl (AOp.bin _ rfl rfl rfl (iadd (by omega)) ?_)))))))))))
 refine AOps.cons rfl rfl (AOp.indexAddrFA rfl rfl rfl ar_24 (by omega) (by omega) (AOps.cons rfl rfl (AOp.loadF _ rfl rfl ty_23 (ldM eV_len (i := 8) (by omega) (by have := h_p; omega)) (AOps.cons rfl rfl (AOp.indexAddrA rfl rfl rfl ar_26 (by omega) (by omega) ⟨_, h152⟩ (AOps.cons rfl rfl (AOp.store' (cells' := [J ((at_ p 12).X), J ((at_ p 12).Y), J ((at_ p 12).Z), J ((at_ p 8).X), J ((at_ p 8).Y), J ((at_ p 8).Z), J 0, J 0, J 0, J 0, J 0, J 0]) (.agg [J ((at_ p 8).X), J ((at_ p 8).Y), J ((at_ p 8).Z)]) rfl rfl ts_23 h152 rfl rfl rfl rfl ?_)))))))
 intro H157 h158 k159
 have h160 := keep k159 e147 h154
 have m162 := Mono.set m156 z148 k159
 refine AWP.region rfl ?_
 refine AOps.cons rfl rfl (AOp.bin _ rfl rfl rfl (iadd (by omega)) (AOps.cons rfl rfl (AOp.move _ rfl rfl ?_)))
 refine AOps.nil ?_
 refine UN.step ?_
 refine AWP.seq (AWP.region rfl ?_)
 refine AOps.cons rfl rfl (AOp.bin _ rfl rfl rfl rfl ?_)
 refine AWP.seq ?_
 refine AWP.condT rfl (decide_eq_true (by decide)) ?_
 refine AWP.skip ?_
 refine AWP.seq ?_
 refine AWP.block ?_
 refine AWP.seq (AWP.region rfl ?_)
 refine AOps.cons rfl rfl (AOp.move _ rfl rfl (AOps.cons rfl rfl (AOp.assign _ rfl rfl ?_)))
 refine AWP.region rfl ?_
 refine AOps.cons rfl rfl (AOp.move _ rfl rfl (AOps.cons rfl rfl (AOp.move _ rfl rfl (AOps.cons rfl rfl (AOp.move _ rfl rfl (AOps.cons rfl rfl (AOp.move _ rfl rfl (AOps.cons rfl rfl (AOp.bin _ rfl rfl rfl (imul (by omega)) (AOps.cons rfl rfl (AOp.bin _ rfl rfl rfl (iadd (by omega)) ?_)))))))))))
 refine AOps.cons rfl rfl (AOp.indexAddrFA rfl rfl rfl ar_24 (by omega) (by omega) (AOps.cons rfl rfl (AOp.loadF _ rfl rfl ty_23 (ldM eV_len (i := 4) (by omega) (by have := h_p; omega)) (AOps.cons rfl rfl (AOp.indexAddrA rfl rfl rfl ar_26 (by omega) (by omega) ⟨_, h158⟩ (AOps.cons rfl rfl (AOp.store' (cells' := [J ((at_ p 12).X), J ((at_ p 12).Y), J ((at_ p 12).Z), J ((at_ p 8).X), J ((at_ p 8).Y), J ((at_ p 8).Z), J ((at_ p 4).X), J ((at_ p 4).Y), J ((at_ p 4).Z), J 0, J 0, J 0]) (.agg [J ((at_ p 4).X), J ((at_ p 4).Y), J ((at_ p 4).Z)]) rfl rfl ts_23 h158 rfl rfl rfl rfl ?_)))))))
 intro H163 h164 k165
 have h166 := keep k165 e147 h160
 have m168 := Mono.set m162 z148 k165
 refine AWP.region rfl ?_
 refine AOps.cons rfl rfl (AOp.bin _ rfl rfl rfl (iadd (by omega)) (AOps.cons rfl rfl (AOp.move _ rfl rfl ?_)))
 refine AOps.nil ?_
 refine UN.step ?_
 refine AWP.seq (AWP.region rfl ?_)
 refine AOps.cons rfl rfl (AOp.bin _ rfl rfl rfl rfl ?_)
 refine AWP.seq ?_
 refine AWP.condT rfl (decide_eq_true (by decide)) ?_
 refine AWP.skip ?_
 refine AWP.seq ?_
 refine AWP.block ?_
 refine AWP.seq (AWP.region rfl ?_)
 refine AOps.cons rfl rfl (AOp.move _ rfl rfl (AOps.cons rfl rfl (AOp.assign _ rfl rfl ?_)))
 refine AWP.region rfl ?_
 refine AOps.cons rfl rfl (AOp.move _ rfl rfl (AOps.cons rfl rfl (AOp.move _ rfl rfl (AOps.cons rfl rfl (AOp.move _ rfl rfl (AOps.cons rfl rfl (AOp.move _ rfl rfl (AOps.cons rfl rfl (AOp.bin _ rfl rfl rfl (imul (by omega)) (AOps.cons rfl rfl (AOp.bin _ rfl rfl rfl (iadd (by omega)) ?_)))))))))))
 refine AOps.cons rfl rfl (AOp.indexAddrFA rfl rfl rfl ar_24 (by omega) (by omega) (AOps.cons rfl rfl (AOp.loadF _ rfl rfl ty_23 (ldM eV_len (i := 0) (by omega) (by have := h_p; omega)) (AOps.cons rfl rfl (AOp.indexAddrA rfl rfl rfl ar_26 (by omega) (by omega) ⟨_, h164⟩ (AOps.cons rfl rfl (AOp.store' (cells' := [J ((at_ p 12).X), J ((at_ p 12).Y), J ((at_ p 12).Z), J ((at_ p 8).X), J ((at_ p 8).Y), J ((at_ p 8).Z), J ((at_ p 4).X), J ((at_ p 4).Y), J ((at_ p 4).Z), J ((at_ p 0).X), J ((at_ p 0).Y), J ((at_ p 0).Z)]) (.agg [J ((at_ p 0).X), J ((at_ p 0).Y), J ((at_ p 0).Z)]) rfl rfl ts_23 h164 rfl rfl rfl rfl ?_)))))))
 intro H169 h170 k171
 have h172 := keep k171 e147 h166
 have m174 := Mono.set m168 z148 k171
 refine AWP.region rfl ?_
 refine AOps.cons rfl rfl (AOp.bin _ rfl rfl rfl (iadd (by omega)) (AOps.cons rfl rfl (AOp.move _ rfl rfl ?_)))
 refine AOps.nil ?_
 refine UN.step ?_
 refine AWP.seq (AWP.region rfl ?_)
 refine AOps.cons rfl rfl (AOp.bin _ rfl rfl rfl rfl ?_)
 refine AWP.seq ?_
 refine AWP.condF rfl (decide_eq_false (by decide)) ?_
 refine AWP.exit ?_
 change AWP _ _ _ _ _ _
 refine AWP.seq (AWP.region rfl ?_)
 refine AOps.cons rfl rfl (AOp.load _ rfl rfl ty_26 h170 rfl (AOps.cons rfl rfl (AOp.store' (cells' := [J ((at_ p 12).X), J ((at_ p 12).Y), J ((at_ p 12).Z), J ((at_ p 8).X), J ((at_ p 8).Y), J ((at_ p 8).Z), J ((at_ p 4).X), J ((at_ p 4).Y), J ((at_ p 4).Z), J ((at_ p 0).X), J ((at_ p 0).Y), J ((at_ p 0).Z)]) (.agg [J ((at_ p 12).X), J ((at_ p 12).Y), J ((at_ p 12).Z), J ((at_ p 8).X), J ((at_ p 8).Y), J ((at_ p 8).Z), J ((at_ p 4).X), J ((at_ p 4).Y), J ((at_ p 4).Z), J ((at_ p 0).X), J ((at_ p 0).Y), J ((at_ p 0).Z)]) rfl rfl ts_26 h172 rfl rfl rfl rfl ?_)))
 intro H175 h176 k177
 have m180 := Mono.set m174 z14 k177
 refine AWP.ret ?_
 refine ⟨_, _, Ghost.refl, .inr rfl, _, Res.list1 rfl (.cell (v := .agg [J ((at_ p 12).X), J ((at_ p 12).Y), J ((at_ p 12).Z), J ((at_ p 8).X), J ((at_ p 8).Y), J ((at_ p 8).Z), J ((at_ p 4).X), J ((at_ p 4).Y), J ((at_ p 4).Z), J ((at_ p 0).X), J ((at_ p 0).Y), J ((at_ p 0).Z)]) rfl ty_26 h176 rfl (.nil)), ?_, m180⟩
 have hR : R_curve_Row p side = [(at_ p 12), (at_ p 8), (at_ p 4), (at_ p 0)] := by unfold R_curve_Row; rw [if_neg b21, if_neg b61, if_neg b101, if_pos b141]
 exact (congrArg (fun r : (List VT) => (.agg (r.flatMap eV) : AV)) hR).symm
 refine AWP.condF rfl (decide_eq_false b141) ?_
 refine AWP.seq (AWP.region rfl ?_)
 refine AOps.cons rfl rfl (AOp.build (cells := [J 0, J 0, J 0, J 0, J 0, J 0, J 0, J 0, J 0, J 0, J 0, J 0]) rfl tz_26 pl_26 rfl rfl (AOps.cons rfl rfl (AOp.store' (cells' := [J 0, J 0, J 0, J 0, J 0, J 0, J 0, J 0, J 0, J 0, J 0, J 0]) (.agg [J 0, J 0, J 0, J 0, J 0, J 0, J 0, J 0, J 0, J 0, J 0, J 0]) rfl rfl ts_26 h20 rfl rfl rfl rfl ?_)))
 intro H181 h182 k183
 have m185 := Mono.set m18 z14 k183
 refine AWP.ret ?_
 refine ⟨_, _, Ghost.refl, .inr rfl, _, Res.list1 rfl (.cell (v := .agg [J 0, J 0, J 0, J 0, J 0, J 0, J 0, J 0, J 0, J 0, J 0, J 0]) rfl ty_26 h182 rfl (.nil)), ?_, m185⟩
 have hR : R_curve_Row p side = [(VT.mk 0 0 0), (VT.mk 0 0 0), (VT.mk 0 0 0), (VT.mk 0 0 0)] := by unfold R_curve_Row; rw [if_neg b21, if_neg b61, if_neg b101, if_neg b141]
 exact (congrArg (fun r : (List VT) => (.agg (r.flatMap eV) : AV)) hR).symm
end Go.Proofs.M
namespace Go.Proofs.M
open Go Go.AH
def sumV (l : List VT) (wt : Int → Int) : Nat → VT
  | 0 => VT.mk 0 0 0
  | k + 1 => R_vec_Add (sumV l wt k) (R_vec_Scale (at_ l (k : Int)) (wt (k : Int)))
def sumW (wt : Int → Int) : Nat → Int
  | 0 => 0
  | k + 1 => sumW wt k + wt (k : Int)
theorem sumV_step {l : List VT} {wt : Int → Int} {i : Int} (h : 0 ≤ i) : sumV l wt (i + 1).toNat = R_vec_Add (sumV l wt i.toNat) (R_vec_Scale (at_ l i) (wt i)) := by
  rw [show (i + 1).toNat = i.toNat + 1 by omega, sumV, Int.toNat_of_nonneg h]
theorem sumW_step {wt : Int → Int} {i : Int} (h : 0 ≤ i) : sumW wt (i + 1).toNat = sumW wt i.toNat + wt i := by
  rw [show (i + 1).toNat = i.toNat + 1 by omega, sumW, Int.toNat_of_nonneg h]
theorem sumV_rng {l : List VT} {wt : Int → Int} {B : Int} {n : Nat} (hl : ∀ k : Nat, k < n → inV 65536 (at_ l (k : Int))) (hw : ∀ k : Nat, k < n → 0 ≤ wt (k : Int) ∧ wt (k : Int) ≤ B) : inV (n * (65536 * B)) (sumV l wt n) := by
  induction n with
  | zero => simp only [sumV]; exact inV_zero (by simp)
  | succ n ih =>
    have h1 := ih (fun k hk => hl k (by omega)) (fun k hk => hw k (by omega))
    have hwn := hw n (by omega)
    have h2 := inV_vec_Scale (C := B) (hl n (by omega)) (show -B ≤ wt (n : Int) ∧ wt (n : Int) ≤ B by omega)
    have h3 := inV_vec_Add h1 h2
    rw [show ((n + 1 : Nat) : Int) * (65536 * B) = n * (65536 * B) + 65536 * B by rw [Int.natCast_add, Int.add_mul]; simp]
    exact h3
theorem sumW_rng {wt : Int → Int} {B : Int} {n : Nat} (hw : ∀ k : Nat, k < n → 0 ≤ wt (k : Int) ∧ wt (k : Int) ≤ B) : 0 ≤ sumW wt n ∧ sumW wt n ≤ n * B := by
  induction n with
  | zero => simp [sumW]
  | succ n ih =>
    have h1 := ih (fun k hk => hw k (by omega))
    have h2 := hw n (by omega)
    rw [show ((n + 1 : Nat) : Int) * B = n * B + B by rw [Int.natCast_add, Int.add_mul]; simp]
    simp only [sumW]
    omega
def allIn (l : List VT) (m : Int) : Bool := l.all fun v => R_vec_Within v m
theorem allIn_T {l : List VT} {m : Int} : allIn l m = true ↔ ∀ i : Int, 0 ≤ i → i < l.length → inV m (at_ l i) := by
  unfold allIn
  rw [List.all_eq_true]
  constructor
  · intro h i h0 h1; exact withinvec_in (h _ (at_mem h0 h1))
  · intro h v hv
    obtain ⟨i, h0, h1, rfl⟩ := mem_at hv
    exact withinvec_iff.2 (h i h0 h1)
theorem allIn_F {l : List VT} {m i : Int} (h0 : 0 ≤ i) (h1 : i < l.length) (h : R_vec_Within (at_ l i) m = false) : allIn l m = false := by
  cases e : allIn l m with
  | false => rfl
  | true => rw [withinvec_iff.2 (allIn_T.1 e i h0 h1)] at h; cases h
def weighR (l : List VT) (wt : Int → Int) : VT × Bool :=
  if allIn l 65536 = true then (VT.mk (R_vec_Round (sumV l wt l.length).X (sumW wt l.length)) (R_vec_Round (sumV l wt l.length).Y (sumW wt l.length)) (R_vec_Round (sumV l wt l.length).Z (sumW wt l.length)), true) else (VT.mk 0 0 0, false)
theorem weigh_T {l : List VT} {wt : Int → Int} {i : Int} (hi : i = l.length) (h : ∀ j : Int, 0 ≤ j → j < i → inV 65536 (at_ l j)) : weighR l wt = (VT.mk (R_vec_Round (sumV l wt i.toNat).X (sumW wt i.toNat)) (R_vec_Round (sumV l wt i.toNat).Y (sumW wt i.toNat)) (R_vec_Round (sumV l wt i.toNat).Z (sumW wt i.toNat)), true) := by
  subst hi
  unfold weighR
  rw [if_pos (allIn_T.2 fun i h0 h1 => h i h0 h1)]; rfl
theorem weigh_F {l : List VT} {wt : Int → Int} {i : Int} (h0 : 0 ≤ i) (h1 : i < l.length) (h : R_vec_Within (at_ l i) 65536 = false) : weighR l wt = (VT.mk 0 0 0, false) := by
  unfold weighR
  rw [if_neg (ff (allIn_F h0 h1 h))]
theorem int4 {P : Int → Prop} (h0 : P 0) (h1 : P 1) (h2 : P 2) (h3 : P 3) : ∀ k : Int, 0 ≤ k → k < 4 → P k := by
  intro k g0 g1
  have : k = 0 ∨ k = 1 ∨ k = 2 ∨ k = 3 := by omega
  rcases this with rfl | rfl | rfl | rfl <;> assumption
theorem mul_nn {x k A C : Int} (hx : 0 ≤ x ∧ x ≤ A) (hk : 0 ≤ k ∧ k ≤ C) : 0 ≤ x * k ∧ x * k ≤ A * C := ⟨Int.mul_nonneg hx.1 hk.1, Int.mul_le_mul hx.2 hk.2 hk.1 (by omega)⟩
theorem wts_rng {i n : Int} (h0 : 0 ≤ i) (h1 : i ≤ n) (h2 : n ≤ 16) : ∀ k : Int, 0 ≤ k → k < 4 → 0 ≤ at_ (R_ref11_Weights i n) k ∧ at_ (R_ref11_Weights i n) k ≤ 12288 := by
  have hk : 0 ≤ n - i ∧ n - i ≤ 16 := by omega
  have hi : 0 ≤ i ∧ i ≤ 16 := by omega
  have h3 : 0 ≤ 3 * (n - i) ∧ 3 * (n - i) ≤ 48 := by omega
  have a := mul_nn (mul_nn hk hk) hk
  have b := mul_nn (mul_nn h3 hk) hi
  have c := mul_nn (mul_nn h3 hi) hi
  have d := mul_nn (mul_nn hi hi) hi
  apply int4
  · exact ⟨a.1, by have := a.2; simp only [R_ref11_Weights, at_]; simp; omega⟩
  · exact ⟨b.1, by have := b.2; simp only [R_ref11_Weights, at_]; simp; omega⟩
  · exact ⟨c.1, by have := c.2; simp only [R_ref11_Weights, at_]; simp; omega⟩
  · exact ⟨d.1, by have := d.2; simp only [R_ref11_Weights, at_]; simp; omega⟩
theorem weights_ok {i n : Int} (h : 1 ≤ n ∧ n ≤ 16 ∧ 0 ≤ i ∧ i ≤ n) : R_curve_weights i n = (R_ref11_Weights i n, true) := by
  unfold R_curve_weights
  rw [if_neg (by omega), if_neg (by omega), if_neg (by omega), if_neg (by omega)]; rfl
theorem weights_no {i n : Int} (h : ¬ (1 ≤ n ∧ n ≤ 16 ∧ 0 ≤ i ∧ i ≤ n)) : R_curve_weights i n = ([0, 0, 0, 0], false) := by
  unfold R_curve_weights
  split
  · rfl
  split
  · rfl
  split
  · rfl
  split
  · rfl
  omega
theorem weights_rng (i n : Int) : ∀ k : Int, 0 ≤ k → k < 4 → 0 ≤ at_ (R_curve_weights i n).1 k ∧ at_ (R_curve_weights i n).1 k ≤ 12288 := by
  by_cases h : 1 ≤ n ∧ n ≤ 16 ∧ 0 ≤ i ∧ i ≤ n
  · rw [weights_ok h]; exact wts_rng h.2.2.1 h.2.2.2 h.2.1
  · rw [weights_no h]; exact int4 (by decide) (by decide) (by decide) (by decide)
end Go.Proofs.M
namespace Go.Proofs.M
open Go Go.AH
set_option maxRecDepth 4000
set_option linter.unusedSimpArgs false
set_option linter.unusedVariables false
theorem c_Cubic1 (ws : List Int) (hws : ws.length = 4) (k : Int) (hk : 0 ≤ k ∧ k < 4) : PC Tryd.prog 94 [J k, .fptr (ws.map eI) 0] (J (at_ ws k)) := by
 intro H0
 refine ACalls.of_body' (n := 7) rfl rfl rfl rfl ?_
 have m0 := Mono.refl H0
 refine AWP.seq (AWP.region rfl ?_)
 refine AOps.cons rfl rfl (AOp.assign _ rfl rfl ?_)
 refine AWP.seq (AWP.region rfl ?_)
 refine AOps.cons rfl rfl (AOp.move _ rfl rfl (AOps.cons rfl rfl (AOp.indexAddrFA rfl rfl rfl ar_25 (by omega) (by omega) (AOps.cons rfl rfl (AOp.loadF _ rfl rfl ty_3 (ld_off (o := 0 + k.toNat * 1) (by omega) (ld1 (i := k) (by omega) (by first | (have := hws; omega) | (simp; omega)))) (AOps.cons rfl rfl (AOp.assign _ rfl rfl ?_)))))))
 refine AWP.ret ?_
 refine ⟨_, _, Ghost.refl, .inr rfl, _, Res.one rfl rfl, ?_, m0⟩
 exact rfl
theorem c_Point1 (vs ws : List Int) (hvs : vs.length = 4) (hws : ws.length = 4) (hv : ∀ k : Int, 0 ≤ k → k < 4 → 0 ≤ at_ vs k ∧ at_ vs k ≤ 12288) (hw : ∀ k : Int, 0 ≤ k → k < 4 → 0 ≤ at_ ws k ∧ at_ ws k ≤ 12288) (k : Int) (hk : 0 ≤ k ∧ k < 16) : PC Tryd.prog 95 [J k, .fptr (vs.map eI) 0, .fptr (ws.map eI) 0] (J (at_ vs (k % 4) * at_ ws (k / 4))) := by
 intro H0
 refine ACalls.of_body' (n := 14) rfl rfl rfl rfl ?_
 have m0 := Mono.refl H0
 refine AWP.seq (AWP.region rfl ?_)
 refine AOps.cons rfl rfl (AOp.assign _ rfl rfl ?_)
 refine AWP.seq ?_
 refine AWP.region_quiet mixed (by kernel_rfl) 10 [] rfl (by kernel_rfl) (Mono H0) (Mono.refl _) ?_
 refine QE.op rfl rfl (.inl ⟨rfl, fun f' H' hf hM => AOp.move _ rfl ((hf 0 rfl).trans rfl) ⟨rfl, hM⟩⟩) ?_
 refine QE.op rfl rfl (.inl ⟨rfl, fun f' H' hf hM => AOp.remP rfl ((hf 5 rfl).trans rfl) rfl (by omega) (by omega) ⟨rfl, hM⟩⟩) ?_
 refine QE.op rfl rfl (.inl ⟨rfl, fun f' H' hf hM => AOp.indexAddrFA rfl ((hf 1 rfl).trans rfl) ((hf 6 rfl).trans rfl) ar_25 (by omega) (by omega) ⟨rfl, hM⟩⟩) ?_
 refine QE.op rfl rfl (.inl ⟨rfl, fun f' H' hf hM => AOp.loadF _ rfl ((hf 7 rfl).trans rfl) ty_3 (ld_off (o := 0 + (k % 4).toNat * 1) (by omega) (ld1 (i := k % 4) (by omega) (by first | (have := hvs; omega) | (simp; omega)))) ⟨rfl, hM⟩⟩) ?_
 refine QE.op rfl rfl (.inl ⟨rfl, fun f' H' hf hM => AOp.move _ rfl ((hf 0 rfl).trans rfl) ⟨rfl, hM⟩⟩) ?_
 refine QE.op rfl rfl (.inl ⟨rfl, fun f' H' hf hM => AOp.quoP rfl ((hf 9 rfl).trans rfl) rfl (by omega) ⟨rfl, hM⟩⟩) ?_
 refine QE.op rfl rfl (.inl ⟨rfl, fun f' H' hf hM => AOp.indexAddrFA rfl ((hf 2 rfl).trans rfl) ((hf 10 rfl).trans rfl) ar_25 (by omega) (by omega) ⟨rfl, hM⟩⟩) ?_
 refine QE.op rfl rfl (.inl ⟨rfl, fun f' H' hf hM => AOp.loadF _ rfl ((hf 11 rfl).trans rfl) ty_3 (ld_off (o := 0 + (k / 4).toNat * 1) (by omega) (ld1 (i := k / 4) (by omega) (by first | (have := hws; omega) | (simp; omega)))) ⟨rfl, hM⟩⟩) ?_
 refine QE.op rfl rfl (.inl ⟨rfl, fun f' H' hf hM => AOp.bin _ rfl ((hf 8 rfl).trans rfl) ((hf 12 rfl).trans rfl) (imul (by have := mul_rng (x := at_ vs (k % 4)) (k := at_ ws (k / 4)) (A := 12288) (C := 12288) (by have := hv (k % 4) (by omega) (by omega); omega) (by have := hw (k / 4) (by omega) (by omega); omega); omega)) ⟨rfl, hM⟩⟩) ?_
 refine QE.op rfl rfl (.inl ⟨rfl, fun f' H' hf hM => AOp.assign _ rfl ((hf 13 rfl).trans rfl) ⟨rfl, hM⟩⟩) ?_
 refine QE.done fun H1 m2 => ?_
 have m3 := m0.trans m2
 refine AWP.ret ?_
 refine ⟨_, _, Ghost.refl, .inr rfl, _, Res.one rfl rfl, ?_, m3⟩
 exact rfl
theorem c_weighC (l : List VT) (hl : l.length = 4) (ws : List Int) (hws : ws.length = 4) (hb : ∀ k : Int, 0 ≤ k → k < 4 → 0 ≤ at_ ws k ∧ at_ ws k ≤ 12288) : PC Tryd.prog 93 [.sl l.length (l.flatMap eV), .fn 94 [.fptr (ws.map eI) 0]] (.tup [.agg [J (((weighR l (fun k => at_ ws k)).1).X), J (((weighR l (fun k => at_ ws k)).1).Y), J (((weighR l (fun k => at_ ws k)).1).Z)], .bool ((weighR l (fun k => at_ ws k)).2)]) := by
 intro H0
 have hwt : ∀ k : Int, 0 ≤ k → k < 4 → 0 ≤ at_ ws k ∧ at_ ws k ≤ 12288 := hb
 refine ACalls.of_body' (n := 47) rfl rfl rfl rfl ?_
 have m0 := Mono.refl H0
 refine AWP.seq (AWP.region rfl ?_)
 refine AOps.cons rfl rfl (AOp.alloc rfl tz_23 ?_)
 intro i1 H2 n3 h4 k5
 have z6 := Mono.free m0 n3
 have m7 := Mono.new m0 n3 k5
 refine AOps.cons rfl rfl (AOp.assign _ rfl rfl ?_)
 refine AWP.seq (AWP.region rfl ?_)
 refine AOps.cons rfl rfl (AOp.alloc rfl tz_23 ?_)
 intro i8 H9 n10 h11 k12
 have e13 := ne_new h4 n10
 have z14 := Mono.free m7 n10
 have h15 := keep k12 (ne_new h4 n10) h4
 have m16 := Mono.new m7 n10 k12
 refine AWP.seq (AWP.region rfl ?_)
 refine AOps.cons rfl rfl (AOp.assign _ rfl rfl ?_)
 refine AWP.seq ?_
 refine AWP.seq (AWP.region rfl ?_)
 refine AOps.cons rfl rfl (AOp.move _ rfl rfl (AOps.cons rfl rfl (AOp.len (m := l.length) rfl rfl (.inr (.inl ⟨_, rfl⟩)) u_34 (AOps.cons rfl rfl (AOp.move _ rfl rfl ?_)))))
 refine AWP.block ?_
 refine AWP.loop (fun q17 fq Hq => ∃ (i : Int), q17 = ((l.length : Int) - i).toNat ∧ fq 12 = J i ∧ fq 7 = J (sumW (fun k => at_ ws k) i.toNat) ∧ fq 1 = .fn 94 [.fptr (ws.map eI) 0] ∧ fq 4 = .ptr i1 0 0 ∧ fq 6 = .ptr i8 0 0 ∧ fq 10 = .sl l.length (l.flatMap eV) ∧ fq 11 = J (l.length : Int) ∧ Hq i1 = some (.row 0 ([J 0, J 0, J 0])) ∧ Hq i8 = some (.row 0 ([J ((sumV l (fun k => at_ ws k) i.toNat).X), J ((sumV l (fun k => at_ ws k) i.toNat).Y), J ((sumV l (fun k => at_ ws k) i.toNat).Z)])) ∧ Mono H0 Hq ∧ (0 ≤ i) ∧ (i ≤ (l.length : Int)) ∧ (∀ j : Int, 0 ≤ j → j < i → inV 65536 (at_ l j))) (k := ((l.length : Int) - 0).toNat) ?_ ?_
 exact ⟨0, rfl, rfl, (congrArg (AV.int .i64) (show (0 : Int) = (sumW (fun k => at_ ws k) (0 : Int).toNat) from by rfl)), rfl, rfl, rfl, rfl, rfl, h15, (h11.trans (congrArg (fun c => some (AB.row 0 c)) (show ([J 0, J 0, J 0] : List AV) = [J ((sumV l (fun k => at_ ws k) (0 : Int).toNat).X), J ((sumV l (fun k => at_ ws k) (0 : Int).toNat).Y), J ((sumV l (fun k => at_ ws k) (0 : Int).toNat).Z)] from by first | rfl | (rw [sumV_step hi0])))), m16, by omega, by omega, by intro j; omega⟩
 rintro _ f19 H18 ⟨i, rfl, s20, s21, s22, s23, s24, s25, s26, h27, h28, m29, hi0, hi1, pre⟩
 refine AWP.seq (AWP.region rfl ?_)
 refine AOps.cons rfl rfl (AOp.bin _ rfl s20 s26 rfl ?_)
 refine AWP.seq ?_
 by_cases b30 : i < (l.length : Int)
 refine AWP.condT rfl (decide_eq_true b30) ?_
 refine AWP.skip ?_
 refine AWP.seq ?_
 refine AWP.block ?_
 refine AWP.seq (AWP.region rfl ?_)
 refine AOps.cons rfl rfl (AOp.move _ rfl s20 (AOps.cons rfl rfl (AOp.indexAddrS rfl s25 s20 sl_34 (by omega) (by omega) (AOps.cons rfl rfl (AOp.loadF _ rfl rfl ty_23 (ldM eV_len (by omega) (by omega)) (AOps.cons rfl rfl (AOp.alloc rfl tz_23 ?_)))))))
 intro i31 H32 n33 h34 k35
 have e36 := ne_new h27 n33
 have e37 := ne_new h28 n33
 have z38 := Mono.free m29 n33
 have h39 := keep k35 (ne_new h27 n33) h27
 have h40 := keep k35 (ne_new h28 n33) h28
 have m41 := Mono.new m29 n33 k35
 refine AOps.cons rfl rfl (AOp.assign _ rfl rfl (AOps.cons rfl rfl (AOp.store' (cells' := [J ((at_ l i).X), J ((at_ l i).Y), J ((at_ l i).Z)]) (.agg [J ((at_ l i).X), J ((at_ l i).Y), J ((at_ l i).Z)]) rfl rfl ts_23 h34 rfl rfl rfl rfl ?_)))
 intro H42 h43 k44
 have h45 := keep k44 e36 h39
 have h46 := keep k44 e37 h40
 have m48 := Mono.set m41 z38 k44
 refine AWP.seq ?_
 refine AWP.seq ?_
 refine AWP.frzP 9 h43 z38 rfl m48 fun H49 m50 k51 => ?_
 have h52 := (k51 _ e36).trans h45
 have h53 := (k51 _ e37).trans h46
 refine AWP.region rfl ?_
 refine AOps.cons rfl rfl (AOp.loadF _ rfl rfl ty_23 rfl (AOps.cons rfl rfl (AOp.pcall («as» := [.agg [J ((at_ l i).X), J ((at_ l i).Y), J ((at_ l i).Z)], J 65536]) rfl rfl (rfl) tf_18 (c_vec_Within (at_ l i) 65536 (by first | omega | assumption | (constructor <;> omega) | simp)) ?_)))
 intro H54 m55
 have h56 := m55 _ _ h52
 have h57 := m55 _ _ h53
 have m58 := m50.trans m55
 refine AOps.cons rfl rfl (AOp.not rfl rfl ?_)
 refine AOps.nil ?_
 change AWP _ _ _ _ _ _
 rcases Bool.eq_false_or_eq_true (R_vec_Within (at_ l i) 65536) with b59 | b59
 have iv60 : inV 65536 (at_ l i) := withinvec_in b59
 refine AWP.condF rfl (nb b59) ?_
 refine AWP.skip ?_
 refine AWP.seq ?_
 have hsv := sumV_rng (l := l) (wt := fun k => at_ ws k) (B := 12288) (n := i.toNat) (fun k hk => pre _ (by omega) (by omega)) (fun k hk => hwt _ (by omega) (by omega))
 have hsw := sumW_rng (wt := fun k => at_ ws k) (B := 12288) (n := i.toNat) (fun k hk => hwt _ (by omega) (by omega))
 rw [Int.toNat_of_nonneg hi0] at hsv hsw
 have hsv2 : inV 3221225472 (sumV l (fun k => at_ ws k) i.toNat) := inV_le hsv (by omega)
 have hwi := hwt i hi0 (by omega)
 refine AWP.region_quiet mixed (by kernel_rfl) 7 [7] rfl (by kernel_rfl) (Mono H54) (Mono.refl _) ?_
 refine QE.op rfl rfl (.inl ⟨rfl, fun f' H' hf hM => AOp.load _ rfl ((hf 6 rfl).trans s24) ty_23 (hM _ _ h57) rfl ⟨rfl, hM⟩⟩) ?_
 refine QE.op rfl rfl (.inl ⟨rfl, fun f' H' hf hM => AOp.loadF _ rfl ((hf 9 rfl).trans rfl) ty_23 rfl ⟨rfl, hM⟩⟩) ?_
 refine QE.op rfl rfl (.inl ⟨rfl, fun f' H' hf hM => AOp.move _ rfl ((hf 1 rfl).trans s22) ⟨rfl, hM⟩⟩) ?_
 refine QE.op rfl rfl (.inl ⟨rfl, fun f' H' hf hM => AOp.move _ rfl ((hf 8 rfl).trans rfl) ⟨rfl, hM⟩⟩) ?_
 refine QE.op rfl rfl (.inl ⟨rfl, fun f' H' hf hM => AOp.pcall («as» := [J i, .fptr (ws.map eI) 0]) rfl ((hf 23 rfl).trans rfl) (lapp (lcons ((hf 24 rfl).trans rfl) rfl) rfl) tf_94 (c_Cubic1 ws hws i (by omega)) fun H2 m2 => ⟨rfl, hM.trans m2⟩⟩) ?_
 refine QE.op rfl rfl (.inl ⟨rfl, fun f' H' hf hM => AOp.pcall («as» := [.agg [J ((at_ l i).X), J ((at_ l i).Y), J ((at_ l i).Z)], J (at_ ws i)]) rfl rfl (lapp (lcons ((hf 22 rfl).trans rfl) (lcons ((hf 25 rfl).trans rfl) rfl)) rfl) tf_59 (c_vec_Scale (at_ l i) (at_ ws i) (mulV_of iv60 (C := 12288) (by omega) (by decide))) fun H2 m2 => ⟨rfl, hM.trans m2⟩⟩) ?_
 refine QE.op rfl rfl (.inl ⟨rfl, fun f' H' hf hM => AOp.pcall («as» := [.agg [J ((sumV l (fun k => at_ ws k) i.toNat).X), J ((sumV l (fun k => at_ ws k) i.toNat).Y), J ((sumV l (fun k => at_ ws k) i.toNat).Z)], .agg [J ((R_vec_Scale (at_ l i) (at_ ws i)).X), J ((R_vec_Scale (at_ l i) (at_ ws i)).Y), J ((R_vec_Scale (at_ l i) (at_ ws i)).Z)]]) rfl rfl (lapp (lcons ((hf 21 rfl).trans rfl) (lcons ((hf 26 rfl).trans rfl) rfl)) rfl) tf_38 (c_vec_Add (sumV l (fun k => at_ ws k) i.toNat) (R_vec_Scale (at_ l i) (at_ ws i)) (inV_le hsv2 (by decide)) (inV_le (inV_le (inV_vec_Scale iv60 (C := 12288) (by omega)) (by decide) : inV 805306368 _) (by decide))) fun H2 m2 => ⟨rfl, hM.trans m2⟩⟩) ?_
 refine QE.done fun H61 m62 => ?_
 have h63 := m62 _ _ h56
 have h64 := m62 _ _ h57
 have m65 := m58.trans m62
 refine AOps.cons rfl rfl (AOp.store' (cells' := [J ((R_vec_Add (sumV l (fun k => at_ ws k) i.toNat) (R_vec_Scale (at_ l i) (at_ ws i))).X), J ((R_vec_Add (sumV l (fun k => at_ ws k) i.toNat) (R_vec_Scale (at_ l i) (at_ ws i))).Y), J ((R_vec_Add (sumV l (fun k => at_ ws k) i.toNat) (R_vec_Scale (at_ l i) (at_ ws i))).Z)]) (.agg [J ((R_vec_Add (sumV l (fun k => at_ ws k) i.toNat) (R_vec_Scale (at_ l i) (at_ ws i))).X), J ((R_vec_Add (sumV l (fun k => at_ ws k) i.toNat) (R_vec_Scale (at_ l i) (at_ ws i))).Y), J ((R_vec_Add (sumV l (fun k => at_ ws k) i.toNat) (R_vec_Scale (at_ l i) (at_ ws i))).Z)]) s24 rfl ts_23 h64 rfl rfl rfl rfl ?_)
 intro H66 h67 k68
 have h69 := keep k68 e13 h63
 have m71 := Mono.set m65 z14 k68
 refine AWP.region rfl ?_
 refine AOps.cons rfl rfl (AOp.move _ rfl s21 (AOps.cons rfl rfl (AOp.move _ rfl s22 (AOps.cons rfl rfl (AOp.move _ rfl rfl (AOps.cons rfl rfl (AOp.pcall («as» := [J i, .fptr (ws.map eI) 0]) rfl rfl (rfl) tf_94 (c_Cubic1 ws hws i (by omega)) ?_)))))))
 intro H72 m73
 have h74 := m73 _ _ h69
 have h75 := m73 _ _ h67
 have m76 := m71.trans m73
 refine AOps.cons rfl rfl (AOp.bin _ rfl rfl rfl (iadd (by omega)) (AOps.cons rfl rfl (AOp.assign _ rfl rfl ?_)))
 refine AWP.region rfl ?_
 refine AOps.cons rfl rfl (AOp.bin _ rfl s20 rfl (iadd (by omega)) (AOps.cons rfl rfl (AOp.move _ rfl rfl ?_)))
 refine AOps.nil ?_
 exact ⟨_, by omega, i + 1, rfl, rfl, (congrArg (AV.int .i64) (show ((sumW (fun k => at_ ws k) i.toNat) + (at_ ws i) : Int) = (sumW (fun k => at_ ws k) (i + 1).toNat) from by rw [sumW_step hi0])), s22, s23, s24, s25, s26, h74, (h75.trans (congrArg (fun c => some (AB.row 0 c)) (show ([J ((R_vec_Add (sumV l (fun k => at_ ws k) i.toNat) (R_vec_Scale (at_ l i) (at_ ws i))).X), J ((R_vec_Add (sumV l (fun k => at_ ws k) i.toNat) (R_vec_Scale (at_ l i) (at_ ws i))).Y), J ((R_vec_Add (sumV l (fun k => at_ ws k) i.toNat) (R_vec_Scale (at_ l i) (at_ ws i))).Z)] : List AV) = [J ((sumV l (fun k => at_ ws k) (i + 1).toNat).X), J ((sumV l (fun k => at_ ws k) (i + 1).toNat).Y), J ((sumV l (fun k => at_ ws k) (i + 1).toNat).Z)] from by first | rfl | (rw [sumV_step hi0])))), m76, by omega, by omega, by exact fa_step pre iv60⟩
 refine AWP.condT rfl (nb b59) ?_
 refine AWP.seq (AWP.region rfl ?_)
 refine AOps.cons rfl rfl (AOp.build (cells := [J 0, J 0, J 0]) rfl tz_23 pl_23 rfl rfl (AOps.cons rfl rfl (AOp.store' (cells' := [J 0, J 0, J 0]) (.agg [J 0, J 0, J 0]) s23 rfl ts_23 h56 rfl rfl rfl rfl ?_)))
 intro H77 h78 k79
 have m82 := Mono.set m58 z6 k79
 refine AOps.cons rfl rfl (AOp.assign _ rfl rfl ?_)
 refine AWP.ret ?_
 refine ⟨_, _, Ghost.refl, .inr rfl, _, Res.list rfl rfl (.cell (v := .agg [J 0, J 0, J 0]) s23 ty_23 h78 rfl (.tmp rfl (.nil))), ?_, m82⟩
 exact congrArg AV.tup (lc (congrArg AV.agg (lc (congrArg (AV.int .i64) (show (0 : Int) = ((weighR l (fun k => at_ ws k)).1).X from by rw [weigh_F hi0 (by omega) b59])) (lc (congrArg (AV.int .i64) (show (0 : Int) = ((weighR l (fun k => at_ ws k)).1).Y from by rw [weigh_F hi0 (by omega) b59])) (lc (congrArg (AV.int .i64) (show (0 : Int) = ((weighR l (fun k => at_ ws k)).1).Z from by rw [weigh_F hi0 (by omega) b59])) rfl)))) (lc (congrArg AV.bool (show (false : Bool) = (weighR l (fun k => at_ ws k)).2 from by rw [weigh_F hi0 (by omega) b59])) rfl))
 refine AWP.condF rfl (decide_eq_false b30) ?_
 refine AWP.exit ?_
 change AWP _ _ _ _ _ _
 refine AWP.seq ?_
 have hie : i = l.length := by omega
 have hsv := sumV_rng (l := l) (wt := fun k => at_ ws k) (B := 12288) (n := i.toNat) (fun k hk => pre _ (by omega) (by omega)) (fun k hk => hwt _ (by omega) (by omega))
 have hsw := sumW_rng (wt := fun k => at_ ws k) (B := 12288) (n := i.toNat) (fun k hk => hwt _ (by omega) (by omega))
 rw [Int.toNat_of_nonneg hi0] at hsv hsw
 have hsv2 : inV 3221225472 (sumV l (fun k => at_ ws k) i.toNat) := inV_le hsv (by omega)
 skip
 refine AWP.region_quiet mixed (by kernel_rfl) 13 [13, 14] rfl (by kernel_rfl) (Mono H18) (Mono.refl _) ?_
 refine QE.op rfl rfl (.inl ⟨rfl, fun f' H' hf hM => AOp.fieldAddr rfl ((hf 6 rfl).trans s24) fl_23_0 ⟨rfl, hM⟩ (hid := ⟨_, (hM _ _ h28)⟩)⟩) ?_
 refine QE.op rfl rfl (.inl ⟨rfl, fun f' H' hf hM => AOp.load _ rfl ((hf 34 rfl).trans rfl) ty_3 (hM _ _ h28) rfl ⟨rfl, hM⟩⟩) ?_
 refine QE.op rfl rfl (.inl ⟨rfl, fun f' H' hf hM => AOp.move _ rfl ((hf 7 rfl).trans s21) ⟨rfl, hM⟩⟩) ?_
 refine QE.op rfl rfl (.inl ⟨rfl, fun f' H' hf hM => AOp.pcall («as» := [J ((sumV l (fun k => at_ ws k) i.toNat).X), J (sumW (fun k => at_ ws k) i.toNat)]) rfl rfl (lapp (lcons ((hf 35 rfl).trans rfl) (lcons ((hf 36 rfl).trans rfl) rfl)) rfl) tf_57 (c_vec_Round ((sumV l (fun k => at_ ws k) i.toNat).X) (sumW (fun k => at_ ws k) i.toNat) (by first | omega | assumption | (constructor <;> omega) | simp) (by first | omega | assumption | (constructor <;> omega) | simp)) fun H2 m2 => ⟨rfl, hM.trans m2⟩⟩) ?_
 refine QE.op rfl rfl (.inl ⟨rfl, fun f' H' hf hM => AOp.fieldAddr rfl ((hf 6 rfl).trans s24) fl_23_1 ⟨rfl, hM⟩ (hid := ⟨_, (hM _ _ h28)⟩)⟩) ?_
 refine QE.op rfl rfl (.inl ⟨rfl, fun f' H' hf hM => AOp.load _ rfl ((hf 38 rfl).trans rfl) ty_3 (hM _ _ h28) rfl ⟨rfl, hM⟩⟩) ?_
 refine QE.op rfl rfl (.inl ⟨rfl, fun f' H' hf hM => AOp.move _ rfl ((hf 7 rfl).trans s21) ⟨rfl, hM⟩⟩) ?_
 refine QE.op rfl rfl (.inl ⟨rfl, fun f' H' hf hM => AOp.pcall («as» := [J ((sumV l (fun k => at_ ws k) i.toNat).Y), J (sumW (fun k => at_ ws k) i.toNat)]) rfl rfl (lapp (lcons ((hf 39 rfl).trans rfl) (lcons ((hf 40 rfl).trans rfl) rfl)) rfl) tf_57 (c_vec_Round ((sumV l (fun k => at_ ws k) i.toNat).Y) (sumW (fun k => at_ ws k) i.toNat) (by first | omega | assumption | (constructor <;> omega) | simp) (by first | omega | assumption | (constructor <;> omega) | simp)) fun H2 m2 => ⟨rfl, hM.trans m2⟩⟩) ?_
 refine QE.op rfl rfl (.inl ⟨rfl, fun f' H' hf hM => AOp.fieldAddr rfl ((hf 6 rfl).trans s24) fl_23_2 ⟨rfl, hM⟩ (hid := ⟨_, (hM _ _ h28)⟩)⟩) ?_
 refine QE.op rfl rfl (.inl ⟨rfl, fun f' H' hf hM => AOp.load _ rfl ((hf 42 rfl).trans rfl) ty_3 (hM _ _ h28) rfl ⟨rfl, hM⟩⟩) ?_
 refine QE.op rfl rfl (.inl ⟨rfl, fun f' H' hf hM => AOp.move _ rfl ((hf 7 rfl).trans s21) ⟨rfl, hM⟩⟩) ?_
 refine QE.op rfl rfl (.inl ⟨rfl, fun f' H' hf hM => AOp.pcall («as» := [J ((sumV l (fun k => at_ ws k) i.toNat).Z), J (sumW (fun k => at_ ws k) i.toNat)]) rfl rfl (lapp (lcons ((hf 43 rfl).trans rfl) (lcons ((hf 44 rfl).trans rfl) rfl)) rfl) tf_57 (c_vec_Round ((sumV l (fun k => at_ ws k) i.toNat).Z) (sumW (fun k => at_ ws k) i.toNat) (by first | omega | assumption | (constructor <;> omega) | simp) (by first | omega | assumption | (constructor <;> omega) | simp)) fun H2 m2 => ⟨rfl, hM.trans m2⟩⟩) ?_
 refine QE.op rfl rfl (.inl ⟨rfl, fun f' H' hf hM => AOp.build (cells := [J (R_vec_Round ((sumV l (fun k => at_ ws k) i.toNat).X) (sumW (fun k => at_ ws k) i.toNat)), J (R_vec_Round ((sumV l (fun k => at_ ws k) i.toNat).Y) (sumW (fun k => at_ ws k) i.toNat)), J (R_vec_Round ((sumV l (fun k => at_ ws k) i.toNat).Z) (sumW (fun k => at_ ws k) i.toNat))]) rfl tz_23 pl_23 (lconsP ((hf 37 rfl).trans rfl) (lconsP ((hf 41 rfl).trans rfl) (lconsP ((hf 45 rfl).trans rfl) rfl))) rfl ⟨rfl, hM⟩⟩) ?_
 refine QE.done fun H83 m84 => ?_
 have h85 := m84 _ _ h27
 have h86 := m84 _ _ h28
 have m87 := m29.trans m84
 refine AOps.cons rfl rfl (AOp.store' (cells' := [J (R_vec_Round ((sumV l (fun k => at_ ws k) i.toNat).X) (sumW (fun k => at_ ws k) i.toNat)), J (R_vec_Round ((sumV l (fun k => at_ ws k) i.toNat).Y) (sumW (fun k => at_ ws k) i.toNat)), J (R_vec_Round ((sumV l (fun k => at_ ws k) i.toNat).Z) (sumW (fun k => at_ ws k) i.toNat))]) (.agg [J (R_vec_Round ((sumV l (fun k => at_ ws k) i.toNat).X) (sumW (fun k => at_ ws k) i.toNat)), J (R_vec_Round ((sumV l (fun k => at_ ws k) i.toNat).Y) (sumW (fun k => at_ ws k) i.toNat)), J (R_vec_Round ((sumV l (fun k => at_ ws k) i.toNat).Z) (sumW (fun k => at_ ws k) i.toNat))]) s23 rfl ts_23 h85 rfl rfl rfl rfl ?_)
 intro H88 h89 k90
 have m93 := Mono.set m87 z6 k90
 refine AOps.cons rfl rfl (AOp.assign _ rfl rfl ?_)
 refine AWP.ret ?_
 refine ⟨_, _, Ghost.refl, .inr rfl, _, Res.list rfl rfl (.cell (v := .agg [J (R_vec_Round ((sumV l (fun k => at_ ws k) i.toNat).X) (sumW (fun k => at_ ws k) i.toNat)), J (R_vec_Round ((sumV l (fun k => at_ ws k) i.toNat).Y) (sumW (fun k => at_ ws k) i.toNat)), J (R_vec_Round ((sumV l (fun k => at_ ws k) i.toNat).Z) (sumW (fun k => at_ ws k) i.toNat))]) s23 ty_23 h89 rfl (.tmp rfl (.nil))), ?_, m93⟩
 exact congrArg AV.tup (lc (congrArg AV.agg (lc (congrArg (AV.int .i64) (show (R_vec_Round ((sumV l (fun k => at_ ws k) i.toNat).X) (sumW (fun k => at_ ws k) i.toNat) : Int) = ((weighR l (fun k => at_ ws k)).1).X from by rw [weigh_T hie pre])) (lc (congrArg (AV.int .i64) (show (R_vec_Round ((sumV l (fun k => at_ ws k) i.toNat).Y) (sumW (fun k => at_ ws k) i.toNat) : Int) = ((weighR l (fun k => at_ ws k)).1).Y from by rw [weigh_T hie pre])) (lc (congrArg (AV.int .i64) (show (R_vec_Round ((sumV l (fun k => at_ ws k) i.toNat).Z) (sumW (fun k => at_ ws k) i.toNat) : Int) = ((weighR l (fun k => at_ ws k)).1).Z from by rw [weigh_T hie pre])) rfl)))) (lc (congrArg AV.bool (show (true : Bool) = (weighR l (fun k => at_ ws k)).2 from by rw [weigh_T hie pre])) rfl))
abbrev ZweighP_0 (l : List VT) (vs : List Int) (ws : List Int) (i : Int) := R_vec_Scale (at_ l i) (at_ vs (i % 4) * at_ ws (i / 4))
theorem c_weighP (l : List VT) (hl : l.length = 16) (vs ws : List Int) (hvs : vs.length = 4) (hws : ws.length = 4) (hv : ∀ k : Int, 0 ≤ k → k < 4 → 0 ≤ at_ vs k ∧ at_ vs k ≤ 12288) (hw : ∀ k : Int, 0 ≤ k → k < 4 → 0 ≤ at_ ws k ∧ at_ ws k ≤ 12288) : PC Tryd.prog 93 [.sl l.length (l.flatMap eV), .fn 95 [.fptr (vs.map eI) 0, .fptr (ws.map eI) 0]] (.tup [.agg [J (((weighR l (fun k => at_ vs (k % 4) * at_ ws (k / 4))).1).X), J (((weighR l (fun k => at_ vs (k % 4) * at_ ws (k / 4))).1).Y), J (((weighR l (fun k => at_ vs (k % 4) * at_ ws (k / 4))).1).Z)], .bool ((weighR l (fun k => at_ vs (k % 4) * at_ ws (k / 4))).2)]) := by
 intro H0
 have hwt : ∀ k : Int, 0 ≤ k → k < 16 → 0 ≤ at_ vs (k % 4) * at_ ws (k / 4) ∧ at_ vs (k % 4) * at_ ws (k / 4) ≤ 150994944 := fun k h0 h1 => mul_nn (hv _ (by omega) (by omega)) (hw _ (by omega) (by omega))
 refine ACalls.of_body' (n := 47) rfl rfl rfl rfl ?_
 have m0 := Mono.refl H0
 refine AWP.seq (AWP.region rfl ?_)
 refine AOps.cons rfl rfl (AOp.alloc rfl tz_23 ?_)
 intro i1 H2 n3 h4 k5
 have z6 := Mono.free m0 n3
 have m7 := Mono.new m0 n3 k5
 refine AOps.cons rfl rfl (AOp.assign _ rfl rfl ?_)
 refine AWP.seq (AWP.region rfl ?_)
 refine AOps.cons rfl rfl (AOp.alloc rfl tz_23 ?_)
 intro i8 H9 n10 h11 k12
 have e13 := ne_new h4 n10
 have z14 := Mono.free m7 n10
 have h15 := keep k12 (ne_new h4 n10) h4
 have m16 := Mono.new m7 n10 k12
 refine AWP.seq (AWP.region rfl ?_)
 refine AOps.cons rfl rfl (AOp.assign _ rfl rfl ?_)
 refine AWP.seq ?_
 refine AWP.seq (AWP.region rfl ?_)
 refine AOps.cons rfl rfl (AOp.move _ rfl rfl (AOps.cons rfl rfl (AOp.len (m := l.length) rfl rfl (.inr (.inl ⟨_, rfl⟩)) u_34 (AOps.cons rfl rfl (AOp.move _ rfl rfl ?_)))))
 refine AWP.block ?_
 refine AWP.loop (fun q17 fq Hq => ∃ (i : Int), q17 = ((l.length : Int) - i).toNat ∧ fq 12 = J i ∧ fq 7 = J (sumW (fun k => at_ vs (k % 4) * at_ ws (k / 4)) i.toNat) ∧ fq 1 = .fn 95 [.fptr (vs.map eI) 0, .fptr (ws.map eI) 0] ∧ fq 4 = .ptr i1 0 0 ∧ fq 6 = .ptr i8 0 0 ∧ fq 10 = .sl l.length (l.flatMap eV) ∧ fq 11 = J (l.length : Int) ∧ Hq i1 = some (.row 0 ([J 0, J 0, J 0])) ∧ Hq i8 = some (.row 0 ([J ((sumV l (fun k => at_ vs (k % 4) * at_ ws (k / 4)) i.toNat).X), J ((sumV l (fun k => at_ vs (k % 4) * at_ ws (k / 4)) i.toNat).Y), J ((sumV l (fun k => at_ vs (k % 4) * at_ ws (k / 4)) i.toNat).Z)])) ∧ Mono H0 Hq ∧ (0 ≤ i) ∧ (i ≤ (l.length : Int)) ∧ (∀ j : Int, 0 ≤ j → j < i → inV 65536 (at_ l j))) (k := ((l.length : Int) - 0).toNat) ?_ ?_
 exact ⟨0, rfl, rfl, (congrArg (AV.int .i64) (show (0 : Int) = (sumW (fun k => at_ vs (k % 4) * at_ ws (k / 4)) (0 : Int).toNat) from by rfl)), rfl, rfl, rfl, rfl, rfl, h15, (h11.trans (congrArg (fun c => some (AB.row 0 c)) (show ([J 0, J 0, J 0] : List AV) = [J ((sumV l (fun k => at_ vs (k % 4) * at_ ws (k / 4)) (0 : Int).toNat).X), J ((sumV l (fun k => at_ vs (k % 4) * at_ ws (k / 4)) (0 : Int).toNat).Y), J ((sumV l (fun k => at_ vs (k % 4) * at_ ws (k / 4)) (0 : Int).toNat).Z)] from by first | rfl | (rw [sumV_step hi0])))), m16, by omega, by omega, by intro j; omega⟩
 rintro _ f19 H18 ⟨i, rfl, s20, s21, s22, s23, s24, s25, s26, h27, h28, m29, hi0, hi1, pre⟩
 refine AWP.seq (AWP.region rfl ?_)
 refine AOps.cons rfl rfl (AOp.bin _ rfl s20 s26 rfl ?_)
 refine AWP.seq ?_
 by_cases b30 : i < (l.length : Int)
 refine AWP.condT rfl (decide_eq_true b30) ?_
 refine AWP.skip ?_
 refine AWP.seq ?_
 refine AWP.block ?_
 refine AWP.seq (AWP.region rfl ?_)
 refine AOps.cons rfl rfl (AOp.move _ rfl s20 (AOps.cons rfl rfl (AOp.indexAddrS rfl s25 s20 sl_34 (by omega) (by omega) (AOps.cons rfl rfl (AOp.loadF _ rfl rfl ty_23 (ldM eV_len (by omega) (by omega)) (AOps.cons rfl rfl (AOp.alloc rfl tz_23 ?_)))))))
 intro i31 H32 n33 h34 k35
 have e36 := ne_new h27 n33
 have e37 := ne_new h28 n33
 have z38 := Mono.free m29 n33
 have h39 := keep k35 (ne_new h27 n33) h27
 have h40 := keep k35 (ne_new h28 n33) h28
 have m41 := Mono.new m29 n33 k35
 refine AOps.cons rfl rfl (AOp.assign _ rfl rfl (AOps.cons rfl rfl (AOp.store' (cells' := [J ((at_ l i).X), J ((at_ l i).Y), J ((at_ l i).Z)]) (.agg [J ((at_ l i).X), J ((at_ l i).Y), J ((at_ l i).Z)]) rfl rfl ts_23 h34 rfl rfl rfl rfl ?_)))
 intro H42 h43 k44
 have h45 := keep k44 e36 h39
 have h46 := keep k44 e37 h40
 have m48 := Mono.set m41 z38 k44
 refine AWP.seq ?_
 refine AWP.seq ?_
 refine AWP.frzP 9 h43 z38 rfl m48 fun H49 m50 k51 => ?_
 have h52 := (k51 _ e36).trans h45
 have h53 := (k51 _ e37).trans h46
 refine AWP.region rfl ?_
 refine AOps.cons rfl rfl (AOp.loadF _ rfl rfl ty_23 rfl (AOps.cons rfl rfl (AOp.pcall («as» := [.agg [J ((at_ l i).X), J ((at_ l i).Y), J ((at_ l i).Z)], J 65536]) rfl rfl (rfl) tf_18 (c_vec_Within (at_ l i) 65536 (by first | omega | assumption | (constructor <;> omega) | simp)) ?_)))
 intro H54 m55
 have h56 := m55 _ _ h52
 have h57 := m55 _ _ h53
 have m58 := m50.trans m55
 refine AOps.cons rfl rfl (AOp.not rfl rfl ?_)
 refine AOps.nil ?_
 change AWP _ _ _ _ _ _
 rcases Bool.eq_false_or_eq_true (R_vec_Within (at_ l i) 65536) with b59 | b59
 have iv60 : inV 65536 (at_ l i) := withinvec_in b59
 refine AWP.condF rfl (nb b59) ?_
 refine AWP.skip ?_
 refine AWP.seq ?_
 have hsv := sumV_rng (l := l) (wt := fun k => at_ vs (k % 4) * at_ ws (k / 4)) (B := 150994944) (n := i.toNat) (fun k hk => pre _ (by omega) (by omega)) (fun k hk => hwt _ (by omega) (by omega))
 have hsw := sumW_rng (wt := fun k => at_ vs (k % 4) * at_ ws (k / 4)) (B := 150994944) (n := i.toNat) (fun k hk => hwt _ (by omega) (by omega))
 rw [Int.toNat_of_nonneg hi0] at hsv hsw
 have hsv2 : inV 158329674399744 (sumV l (fun k => at_ vs (k % 4) * at_ ws (k / 4)) i.toNat) := inV_le hsv (by omega)
 have hwi := hwt i hi0 (by omega)
 refine AWP.region_quiet mixed (by kernel_rfl) 7 [7] rfl (by kernel_rfl) (Mono H54) (Mono.refl _) ?_
 refine QE.op rfl rfl (.inl ⟨rfl, fun f' H' hf hM => AOp.load _ rfl ((hf 6 rfl).trans s24) ty_23 (hM _ _ h57) rfl ⟨rfl, hM⟩⟩) ?_
 refine QE.op rfl rfl (.inl ⟨rfl, fun f' H' hf hM => AOp.loadF _ rfl ((hf 9 rfl).trans rfl) ty_23 rfl ⟨rfl, hM⟩⟩) ?_
 refine QE.op rfl rfl (.inl ⟨rfl, fun f' H' hf hM => AOp.move _ rfl ((hf 1 rfl).trans s22) ⟨rfl, hM⟩⟩) ?_
 refine QE.op rfl rfl (.inl ⟨rfl, fun f' H' hf hM => AOp.move _ rfl ((hf 8 rfl).trans rfl) ⟨rfl, hM⟩⟩) ?_
 refine QE.op rfl rfl (.inl ⟨rfl, fun f' H' hf hM => AOp.pcall («as» := [J i, .fptr (vs.map eI) 0, .fptr (ws.map eI) 0]) rfl ((hf 23 rfl).trans rfl) (lapp (lcons ((hf 24 rfl).trans rfl) rfl) rfl) tf_95 (c_Point1 vs ws hvs hws (by assumption) (by assumption) i (by omega)) fun H2 m2 => ⟨rfl, hM.trans m2⟩⟩) ?_
 refine QE.op rfl rfl (.inl ⟨rfl, fun f' H' hf hM => AOp.pcall («as» := [.agg [J ((at_ l i).X), J ((at_ l i).Y), J ((at_ l i).Z)], J (at_ vs (i % 4) * at_ ws (i / 4))]) rfl rfl (lapp (lcons ((hf 22 rfl).trans rfl) (lcons ((hf 25 rfl).trans rfl) rfl)) rfl) tf_59 (c_vec_Scale (at_ l i) (at_ vs (i % 4) * at_ ws (i / 4)) (mulV_of iv60 (C := 150994944) (by omega) (by decide))) fun H2 m2 => ⟨rfl, hM.trans m2⟩⟩) ?_
 refine QE.op rfl rfl (.inl ⟨rfl, fun f' H' hf hM => AOp.pcall («as» := [.agg [J ((sumV l (fun k => at_ vs (k % 4) * at_ ws (k / 4)) i.toNat).X), J ((sumV l (fun k => at_ vs (k % 4) * at_ ws (k / 4)) i.toNat).Y), J ((sumV l (fun k => at_ vs (k % 4) * at_ ws (k / 4)) i.toNat).Z)], .agg [J ((ZweighP_0 l vs ws i).X), J ((ZweighP_0 l vs ws i).Y), J ((ZweighP_0 l vs ws i).Z)]]) rfl rfl (lapp (lcons ((hf 21 rfl).trans rfl) (lcons ((hf 26 rfl).trans rfl) rfl)) rfl) tf_38 (c_vec_Add (sumV l (fun k => at_ vs (k % 4) * at_ ws (k / 4)) i.toNat) (ZweighP_0 l vs ws i) (inV_le hsv2 (by decide)) (inV_le (inV_le (inV_vec_Scale iv60 (C := 150994944) (by omega)) (by decide) : inV 9895604649984 _) (by decide))) fun H2 m2 => ⟨rfl, hM.trans m2⟩⟩) ?_
 refine QE.done fun H61 m62 => ?_
 have h63 := m62 _ _ h56
 have h64 := m62 _ _ h57
 have m65 := m58.trans m62
 refine AOps.cons rfl rfl (AOp.store' (cells' := [J ((R_vec_Add (sumV l (fun k => at_ vs (k % 4) * at_ ws (k / 4)) i.toNat) (ZweighP_0 l vs ws i)).X), J ((R_vec_Add (sumV l (fun k => at_ vs (k % 4) * at_ ws (k / 4)) i.toNat) (ZweighP_0 l vs ws i)).Y), J ((R_vec_Add (sumV l (fun k => at_ vs (k % 4) * at_ ws (k / 4)) i.toNat) (ZweighP_0 l vs ws i)).Z)]) (.agg [J ((R_vec_Add (sumV l (fun k => at_ vs (k % 4) * at_ ws (k / 4)) i.toNat) (ZweighP_0 l vs ws i)).X), J ((R_vec_Add (sumV l (fun k => at_ vs (k % 4) * at_ ws (k / 4)) i.toNat) (ZweighP_0 l vs ws i)).Y), J ((R_vec_Add (sumV l (fun k => at_ vs (k % 4) * at_ ws (k / 4)) i.toNat) (ZweighP_0 l vs ws i)).Z)]) s24 rfl ts_23 h64 rfl rfl rfl rfl ?_)
 intro H66 h67 k68
 have h69 := keep k68 e13 h63
 have m71 := Mono.set m65 z14 k68
 refine AWP.region rfl ?_
 refine AOps.cons rfl rfl (AOp.move _ rfl s21 (AOps.cons rfl rfl (AOp.move _ rfl s22 (AOps.cons rfl rfl (AOp.move _ rfl rfl (AOps.cons rfl rfl (AOp.pcall («as» := [J i, .fptr (vs.map eI) 0, .fptr (ws.map eI) 0]) rfl rfl (rfl) tf_95 (c_Point1 vs ws hvs hws (by assumption) (by assumption) i (by omega)) ?_)))))))
 intro H72 m73
 have h74 := m73 _ _ h69
 have h75 := m73 _ _ h67
 have m76 := m71.trans m73
 refine AOps.cons rfl rfl (AOp.bin _ rfl rfl rfl (iadd (by omega)) (AOps.cons rfl rfl (AOp.assign _ rfl rfl ?_)))
 refine AWP.region rfl ?_
 refine AOps.cons rfl rfl (AOp.bin _ rfl s20 rfl (iadd (by omega)) (AOps.cons rfl rfl (AOp.move _ rfl rfl ?_)))
 refine AOps.nil ?_
 exact ⟨_, by omega, i + 1, rfl, rfl, (congrArg (AV.int .i64) (show ((sumW (fun k => at_ vs (k % 4) * at_ ws (k / 4)) i.toNat) + (at_ vs (i % 4) * at_ ws (i / 4)) : Int) = (sumW (fun k => at_ vs (k % 4) * at_ ws (k / 4)) (i + 1).toNat) from by rw [sumW_step hi0])), s22, s23, s24, s25, s26, h74, (h75.trans (congrArg (fun c => some (AB.row 0 c)) (show ([J ((R_vec_Add (sumV l (fun k => at_ vs (k % 4) * at_ ws (k / 4)) i.toNat) (ZweighP_0 l vs ws i)).X), J ((R_vec_Add (sumV l (fun k => at_ vs (k % 4) * at_ ws (k / 4)) i.toNat) (ZweighP_0 l vs ws i)).Y), J ((R_vec_Add (sumV l (fun k => at_ vs (k % 4) * at_ ws (k / 4)) i.toNat) (ZweighP_0 l vs ws i)).Z)] : List AV) = [J ((sumV l (fun k => at_ vs (k % 4) * at_ ws (k / 4)) (i + 1).toNat).X), J ((sumV l (fun k => at_ vs (k % 4) * at_ ws (k / 4)) (i + 1).toNat).Y), J ((sumV l (fun k => at_ vs (k % 4) * at_ ws (k / 4)) (i + 1).toNat).Z)] from by first | rfl | (rw [sumV_step hi0])))), m76, by omega, by omega, by exact fa_step pre iv60⟩
 refine AWP.condT rfl (nb b59) ?_
 refine AWP.seq (AWP.region rfl ?_)
 refine AOps.cons rfl rfl (AOp.build (cells := [J 0, J 0, J 0]) rfl tz_23 pl_23 rfl rfl (AOps.cons rfl rfl (AOp.store' (cells' := [J 0, J 0, J 0]) (.agg [J 0, J 0, J 0]) s23 rfl ts_23 h56 rfl rfl rfl rfl ?_)))
 intro H77 h78 k79
 have m82 := Mono.set m58 z6 k79
 refine AOps.cons rfl rfl (AOp.assign _ rfl rfl ?_)
 refine AWP.ret ?_
 refine ⟨_, _, Ghost.refl, .inr rfl, _, Res.list rfl rfl (.cell (v := .agg [J 0, J 0, J 0]) s23 ty_23 h78 rfl (.tmp rfl (.nil))), ?_, m82⟩
 exact congrArg AV.tup (lc (congrArg AV.agg (lc (congrArg (AV.int .i64) (show (0 : Int) = ((weighR l (fun k => at_ vs (k % 4) * at_ ws (k / 4))).1).X from by rw [weigh_F hi0 (by omega) b59])) (lc (congrArg (AV.int .i64) (show (0 : Int) = ((weighR l (fun k => at_ vs (k % 4) * at_ ws (k / 4))).1).Y from by rw [weigh_F hi0 (by omega) b59])) (lc (congrArg (AV.int .i64) (show (0 : Int) = ((weighR l (fun k => at_ vs (k % 4) * at_ ws (k / 4))).1).Z from by rw [weigh_F hi0 (by omega) b59])) rfl)))) (lc (congrArg AV.bool (show (false : Bool) = (weighR l (fun k => at_ vs (k % 4) * at_ ws (k / 4))).2 from by rw [weigh_F hi0 (by omega) b59])) rfl))
 refine AWP.condF rfl (decide_eq_false b30) ?_
 refine AWP.exit ?_
 change AWP _ _ _ _ _ _
 refine AWP.seq ?_
 have hie : i = l.length := by omega
 have hsv := sumV_rng (l := l) (wt := fun k => at_ vs (k % 4) * at_ ws (k / 4)) (B := 150994944) (n := i.toNat) (fun k hk => pre _ (by omega) (by omega)) (fun k hk => hwt _ (by omega) (by omega))
 have hsw := sumW_rng (wt := fun k => at_ vs (k % 4) * at_ ws (k / 4)) (B := 150994944) (n := i.toNat) (fun k hk => hwt _ (by omega) (by omega))
 rw [Int.toNat_of_nonneg hi0] at hsv hsw
 have hsv2 : inV 158329674399744 (sumV l (fun k => at_ vs (k % 4) * at_ ws (k / 4)) i.toNat) := inV_le hsv (by omega)
 skip
 refine AWP.region_quiet mixed (by kernel_rfl) 13 [13, 14] rfl (by kernel_rfl) (Mono H18) (Mono.refl _) ?_
 refine QE.op rfl rfl (.inl ⟨rfl, fun f' H' hf hM => AOp.fieldAddr rfl ((hf 6 rfl).trans s24) fl_23_0 ⟨rfl, hM⟩ (hid := ⟨_, (hM _ _ h28)⟩)⟩) ?_
 refine QE.op rfl rfl (.inl ⟨rfl, fun f' H' hf hM => AOp.load _ rfl ((hf 34 rfl).trans rfl) ty_3 (hM _ _ h28) rfl ⟨rfl, hM⟩⟩) ?_
 refine QE.op rfl rfl (.inl ⟨rfl, fun f' H' hf hM => AOp.move _ rfl ((hf 7 rfl).trans s21) ⟨rfl, hM⟩⟩) ?_
 refine QE.op rfl rfl (.inl ⟨rfl, fun f' H' hf hM => AOp.pcall («as» := [J ((sumV l (fun k => at_ vs (k % 4) * at_ ws (k / 4)) i.toNat).X), J (sumW (fun k => at_ vs (k % 4) * at_ ws (k / 4)) i.toNat)]) rfl rfl (lapp (lcons ((hf 35 rfl).trans rfl) (lcons ((hf 36 rfl).trans rfl) rfl)) rfl) tf_57 (c_vec_Round ((sumV l (fun k => at_ vs (k % 4) * at_ ws (k / 4)) i.toNat).X) (sumW (fun k => at_ vs (k % 4) * at_ ws (k / 4)) i.toNat) (by first | omega | assumption | (constructor <;> omega) | simp) (by first | omega | assumption | (constructor <;> omega) | simp)) fun H2 m2 => ⟨rfl, hM.trans m2⟩⟩) ?_
 refine QE.op rfl rfl (.inl ⟨rfl, fun f' H' hf hM => AOp.fieldAddr rfl ((hf 6 rfl).trans s24) fl_23_1 ⟨rfl, hM⟩ (hid := ⟨_, (hM _ _ h28)⟩)⟩) ?_
 refine QE.op rfl rfl (.inl ⟨rfl, fun f' H' hf hM => AOp.load _ rfl ((hf 38 rfl).trans rfl) ty_3 (hM _ _ h28) rfl ⟨rfl, hM⟩⟩) ?_
 refine QE.op rfl rfl (.inl ⟨rfl, fun f' H' hf hM => AOp.move _ rfl ((hf 7 rfl).trans s21) ⟨rfl, hM⟩⟩) ?_
 refine QE.op rfl rfl (.inl ⟨rfl, fun f' H' hf hM => AOp.pcall («as» := [J ((sumV l (fun k => at_ vs (k % 4) * at_ ws (k / 4)) i.toNat).Y), J (sumW (fun k => at_ vs (k % 4) * at_ ws (k / 4)) i.toNat)]) rfl rfl (lapp (lcons ((hf 39 rfl).trans rfl) (lcons ((hf 40 rfl).trans rfl) rfl)) rfl) tf_57 (c_vec_Round ((sumV l (fun k => at_ vs (k % 4) * at_ ws (k / 4)) i.toNat).Y) (sumW (fun k => at_ vs (k % 4) * at_ ws (k / 4)) i.toNat) (by first | omega | assumption | (constructor <;> omega) | simp) (by first | omega | assumption | (constructor <;> omega) | simp)) fun H2 m2 => ⟨rfl, hM.trans m2⟩⟩) ?_
 refine QE.op rfl rfl (.inl ⟨rfl, fun f' H' hf hM => AOp.fieldAddr rfl ((hf 6 rfl).trans s24) fl_23_2 ⟨rfl, hM⟩ (hid := ⟨_, (hM _ _ h28)⟩)⟩) ?_
 refine QE.op rfl rfl (.inl ⟨rfl, fun f' H' hf hM => AOp.load _ rfl ((hf 42 rfl).trans rfl) ty_3 (hM _ _ h28) rfl ⟨rfl, hM⟩⟩) ?_
 refine QE.op rfl rfl (.inl ⟨rfl, fun f' H' hf hM => AOp.move _ rfl ((hf 7 rfl).trans s21) ⟨rfl, hM⟩⟩) ?_
 refine QE.op rfl rfl (.inl ⟨rfl, fun f' H' hf hM => AOp.pcall («as» := [J ((sumV l (fun k => at_ vs (k % 4) * at_ ws (k / 4)) i.toNat).Z), J (sumW (fun k => at_ vs (k % 4) * at_ ws (k / 4)) i.toNat)]) rfl rfl (lapp (lcons ((hf 43 rfl).trans rfl) (lcons ((hf 44 rfl).trans rfl) rfl)) rfl) tf_57 (c_vec_Round ((sumV l (fun k => at_ vs (k % 4) * at_ ws (k / 4)) i.toNat).Z) (sumW (fun k => at_ vs (k % 4) * at_ ws (k / 4)) i.toNat) (by first | omega | assumption | (constructor <;> omega) | simp) (by first | omega | assumption | (constructor <;> omega) | simp)) fun H2 m2 => ⟨rfl, hM.trans m2⟩⟩) ?_
 refine QE.op rfl rfl (.inl ⟨rfl, fun f' H' hf hM => AOp.build (cells := [J (R_vec_Round ((sumV l (fun k => at_ vs (k % 4) * at_ ws (k / 4)) i.toNat).X) (sumW (fun k => at_ vs (k % 4) * at_ ws (k / 4)) i.toNat)), J (R_vec_Round ((sumV l (fun k => at_ vs (k % 4) * at_ ws (k / 4)) i.toNat).Y) (sumW (fun k => at_ vs (k % 4) * at_ ws (k / 4)) i.toNat)), J (R_vec_Round ((sumV l (fun k => at_ vs (k % 4) * at_ ws (k / 4)) i.toNat).Z) (sumW (fun k => at_ vs (k % 4) * at_ ws (k / 4)) i.toNat))]) rfl tz_23 pl_23 (lconsP ((hf 37 rfl).trans rfl) (lconsP ((hf 41 rfl).trans rfl) (lconsP ((hf 45 rfl).trans rfl) rfl))) rfl ⟨rfl, hM⟩⟩) ?_
 refine QE.done fun H83 m84 => ?_
 have h85 := m84 _ _ h27
 have h86 := m84 _ _ h28
 have m87 := m29.trans m84
 refine AOps.cons rfl rfl (AOp.store' (cells' := [J (R_vec_Round ((sumV l (fun k => at_ vs (k % 4) * at_ ws (k / 4)) i.toNat).X) (sumW (fun k => at_ vs (k % 4) * at_ ws (k / 4)) i.toNat)), J (R_vec_Round ((sumV l (fun k => at_ vs (k % 4) * at_ ws (k / 4)) i.toNat).Y) (sumW (fun k => at_ vs (k % 4) * at_ ws (k / 4)) i.toNat)), J (R_vec_Round ((sumV l (fun k => at_ vs (k % 4) * at_ ws (k / 4)) i.toNat).Z) (sumW (fun k => at_ vs (k % 4) * at_ ws (k / 4)) i.toNat))]) (.agg [J (R_vec_Round ((sumV l (fun k => at_ vs (k % 4) * at_ ws (k / 4)) i.toNat).X) (sumW (fun k => at_ vs (k % 4) * at_ ws (k / 4)) i.toNat)), J (R_vec_Round ((sumV l (fun k => at_ vs (k % 4) * at_ ws (k / 4)) i.toNat).Y) (sumW (fun k => at_ vs (k % 4) * at_ ws (k / 4)) i.toNat)), J (R_vec_Round ((sumV l (fun k => at_ vs (k % 4) * at_ ws (k / 4)) i.toNat).Z) (sumW (fun k => at_ vs (k % 4) * at_ ws (k / 4)) i.toNat))]) s23 rfl ts_23 h85 rfl rfl rfl rfl ?_)
 intro H88 h89 k90
 have m93 := Mono.set m87 z6 k90
 refine AOps.cons rfl rfl (AOp.assign _ rfl rfl ?_)
 refine AWP.ret ?_
 refine ⟨_, _, Ghost.refl, .inr rfl, _, Res.list rfl rfl (.cell (v := .agg [J (R_vec_Round ((sumV l (fun k => at_ vs (k % 4) * at_ ws (k / 4)) i.toNat).X) (sumW (fun k => at_ vs (k % 4) * at_ ws (k / 4)) i.toNat)), J (R_vec_Round ((sumV l (fun k => at_ vs (k % 4) * at_ ws (k / 4)) i.toNat).Y) (sumW (fun k => at_ vs (k % 4) * at_ ws (k / 4)) i.toNat)), J (R_vec_Round ((sumV l (fun k => at_ vs (k % 4) * at_ ws (k / 4)) i.toNat).Z) (sumW (fun k => at_ vs (k % 4) * at_ ws (k / 4)) i.toNat))]) s23 ty_23 h89 rfl (.tmp rfl (.nil))), ?_, m93⟩
 exact congrArg AV.tup (lc (congrArg AV.agg (lc (congrArg (AV.int .i64) (show (R_vec_Round ((sumV l (fun k => at_ vs (k % 4) * at_ ws (k / 4)) i.toNat).X) (sumW (fun k => at_ vs (k % 4) * at_ ws (k / 4)) i.toNat) : Int) = ((weighR l (fun k => at_ vs (k % 4) * at_ ws (k / 4))).1).X from by rw [weigh_T hie pre])) (lc (congrArg (AV.int .i64) (show (R_vec_Round ((sumV l (fun k => at_ vs (k % 4) * at_ ws (k / 4)) i.toNat).Y) (sumW (fun k => at_ vs (k % 4) * at_ ws (k / 4)) i.toNat) : Int) = ((weighR l (fun k => at_ vs (k % 4) * at_ ws (k / 4))).1).Y from by rw [weigh_T hie pre])) (lc (congrArg (AV.int .i64) (show (R_vec_Round ((sumV l (fun k => at_ vs (k % 4) * at_ ws (k / 4)) i.toNat).Z) (sumW (fun k => at_ vs (k % 4) * at_ ws (k / 4)) i.toNat) : Int) = ((weighR l (fun k => at_ vs (k % 4) * at_ ws (k / 4))).1).Z from by rw [weigh_T hie pre])) rfl)))) (lc (congrArg AV.bool (show (true : Bool) = (weighR l (fun k => at_ vs (k % 4) * at_ ws (k / 4))).2 from by rw [weigh_T hie pre])) rfl))
def R_curve_Cubic (p : (List VT)) (i : Int) (n : Int) : VT × Bool :=
  if (R_curve_weights i n).2 = true then (((weighR p (fun k => at_ ((R_curve_weights i n).1) k)).1), (weighR p (fun k => at_ ((R_curve_weights i n).1) k)).2) else ((VT.mk 0 0 0), false)
theorem c_curve_Cubic (p : (List VT)) (h_p : p.length = 4) (i : Int) (n : Int) : PC Tryd.prog 84 [.agg (p.flatMap eV), J i, J n] (.tup [.agg [J (((R_curve_Cubic p i n).1).X), J (((R_curve_Cubic p i n).1).Y), J (((R_curve_Cubic p i n).1).Z)], .bool ((R_curve_Cubic p i n).2)]) := by
 intro H0
 refine ACalls.of_body' (n := 24) rfl rfl rfl rfl ?_
 have m0 := Mono.refl H0
 refine AWP.seq (AWP.region rfl ?_)
 refine AOps.cons rfl rfl (AOp.box (.agg (p.flatMap eV)) rfl rfl rfl ?_)
 intro i1 H2 n3 h4 k5
 have z6 := Mono.free m0 n3
 have m7 := Mono.new m0 n3 k5
 refine AOps.cons rfl rfl (AOp.alloc rfl tz_23 ?_)
 intro i8 H9 n10 h11 k12
 have e13 := ne_new h4 n10
 have z14 := Mono.free m7 n10
 have h15 := keep k12 (ne_new h4 n10) h4
 have m16 := Mono.new m7 n10 k12
 refine AOps.cons rfl rfl (AOp.assign _ rfl rfl ?_)
 refine AWP.seq ?_
 refine AWP.frzP 3 h15 z6 rfl m16 fun H17 m18 k19 => ?_
 have h20 := (k19 _ (Ne.symm e13)).trans h11
 refine AWP.region rfl ?_
 refine AOps.cons rfl rfl (AOp.move _ rfl rfl (AOps.cons rfl rfl (AOp.move _ rfl rfl (AOps.cons rfl rfl (AOp.pcall («as» := [J i, J n]) rfl rfl (rfl) tf_92 (c_curve_weights i n) ?_)))))
 intro H21 m22
 have h23 := m22 _ _ h20
 have m24 := m18.trans m22
 refine AOps.cons rfl rfl (AOp.move _ rfl rfl (AOps.cons rfl rfl (AOp.extract _ rfl rfl rfl (AOps.cons rfl rfl (AOp.extract _ rfl rfl rfl (AOps.cons rfl rfl (AOp.alloc rfl tz_25 ?_)))))))
 intro i25 H26 n27 h28 k29
 have e30 := ne_new h23 n27
 have z31 := Mono.free m24 n27
 have h32 := keep k29 (ne_new h23 n27) h23
 have m33 := Mono.new m24 n27 k29
 refine AOps.cons rfl rfl (AOp.store' (cells' := ((R_curve_weights i n).1).map eI) (.agg (((R_curve_weights i n).1).map eI)) rfl rfl ts_25 h28 (by simp only [AV.cells, List.all_append, List.all_cons, List.all_nil, Bool.and_true, Bool.and_eq_true]; exact (all_one1 eI_one _)) (show (AV.cells (.agg (((R_curve_weights i n).1).map eI))).length = 4 from (len1 (R_curve_weights_len i n))) rfl (wr_all rfl (len1 (R_curve_weights_len i n))) ?_)
 intro H34 h35 k36
 have h37 := keep k36 e30 h32
 have m39 := Mono.set m33 z31 k36
 refine AOps.cons rfl rfl (AOp.assign _ rfl rfl ?_)
 refine AWP.seq ?_
 refine AWP.seq ?_
 refine AWP.frzP 8 h35 z31 rfl m39 fun H40 m41 k42 => ?_
 have h43 := (k42 _ e30).trans h37
 refine AWP.region rfl ?_
 refine AOps.cons rfl rfl (AOp.move _ rfl rfl (AOps.cons rfl rfl (AOp.not rfl rfl ?_)))
 refine AOps.nil ?_
 change AWP _ _ _ _ _ _
 rcases Bool.eq_false_or_eq_true ((R_curve_weights i n).2) with b44 | b44
 refine AWP.condF rfl (nb b44) ?_
 refine AWP.skip ?_
 refine AWP.seq (AWP.region rfl ?_)
 refine AOps.cons rfl rfl (AOp.sliceAF rfl rfl ar_26 h_p SubAt.all (AOps.cons rfl rfl (AOp.makeFunc (cs := [.fptr (((R_curve_weights i n).1).map eI) 0]) rfl rfl (AOps.cons rfl rfl (AOp.pcall («as» := [.sl p.length (p.flatMap eV), .fn 94 [.fptr (((R_curve_weights i n).1).map eI) 0]]) rfl rfl (rfl) tf_93 (c_weighC p (by assumption) ((R_curve_weights i n).1) (R_curve_weights_len i n) (weights_rng _ _)) ?_)))))
 intro H45 m46
 have h47 := m46 _ _ h43
 have m48 := m41.trans m46
 refine AOps.cons rfl rfl (AOp.extract _ rfl rfl rfl (AOps.cons rfl rfl (AOp.extract _ rfl rfl rfl (AOps.cons rfl rfl (AOp.store' (cells' := [J (((weighR p (fun k => at_ ((R_curve_weights i n).1) k)).1).X), J (((weighR p (fun k => at_ ((R_curve_weights i n).1) k)).1).Y), J (((weighR p (fun k => at_ ((R_curve_weights i n).1) k)).1).Z)]) (.agg [J (((weighR p (fun k => at_ ((R_curve_weights i n).1) k)).1).X), J (((weighR p (fun k => at_ ((R_curve_weights i n).1) k)).1).Y), J (((weighR p (fun k => at_ ((R_curve_weights i n).1) k)).1).Z)]) rfl rfl ts_23 h47 rfl rfl rfl rfl ?_)))))
 intro H49 h50 k51
 have m53 := Mono.set m48 z14 k51
 refine AOps.cons rfl rfl (AOp.assign _ rfl rfl ?_)
 refine AWP.ret ?_
 refine ⟨_, _, Ghost.refl, .inr rfl, _, Res.list rfl rfl (.cell (v := .agg [J (((weighR p (fun k => at_ ((R_curve_weights i n).1) k)).1).X), J (((weighR p (fun k => at_ ((R_curve_weights i n).1) k)).1).Y), J (((weighR p (fun k => at_ ((R_curve_weights i n).1) k)).1).Z)]) rfl ty_23 h50 rfl (.tmp rfl (.nil))), ?_, m53⟩
 have hR : R_curve_Cubic p i n = (((weighR p (fun k => at_ ((R_curve_weights i n).1) k)).1), (weighR p (fun k => at_ ((R_curve_weights i n).1) k)).2) := by unfold R_curve_Cubic; rw [if_pos b44]
 exact (congrArg (fun r : VT × Bool => (.tup [.agg [J r.1.X, J r.1.Y, J r.1.Z], .bool r.2] : AV)) hR).symm
 refine AWP.condT rfl (nb b44) ?_
 refine AWP.seq (AWP.region rfl ?_)
 refine AOps.cons rfl rfl (AOp.build (cells := [J 0, J 0, J 0]) rfl tz_23 pl_23 rfl rfl (AOps.cons rfl rfl (AOp.store' (cells' := [J 0, J 0, J 0]) (.agg [J 0, J 0, J 0]) rfl rfl ts_23 h43 rfl rfl rfl rfl ?_)))
 intro H54 h55 k56
 have m58 := Mono.set m41 z14 k56
 refine AOps.cons rfl rfl (AOp.assign _ rfl rfl ?_)
 refine AWP.ret ?_
 refine ⟨_, _, Ghost.refl, .inr rfl, _, Res.list rfl rfl (.cell (v := .agg [J 0, J 0, J 0]) rfl ty_23 h55 rfl (.tmp rfl (.nil))), ?_, m58⟩
 have hR : R_curve_Cubic p i n = ((VT.mk 0 0 0), false) := by unfold R_curve_Cubic; rw [if_neg (ff b44)]
 exact (congrArg (fun r : VT × Bool => (.tup [.agg [J r.1.X, J r.1.Y, J r.1.Z], .bool r.2] : AV)) hR).symm
def R_curve_Point (p : (List VT)) (i : Int) (n : Int) (j : Int) (m : Int) : VT × Bool :=
  if (R_curve_weights i n).2 = true then (if (R_curve_weights j m).2 = true then (((weighR p (fun k => at_ ((R_curve_weights i n).1) (k % 4) * at_ ((R_curve_weights j m).1) (k / 4))).1), (weighR p (fun k => at_ ((R_curve_weights i n).1) (k % 4) * at_ ((R_curve_weights j m).1) (k / 4))).2) else ((VT.mk 0 0 0), false)) else ((VT.mk 0 0 0), false)
theorem c_curve_Point (p : (List VT)) (h_p : p.length = 16) (i : Int) (n : Int) (j : Int) (m : Int) : PC Tryd.prog 86 [.agg (p.flatMap eV), J i, J n, J j, J m] (.tup [.agg [J (((R_curve_Point p i n j m).1).X), J (((R_curve_Point p i n j m).1).Y), J (((R_curve_Point p i n j m).1).Z)], .bool ((R_curve_Point p i n j m).2)]) := by
 intro H0
 refine ACalls.of_body' (n := 40) rfl rfl rfl rfl ?_
 have m0 := Mono.refl H0
 refine AWP.seq (AWP.region rfl ?_)
 refine AOps.cons rfl rfl (AOp.box (.agg (p.flatMap eV)) rfl rfl rfl ?_)
 intro i1 H2 n3 h4 k5
 have z6 := Mono.free m0 n3
 have m7 := Mono.new m0 n3 k5
 refine AOps.cons rfl rfl (AOp.alloc rfl tz_23 ?_)
 intro i8 H9 n10 h11 k12
 have e13 := ne_new h4 n10
 have z14 := Mono.free m7 n10
 have h15 := keep k12 (ne_new h4 n10) h4
 have m16 := Mono.new m7 n10 k12
 refine AOps.cons rfl rfl (AOp.assign _ rfl rfl ?_)
 refine AWP.seq ?_
 refine AWP.frzP 5 h15 z6 rfl m16 fun H17 m18 k19 => ?_
 have h20 := (k19 _ (Ne.symm e13)).trans h11
 refine AWP.region rfl ?_
 refine AOps.cons rfl rfl (AOp.move _ rfl rfl (AOps.cons rfl rfl (AOp.move _ rfl rfl (AOps.cons rfl rfl (AOp.pcall («as» := [J i, J n]) rfl rfl (rfl) tf_92 (c_curve_weights i n) ?_)))))
 intro H21 m22
 have h23 := m22 _ _ h20
 have m24 := m18.trans m22
 refine AOps.cons rfl rfl (AOp.move _ rfl rfl (AOps.cons rfl rfl (AOp.extract _ rfl rfl rfl (AOps.cons rfl rfl (AOp.extract _ rfl rfl rfl (AOps.cons rfl rfl (AOp.alloc rfl tz_25 ?_)))))))
 intro i25 H26 n27 h28 k29
 have e30 := ne_new h23 n27
 have z31 := Mono.free m24 n27
 have h32 := keep k29 (ne_new h23 n27) h23
 have m33 := Mono.new m24 n27 k29
 refine AOps.cons rfl rfl (AOp.store' (cells' := ((R_curve_weights i n).1).map eI) (.agg (((R_curve_weights i n).1).map eI)) rfl rfl ts_25 h28 (by simp only [AV.cells, List.all_append, List.all_cons, List.all_nil, Bool.and_true, Bool.and_eq_true]; exact (all_one1 eI_one _)) (show (AV.cells (.agg (((R_curve_weights i n).1).map eI))).length = 4 from (len1 (R_curve_weights_len i n))) rfl (wr_all rfl (len1 (R_curve_weights_len i n))) ?_)
 intro H34 h35 k36
 have h37 := keep k36 e30 h32
 have m39 := Mono.set m33 z31 k36
 refine AOps.cons rfl rfl (AOp.assign _ rfl rfl ?_)
 refine AWP.seq ?_
 refine AWP.frzP 12 h35 z31 rfl m39 fun H40 m41 k42 => ?_
 have h43 := (k42 _ e30).trans h37
 refine AWP.region rfl ?_
 refine AOps.cons rfl rfl (AOp.move _ rfl rfl (AOps.cons rfl rfl (AOp.move _ rfl rfl (AOps.cons rfl rfl (AOp.pcall («as» := [J j, J m]) rfl rfl (rfl) tf_92 (c_curve_weights j m) ?_)))))
 intro H44 m45
 have h46 := m45 _ _ h43
 have m47 := m41.trans m45
 refine AOps.cons rfl rfl (AOp.move _ rfl rfl (AOps.cons rfl rfl (AOp.extract _ rfl rfl rfl (AOps.cons rfl rfl (AOp.extract _ rfl rfl rfl (AOps.cons rfl rfl (AOp.alloc rfl tz_25 ?_)))))))
 intro i48 H49 n50 h51 k52
 have e53 := ne_new h46 n50
 have z54 := Mono.free m47 n50
 have h55 := keep k52 (ne_new h46 n50) h46
 have m56 := Mono.new m47 n50 k52
 refine AOps.cons rfl rfl (AOp.store' (cells' := ((R_curve_weights j m).1).map eI) (.agg (((R_curve_weights j m).1).map eI)) rfl rfl ts_25 h51 (by simp only [AV.cells, List.all_append, List.all_cons, List.all_nil, Bool.and_true, Bool.and_eq_true]; exact (all_one1 eI_one _)) (show (AV.cells (.agg (((R_curve_weights j m).1).map eI))).length = 4 from (len1 (R_curve_weights_len j m))) rfl (wr_all rfl (len1 (R_curve_weights_len j m))) ?_)
 intro H57 h58 k59
 have h60 := keep k59 e53 h55
 have m62 := Mono.set m56 z54 k59
 refine AOps.cons rfl rfl (AOp.assign _ rfl rfl ?_)
 refine AWP.seq ?_
 refine AWP.seq ?_
 refine AWP.frzP 14 h58 z54 rfl m62 fun H63 m64 k65 => ?_
 have h66 := (k65 _ e53).trans h60
 refine AWP.region rfl ?_
 refine AOps.cons rfl rfl (AOp.move _ rfl rfl (AOps.cons rfl rfl (AOp.not rfl rfl (AOps.cons rfl rfl (AOp.move _ rfl rfl ?_)))))
 rcases Bool.eq_false_or_eq_true ((R_curve_weights i n).2) with b67 | b67
 refine AOps.yes rfl rfl rfl rfl rfl rfl rfl (nb b67) (AOp.move _ rfl rfl (AOps.yes rfl rfl rfl rfl rfl rfl rfl (nb b67) (AOp.not rfl rfl (AOps.cons rfl rfl (AOp.pickF _ rfl rfl (nb b67) rfl ?_)))))
 refine AOps.nil ?_
 change AWP _ _ _ _ _ _
 rcases Bool.eq_false_or_eq_true ((R_curve_weights j m).2) with b68 | b68
 refine AWP.condF rfl (nb b68) ?_
 refine AWP.skip ?_
 refine AWP.seq (AWP.region rfl ?_)
 refine AOps.cons rfl rfl (AOp.sliceAF rfl rfl ar_24 h_p SubAt.all (AOps.cons rfl rfl (AOp.makeFunc (cs := [.fptr (((R_curve_weights i n).1).map eI) 0, .fptr (((R_curve_weights j m).1).map eI) 0]) rfl rfl (AOps.cons rfl rfl (AOp.pcall («as» := [.sl p.length (p.flatMap eV), .fn 95 [.fptr (((R_curve_weights i n).1).map eI) 0, .fptr (((R_curve_weights j m).1).map eI) 0]]) rfl rfl (rfl) tf_93 (c_weighP p (by assumption) ((R_curve_weights i n).1) ((R_curve_weights j m).1) (R_curve_weights_len i n) (R_curve_weights_len j m) (weights_rng _ _) (weights_rng _ _)) ?_)))))
 intro H69 m70
 have h71 := m70 _ _ h66
 have m72 := m64.trans m70
 refine AOps.cons rfl rfl (AOp.extract _ rfl rfl rfl (AOps.cons rfl rfl (AOp.extract _ rfl rfl rfl (AOps.cons rfl rfl (AOp.store' (cells' := [J (((weighR p (fun k => at_ ((R_curve_weights i n).1) (k % 4) * at_ ((R_curve_weights j m).1) (k / 4))).1).X), J (((weighR p (fun k => at_ ((R_curve_weights i n).1) (k % 4) * at_ ((R_curve_weights j m).1) (k / 4))).1).Y), J (((weighR p (fun k => at_ ((R_curve_weights i n).1) (k % 4) * at_ ((R_curve_weights j m).1) (k / 4))).1).Z)]) (.agg [J (((weighR p (fun k => at_ ((R_curve_weights i n).1) (k % 4) * at_ ((R_curve_weights j m).1) (k / 4))).1).X), J (((weighR p (fun k => at_ ((R_curve_weights i n).1) (k % 4) * at_ ((R_curve_weights j m).1) (k / 4))).1).Y), J (((weighR p (fun k => at_ ((R_curve_weights i n).1) (k % 4) * at_ ((R_curve_weights j m).1) (k / 4))).1).Z)]) rfl rfl ts_23 h71 rfl rfl rfl rfl ?_)))))
 intro H73 h74 k75
 have m77 := Mono.set m72 z14 k75
 refine AOps.cons rfl rfl (AOp.assign _ rfl rfl ?_)
 refine AWP.ret ?_
 refine ⟨_, _, Ghost.refl, .inr rfl, _, Res.list rfl rfl (.cell (v := .agg [J (((weighR p (fun k => at_ ((R_curve_weights i n).1) (k % 4) * at_ ((R_curve_weights j m).1) (k / 4))).1).X), J (((weighR p (fun k => at_ ((R_curve_weights i n).1) (k % 4) * at_ ((R_curve_weights j m).1) (k / 4))).1).Y), J (((weighR p (fun k => at_ ((R_curve_weights i n).1) (k % 4) * at_ ((R_curve_weights j m).1) (k / 4))).1).Z)]) rfl ty_23 h74 rfl (.tmp rfl (.nil))), ?_, m77⟩
 have hR : R_curve_Point p i n j m = (((weighR p (fun k => at_ ((R_curve_weights i n).1) (k % 4) * at_ ((R_curve_weights j m).1) (k / 4))).1), (weighR p (fun k => at_ ((R_curve_weights i n).1) (k % 4) * at_ ((R_curve_weights j m).1) (k / 4))).2) := by unfold R_curve_Point; rw [if_pos b67, if_pos b68]
 exact (congrArg (fun r : VT × Bool => (.tup [.agg [J r.1.X, J r.1.Y, J r.1.Z], .bool r.2] : AV)) hR).symm
 refine AWP.condT rfl (nb b68) ?_
 refine AWP.seq (AWP.region rfl ?_)
 refine AOps.cons rfl rfl (AOp.build (cells := [J 0, J 0, J 0]) rfl tz_23 pl_23 rfl rfl (AOps.cons rfl rfl (AOp.store' (cells' := [J 0, J 0, J 0]) (.agg [J 0, J 0, J 0]) rfl rfl ts_23 h66 rfl rfl rfl rfl ?_)))
 intro H78 h79 k80
 have m82 := Mono.set m64 z14 k80
 refine AOps.cons rfl rfl (AOp.assign _ rfl rfl ?_)
 refine AWP.ret ?_
 refine ⟨_, _, Ghost.refl, .inr rfl, _, Res.list rfl rfl (.cell (v := .agg [J 0, J 0, J 0]) rfl ty_23 h79 rfl (.tmp rfl (.nil))), ?_, m82⟩
 have hR : R_curve_Point p i n j m = ((VT.mk 0 0 0), false) := by unfold R_curve_Point; rw [if_pos b67, if_neg (ff b68)]
 exact (congrArg (fun r : VT × Bool => (.tup [.agg [J r.1.X, J r.1.Y, J r.1.Z], .bool r.2] : AV)) hR).symm
 refine AOps.no rfl rfl rfl rfl rfl rfl rfl (ble_of (nb b67) (by decide)) (AOps.no rfl rfl rfl rfl rfl rfl rfl (ble_of (nb b67) (by decide)) (AOps.cons rfl rfl (AOp.pickT _ rfl rfl (nb b67) rfl ?_)))
 refine AWP.condT rfl rfl ?_
 refine AWP.seq (AWP.region rfl ?_)
 refine AOps.cons rfl rfl (AOp.build (cells := [J 0, J 0, J 0]) rfl tz_23 pl_23 rfl rfl (AOps.cons rfl rfl (AOp.store' (cells' := [J 0, J 0, J 0]) (.agg [J 0, J 0, J 0]) rfl rfl ts_23 h66 rfl rfl rfl rfl ?_)))
 intro H83 h84 k85
 have m87 := Mono.set m64 z14 k85
 refine AOps.cons rfl rfl (AOp.assign _ rfl rfl ?_)
 refine AWP.ret ?_
 refine ⟨_, _, Ghost.refl, .inr rfl, _, Res.list rfl rfl (.cell (v := .agg [J 0, J 0, J 0]) rfl ty_23 h84 rfl (.tmp rfl (.nil))), ?_, m87⟩
 have hR : R_curve_Point p i n j m = ((VT.mk 0 0 0), false) := by unfold R_curve_Point; rw [if_neg (ff b67)]
 exact (congrArg (fun r : VT × Bool => (.tup [.agg [J r.1.X, J r.1.Y, J r.1.Z], .bool r.2] : AV)) hR).symm
end Go.Proofs.M
namespace Go.Proofs.M
set_option maxRecDepth 4000
open Go Go.AH Go.Maps
theorem laid : laidOutB Tryd.prog = true := by kernel_rfl
theorem row_lt {a b : Nat} (h : Nat.ble (a + 1) b = true) : a < b := Nat.le_of_ble_eq_true h
abbrev ranV (v : VT) : Prop := inR v.X ∧ inR v.Y ∧ inR v.Z
abbrev ranK (k : KeyT) : Prop := inR k.Kind ∧ inR k.Of ∧ inR k.A ∧ inR k.B ∧ inR k.N
abbrev ranI3 (k : I3T) : Prop := inR k.x0 ∧ inR k.x1 ∧ inR k.x2
abbrev ranS (b : SpotT) : Prop := inR b.Kind ∧ inR b.A ∧ inR b.B
theorem teq23 : TEq Tryd.prog 23 := TEq.mk' laid (m := 5) (by decide) (row_lt (by kernel_rfl)) (by kernel_rfl) (by kernel_rfl) (by kernel_rfl)
theorem teq58 : TEq Tryd.prog 58 := TEq.mk' laid (m := 5) (by decide) (row_lt (by kernel_rfl)) (by kernel_rfl) (by kernel_rfl) (by kernel_rfl)
theorem teq59 : TEq Tryd.prog 59 := TEq.mk' laid (m := 5) (by decide) (row_lt (by kernel_rfl)) (by kernel_rfl) (by kernel_rfl) (by kernel_rfl)
theorem kokV {v : VT} (h : ranV v) : KOK Tryd.prog 23 (.agg (eV v)) := KOK.flat (xs := [v.X, v.Y, v.Z]) 4 rfl (by kernel_rfl) (by kernel_rfl) (by kernel_rfl) (by kernel_rfl) (by simp [h])
theorem kokK {v : KeyT} (h : ranK v) : KOK Tryd.prog 58 (.agg (eKey v)) := KOK.flat (xs := [v.Kind, v.Of, v.A, v.B, v.N]) 4 rfl (by kernel_rfl) (by kernel_rfl) (by kernel_rfl) (by kernel_rfl) (by simp [h])
theorem kokI3 {v : I3T} (h : ranI3 v) : KOK Tryd.prog 59 (.agg (eI3 v)) := KOK.flat (xs := [v.x0, v.x1, v.x2]) 4 rfl (by kernel_rfl) (by kernel_rfl) (by kernel_rfl) (by kernel_rfl) (by simp [h])
theorem kokS {v : SpotT} (h : ranS v) : KOK Tryd.prog 76 (.agg (eSpot v)) := KOK.flat (xs := [v.Kind, v.A, v.B]) 4 rfl (by kernel_rfl) (by kernel_rfl) (by kernel_rfl) (by kernel_rfl) (by simp [h])
theorem tm96 : TMap Tryd.prog 96 76 3 := TMap.mk' laid (m := 5) (by decide) rfl (row_lt (by kernel_rfl)) (by kernel_rfl) (by kernel_rfl)
theorem inR_of {a B : Int} (h : -B ≤ a ∧ a ≤ B) (hB : B ≤ 9223372036854775807) : inR a := by unfold inR; omega
theorem ranV_of {v : VT} {B : Int} (h : inV B v) (hB : B ≤ 9223372036854775807) : ranV v := by
  obtain ⟨h1, h2, h3, h4, h5, h6⟩ := h
  exact ⟨inR_of ⟨h1, h2⟩ hB, inR_of ⟨h3, h4⟩ hB, inR_of ⟨h5, h6⟩ hB⟩
theorem ediv_rng {n d : Int} (hn : 0 ≤ n) (hd : 1 ≤ d) : 0 ≤ n / d ∧ n / d ≤ n := ⟨Int.ediv_nonneg hn (by omega), Int.ediv_le_self _ hn⟩
/-! ### Lists of points that are far -/
def idxF (l : List VT) (m : Int) : Int := match l.findIdx? fun v => !R_vec_Within v m with | some k => k | none => -1
theorem idxF_hit {l : List VT} {m i : Int} (h0 : 0 ≤ i) (h1 : i < l.length) (hp : ∀ j : Int, 0 ≤ j → j < i → inV m (at_ l j)) (h : R_vec_Within (at_ l i) m = false) : i = idxF l m := by
  have e : l.findIdx? (fun v => !R_vec_Within v m) = some i.toNat := by
    rw [List.findIdx?_eq_some_iff_getElem]
    refine ⟨by omega, ?_, fun j hj => ?_⟩
    · have hl : i.toNat < l.length := by omega
      simpa [at_, hl] using h
    · have hl : j < l.length := by omega
      have := withinvec_iff.2 (hp j (by omega) (by omega))
      simp [at_, hl] at this
      simpa using this
  unfold idxF
  rw [e]
  simp only
  omega
theorem idxF_miss {l : List VT} {m : Int} (hp : ∀ j : Int, 0 ≤ j → j < l.length → inV m (at_ l j)) : -1 = idxF l m := by
  have e : l.findIdx? (fun v => !R_vec_Within v m) = none := by
    rw [List.findIdx?_eq_none_iff]
    intro v hv
    obtain ⟨i, h0, h1, rfl⟩ := mem_at hv
    rw [withinvec_iff.2 (hp i h0 h1)]; rfl
  unfold idxF
  rw [e]
theorem idxF_all (l : List VT) (m : Int) : decide (idxF l m ≥ 0) = !allIn l m := by
  cases h : allIn l m with
  | true => rw [← idxF_miss (allIn_T.1 h)]; rfl
  | false =>
    have : ∃ k, l.findIdx? (fun v => !R_vec_Within v m) = some k := by
      cases e : l.findIdx? (fun v => !R_vec_Within v m) with
      | some k => exact ⟨k, rfl⟩
      | none =>
        rw [List.findIdx?_eq_none_iff] at e
        have : allIn l m = true := by
          unfold allIn
          rw [List.all_eq_true]
          intro v hv
          have := e v hv
          simpa using this
        rw [h] at this; cases this
    obtain ⟨k, hk⟩ := this
    unfold idxF; rw [hk]; simp
/-! ### Boxes of lists -/
def boxL (l : List VT) (b : BoxT) : BoxT := l.foldl (fun b p => R_vec_Join b (BoxT.mk p p)) b
def boundR (l : List VT) : BoxT × Bool := if l.length = 0 then (BoxT.mk (VT.mk 0 0 0) (VT.mk 0 0 0), false) else (boxL l (BoxT.mk (at_ l 0) (at_ l 0)), true)
theorem boxL_step {l : List VT} {b : BoxT} {i : Int} (h0 : 0 ≤ i) (h1 : i < l.length) : boxL (l.take (i + 1).toNat) b = R_vec_Join (boxL (l.take i.toNat) b) (BoxT.mk (at_ l i) (at_ l i)) := by
  unfold boxL; rw [take_step h0 h1, List.foldl_append]; rfl
theorem box_self (p : VT) : R_vec_Join (BoxT.mk p p) (BoxT.mk p p) = BoxT.mk p p := by
  simp [R_vec_Join]
theorem bound_drop {l : List VT} {i : Int} (hl : ¬ (l.length : Int) = 0) (hi : i = ((l.drop (1 : Int).toNat).length : Int)) : (boxL ((l.drop (1 : Int).toNat).take i.toNat) (BoxT.mk (at_ l 0) (at_ l 0)), true) = boundR l := by
  unfold boundR
  rw [if_neg (by omega), take_all (by omega)]
  cases l with
  | nil => simp at hl
  | cons a l =>
    have e : at_ (a :: l) 0 = a := rfl
    rw [e]
    show (boxL l _, true) = _
    unfold boxL
    rw [List.foldl_cons, box_self]
theorem bound_no {l : List VT} (hl : (l.length : Int) = 0) : (BoxT.mk (VT.mk 0 0 0) (VT.mk 0 0 0), false) = boundR l := by
  unfold boundR
  rw [if_pos (by omega)]
end Go.Proofs.M
namespace Go.Proofs.M
open Go Go.AH
set_option maxRecDepth 4000
set_option linter.unusedSimpArgs false
set_option linter.unusedVariables false
def R_rate_way (v : VT) : Int :=
  max v.X (-v.X) + (max v.Y (-v.Y)) + (max v.Z (-v.Z))
theorem way_rng {v : VT} {B : Int} (h : inV B v) : 0 ≤ R_rate_way v ∧ R_rate_way v ≤ 3 * B := by
  obtain ⟨h1, h2, h3, h4, h5, h6⟩ := h
  unfold R_rate_way; omega
theorem c_rate_way (v : VT) (hv : inV 1048576 v) : PC Tryd.prog 91 [.agg [J v.X, J v.Y, J v.Z]] (J (R_rate_way v)) := by
 intro H0
 refine ACalls.of_body' (n := 23) rfl rfl rfl rfl ?_
 have m0 := Mono.refl H0
 refine AWP.seq (AWP.region rfl ?_)
 refine AOps.cons rfl rfl (AOp.box (.agg [J v.X, J v.Y, J v.Z]) rfl rfl rfl ?_)
 intro i1 H2 n3 h4 k5
 have z6 := Mono.free m0 n3
 have m7 := Mono.new m0 n3 k5
 refine AOps.cons rfl rfl (AOp.assign _ rfl rfl ?_)
 refine AWP.seq ?_
 refine AWP.frzP 1 h4 z6 rfl m7 fun H8 m9 k10 => ?_
 refine AWP.region rfl ?_
 refine AOps.cons rfl rfl (AOp.fieldAddrF rfl rfl fl_23_0 (AOps.cons rfl rfl (AOp.loadF _ rfl rfl ty_3 rfl (AOps.cons rfl rfl (AOp.fieldAddrF rfl rfl fl_23_0 (AOps.cons rfl rfl (AOp.loadF _ rfl rfl ty_3 rfl (AOps.cons rfl rfl (AOp.negP rfl rfl (by omega) (AOps.cons rfl rfl (AOp.max2 rfl rfl rfl ?_)))))))))))
 refine AOps.cons rfl rfl (AOp.fieldAddrF rfl rfl fl_23_1 (AOps.cons rfl rfl (AOp.loadF _ rfl rfl ty_3 rfl (AOps.cons rfl rfl (AOp.fieldAddrF rfl rfl fl_23_1 (AOps.cons rfl rfl (AOp.loadF _ rfl rfl ty_3 rfl (AOps.cons rfl rfl (AOp.negP rfl rfl (by omega) (AOps.cons rfl rfl (AOp.max2 rfl rfl rfl ?_)))))))))))
 refine AOps.cons rfl rfl (AOp.bin _ rfl rfl rfl (iadd (by omega)) (AOps.cons rfl rfl (AOp.fieldAddrF rfl rfl fl_23_2 (AOps.cons rfl rfl (AOp.loadF _ rfl rfl ty_3 rfl (AOps.cons rfl rfl (AOp.fieldAddrF rfl rfl fl_23_2 (AOps.cons rfl rfl (AOp.loadF _ rfl rfl ty_3 rfl (AOps.cons rfl rfl (AOp.negP rfl rfl (by omega) ?_)))))))))))
 refine AOps.cons rfl rfl (AOp.max2 rfl rfl rfl (AOps.cons rfl rfl (AOp.bin _ rfl rfl rfl (iadd (by omega)) (AOps.cons rfl rfl (AOp.assign _ rfl rfl ?_)))))
 refine AWP.ret ?_
 refine ⟨_, _, Ghost.refl, .inr rfl, _, Res.one rfl rfl, ?_, m9⟩
 have hR : R_rate_way v = max v.X (-v.X) + (max v.Y (-v.Y)) + (max v.Z (-v.Z)) := rfl
 exact (congrArg (fun r : Int => (J r : AV)) hR).symm
def R_rate_Length (p : (List VT)) : Int × Bool :=
  if R_vec_Within (at_ p 0) 65536 = true then (if R_vec_Within (at_ p 1) 65536 = true then (if R_vec_Within (at_ p 2) 65536 = true then (if R_vec_Within (at_ p 3) 65536 = true then (0 + (R_rate_way (R_vec_Sub (at_ p 0) (at_ p 0))) + (R_rate_way (R_vec_Sub (at_ p 1) (at_ p 0))) + (R_rate_way (R_vec_Sub (at_ p 2) (at_ p 1))) + (R_rate_way (R_vec_Sub (at_ p 3) (at_ p 2))), true) else (0, false)) else (0, false)) else (0, false)) else (0, false)
theorem len_rng_rate (p : List VT) : 0 ≤ (R_rate_Length p).1 ∧ (R_rate_Length p).1 ≤ 4194304 := by
  unfold R_rate_Length
  split
  · rename_i h0
    split
    · rename_i h1
      split
      · rename_i h2
        split
        · rename_i h3
          have a := way_rng (inV_vec_Sub (withinvec_in h0) (withinvec_in h0))
          have b := way_rng (inV_vec_Sub (withinvec_in h1) (withinvec_in h0))
          have c := way_rng (inV_vec_Sub (withinvec_in h2) (withinvec_in h1))
          have d := way_rng (inV_vec_Sub (withinvec_in h3) (withinvec_in h2))
          simp only; omega
        · simp
      · simp
    · simp
  · simp
theorem c_rate_Length (p : (List VT)) (h_p : p.length = 4) : PC Tryd.prog 79 [.agg (p.flatMap eV)] (.tup [J ((R_rate_Length p).1), .bool ((R_rate_Length p).2)]) := by
 intro H0
 refine ACalls.of_body' (n := 27) rfl rfl rfl rfl ?_
 have m0 := Mono.refl H0
 refine AWP.seq (AWP.region rfl ?_)
 refine AOps.cons rfl rfl (AOp.box (.agg (p.flatMap eV)) rfl rfl rfl ?_)
 intro i1 H2 n3 h4 k5
 have z6 := Mono.free m0 n3
 have m7 := Mono.new m0 n3 k5
 refine AOps.cons rfl rfl (AOp.assign (J 0) rfl rfl (AOps.cons rfl rfl (AOp.assign (.bool false) rfl rfl ?_)))
 refine AWP.seq ?_
 refine AWP.frzP 1 h4 z6 rfl m7 fun H8 m9 k10 => ?_
 refine AWP.region rfl ?_
 refine AOps.cons rfl rfl (AOp.assign (J 0) rfl rfl ?_)
 refine AWP.seq ?_
 refine AWP.seq (AWP.region rfl ?_)
 refine AOps.cons rfl rfl (AOp.loadF (.agg (p.flatMap eV)) rfl rfl ty_26 (ld_all (lenM eV_len h_p rfl)) (AOps.cons rfl rfl (AOp.move (J 0) rfl rfl ?_)))
 refine AWP.block ?_
 refine AWP.unroll 20 ?_
 refine UN.step ?_
 refine AWP.seq (AWP.region rfl ?_)
 refine AOps.cons rfl rfl (AOp.bin (.bool (decide (0 < 4))) rfl rfl rfl rfl ?_)
 refine AWP.seq ?_
 refine AWP.condT rfl (decide_eq_true (by decide)) ?_
 refine AWP.skip ?_
 refine AWP.seq ?_
 refine AWP.block ?_
 refine AWP.seq (AWP.region rfl ?_)
 refine AOps.cons rfl rfl (AOp.move (J 0) rfl rfl (AOps.cons rfl rfl (AOp.indexArr (.agg [J ((at_ p 0).X), J ((at_ p 0).Y), J ((at_ p 0).Z)]) rfl rfl rfl ar_26 (by omega) (by omega) (ldM eV_len (i := 0) (by omega) (by have := h_p; omega)) (AOps.cons rfl rfl (AOp.alloc rfl tz_23 ?_)))))
 intro i11 H12 n13 h14 k15
 have z16 := Mono.free m9 n13
 have m17 := Mono.new m9 n13 k15
 refine AOps.cons rfl rfl (AOp.assign (J 0) rfl rfl (AOps.cons rfl rfl (AOp.store' (cells' := [J ((at_ p 0).X), J ((at_ p 0).Y), J ((at_ p 0).Z)]) (.agg [J ((at_ p 0).X), J ((at_ p 0).Y), J ((at_ p 0).Z)]) rfl rfl ts_23 h14 rfl rfl rfl rfl ?_)))
 intro H18 h19 k20
 have m22 := Mono.set m17 z16 k20
 refine AWP.seq ?_
 refine AWP.seq ?_
 refine AWP.frzP 6 h19 z16 rfl m22 fun H23 m24 k25 => ?_
 refine AWP.region rfl ?_
 refine AOps.cons rfl rfl (AOp.loadF (.agg [J ((at_ p 0).X), J ((at_ p 0).Y), J ((at_ p 0).Z)]) rfl rfl ty_23 rfl (AOps.cons rfl rfl (AOp.pcall («as» := [.agg [J ((at_ p 0).X), J ((at_ p 0).Y), J ((at_ p 0).Z)], J 65536]) rfl rfl (rfl) tf_18 (c_vec_Within (at_ p 0) 65536 (by first | omega | assumption | (constructor <;> omega) | simp)) ?_)))
 intro H26 m27
 have m28 := m24.trans m27
 refine AOps.cons rfl rfl (AOp.not rfl rfl ?_)
 refine AOps.nil ?_
 change AWP _ _ _ _ _ _
 rcases Bool.eq_false_or_eq_true (R_vec_Within (at_ p 0) 65536) with b29 | b29
 have iv30 : inV 65536 (at_ p 0) := withinvec_in b29
 refine AWP.condF rfl (nb b29) ?_
 refine AWP.skip ?_
 change AWP _ _ _ _ _ _
 have hw0 := way_rng (inV_le (inV_vec_Sub iv30 iv30) (by decide) : inV 131072 _)
 refine AWP.region_quiet mixed (by kernel_rfl) 11 [] rfl (by kernel_rfl) (Mono H26) (Mono.refl _) ?_
 refine QE.op rfl rfl (.inl ⟨rfl, fun f' H' hf hM => AOp.move (J 0) rfl ((hf 4 rfl).trans rfl) ⟨rfl, hM⟩⟩) ?_
 refine QE.op rfl rfl (.inl ⟨rfl, fun f' H' hf hM => AOp.loadF (.agg [J ((at_ p 0).X), J ((at_ p 0).Y), J ((at_ p 0).Z)]) rfl ((hf 6 rfl).trans rfl) ty_23 rfl ⟨rfl, hM⟩⟩) ?_
 refine QE.op rfl rfl (.inl ⟨rfl, fun f' H' hf hM => AOp.move (J 0) rfl ((hf 5 rfl).trans rfl) ⟨rfl, hM⟩⟩) ?_
 refine QE.op rfl rfl (.inl ⟨rfl, fun f' H' hf hM => AOp.bin (J (-1)) rfl ((hf 17 rfl).trans rfl) rfl (isub (by omega)) ⟨rfl, hM⟩⟩) ?_
 refine QE.op rfl rfl (.inl ⟨rfl, fun f' H' hf hM => AOp.max2 rfl ((hf 18 rfl).trans rfl) rfl ⟨rfl, hM⟩⟩) ?_
 refine QE.op rfl rfl (.inl ⟨rfl, fun f' H' hf hM => AOp.indexAddrFA rfl ((hf 1 rfl).trans rfl) ((hf 19 rfl).trans rfl) ar_26 (by omega) (by omega) ⟨rfl, hM⟩⟩) ?_
 refine QE.op rfl rfl (.inl ⟨rfl, fun f' H' hf hM => AOp.loadF (.agg [J ((at_ p 0).X), J ((at_ p 0).Y), J ((at_ p 0).Z)]) rfl ((hf 20 rfl).trans rfl) ty_23 (ldM eV_len (i := 0) (by omega) (by have := h_p; omega)) ⟨rfl, hM⟩⟩) ?_
 refine QE.op rfl rfl (.inl ⟨rfl, fun f' H' hf hM => AOp.pcall («as» := [.agg [J ((at_ p 0).X), J ((at_ p 0).Y), J ((at_ p 0).Z)], .agg [J ((at_ p 0).X), J ((at_ p 0).Y), J ((at_ p 0).Z)]]) rfl rfl (lapp (lcons ((hf 16 rfl).trans rfl) (lcons ((hf 21 rfl).trans rfl) rfl)) rfl) tf_37 (c_vec_Sub (at_ p 0) (at_ p 0) (inV_le iv30 (by decide)) (inV_le iv30 (by decide))) fun H2 m2 => ⟨rfl, hM.trans m2⟩⟩) ?_
 refine QE.op rfl rfl (.inl ⟨rfl, fun f' H' hf hM => AOp.pcall («as» := [.agg [J ((R_vec_Sub (at_ p 0) (at_ p 0)).X), J ((R_vec_Sub (at_ p 0) (at_ p 0)).Y), J ((R_vec_Sub (at_ p 0) (at_ p 0)).Z)]]) rfl rfl (lapp (lcons ((hf 22 rfl).trans rfl) rfl) rfl) tf_91 (c_rate_way (R_vec_Sub (at_ p 0) (at_ p 0)) (inV_le (inV_le (inV_vec_Sub iv30 iv30) (by decide) : inV 131072 _) (by decide))) fun H2 m2 => ⟨rfl, hM.trans m2⟩⟩) ?_
 refine QE.op rfl rfl (.inl ⟨rfl, fun f' H' hf hM => AOp.bin (J (0 + (R_rate_way (R_vec_Sub (at_ p 0) (at_ p 0))))) rfl ((hf 15 rfl).trans rfl) ((hf 23 rfl).trans rfl) (iadd (by omega)) ⟨rfl, hM⟩⟩) ?_
 refine QE.op rfl rfl (.inl ⟨rfl, fun f' H' hf hM => AOp.assign (J (0 + (R_rate_way (R_vec_Sub (at_ p 0) (at_ p 0))))) rfl ((hf 24 rfl).trans rfl) ⟨rfl, hM⟩⟩) ?_
 refine QE.done fun H31 m32 => ?_
 have m33 := m28.trans m32
 refine AWP.region rfl ?_
 refine AOps.cons rfl rfl (AOp.bin (J 1) rfl rfl rfl (iadd (by omega)) (AOps.cons rfl rfl (AOp.move (J 1) rfl rfl ?_)))
 refine AOps.nil ?_
 refine UN.step ?_
 refine AWP.seq (AWP.region rfl ?_)
 refine AOps.cons rfl rfl (AOp.bin (.bool (decide (1 < 4))) rfl rfl rfl rfl ?_)
 refine AWP.seq ?_
 refine AWP.condT rfl (decide_eq_true (by decide)) ?_
 refine AWP.skip ?_
 refine AWP.seq ?_
 refine AWP.block ?_
 refine AWP.seq (AWP.region rfl ?_)
 refine AOps.cons rfl rfl (AOp.move (J 1) rfl rfl (AOps.cons rfl rfl (AOp.indexArr (.agg [J ((at_ p 1).X), J ((at_ p 1).Y), J ((at_ p 1).Z)]) rfl rfl rfl ar_26 (by omega) (by omega) (ldM eV_len (i := 1) (by omega) (by have := h_p; omega)) (AOps.cons rfl rfl (AOp.alloc rfl tz_23 ?_)))))
 intro i34 H35 n36 h37 k38
 have z39 := Mono.free m33 n36
 have m40 := Mono.new m33 n36 k38
 refine AOps.cons rfl rfl (AOp.assign (J 1) rfl rfl (AOps.cons rfl rfl (AOp.store' (cells' := [J ((at_ p 1).X), J ((at_ p 1).Y), J ((at_ p 1).Z)]) (.agg [J ((at_ p 1).X), J ((at_ p 1).Y), J ((at_ p 1).Z)]) rfl rfl ts_23 h37 rfl rfl rfl rfl ?_)))
 intro H41 h42 k43
 have m45 := Mono.set m40 z39 k43
 refine AWP.seq ?_
 refine AWP.seq ?_
 refine AWP.frzP 6 h42 z39 rfl m45 fun H46 m47 k48 => ?_
 refine AWP.region rfl ?_
 refine AOps.cons rfl rfl (AOp.loadF (.agg [J ((at_ p 1).X), J ((at_ p 1).Y), J ((at_ p 1).Z)]) rfl rfl ty_23 rfl (AOps.cons rfl rfl (AOp.pcall («as» := [.agg [J ((at_ p 1).X), J ((at_ p 1).Y), J ((at_ p 1).Z)], J 65536]) rfl rfl (rfl) tf_18 (c_vec_Within (at_ p 1) 65536 (by first | omega | assumption | (constructor <;> omega) | simp)) ?_)))
 intro H49 m50
 have m51 := m47.trans m50
 refine AOps.cons rfl rfl (AOp.not rfl rfl ?_)
 refine AOps.nil ?_
 change AWP _ _ _ _ _ _
 rcases Bool.eq_false_or_eq_true (R_vec_Within (at_ p 1) 65536) with b52 | b52
 have iv53 : inV 65536 (at_ p 1) := withinvec_in b52
 refine AWP.condF rfl (nb b52) ?_
 refine AWP.skip ?_
 change AWP _ _ _ _ _ _
 have hw1 := way_rng (inV_le (inV_vec_Sub iv53 iv30) (by decide) : inV 131072 _)
 refine AWP.region_quiet mixed (by kernel_rfl) 11 [] rfl (by kernel_rfl) (Mono H49) (Mono.refl _) ?_
 refine QE.op rfl rfl (.inl ⟨rfl, fun f' H' hf hM => AOp.move (J (0 + (R_rate_way (R_vec_Sub (at_ p 0) (at_ p 0))))) rfl ((hf 4 rfl).trans rfl) ⟨rfl, hM⟩⟩) ?_
 refine QE.op rfl rfl (.inl ⟨rfl, fun f' H' hf hM => AOp.loadF (.agg [J ((at_ p 1).X), J ((at_ p 1).Y), J ((at_ p 1).Z)]) rfl ((hf 6 rfl).trans rfl) ty_23 rfl ⟨rfl, hM⟩⟩) ?_
 refine QE.op rfl rfl (.inl ⟨rfl, fun f' H' hf hM => AOp.move (J 1) rfl ((hf 5 rfl).trans rfl) ⟨rfl, hM⟩⟩) ?_
 refine QE.op rfl rfl (.inl ⟨rfl, fun f' H' hf hM => AOp.bin (J 0) rfl ((hf 17 rfl).trans rfl) rfl (isub (by omega)) ⟨rfl, hM⟩⟩) ?_
 refine QE.op rfl rfl (.inl ⟨rfl, fun f' H' hf hM => AOp.max2 rfl ((hf 18 rfl).trans rfl) rfl ⟨rfl, hM⟩⟩) ?_
 refine QE.op rfl rfl (.inl ⟨rfl, fun f' H' hf hM => AOp.indexAddrFA rfl ((hf 1 rfl).trans rfl) ((hf 19 rfl).trans rfl) ar_26 (by omega) (by omega) ⟨rfl, hM⟩⟩) ?_
 refine QE.op rfl rfl (.inl ⟨rfl, fun f' H' hf hM => AOp.loadF (.agg [J ((at_ p 0).X), J ((at_ p 0).Y), J ((at_ p 0).Z)]) rfl ((hf 20 rfl).trans rfl) ty_23 (ldM eV_len (i := 0) (by omega) (by have := h_p; omega)) ⟨rfl, hM⟩⟩) ?_
 refine QE.op rfl rfl (.inl ⟨rfl, fun f' H' hf hM => AOp.pcall («as» := [.agg [J ((at_ p 1).X), J ((at_ p 1).Y), J ((at_ p 1).Z)], .agg [J ((at_ p 0).X), J ((at_ p 0).Y), J ((at_ p 0).Z)]]) rfl rfl (lapp (lcons ((hf 16 rfl).trans rfl) (lcons ((hf 21 rfl).trans rfl) rfl)) rfl) tf_37 (c_vec_Sub (at_ p 1) (at_ p 0) (inV_le iv53 (by decide)) (inV_le iv30 (by decide))) fun H2 m2 => ⟨rfl, hM.trans m2⟩⟩) ?_
 refine QE.op rfl rfl (.inl ⟨rfl, fun f' H' hf hM => AOp.pcall («as» := [.agg [J ((R_vec_Sub (at_ p 1) (at_ p 0)).X), J ((R_vec_Sub (at_ p 1) (at_ p 0)).Y), J ((R_vec_Sub (at_ p 1) (at_ p 0)).Z)]]) rfl rfl (lapp (lcons ((hf 22 rfl).trans rfl) rfl) rfl) tf_91 (c_rate_way (R_vec_Sub (at_ p 1) (at_ p 0)) (inV_le (inV_le (inV_vec_Sub iv53 iv30) (by decide) : inV 131072 _) (by decide))) fun H2 m2 => ⟨rfl, hM.trans m2⟩⟩) ?_
 refine QE.op rfl rfl (.inl ⟨rfl, fun f' H' hf hM => AOp.bin (J (0 + (R_rate_way (R_vec_Sub (at_ p 0) (at_ p 0))) + (R_rate_way (R_vec_Sub (at_ p 1) (at_ p 0))))) rfl ((hf 15 rfl).trans rfl) ((hf 23 rfl).trans rfl) (iadd (by omega)) ⟨rfl, hM⟩⟩) ?_
 refine QE.op rfl rfl (.inl ⟨rfl, fun f' H' hf hM => AOp.assign (J (0 + (R_rate_way (R_vec_Sub (at_ p 0) (at_ p 0))) + (R_rate_way (R_vec_Sub (at_ p 1) (at_ p 0))))) rfl ((hf 24 rfl).trans rfl) ⟨rfl, hM⟩⟩) ?_
 refine QE.done fun H54 m55 => ?_
 have m56 := m51.trans m55
 refine AWP.region rfl ?_
 refine AOps.cons rfl rfl (AOp.bin (J 2) rfl rfl rfl (iadd (by omega)) (AOps.cons rfl rfl (AOp.move (J 2) rfl rfl ?_)))
 refine AOps.nil ?_
 refine UN.step ?_
 refine AWP.seq (AWP.region rfl ?_)
 refine AOps.cons rfl rfl (AOp.bin (.bool (decide (2 < 4))) rfl rfl rfl rfl ?_)
 refine AWP.seq ?_
 refine AWP.condT rfl (decide_eq_true (by decide)) ?_
 refine AWP.skip ?_
 refine AWP.seq ?_
 refine AWP.block ?_
 refine AWP.seq (AWP.region rfl ?_)
 refine AOps.cons rfl rfl (AOp.move (J 2) rfl rfl (AOps.cons rfl rfl (AOp.indexArr (.agg [J ((at_ p 2).X), J ((at_ p 2).Y), J ((at_ p 2).Z)]) rfl rfl rfl ar_26 (by omega) (by omega) (ldM eV_len (i := 2) (by omega) (by have := h_p; omega)) (AOps.cons rfl rfl (AOp.alloc rfl tz_23 ?_)))))
 intro i57 H58 n59 h60 k61
 have z62 := Mono.free m56 n59
 have m63 := Mono.new m56 n59 k61
 refine AOps.cons rfl rfl (AOp.assign (J 2) rfl rfl (AOps.cons rfl rfl (AOp.store' (cells' := [J ((at_ p 2).X), J ((at_ p 2).Y), J ((at_ p 2).Z)]) (.agg [J ((at_ p 2).X), J ((at_ p 2).Y), J ((at_ p 2).Z)]) rfl rfl ts_23 h60 rfl rfl rfl rfl ?_)))
 intro H64 h65 k66
 have m68 := Mono.set m63 z62 k66
 refine AWP.seq ?_
 refine AWP.seq ?_
 refine AWP.frzP 6 h65 z62 rfl m68 fun H69 m70 k71 => ?_
 refine AWP.region rfl ?_
 refine AOps.cons rfl rfl (AOp.loadF (.agg [J ((at_ p 2).X), J ((at_ p 2).Y), J ((at_ p 2).Z)]) rfl rfl ty_23 rfl (AOps.cons rfl rfl (AOp.pcall («as» := [.agg [J ((at_ p 2).X), J ((at_ p 2).Y), J ((at_ p 2).Z)], J 65536]) rfl rfl (rfl) tf_18 (c_vec_Within (at_ p 2) 65536 (by first | omega | assumption | (constructor <;> omega) | simp)) ?_)))
 intro H72 m73
 have m74 := m70.trans m73
 refine AOps.cons rfl rfl (AOp.not rfl rfl ?_)
 refine AOps.nil ?_
 change AWP _ _ _ _ _ _
 rcases Bool.eq_false_or_eq_true (R_vec_Within (at_ p 2) 65536) with b75 | b75
 have iv76 : inV 65536 (at_ p 2) := withinvec_in b75
 refine AWP.condF rfl (nb b75) ?_
 refine AWP.skip ?_
 change AWP _ _ _ _ _ _
 have hw2 := way_rng (inV_le (inV_vec_Sub iv76 iv53) (by decide) : inV 131072 _)
 refine AWP.region_quiet mixed (by kernel_rfl) 11 [] rfl (by kernel_rfl) (Mono H72) (Mono.refl _) ?_
 refine QE.op rfl rfl (.inl ⟨rfl, fun f' H' hf hM => AOp.move (J (0 + (R_rate_way (R_vec_Sub (at_ p 0) (at_ p 0))) + (R_rate_way (R_vec_Sub (at_ p 1) (at_ p 0))))) rfl ((hf 4 rfl).trans rfl) ⟨rfl, hM⟩⟩) ?_
 refine QE.op rfl rfl (.inl ⟨rfl, fun f' H' hf hM => AOp.loadF (.agg [J ((at_ p 2).X), J ((at_ p 2).Y), J ((at_ p 2).Z)]) rfl ((hf 6 rfl).trans rfl) ty_23 rfl ⟨rfl, hM⟩⟩) ?_
 refine QE.op rfl rfl (.inl ⟨rfl, fun f' H' hf hM => AOp.move (J 2) rfl ((hf 5 rfl).trans rfl) ⟨rfl, hM⟩⟩) ?_
 refine QE.op rfl rfl (.inl ⟨rfl, fun f' H' hf hM => AOp.bin (J 1) rfl ((hf 17 rfl).trans rfl) rfl (isub (by omega)) ⟨rfl, hM⟩⟩) ?_
 refine QE.op rfl rfl (.inl ⟨rfl, fun f' H' hf hM => AOp.max2 rfl ((hf 18 rfl).trans rfl) rfl ⟨rfl, hM⟩⟩) ?_
 refine QE.op rfl rfl (.inl ⟨rfl, fun f' H' hf hM => AOp.indexAddrFA rfl ((hf 1 rfl).trans rfl) ((hf 19 rfl).trans rfl) ar_26 (by omega) (by omega) ⟨rfl, hM⟩⟩) ?_
 refine QE.op rfl rfl (.inl ⟨rfl, fun f' H' hf hM => AOp.loadF (.agg [J ((at_ p 1).X), J ((at_ p 1).Y), J ((at_ p 1).Z)]) rfl ((hf 20 rfl).trans rfl) ty_23 (ldM eV_len (i := 1) (by omega) (by have := h_p; omega)) ⟨rfl, hM⟩⟩) ?_
 refine QE.op rfl rfl (.inl ⟨rfl, fun f' H' hf hM => AOp.pcall («as» := [.agg [J ((at_ p 2).X), J ((at_ p 2).Y), J ((at_ p 2).Z)], .agg [J ((at_ p 1).X), J ((at_ p 1).Y), J ((at_ p 1).Z)]]) rfl rfl (lapp (lcons ((hf 16 rfl).trans rfl) (lcons ((hf 21 rfl).trans rfl) rfl)) rfl) tf_37 (c_vec_Sub (at_ p 2) (at_ p 1) (inV_le iv76 (by decide)) (inV_le iv53 (by decide))) fun H2 m2 => ⟨rfl, hM.trans m2⟩⟩) ?_
 refine QE.op rfl rfl (.inl ⟨rfl, fun f' H' hf hM => AOp.pcall («as» := [.agg [J ((R_vec_Sub (at_ p 2) (at_ p 1)).X), J ((R_vec_Sub (at_ p 2) (at_ p 1)).Y), J ((R_vec_Sub (at_ p 2) (at_ p 1)).Z)]]) rfl rfl (lapp (lcons ((hf 22 rfl).trans rfl) rfl) rfl) tf_91 (c_rate_way (R_vec_Sub (at_ p 2) (at_ p 1)) (inV_le (inV_le (inV_vec_Sub iv76 iv53) (by decide) : inV 131072 _) (by decide))) fun H2 m2 => ⟨rfl, hM.trans m2⟩⟩) ?_
 refine QE.op rfl rfl (.inl ⟨rfl, fun f' H' hf hM => AOp.bin (J (0 + (R_rate_way (R_vec_Sub (at_ p 0) (at_ p 0))) + (R_rate_way (R_vec_Sub (at_ p 1) (at_ p 0))) + (R_rate_way (R_vec_Sub (at_ p 2) (at_ p 1))))) rfl ((hf 15 rfl).trans rfl) ((hf 23 rfl).trans rfl) (iadd (by omega)) ⟨rfl, hM⟩⟩) ?_
 refine QE.op rfl rfl (.inl ⟨rfl, fun f' H' hf hM => AOp.assign (J (0 + (R_rate_way (R_vec_Sub (at_ p 0) (at_ p 0))) + (R_rate_way (R_vec_Sub (at_ p 1) (at_ p 0))) + (R_rate_way (R_vec_Sub (at_ p 2) (at_ p 1))))) rfl ((hf 24 rfl).trans rfl) ⟨rfl, hM⟩⟩) ?_
 refine QE.done fun H77 m78 => ?_
 have m79 := m74.trans m78
 refine AWP.region rfl ?_
 refine AOps.cons rfl rfl (AOp.bin (J 3) rfl rfl rfl (iadd (by omega)) (AOps.cons rfl rfl (AOp.move (J 3) rfl rfl ?_)))
 refine AOps.nil ?_
 refine UN.step ?_
 refine AWP.seq (AWP.region rfl ?_)
 refine AOps.cons rfl rfl (AOp.bin (.bool (decide (3 < 4))) rfl rfl rfl rfl ?_)
 refine AWP.seq ?_
 refine AWP.condT rfl (decide_eq_true (by decide)) ?_
 refine AWP.skip ?_
 refine AWP.seq ?_
 refine AWP.block ?_
 refine AWP.seq (AWP.region rfl ?_)
 refine AOps.cons rfl rfl (AOp.move (J 3) rfl rfl (AOps.cons rfl rfl (AOp.indexArr (.agg [J ((at_ p 3).X), J ((at_ p 3).Y), J ((at_ p 3).Z)]) rfl rfl rfl ar_26 (by omega) (by omega) (ldM eV_len (i := 3) (by omega) (by have := h_p; omega)) (AOps.cons rfl rfl (AOp.alloc rfl tz_23 ?_)))))
 intro i80 H81 n82 h83 k84
 have z85 := Mono.free m79 n82
 have m86 := Mono.new m79 n82 k84
 refine AOps.cons rfl rfl (AOp.assign (J 3) rfl rfl (AOps.cons rfl rfl (AOp.store' (cells' := [J ((at_ p 3).X), J ((at_ p 3).Y), J ((at_ p 3).Z)]) (.agg [J ((at_ p 3).X), J ((at_ p 3).Y), J ((at_ p 3).Z)]) rfl rfl ts_23 h83 rfl rfl rfl rfl ?_)))
 intro H87 h88 k89
 have m91 := Mono.set m86 z85 k89
 refine AWP.seq ?_
 refine AWP.seq ?_
 refine AWP.frzP 6 h88 z85 rfl m91 fun H92 m93 k94 => ?_
 refine AWP.region rfl ?_
 refine AOps.cons rfl rfl (AOp.loadF (.agg [J ((at_ p 3).X), J ((at_ p 3).Y), J ((at_ p 3).Z)]) rfl rfl ty_23 rfl (AOps.cons rfl rfl (AOp.pcall («as» := [.agg [J ((at_ p 3).X), J ((at_ p 3).Y), J ((at_ p 3).Z)], J 65536]) rfl rfl (rfl) tf_18 (c_vec_Within (at_ p 3) 65536 (by first | omega | assumption | (constructor <;> omega) | simp)) ?_)))
 intro H95 m96
 have m97 := m93.trans m96
 refine AOps.cons rfl rfl (AOp.not rfl rfl ?_)
 refine AOps.nil ?_
 change AWP _ _ _ _ _ _
 rcases Bool.eq_false_or_eq_true (R_vec_Within (at_ p 3) 65536) with b98 | b98
 have iv99 : inV 65536 (at_ p 3) := withinvec_in b98
 refine AWP.condF rfl (nb b98) ?_
 refine AWP.skip ?_
 change AWP _ _ _ _ _ _
 have hw3 := way_rng (inV_le (inV_vec_Sub iv99 iv76) (by decide) : inV 131072 _)
 refine AWP.region_quiet mixed (by kernel_rfl) 11 [] rfl (by kernel_rfl) (Mono H95) (Mono.refl _) ?_
 refine QE.op rfl rfl (.inl ⟨rfl, fun f' H' hf hM => AOp.move (J (0 + (R_rate_way (R_vec_Sub (at_ p 0) (at_ p 0))) + (R_rate_way (R_vec_Sub (at_ p 1) (at_ p 0))) + (R_rate_way (R_vec_Sub (at_ p 2) (at_ p 1))))) rfl ((hf 4 rfl).trans rfl) ⟨rfl, hM⟩⟩) ?_
 refine QE.op rfl rfl (.inl ⟨rfl, fun f' H' hf hM => AOp.loadF (.agg [J ((at_ p 3).X), J ((at_ p 3).Y), J ((at_ p 3).Z)]) rfl ((hf 6 rfl).trans rfl) ty_23 rfl ⟨rfl, hM⟩⟩) ?_
 refine QE.op rfl rfl (.inl ⟨rfl, fun f' H' hf hM => AOp.move (J 3) rfl ((hf 5 rfl).trans rfl) ⟨rfl, hM⟩⟩) ?_
 refine QE.op rfl rfl (.inl ⟨rfl, fun f' H' hf hM => AOp.bin (J 2) rfl ((hf 17 rfl).trans rfl) rfl (isub (by omega)) ⟨rfl, hM⟩⟩) ?_
 refine QE.op rfl rfl (.inl ⟨rfl, fun f' H' hf hM => AOp.max2 rfl ((hf 18 rfl).trans rfl) rfl ⟨rfl, hM⟩⟩) ?_
 refine QE.op rfl rfl (.inl ⟨rfl, fun f' H' hf hM => AOp.indexAddrFA rfl ((hf 1 rfl).trans rfl) ((hf 19 rfl).trans rfl) ar_26 (by omega) (by omega) ⟨rfl, hM⟩⟩) ?_
 refine QE.op rfl rfl (.inl ⟨rfl, fun f' H' hf hM => AOp.loadF (.agg [J ((at_ p 2).X), J ((at_ p 2).Y), J ((at_ p 2).Z)]) rfl ((hf 20 rfl).trans rfl) ty_23 (ldM eV_len (i := 2) (by omega) (by have := h_p; omega)) ⟨rfl, hM⟩⟩) ?_
 refine QE.op rfl rfl (.inl ⟨rfl, fun f' H' hf hM => AOp.pcall («as» := [.agg [J ((at_ p 3).X), J ((at_ p 3).Y), J ((at_ p 3).Z)], .agg [J ((at_ p 2).X), J ((at_ p 2).Y), J ((at_ p 2).Z)]]) rfl rfl (lapp (lcons ((hf 16 rfl).trans rfl) (lcons ((hf 21 rfl).trans rfl) rfl)) rfl) tf_37 (c_vec_Sub (at_ p 3) (at_ p 2) (inV_le iv99 (by decide)) (inV_le iv76 (by decide))) fun H2 m2 => ⟨rfl, hM.trans m2⟩⟩) ?_
 refine QE.op rfl rfl (.inl ⟨rfl, fun f' H' hf hM => AOp.pcall («as» := [.agg [J ((R_vec_Sub (at_ p 3) (at_ p 2)).X), J ((R_vec_Sub (at_ p 3) (at_ p 2)).Y), J ((R_vec_Sub (at_ p 3) (at_ p 2)).Z)]]) rfl rfl (lapp (lcons ((hf 22 rfl).trans rfl) rfl) rfl) tf_91 (c_rate_way (R_vec_Sub (at_ p 3) (at_ p 2)) (inV_le (inV_le (inV_vec_Sub iv99 iv76) (by decide) : inV 131072 _) (by decide))) fun H2 m2 => ⟨rfl, hM.trans m2⟩⟩) ?_
 refine QE.op rfl rfl (.inl ⟨rfl, fun f' H' hf hM => AOp.bin (J (0 + (R_rate_way (R_vec_Sub (at_ p 0) (at_ p 0))) + (R_rate_way (R_vec_Sub (at_ p 1) (at_ p 0))) + (R_rate_way (R_vec_Sub (at_ p 2) (at_ p 1))) + (R_rate_way (R_vec_Sub (at_ p 3) (at_ p 2))))) rfl ((hf 15 rfl).trans rfl) ((hf 23 rfl).trans rfl) (iadd (by omega)) ⟨rfl, hM⟩⟩) ?_
 refine QE.op rfl rfl (.inl ⟨rfl, fun f' H' hf hM => AOp.assign (J (0 + (R_rate_way (R_vec_Sub (at_ p 0) (at_ p 0))) + (R_rate_way (R_vec_Sub (at_ p 1) (at_ p 0))) + (R_rate_way (R_vec_Sub (at_ p 2) (at_ p 1))) + (R_rate_way (R_vec_Sub (at_ p 3) (at_ p 2))))) rfl ((hf 24 rfl).trans rfl) ⟨rfl, hM⟩⟩) ?_
 refine QE.done fun H100 m101 => ?_
 have m102 := m97.trans m101
 refine AWP.region rfl ?_
 refine AOps.cons rfl rfl (AOp.bin (J 4) rfl rfl rfl (iadd (by omega)) (AOps.cons rfl rfl (AOp.move (J 4) rfl rfl ?_)))
 refine AOps.nil ?_
 refine UN.step ?_
 refine AWP.seq (AWP.region rfl ?_)
 refine AOps.cons rfl rfl (AOp.bin (.bool (decide (4 < 4))) rfl rfl rfl rfl ?_)
 refine AWP.seq ?_
 refine AWP.condF rfl (decide_eq_false (by decide)) ?_
 refine AWP.exit ?_
 change AWP _ _ _ _ _ _
 refine AWP.seq (AWP.region rfl ?_)
 refine AOps.cons rfl rfl (AOp.move (J (0 + (R_rate_way (R_vec_Sub (at_ p 0) (at_ p 0))) + (R_rate_way (R_vec_Sub (at_ p 1) (at_ p 0))) + (R_rate_way (R_vec_Sub (at_ p 2) (at_ p 1))) + (R_rate_way (R_vec_Sub (at_ p 3) (at_ p 2))))) rfl rfl (AOps.cons rfl rfl (AOp.assign (J (0 + (R_rate_way (R_vec_Sub (at_ p 0) (at_ p 0))) + (R_rate_way (R_vec_Sub (at_ p 1) (at_ p 0))) + (R_rate_way (R_vec_Sub (at_ p 2) (at_ p 1))) + (R_rate_way (R_vec_Sub (at_ p 3) (at_ p 2))))) rfl rfl (AOps.cons rfl rfl (AOp.assign (.bool true) rfl rfl ?_)))))
 refine AWP.ret ?_
 refine ⟨_, _, Ghost.refl, .inr rfl, _, Res.two rfl rfl rfl, ?_, m102⟩
 have hR : R_rate_Length p = (0 + (R_rate_way (R_vec_Sub (at_ p 0) (at_ p 0))) + (R_rate_way (R_vec_Sub (at_ p 1) (at_ p 0))) + (R_rate_way (R_vec_Sub (at_ p 2) (at_ p 1))) + (R_rate_way (R_vec_Sub (at_ p 3) (at_ p 2))), true) := by unfold R_rate_Length; rw [if_pos b29, if_pos b52, if_pos b75, if_pos b98]
 exact (congrArg (fun r : Int × Bool => (.tup [J r.1, .bool r.2] : AV)) hR).symm
 refine AWP.condT rfl (nb b98) ?_
 refine AWP.seq (AWP.region rfl ?_)
 refine AOps.cons rfl rfl (AOp.assign (J 0) rfl rfl (AOps.cons rfl rfl (AOp.assign (.bool false) rfl rfl ?_)))
 refine AWP.ret ?_
 refine ⟨_, _, Ghost.refl, .inr rfl, _, Res.two rfl rfl rfl, ?_, m97⟩
 have hR : R_rate_Length p = (0, false) := by unfold R_rate_Length; rw [if_pos b29, if_pos b52, if_pos b75, if_neg (ff b98)]
 exact (congrArg (fun r : Int × Bool => (.tup [J r.1, .bool r.2] : AV)) hR).symm
 refine AWP.condT rfl (nb b75) ?_
 refine AWP.seq (AWP.region rfl ?_)
 refine AOps.cons rfl rfl (AOp.assign (J 0) rfl rfl (AOps.cons rfl rfl (AOp.assign (.bool false) rfl rfl ?_)))
 refine AWP.ret ?_
 refine ⟨_, _, Ghost.refl, .inr rfl, _, Res.two rfl rfl rfl, ?_, m74⟩
 have hR : R_rate_Length p = (0, false) := by unfold R_rate_Length; rw [if_pos b29, if_pos b52, if_neg (ff b75)]
 exact (congrArg (fun r : Int × Bool => (.tup [J r.1, .bool r.2] : AV)) hR).symm
 refine AWP.condT rfl (nb b52) ?_
 refine AWP.seq (AWP.region rfl ?_)
 refine AOps.cons rfl rfl (AOp.assign (J 0) rfl rfl (AOps.cons rfl rfl (AOp.assign (.bool false) rfl rfl ?_)))
 refine AWP.ret ?_
 refine ⟨_, _, Ghost.refl, .inr rfl, _, Res.two rfl rfl rfl, ?_, m51⟩
 have hR : R_rate_Length p = (0, false) := by unfold R_rate_Length; rw [if_pos b29, if_neg (ff b52)]
 exact (congrArg (fun r : Int × Bool => (.tup [J r.1, .bool r.2] : AV)) hR).symm
 refine AWP.condT rfl (nb b29) ?_
 refine AWP.seq (AWP.region rfl ?_)
 refine AOps.cons rfl rfl (AOp.assign (J 0) rfl rfl (AOps.cons rfl rfl (AOp.assign (.bool false) rfl rfl ?_)))
 refine AWP.ret ?_
 refine ⟨_, _, Ghost.refl, .inr rfl, _, Res.two rfl rfl rfl, ?_, m28⟩
 have hR : R_rate_Length p = (0, false) := by unfold R_rate_Length; rw [if_neg (ff b29)]
 exact (congrArg (fun r : Int × Bool => (.tup [J r.1, .bool r.2] : AV)) hR).symm
def R_rate_Edge (p : (List VT)) (u : Int) : Int :=
  if (R_rate_Length p).2 = true then (if u < 1 then 0 else min (1 + (((R_rate_Length p).1) / u)) 16) else 0
theorem c_rate_Edge (p : (List VT)) (h_p : p.length = 4) (u : Int) : PC Tryd.prog 46 [.agg (p.flatMap eV), J u] (J (R_rate_Edge p u)) := by
 intro H0
 refine ACalls.of_body' (n := 23) rfl rfl rfl rfl ?_
 have m0 := Mono.refl H0
 refine AWP.seq (AWP.region rfl ?_)
 refine AOps.cons rfl rfl (AOp.box (.agg (p.flatMap eV)) rfl rfl rfl ?_)
 intro i1 H2 n3 h4 k5
 have z6 := Mono.free m0 n3
 have m7 := Mono.new m0 n3 k5
 refine AOps.cons rfl rfl (AOp.assign (J 0) rfl rfl ?_)
 refine AWP.seq ?_
 refine AWP.frzP 2 h4 z6 rfl m7 fun H8 m9 k10 => ?_
 refine AWP.region rfl ?_
 refine AOps.cons rfl rfl (AOp.loadF (.agg (p.flatMap eV)) rfl rfl ty_26 (ld_all (lenM eV_len h_p rfl)) (AOps.cons rfl rfl (AOp.pcall («as» := [.agg (p.flatMap eV)]) rfl rfl (rfl) tf_79 (c_rate_Length p h_p) ?_)))
 intro H11 m12
 have m13 := m9.trans m12
 refine AOps.cons rfl rfl (AOp.move (.tup [J ((R_rate_Length p).1), .bool ((R_rate_Length p).2)]) rfl rfl (AOps.cons rfl rfl (AOp.extract (J ((R_rate_Length p).1)) rfl rfl rfl (AOps.cons rfl rfl (AOp.extract (.bool ((R_rate_Length p).2)) rfl rfl rfl (AOps.cons rfl rfl (AOp.assign (J ((R_rate_Length p).1)) rfl rfl (AOps.cons rfl rfl (AOp.assign (.bool ((R_rate_Length p).2)) rfl rfl ?_)))))))))
 refine AWP.seq ?_
 refine AWP.seq (AWP.region rfl ?_)
 refine AOps.cons rfl rfl (AOp.move (.bool ((R_rate_Length p).2)) rfl rfl (AOps.cons rfl rfl (AOp.not rfl rfl (AOps.cons rfl rfl (AOp.move (.bool (!((R_rate_Length p).2))) rfl rfl ?_)))))
 rcases Bool.eq_false_or_eq_true ((R_rate_Length p).2) with b14 | b14
 refine AOps.yes rfl rfl rfl rfl rfl rfl rfl (nb b14) (AOp.move (J u) rfl rfl (AOps.yes rfl rfl rfl rfl rfl rfl rfl (nb b14) (AOp.bin (.bool (decide (u < 1))) rfl rfl rfl rfl (AOps.cons rfl rfl (AOp.pickF (.bool (decide (u < 1))) rfl rfl (nb b14) rfl ?_)))))
 refine AOps.nil ?_
 change AWP _ _ _ _ _ _
 by_cases b15 : u < 1
 refine AWP.condT rfl (decide_eq_true b15) ?_
 refine AWP.seq (AWP.region rfl ?_)
 refine AOps.cons rfl rfl (AOp.assign (J 0) rfl rfl ?_)
 refine AWP.ret ?_
 refine ⟨_, _, Ghost.refl, .inr rfl, _, Res.one rfl rfl, ?_, m13⟩
 have hR : R_rate_Edge p u = 0 := by unfold R_rate_Edge; rw [if_pos b14, if_pos b15]
 exact (congrArg (fun r : Int => (J r : AV)) hR).symm
 refine AWP.condF rfl (decide_eq_false b15) ?_
 refine AWP.skip ?_
 refine AWP.seq ?_
 have hlr := len_rng_rate p
 have hq := ediv_rng (n := (R_rate_Length p).1) (d := u) (by omega) (by omega)
 refine AWP.region rfl ?_
 refine AOps.cons rfl rfl (AOp.move (J ((R_rate_Length p).1)) rfl rfl (AOps.cons rfl rfl (AOp.move (J u) rfl rfl (AOps.cons rfl rfl (AOp.quoP rfl rfl rfl (by omega) (AOps.cons rfl rfl (AOp.bin (J (1 + (((R_rate_Length p).1) / u))) rfl rfl rfl (iadd (by omega)) (AOps.cons rfl rfl (AOp.min2 rfl rfl rfl (AOps.cons rfl rfl (AOp.assign (J (min (1 + (((R_rate_Length p).1) / u)) 16)) rfl rfl ?_)))))))))))
 refine AWP.ret ?_
 refine ⟨_, _, Ghost.refl, .inr rfl, _, Res.one rfl rfl, ?_, m13⟩
 have hR : R_rate_Edge p u = min (1 + (((R_rate_Length p).1) / u)) 16 := by unfold R_rate_Edge; rw [if_pos b14, if_neg b15]
 exact (congrArg (fun r : Int => (J r : AV)) hR).symm
 refine AOps.no rfl rfl rfl rfl rfl rfl rfl (ble_of (nb b14) (by decide)) (AOps.no rfl rfl rfl rfl rfl rfl rfl (ble_of (nb b14) (by decide)) (AOps.cons rfl rfl (AOp.pickT (.bool true) rfl rfl (nb b14) rfl ?_)))
 refine AWP.condT rfl rfl ?_
 refine AWP.seq (AWP.region rfl ?_)
 refine AOps.cons rfl rfl (AOp.assign (J 0) rfl rfl ?_)
 refine AWP.ret ?_
 refine ⟨_, _, Ghost.refl, .inr rfl, _, Res.one rfl rfl, ?_, m13⟩
 have hR : R_rate_Edge p u = 0 := by unfold R_rate_Edge; rw [if_neg (ff b14)]
 exact (congrArg (fun r : Int => (J r : AV)) hR).symm
def R_rate_Sides (p : (List VT)) (u : Int) : (List Int) :=
  [R_rate_Edge (R_curve_Row p 0) u, R_rate_Edge (R_curve_Row p 1) u, R_rate_Edge (R_curve_Row p 2) u, R_rate_Edge (R_curve_Row p 3) u]
theorem R_rate_Sides_len (p : List VT) (u : Int) : (R_rate_Sides p u).length = 4 := rfl
theorem c_rate_Sides (p : (List VT)) (h_p : p.length = 16) (u : Int) : PC Tryd.prog 24 [.agg (p.flatMap eV), J u] (.agg ((R_rate_Sides p u).map eI)) := by
 intro H0
 refine ACalls.of_body' (n := 19) rfl rfl rfl rfl ?_
 have m0 := Mono.refl H0
 refine AWP.seq (AWP.region rfl ?_)
 refine AOps.cons rfl rfl (AOp.box (.agg (p.flatMap eV)) rfl rfl rfl ?_)
 intro i1 H2 n3 h4 k5
 have z6 := Mono.free m0 n3
 have m7 := Mono.new m0 n3 k5
 refine AOps.cons rfl rfl (AOp.alloc rfl tz_25 ?_)
 intro i8 H9 n10 h11 k12
 have e13 := ne_new h4 n10
 have z14 := Mono.free m7 n10
 have h15 := keep k12 (ne_new h4 n10) h4
 have m16 := Mono.new m7 n10 k12
 refine AWP.seq ?_
 refine AWP.frzP 2 h15 z6 rfl m16 fun H17 m18 k19 => ?_
 have h20 := (k19 _ (Ne.symm e13)).trans h11
 refine AWP.region rfl ?_
 refine AOps.cons rfl rfl (AOp.alloc rfl tz_25 ?_)
 intro i21 H22 n23 h24 k25
 have e26 := ne_new h20 n23
 have z27 := Mono.free m18 n23
 have h28 := keep k25 (ne_new h20 n23) h20
 have m29 := Mono.new m18 n23 k25
 refine AWP.seq ?_
 refine AWP.seq (AWP.region rfl ?_)
 refine AOps.cons rfl rfl (AOp.move _ rfl rfl ?_)
 refine AWP.block ?_
 refine AWP.unroll 20 ?_
 refine UN.step ?_
 refine AWP.seq (AWP.region rfl ?_)
 refine AOps.cons rfl rfl (AOp.bin _ rfl rfl rfl rfl ?_)
 refine AWP.seq ?_
 refine AWP.condT rfl (decide_eq_true (by decide)) ?_
 refine AWP.skip ?_
 refine AWP.seq ?_
 refine AWP.block ?_
 refine AWP.seq (AWP.region rfl ?_)
 refine AOps.cons rfl rfl (AOp.move _ rfl rfl (AOps.cons rfl rfl (AOp.assign _ rfl rfl ?_)))
 refine AWP.region rfl ?_
 refine AOps.cons rfl rfl (AOp.move _ rfl rfl (AOps.cons rfl rfl (AOp.loadF _ rfl rfl ty_24 (ld_all (lenM eV_len h_p rfl)) (AOps.cons rfl rfl (AOp.move _ rfl rfl (AOps.cons rfl rfl (AOp.pcall («as» := [.agg (p.flatMap eV), J 0]) rfl rfl (rfl) tf_47 (c_curve_Row p h_p 0) ?_)))))))
 intro H30 m31
 have h32 := m31 _ _ h28
 have h33 := m31 _ _ h24
 have m34 := m29.trans m31
 refine AOps.cons rfl rfl (AOp.move _ rfl rfl (AOps.cons rfl rfl (AOp.pcall («as» := [.agg ((R_curve_Row p 0).flatMap eV), J u]) rfl rfl (rfl) tf_46 (c_rate_Edge (R_curve_Row p 0) (R_curve_Row_len p 0) u) ?_)))
 intro H35 m36
 have h37 := m36 _ _ h32
 have h38 := m36 _ _ h33
 have m39 := m34.trans m36
 refine AOps.cons rfl rfl (AOp.indexAddrA rfl rfl rfl ar_25 (by omega) (by omega) ⟨_, h38⟩ (AOps.cons rfl rfl (AOp.store' (cells' := [J (R_rate_Edge (R_curve_Row p 0) u), J 0, J 0, J 0]) (J (R_rate_Edge (R_curve_Row p 0) u)) rfl rfl ts_3 h38 rfl rfl rfl rfl ?_)))
 intro H40 h41 k42
 have h43 := keep k42 e26 h37
 have m45 := Mono.set m39 z27 k42
 refine AWP.region rfl ?_
 refine AOps.cons rfl rfl (AOp.bin _ rfl rfl rfl (iadd (by omega)) (AOps.cons rfl rfl (AOp.move _ rfl rfl ?_)))
 refine AOps.nil ?_
 refine UN.step ?_
 refine AWP.seq (AWP.region rfl ?_)
 refine AOps.cons rfl rfl (AOp.bin _ rfl rfl rfl rfl ?_)
 refine AWP.seq ?_
 refine AWP.condT rfl (decide_eq_true (by decide)) ?_
 refine AWP.skip ?_
 refine AWP.seq ?_
 refine AWP.block ?_
 refine AWP.seq (AWP.region rfl ?_)
 refine AOps.cons rfl rfl (AOp.move _ rfl rfl (AOps.cons rfl rfl (AOp.assign _ rfl rfl ?_)))
 refine AWP.region rfl ?_
 refine AOps.cons rfl rfl (AOp.move _ rfl rfl (AOps.cons rfl rfl (AOp.loadF _ rfl rfl ty_24 (ld_all (lenM eV_len h_p rfl)) (AOps.cons rfl rfl (AOp.move _ rfl rfl (AOps.cons rfl rfl (AOp.pcall («as» := [.agg (p.flatMap eV), J 1]) rfl rfl (rfl) tf_47 (c_curve_Row p h_p 1) ?_)))))))
 intro H46 m47
 have h48 := m47 _ _ h43
 have h49 := m47 _ _ h41
 have m50 := m45.trans m47
 refine AOps.cons rfl rfl (AOp.move _ rfl rfl (AOps.cons rfl rfl (AOp.pcall («as» := [.agg ((R_curve_Row p 1).flatMap eV), J u]) rfl rfl (rfl) tf_46 (c_rate_Edge (R_curve_Row p 1) (R_curve_Row_len p 1) u) ?_)))
 intro H51 m52
 have h53 := m52 _ _ h48
 have h54 := m52 _ _ h49
 have m55 := m50.trans m52
 refine AOps.cons rfl rfl (AOp.indexAddrA rfl rfl rfl ar_25 (by omega) (by omega) ⟨_, h54⟩ (AOps.cons rfl rfl (AOp.store' (cells' := [J (R_rate_Edge (R_curve_Row p 0) u), J (R_rate_Edge (R_curve_Row p 1) u), J 0, J 0]) (J (R_rate_Edge (R_curve_Row p 1) u)) rfl rfl ts_3 h54 rfl rfl rfl rfl ?_)))
 intro H56 h57 k58
 have h59 := keep k58 e26 h53
 have m61 := Mono.set m55 z27 k58
 refine AWP.region rfl ?_
 refine AOps.cons rfl rfl (AOp.bin _ rfl rfl rfl (iadd (by omega)) (AOps.cons rfl rfl (AOp.move _ rfl rfl ?_)))
 refine AOps.nil ?_
 refine UN.step ?_
 refine AWP.seq (AWP.region rfl ?_)
 refine AOps.cons rfl rfl (AOp.bin _ rfl rfl rfl rfl ?_)
 refine AWP.seq ?_
 refine AWP.condT rfl (decide_eq_true (by decide)) ?_
 refine AWP.skip ?_
 refine AWP.seq ?_
 refine AWP.block ?_
 refine AWP.seq (AWP.region rfl ?_)
 refine AOps.cons rfl rfl (AOp.move _ rfl rfl (AOps.cons rfl rfl (AOp.assign _ rfl rfl ?_)))
 refine AWP.region rfl ?_
 refine AOps.cons rfl rfl (AOp.move _ rfl rfl (AOps.cons rfl rfl (AOp.loadF _ rfl rfl ty_24 (ld_all (lenM eV_len h_p rfl)) (AOps.cons rfl rfl (AOp.move _ rfl rfl (AOps.cons rfl rfl (AOp.pcall («as» := [.agg (p.flatMap eV), J 2]) rfl rfl (rfl) tf_47 (c_curve_Row p h_p 2) ?_)))))))
 intro H62 m63
 have h64 := m63 _ _ h59
 have h65 := m63 _ _ h57
 have m66 := m61.trans m63
 refine AOps.cons rfl rfl (AOp.move _ rfl rfl (AOps.cons rfl rfl (AOp.pcall («as» := [.agg ((R_curve_Row p 2).flatMap eV), J u]) rfl rfl (rfl) tf_46 (c_rate_Edge (R_curve_Row p 2) (R_curve_Row_len p 2) u) ?_)))
 intro H67 m68
 have h69 := m68 _ _ h64
 have h70 := m68 _ _ h65
 have m71 := m66.trans m68
 refine AOps.cons rfl rfl (AOp.indexAddrA rfl rfl rfl ar_25 (by omega) (by omega) ⟨_, h70⟩ (AOps.cons rfl rfl (AOp.store' (cells' := [J (R_rate_Edge (R_curve_Row p 0) u), J (R_rate_Edge (R_curve_Row p 1) u), J (R_rate_Edge (R_curve_Row p 2) u), J 0]) (J (R_rate_Edge (R_curve_Row p 2) u)) rfl rfl ts_3 h70 rfl rfl rfl rfl ?_)))
 intro H72 h73 k74
 have h75 := keep k74 e26 h69
 have m77 := Mono.set m71 z27 k74
 refine AWP.region rfl ?_
 refine AOps.cons rfl rfl (AOp.bin _ rfl rfl rfl (iadd (by omega)) (AOps.cons rfl rfl (AOp.move _ rfl rfl ?_)))
 refine AOps.nil ?_
 refine UN.step ?_
 refine AWP.seq (AWP.region rfl ?_)
 refine AOps.cons rfl rfl (AOp.bin _ rfl rfl rfl rfl ?_)
 refine AWP.seq ?_
 refine AWP.condT rfl (decide_eq_true (by decide)) ?_
 refine AWP.skip ?_
 refine AWP.seq ?_
 refine AWP.block ?_
 refine AWP.seq (AWP.region rfl ?_)
 refine AOps.cons rfl rfl (AOp.move _ rfl rfl (AOps.cons rfl rfl (AOp.assign _ rfl rfl ?_)))
 refine AWP.region rfl ?_
 refine AOps.cons rfl rfl (AOp.move _ rfl rfl (AOps.cons rfl rfl (AOp.loadF _ rfl rfl ty_24 (ld_all (lenM eV_len h_p rfl)) (AOps.cons rfl rfl (AOp.move _ rfl rfl (AOps.cons rfl rfl (AOp.pcall («as» := [.agg (p.flatMap eV), J 3]) rfl rfl (rfl) tf_47 (c_curve_Row p h_p 3) ?_)))))))
 intro H78 m79
 have h80 := m79 _ _ h75
 have h81 := m79 _ _ h73
 have m82 := m77.trans m79
 refine AOps.cons rfl rfl (AOp.move _ rfl rfl (AOps.cons rfl rfl (AOp.pcall («as» := [.agg ((R_curve_Row p 3).flatMap eV), J u]) rfl rfl (rfl) tf_46 (c_rate_Edge (R_curve_Row p 3) (R_curve_Row_len p 3) u) ?_)))
 intro H83 m84
 have h85 := m84 _ _ h80
 have h86 := m84 _ _ h81
 have m87 := m82.trans m84
 refine AOps.cons rfl rfl (AOp.indexAddrA rfl rfl rfl ar_25 (by omega) (by omega) ⟨_, h86⟩ (AOps.cons rfl rfl (AOp.store' (cells' := [J (R_rate_Edge (R_curve_Row p 0) u), J (R_rate_Edge (R_curve_Row p 1) u), J (R_rate_Edge (R_curve_Row p 2) u), J (R_rate_Edge (R_curve_Row p 3) u)]) (J (R_rate_Edge (R_curve_Row p 3) u)) rfl rfl ts_3 h86 rfl rfl rfl rfl ?_)))
 intro H88 h89 k90
 have h91 := keep k90 e26 h85
 have m93 := Mono.set m87 z27 k90
 refine AWP.region rfl ?_
 refine AOps.cons rfl rfl (AOp.bin _ rfl rfl rfl (iadd (by omega)) (AOps.cons rfl rfl (AOp.move _ rfl rfl ?_)))
 refine AOps.nil ?_
 refine UN.step ?_
 refine AWP.seq (AWP.region rfl ?_)
 refine AOps.cons rfl rfl (AOp.bin _ rfl rfl rfl rfl ?_)
 refine AWP.seq ?_
 refine AWP.condF rfl (decide_eq_false (by decide)) ?_
 refine AWP.exit ?_
 change AWP _ _ _ _ _ _
 refine AWP.seq (AWP.region rfl ?_)
 refine AOps.cons rfl rfl (AOp.load _ rfl rfl ty_25 h89 rfl (AOps.cons rfl rfl (AOp.store' (cells' := [J (R_rate_Edge (R_curve_Row p 0) u), J (R_rate_Edge (R_curve_Row p 1) u), J (R_rate_Edge (R_curve_Row p 2) u), J (R_rate_Edge (R_curve_Row p 3) u)]) (.agg [J (R_rate_Edge (R_curve_Row p 0) u), J (R_rate_Edge (R_curve_Row p 1) u), J (R_rate_Edge (R_curve_Row p 2) u), J (R_rate_Edge (R_curve_Row p 3) u)]) rfl rfl ts_25 h91 rfl rfl rfl rfl ?_)))
 intro H94 h95 k96
 have m99 := Mono.set m93 z14 k96
 refine AWP.ret ?_
 refine ⟨_, _, Ghost.refl, .inr rfl, _, Res.list1 rfl (.cell (v := .agg [J (R_rate_Edge (R_curve_Row p 0) u), J (R_rate_Edge (R_curve_Row p 1) u), J (R_rate_Edge (R_curve_Row p 2) u), J (R_rate_Edge (R_curve_Row p 3) u)]) rfl ty_25 h95 rfl (.nil)), ?_, m99⟩
 have hR : R_rate_Sides p u = [R_rate_Edge (R_curve_Row p 0) u, R_rate_Edge (R_curve_Row p 1) u, R_rate_Edge (R_curve_Row p 2) u, R_rate_Edge (R_curve_Row p 3) u] := rfl
 exact (congrArg (fun r : (List Int) => (.agg (r.map eI) : AV)) hR).symm
theorem c_far1 (m : Int) : PC Tryd.prog 43 [J m] (.fn 44 [.fptr [J m] 0]) := by
 intro H0
 refine ACalls.of_body' (n := 4) rfl rfl rfl rfl ?_
 have m0 := Mono.refl H0
 refine AWP.seq (AWP.region rfl ?_)
 refine AOps.cons rfl rfl (AOp.box (J m) rfl rfl rfl ?_)
 intro i1 H2 n3 h4 k5
 have z6 := Mono.free m0 n3
 have m7 := Mono.new m0 n3 k5
 refine AOps.cons rfl rfl (AOp.assign _ rfl rfl ?_)
 refine AWP.seq ?_
 refine AWP.frzP 1 h4 z6 rfl m7 fun H8 m9 k10 => ?_
 refine AWP.region rfl ?_
 refine AOps.cons rfl rfl (AOp.makeFunc (cs := [.fptr [J m] 0]) rfl rfl (AOps.cons rfl rfl (AOp.assign _ rfl rfl ?_)))
 refine AWP.ret ?_
 refine ⟨_, _, Ghost.refl, .inr rfl, _, Res.one rfl rfl, ?_, m9⟩
 exact rfl
theorem c_far (m : Int) (hm : 0 ≤ m ∧ m ≤ 1000000) (v : VT) : PC Tryd.prog 44 [.agg [J v.X, J v.Y, J v.Z], .fptr [J m] 0] (.bool (!R_vec_Within v m)) := by
 intro H0
 refine ACalls.of_body' (n := 8) rfl rfl rfl rfl ?_
 have m0 := Mono.refl H0
 refine AWP.seq (AWP.region rfl ?_)
 refine AOps.cons rfl rfl (AOp.box (.agg [J v.X, J v.Y, J v.Z]) rfl rfl rfl ?_)
 intro i1 H2 n3 h4 k5
 have z6 := Mono.free m0 n3
 have m7 := Mono.new m0 n3 k5
 refine AOps.cons rfl rfl (AOp.assign _ rfl rfl ?_)
 refine AWP.seq ?_
 refine AWP.frzP 2 h4 z6 rfl m7 fun H8 m9 k10 => ?_
 refine AWP.region rfl ?_
 refine AOps.cons rfl rfl (AOp.loadF _ rfl rfl ty_23 rfl (AOps.cons rfl rfl (AOp.loadF _ rfl rfl ty_3 rfl (AOps.cons rfl rfl (AOp.pcall («as» := [.agg [J v.X, J v.Y, J v.Z], J m]) rfl rfl (rfl) tf_18 (c_vec_Within v m (by first | omega | assumption | (constructor <;> omega) | simp)) ?_)))))
 intro H11 m12
 have m13 := m9.trans m12
 refine AOps.cons rfl rfl (AOp.not rfl rfl (AOps.cons rfl rfl (AOp.assign _ rfl rfl ?_)))
 refine AWP.ret ?_
 refine ⟨_, _, Ghost.refl, .inr rfl, _, Res.one rfl rfl, ?_, m13⟩
 exact rfl
theorem c_idxF (l : List VT) (hl : l.length ≤ 1048576) (m : Int) (hm : 0 ≤ m ∧ m ≤ 1000000) : PC Tryd.prog 78 [.sl l.length (l.flatMap eV), .fn 44 [.fptr [J m] 0]] (J (idxF l m)) := by
 intro H0
 refine ACalls.of_body' (n := 19) rfl rfl rfl rfl ?_
 have m0 := Mono.refl H0
 refine AWP.seq (AWP.region rfl ?_)
 refine AOps.cons rfl rfl (AOp.assign _ rfl rfl ?_)
 refine AWP.seq ?_
 refine AWP.seq (AWP.region rfl ?_)
 refine AOps.cons rfl rfl (AOp.move _ rfl rfl (AOps.cons rfl rfl (AOp.len (m := l.length) rfl rfl (.inr (.inl ⟨_, rfl⟩)) u_34 (AOps.cons rfl rfl (AOp.move _ rfl rfl ?_)))))
 refine AWP.block ?_
 refine AWP.loop (fun q1 fq Hq => ∃ (i : Int), q1 = (((l.length : Int) : Int) - i).toNat ∧ fq 8 = J i ∧ fq 0 = .sl l.length (l.flatMap eV) ∧ fq 1 = .fn 44 [.fptr [J m] 0] ∧ fq 7 = J (l.length : Int) ∧ Mono H0 Hq ∧ (0 ≤ i) ∧ (i ≤ (l.length : Int)) ∧ (∀ j : Int, 0 ≤ j → j < i → inV m (at_ l j))) (k := (((l.length : Int) : Int) - 0).toNat) ?_ ?_
 exact ⟨0, rfl, rfl, rfl, rfl, rfl, m0, by omega, by omega, by intro j; omega⟩
 rintro _ f3 H2 ⟨i, rfl, s4, s5, s6, s7, m8, hi0, hi1, pre⟩
 refine AWP.seq (AWP.region rfl ?_)
 refine AOps.cons rfl rfl (AOp.bin _ rfl s4 s7 rfl ?_)
 refine AWP.seq ?_
 by_cases b9 : i < (l.length : Int)
 refine AWP.condT rfl (decide_eq_true b9) ?_
 refine AWP.skip ?_
 refine AWP.seq ?_
 refine AWP.block ?_
 refine AWP.seq (AWP.region rfl ?_)
 refine AOps.cons rfl rfl (AOp.move _ rfl s4 (AOps.cons rfl rfl (AOp.assign _ rfl rfl ?_)))
 refine AWP.seq (AWP.region rfl ?_)
 refine AOps.cons rfl rfl (AOp.move _ rfl s6 (AOps.cons rfl rfl (AOp.move _ rfl s5 (AOps.cons rfl rfl (AOp.move _ rfl rfl (AOps.cons rfl rfl (AOp.indexAddrS rfl rfl rfl sl_34 (by omega) (by omega) (AOps.cons rfl rfl (AOp.loadF _ rfl rfl ty_23 (ldM eV_len (by omega) (by omega)) (AOps.cons rfl rfl (AOp.pcall («as» := [.agg [J ((at_ l i).X), J ((at_ l i).Y), J ((at_ l i).Z)], .fptr [J m] 0]) rfl rfl (rfl) tf_44 (c_far m (by omega) (at_ l i)) ?_)))))))))))
 intro H10 m11
 have m12 := m8.trans m11
 refine AOps.nil ?_
 change AWP _ _ _ _ _ _
 rcases Bool.eq_false_or_eq_true (R_vec_Within (at_ l i) m) with b13 | b13
 have iv14 : inV m (at_ l i) := withinvec_in b13
 refine AWP.condF rfl (nb b13) ?_
 refine AWP.skip ?_
 refine AWP.region rfl ?_
 refine AOps.cons rfl rfl (AOp.bin _ rfl s4 rfl (iadd (by omega)) (AOps.cons rfl rfl (AOp.move _ rfl rfl ?_)))
 refine AOps.nil ?_
 exact ⟨_, by omega, i + 1, rfl, rfl, s5, s6, s7, m12, by omega, by omega, by exact fa_step pre iv14⟩
 refine AWP.condT rfl (nb b13) ?_
 refine AWP.seq (AWP.region rfl ?_)
 refine AOps.cons rfl rfl (AOp.move _ rfl rfl (AOps.cons rfl rfl (AOp.assign _ rfl rfl ?_)))
 refine AWP.ret ?_
 refine ⟨_, _, Ghost.refl, .inr rfl, _, Res.one rfl rfl, ?_, m12⟩
 exact (congrArg (AV.int .i64) (show (i : Int) = idxF l m from by exact idxF_hit hi0 (by omega) pre b13))
 refine AWP.condF rfl (decide_eq_false b9) ?_
 refine AWP.exit ?_
 change AWP _ _ _ _ _ _
 refine AWP.seq (AWP.region rfl ?_)
 refine AOps.cons rfl rfl (AOp.assign _ rfl rfl ?_)
 refine AWP.ret ?_
 refine ⟨_, _, Ghost.refl, .inr rfl, _, Res.one rfl rfl, ?_, m8⟩
 exact (congrArg (AV.int .i64) (show (-1 : Int) = idxF l m from by exact idxF_miss (fun j h0 h1 => pre j h0 (by omega))))
theorem c_anyF (l : List VT) (hl : l.length ≤ 1048576) (m : Int) (hm : 0 ≤ m ∧ m ≤ 1000000) : PC Tryd.prog 45 [.sl l.length (l.flatMap eV), .fn 44 [.fptr [J m] 0]] (.bool (!allIn l m)) := by
 intro H0
 refine ACalls.of_body' (n := 9) rfl rfl rfl rfl ?_
 have m0 := Mono.refl H0
 refine AWP.seq (AWP.region rfl ?_)
 refine AOps.cons rfl rfl (AOp.assign _ rfl rfl ?_)
 refine AWP.seq (AWP.region rfl ?_)
 refine AOps.cons rfl rfl (AOp.move _ rfl rfl (AOps.cons rfl rfl (AOp.move _ rfl rfl (AOps.cons rfl rfl (AOp.pcall («as» := [.sl l.length (l.flatMap eV), .fn 44 [.fptr [J m] 0]]) rfl rfl (rfl) tf_78 (c_idxF l (by first | omega | assumption | (simp; omega) | simp) m (by omega)) ?_)))))
 intro H1 m2
 have m3 := m0.trans m2
 refine AOps.cons rfl rfl (AOp.bin _ rfl rfl rfl rfl (AOps.cons rfl rfl (AOp.assign _ rfl rfl ?_)))
 refine AWP.ret ?_
 refine ⟨_, _, Ghost.refl, .inr rfl, _, Res.one rfl rfl, ?_, m3⟩
 exact (congrArg AV.bool (show (decide (idxF l m ≥ 0) : Bool) = !allIn l m from by exact idxF_all l m))
abbrev Zvec_Bound_0 (l : List VT) := BoxT.mk (at_ l 0) (at_ l 0)
theorem c_vec_Bound (l : List VT) (hl : l.length ≤ 1048576) : PC Tryd.prog 36 [.sl l.length (l.flatMap eV)] (.tup [.agg [J ((((boundR l).1).Lo).X), J ((((boundR l).1).Lo).Y), J ((((boundR l).1).Lo).Z), J ((((boundR l).1).Hi).X), J ((((boundR l).1).Hi).Y), J ((((boundR l).1).Hi).Z)], .bool ((boundR l).2)]) := by
 intro H0
 refine ACalls.of_body' (n := 32) rfl rfl rfl rfl ?_
 have m0 := Mono.refl H0
 refine AWP.seq (AWP.region rfl ?_)
 refine AOps.cons rfl rfl (AOp.alloc rfl tz_43 ?_)
 intro i1 H2 n3 h4 k5
 have z6 := Mono.free m0 n3
 have m7 := Mono.new m0 n3 k5
 refine AOps.cons rfl rfl (AOp.assign _ rfl rfl ?_)
 refine AWP.seq ?_
 refine AWP.seq (AWP.region rfl ?_)
 refine AOps.cons rfl rfl (AOp.move _ rfl rfl (AOps.cons rfl rfl (AOp.len (m := l.length) rfl rfl (.inr (.inl ⟨_, rfl⟩)) u_34 (AOps.cons rfl rfl (AOp.bin _ rfl rfl rfl ieq ?_)))))
 refine AOps.nil ?_
 change AWP _ _ _ _ _ _
 by_cases b8 : (l.length : Int) = 0
 refine AWP.condT rfl (decide_eq_true b8) ?_
 refine AWP.seq (AWP.region rfl ?_)
 refine AOps.cons rfl rfl (AOp.build (cells := [J 0, J 0, J 0, J 0, J 0, J 0]) rfl tz_43 pl_43 rfl rfl (AOps.cons rfl rfl (AOp.store' (cells' := [J 0, J 0, J 0, J 0, J 0, J 0]) (.agg [J 0, J 0, J 0, J 0, J 0, J 0]) rfl rfl ts_43 h4 rfl rfl rfl rfl ?_)))
 intro H9 h10 k11
 have m13 := Mono.set m7 z6 k11
 refine AOps.cons rfl rfl (AOp.assign _ rfl rfl ?_)
 refine AWP.ret ?_
 refine ⟨_, _, Ghost.refl, .inr rfl, _, Res.list rfl rfl (.cell (v := .agg [J 0, J 0, J 0, J 0, J 0, J 0]) rfl ty_43 h10 rfl (.tmp rfl (.nil))), ?_, m13⟩
 exact congrArg AV.tup (lc (congrArg AV.agg (lc (congrArg (AV.int .i64) (show (0 : Int) = (((boundR l).1).Lo).X from by rw [← bound_no b8])) (lc (congrArg (AV.int .i64) (show (0 : Int) = (((boundR l).1).Lo).Y from by rw [← bound_no b8])) (lc (congrArg (AV.int .i64) (show (0 : Int) = (((boundR l).1).Lo).Z from by rw [← bound_no b8])) (lc (congrArg (AV.int .i64) (show (0 : Int) = (((boundR l).1).Hi).X from by rw [← bound_no b8])) (lc (congrArg (AV.int .i64) (show (0 : Int) = (((boundR l).1).Hi).Y from by rw [← bound_no b8])) (lc (congrArg (AV.int .i64) (show (0 : Int) = (((boundR l).1).Hi).Z from by rw [← bound_no b8])) rfl))))))) (lc (congrArg AV.bool (show (false : Bool) = (boundR l).2 from by rw [← bound_no b8])) rfl))
 refine AWP.condF rfl (decide_eq_false b8) ?_
 refine AWP.skip ?_
 refine AWP.seq ?_
 refine AWP.region_quietA mixed (by kernel_rfl) 7 8 [8] rfl (by kernel_rfl) (B := .row 0 ([J 0, J 0, J 0, J 0, J 0, J 0])) (va := fun i => .ptr i 0 0) (by decide) fun i14 n15 _ hs16 => ?_
 refine QEA.op rfl rfl rfl (.inl ⟨rfl, fun H1 f' H' hf hN hM => AOp.move _ rfl ((hf 0 rfl).trans rfl) ⟨rfl, hN⟩⟩) ?_
 refine QEA.op rfl rfl rfl (.inl ⟨rfl, fun H1 f' H' hf hN hM => AOp.indexAddrS rfl ((hf 11 rfl).trans rfl) rfl sl_34 (by omega) (by omega) ⟨rfl, hN⟩⟩) ?_
 refine QEA.op rfl rfl rfl (.inl ⟨rfl, fun H1 f' H' hf hN hM => AOp.loadF _ rfl ((hf 12 rfl).trans rfl) ty_23 (ldM eV_len (by omega) (by omega)) ⟨rfl, hN⟩⟩) ?_
 refine QEA.op rfl rfl rfl (.inl ⟨rfl, fun H1 f' H' hf hN hM => AOp.move _ rfl ((hf 0 rfl).trans rfl) ⟨rfl, hN⟩⟩) ?_
 refine QEA.op rfl rfl rfl (.inl ⟨rfl, fun H1 f' H' hf hN hM => AOp.indexAddrS rfl ((hf 14 rfl).trans rfl) rfl sl_34 (by omega) (by omega) ⟨rfl, hN⟩⟩) ?_
 refine QEA.op rfl rfl rfl (.inl ⟨rfl, fun H1 f' H' hf hN hM => AOp.loadF _ rfl ((hf 15 rfl).trans rfl) ty_23 (ldM eV_len (by omega) (by omega)) ⟨rfl, hN⟩⟩) ?_
 refine QEA.op rfl rfl rfl (.inl ⟨rfl, fun H1 f' H' hf hN hM => AOp.build (cells := [J ((at_ l 0).X), J ((at_ l 0).Y), J ((at_ l 0).Z), J ((at_ l 0).X), J ((at_ l 0).Y), J ((at_ l 0).Z)]) rfl tz_43 pl_43 (lconsP ((hf 13 rfl).trans rfl) (lconsP ((hf 16 rfl).trans rfl) rfl)) rfl ⟨rfl, hN⟩⟩) ?_
 refine QEA.alloc rfl rfl rfl rfl rfl tz_43 ?_
 refine QEA.done fun H17 m19 => ?_
 have m18 := hs16 _ m19
 have e20 := ne_new h4 n15
 have z21 := Mono.free m7 n15
 have h22 := m18 _ _ h4
 have m23 := m7.trans m18
 have h24 : H17 i14 = some (.row 0 ([J 0, J 0, J 0, J 0, J 0, J 0])) := m19 i14 _ (updH_same _ _ _)
 refine AOps.cons rfl rfl (AOp.store' (cells' := [J ((at_ l 0).X), J ((at_ l 0).Y), J ((at_ l 0).Z), J ((at_ l 0).X), J ((at_ l 0).Y), J ((at_ l 0).Z)]) (.agg [J ((at_ l 0).X), J ((at_ l 0).Y), J ((at_ l 0).Z), J ((at_ l 0).X), J ((at_ l 0).Y), J ((at_ l 0).Z)]) rfl rfl ts_43 h24 rfl rfl rfl rfl ?_)
 intro H25 h26 k27
 have h28 := keep k27 e20 h22
 have m30 := Mono.set m23 z21 k27
 refine AWP.seq ?_
 refine AWP.seq ?_
 have hdl : ((l.drop (1 : Int).toNat).length : Int) = l.length - 1 := by rw [List.length_drop]; omega
 refine AWP.region rfl ?_
 refine AOps.cons rfl rfl (AOp.move _ rfl rfl (AOps.cons rfl rfl (AOp.sliceSDM (l := (1 : Int)) (h := (l.length : Int)) eV_len rfl rfl sl_34 (lo_of rfl) rfl (by omega) (by omega) (by omega) (by omega) (AOps.cons rfl rfl (AOp.len (m := (l.drop (1 : Int).toNat).length) rfl rfl (.inr (.inl ⟨_, rfl⟩)) u_34 (AOps.cons rfl rfl (AOp.move _ rfl rfl ?_)))))))
 refine AWP.block ?_
 refine AWP.loop (fun q31 fq Hq => ∃ (i : Int), q31 = ((((l.drop (1 : Int).toNat).length : Int) : Int) - i).toNat ∧ fq 21 = J i ∧ fq 2 = .ptr i1 0 0 ∧ fq 3 = .bool false ∧ fq 4 = .ptr i14 0 0 ∧ fq 19 = .sl (l.drop (1 : Int).toNat).length ((l.drop (1 : Int).toNat).flatMap eV) ∧ fq 20 = J (((l.drop (1 : Int).toNat).length) : Int) ∧ Hq i1 = some (.row 0 ([J 0, J 0, J 0, J 0, J 0, J 0])) ∧ Hq i14 = some (.row 0 ([J (((boxL ((l.drop (1 : Int).toNat).take i.toNat) (Zvec_Bound_0 l)).Lo).X), J (((boxL ((l.drop (1 : Int).toNat).take i.toNat) (Zvec_Bound_0 l)).Lo).Y), J (((boxL ((l.drop (1 : Int).toNat).take i.toNat) (Zvec_Bound_0 l)).Lo).Z), J (((boxL ((l.drop (1 : Int).toNat).take i.toNat) (Zvec_Bound_0 l)).Hi).X), J (((boxL ((l.drop (1 : Int).toNat).take i.toNat) (Zvec_Bound_0 l)).Hi).Y), J (((boxL ((l.drop (1 : Int).toNat).take i.toNat) (Zvec_Bound_0 l)).Hi).Z)])) ∧ Mono H0 Hq ∧ (0 ≤ i) ∧ (i ≤ ((l.drop (1 : Int).toNat).length : Int))) (k := ((((l.drop (1 : Int).toNat).length : Int) : Int) - 0).toNat) ?_ ?_
 exact ⟨0, rfl, rfl, rfl, rfl, rfl, rfl, rfl, h28, (h26.trans (congrArg (fun c => some (AB.row 0 c)) (show ([J ((at_ l 0).X), J ((at_ l 0).Y), J ((at_ l 0).Z), J ((at_ l 0).X), J ((at_ l 0).Y), J ((at_ l 0).Z)] : List AV) = [J (((boxL ((l.drop (1 : Int).toNat).take (0 : Int).toNat) (Zvec_Bound_0 l)).Lo).X), J (((boxL ((l.drop (1 : Int).toNat).take (0 : Int).toNat) (Zvec_Bound_0 l)).Lo).Y), J (((boxL ((l.drop (1 : Int).toNat).take (0 : Int).toNat) (Zvec_Bound_0 l)).Lo).Z), J (((boxL ((l.drop (1 : Int).toNat).take (0 : Int).toNat) (Zvec_Bound_0 l)).Hi).X), J (((boxL ((l.drop (1 : Int).toNat).take (0 : Int).toNat) (Zvec_Bound_0 l)).Hi).Y), J (((boxL ((l.drop (1 : Int).toNat).take (0 : Int).toNat) (Zvec_Bound_0 l)).Hi).Z)] from by first | rfl | (rw [boxL_step (l := (l.drop (1 : Int).toNat)) (i := i) hi0 (by omega)])))), m30, by omega, by omega⟩
 rintro _ f33 H32 ⟨i, rfl, s34, s35, s36, s37, s38, s39, h40, h41, m42, hi0, hi1⟩
 refine AWP.seq (AWP.region rfl ?_)
 refine AOps.cons rfl rfl (AOp.bin _ rfl s34 s39 rfl ?_)
 refine AWP.seq ?_
 by_cases b43 : i < (((l.drop (1 : Int).toNat).length) : Int)
 refine AWP.condT rfl (decide_eq_true b43) ?_
 refine AWP.skip ?_
 refine AWP.seq ?_
 refine AWP.block ?_
 refine AWP.seq (AWP.region rfl ?_)
 refine AOps.cons rfl rfl (AOp.indexAddrS rfl s38 s34 sl_34 (by omega) (by omega) (AOps.cons rfl rfl (AOp.loadF _ rfl rfl ty_23 (ldM eV_len (by omega) (by omega)) (AOps.cons rfl rfl (AOp.alloc rfl tz_23 ?_)))))
 intro i44 H45 n46 h47 k48
 have e49 := ne_new h40 n46
 have e50 := ne_new h41 n46
 have z51 := Mono.free m42 n46
 have h52 := keep k48 (ne_new h40 n46) h40
 have h53 := keep k48 (ne_new h41 n46) h41
 have m54 := Mono.new m42 n46 k48
 refine AOps.cons rfl rfl (AOp.store' (cells' := [J ((at_ (l.drop (1 : Int).toNat) i).X), J ((at_ (l.drop (1 : Int).toNat) i).Y), J ((at_ (l.drop (1 : Int).toNat) i).Z)]) (.agg [J ((at_ (l.drop (1 : Int).toNat) i).X), J ((at_ (l.drop (1 : Int).toNat) i).Y), J ((at_ (l.drop (1 : Int).toNat) i).Z)]) rfl rfl ts_23 h47 rfl rfl rfl rfl ?_)
 intro H55 h56 k57
 have h58 := keep k57 e49 h52
 have h59 := keep k57 e50 h53
 have m61 := Mono.set m54 z51 k57
 refine AWP.frzP 6 h56 z51 rfl m61 fun H62 m63 k64 => ?_
 have h65 := (k64 _ e49).trans h58
 have h66 := (k64 _ e50).trans h59
 refine AWP.region rfl ?_
 refine AOps.cons rfl rfl (AOp.load _ rfl s37 ty_43 h66 rfl (AOps.cons rfl rfl (AOp.loadF _ rfl rfl ty_23 rfl (AOps.cons rfl rfl (AOp.loadF _ rfl rfl ty_23 rfl (AOps.cons rfl rfl (AOp.build (cells := [J ((at_ (l.drop (1 : Int).toNat) i).X), J ((at_ (l.drop (1 : Int).toNat) i).Y), J ((at_ (l.drop (1 : Int).toNat) i).Z), J ((at_ (l.drop (1 : Int).toNat) i).X), J ((at_ (l.drop (1 : Int).toNat) i).Y), J ((at_ (l.drop (1 : Int).toNat) i).Z)]) rfl tz_43 pl_43 rfl rfl (AOps.cons rfl rfl (AOp.pcall («as» := [.agg [J (((boxL ((l.drop (1 : Int).toNat).take i.toNat) (Zvec_Bound_0 l)).Lo).X), J (((boxL ((l.drop (1 : Int).toNat).take i.toNat) (Zvec_Bound_0 l)).Lo).Y), J (((boxL ((l.drop (1 : Int).toNat).take i.toNat) (Zvec_Bound_0 l)).Lo).Z), J (((boxL ((l.drop (1 : Int).toNat).take i.toNat) (Zvec_Bound_0 l)).Hi).X), J (((boxL ((l.drop (1 : Int).toNat).take i.toNat) (Zvec_Bound_0 l)).Hi).Y), J (((boxL ((l.drop (1 : Int).toNat).take i.toNat) (Zvec_Bound_0 l)).Hi).Z)], .agg [J ((at_ (l.drop (1 : Int).toNat) i).X), J ((at_ (l.drop (1 : Int).toNat) i).Y), J ((at_ (l.drop (1 : Int).toNat) i).Z), J ((at_ (l.drop (1 : Int).toNat) i).X), J ((at_ (l.drop (1 : Int).toNat) i).Y), J ((at_ (l.drop (1 : Int).toNat) i).Z)]]) rfl rfl (rfl) tf_76 (c_vec_Join (boxL ((l.drop (1 : Int).toNat).take i.toNat) (Zvec_Bound_0 l)) (BoxT.mk (at_ (l.drop (1 : Int).toNat) i) (at_ (l.drop (1 : Int).toNat) i))) ?_)))))))))
 intro H67 m68
 have h69 := m68 _ _ h65
 have h70 := m68 _ _ h66
 have m71 := m63.trans m68
 refine AOps.cons rfl rfl (AOp.store' (cells' := [J (((R_vec_Join (boxL ((l.drop (1 : Int).toNat).take i.toNat) (Zvec_Bound_0 l)) (BoxT.mk (at_ (l.drop (1 : Int).toNat) i) (at_ (l.drop (1 : Int).toNat) i))).Lo).X), J (((R_vec_Join (boxL ((l.drop (1 : Int).toNat).take i.toNat) (Zvec_Bound_0 l)) (BoxT.mk (at_ (l.drop (1 : Int).toNat) i) (at_ (l.drop (1 : Int).toNat) i))).Lo).Y), J (((R_vec_Join (boxL ((l.drop (1 : Int).toNat).take i.toNat) (Zvec_Bound_0 l)) (BoxT.mk (at_ (l.drop (1 : Int).toNat) i) (at_ (l.drop (1 : Int).toNat) i))).Lo).Z), J (((R_vec_Join (boxL ((l.drop (1 : Int).toNat).take i.toNat) (Zvec_Bound_0 l)) (BoxT.mk (at_ (l.drop (1 : Int).toNat) i) (at_ (l.drop (1 : Int).toNat) i))).Hi).X), J (((R_vec_Join (boxL ((l.drop (1 : Int).toNat).take i.toNat) (Zvec_Bound_0 l)) (BoxT.mk (at_ (l.drop (1 : Int).toNat) i) (at_ (l.drop (1 : Int).toNat) i))).Hi).Y), J (((R_vec_Join (boxL ((l.drop (1 : Int).toNat).take i.toNat) (Zvec_Bound_0 l)) (BoxT.mk (at_ (l.drop (1 : Int).toNat) i) (at_ (l.drop (1 : Int).toNat) i))).Hi).Z)]) (.agg [J (((R_vec_Join (boxL ((l.drop (1 : Int).toNat).take i.toNat) (Zvec_Bound_0 l)) (BoxT.mk (at_ (l.drop (1 : Int).toNat) i) (at_ (l.drop (1 : Int).toNat) i))).Lo).X), J (((R_vec_Join (boxL ((l.drop (1 : Int).toNat).take i.toNat) (Zvec_Bound_0 l)) (BoxT.mk (at_ (l.drop (1 : Int).toNat) i) (at_ (l.drop (1 : Int).toNat) i))).Lo).Y), J (((R_vec_Join (boxL ((l.drop (1 : Int).toNat).take i.toNat) (Zvec_Bound_0 l)) (BoxT.mk (at_ (l.drop (1 : Int).toNat) i) (at_ (l.drop (1 : Int).toNat) i))).Lo).Z), J (((R_vec_Join (boxL ((l.drop (1 : Int).toNat).take i.toNat) (Zvec_Bound_0 l)) (BoxT.mk (at_ (l.drop (1 : Int).toNat) i) (at_ (l.drop (1 : Int).toNat) i))).Hi).X), J (((R_vec_Join (boxL ((l.drop (1 : Int).toNat).take i.toNat) (Zvec_Bound_0 l)) (BoxT.mk (at_ (l.drop (1 : Int).toNat) i) (at_ (l.drop (1 : Int).toNat) i))).Hi).Y), J (((R_vec_Join (boxL ((l.drop (1 : Int).toNat).take i.toNat) (Zvec_Bound_0 l)) (BoxT.mk (at_ (l.drop (1 : Int).toNat) i) (at_ (l.drop (1 : Int).toNat) i))).Hi).Z)]) s37 rfl ts_43 h70 rfl rfl rfl rfl ?_)
 intro H72 h73 k74
 have h75 := keep k74 e20 h69
 have m77 := Mono.set m71 z21 k74
 refine AWP.region rfl ?_
 refine AOps.cons rfl rfl (AOp.bin _ rfl s34 rfl (iadd (by omega)) (AOps.cons rfl rfl (AOp.move _ rfl rfl ?_)))
 refine AOps.nil ?_
 exact ⟨_, by omega, i + 1, rfl, rfl, s35, s36, s37, s38, s39, h75, (h73.trans (congrArg (fun c => some (AB.row 0 c)) (show ([J (((R_vec_Join (boxL ((l.drop (1 : Int).toNat).take i.toNat) (Zvec_Bound_0 l)) (BoxT.mk (at_ (l.drop (1 : Int).toNat) i) (at_ (l.drop (1 : Int).toNat) i))).Lo).X), J (((R_vec_Join (boxL ((l.drop (1 : Int).toNat).take i.toNat) (Zvec_Bound_0 l)) (BoxT.mk (at_ (l.drop (1 : Int).toNat) i) (at_ (l.drop (1 : Int).toNat) i))).Lo).Y), J (((R_vec_Join (boxL ((l.drop (1 : Int).toNat).take i.toNat) (Zvec_Bound_0 l)) (BoxT.mk (at_ (l.drop (1 : Int).toNat) i) (at_ (l.drop (1 : Int).toNat) i))).Lo).Z), J (((R_vec_Join (boxL ((l.drop (1 : Int).toNat).take i.toNat) (Zvec_Bound_0 l)) (BoxT.mk (at_ (l.drop (1 : Int).toNat) i) (at_ (l.drop (1 : Int).toNat) i))).Hi).X), J (((R_vec_Join (boxL ((l.drop (1 : Int).toNat).take i.toNat) (Zvec_Bound_0 l)) (BoxT.mk (at_ (l.drop (1 : Int).toNat) i) (at_ (l.drop (1 : Int).toNat) i))).Hi).Y), J (((R_vec_Join (boxL ((l.drop (1 : Int).toNat).take i.toNat) (Zvec_Bound_0 l)) (BoxT.mk (at_ (l.drop (1 : Int).toNat) i) (at_ (l.drop (1 : Int).toNat) i))).Hi).Z)] : List AV) = [J (((boxL ((l.drop (1 : Int).toNat).take (i + 1).toNat) (Zvec_Bound_0 l)).Lo).X), J (((boxL ((l.drop (1 : Int).toNat).take (i + 1).toNat) (Zvec_Bound_0 l)).Lo).Y), J (((boxL ((l.drop (1 : Int).toNat).take (i + 1).toNat) (Zvec_Bound_0 l)).Lo).Z), J (((boxL ((l.drop (1 : Int).toNat).take (i + 1).toNat) (Zvec_Bound_0 l)).Hi).X), J (((boxL ((l.drop (1 : Int).toNat).take (i + 1).toNat) (Zvec_Bound_0 l)).Hi).Y), J (((boxL ((l.drop (1 : Int).toNat).take (i + 1).toNat) (Zvec_Bound_0 l)).Hi).Z)] from by first | rfl | (rw [boxL_step (l := (l.drop (1 : Int).toNat)) (i := i) hi0 (by omega)])))), m77, by omega, by omega⟩
 refine AWP.condF rfl (decide_eq_false b43) ?_
 refine AWP.exit ?_
 change AWP _ _ _ _ _ _
 refine AWP.seq (AWP.region rfl ?_)
 refine AOps.cons rfl rfl (AOp.load _ rfl s37 ty_43 h41 rfl (AOps.cons rfl rfl (AOp.store' (cells' := [J (((boxL ((l.drop (1 : Int).toNat).take i.toNat) (Zvec_Bound_0 l)).Lo).X), J (((boxL ((l.drop (1 : Int).toNat).take i.toNat) (Zvec_Bound_0 l)).Lo).Y), J (((boxL ((l.drop (1 : Int).toNat).take i.toNat) (Zvec_Bound_0 l)).Lo).Z), J (((boxL ((l.drop (1 : Int).toNat).take i.toNat) (Zvec_Bound_0 l)).Hi).X), J (((boxL ((l.drop (1 : Int).toNat).take i.toNat) (Zvec_Bound_0 l)).Hi).Y), J (((boxL ((l.drop (1 : Int).toNat).take i.toNat) (Zvec_Bound_0 l)).Hi).Z)]) (.agg [J (((boxL ((l.drop (1 : Int).toNat).take i.toNat) (Zvec_Bound_0 l)).Lo).X), J (((boxL ((l.drop (1 : Int).toNat).take i.toNat) (Zvec_Bound_0 l)).Lo).Y), J (((boxL ((l.drop (1 : Int).toNat).take i.toNat) (Zvec_Bound_0 l)).Lo).Z), J (((boxL ((l.drop (1 : Int).toNat).take i.toNat) (Zvec_Bound_0 l)).Hi).X), J (((boxL ((l.drop (1 : Int).toNat).take i.toNat) (Zvec_Bound_0 l)).Hi).Y), J (((boxL ((l.drop (1 : Int).toNat).take i.toNat) (Zvec_Bound_0 l)).Hi).Z)]) s35 rfl ts_43 h40 rfl rfl rfl rfl ?_)))
 intro H78 h79 k80
 have m83 := Mono.set m42 z6 k80
 refine AOps.cons rfl rfl (AOp.assign _ rfl rfl ?_)
 refine AWP.ret ?_
 refine ⟨_, _, Ghost.refl, .inr rfl, _, Res.list rfl rfl (.cell (v := .agg [J (((boxL ((l.drop (1 : Int).toNat).take i.toNat) (Zvec_Bound_0 l)).Lo).X), J (((boxL ((l.drop (1 : Int).toNat).take i.toNat) (Zvec_Bound_0 l)).Lo).Y), J (((boxL ((l.drop (1 : Int).toNat).take i.toNat) (Zvec_Bound_0 l)).Lo).Z), J (((boxL ((l.drop (1 : Int).toNat).take i.toNat) (Zvec_Bound_0 l)).Hi).X), J (((boxL ((l.drop (1 : Int).toNat).take i.toNat) (Zvec_Bound_0 l)).Hi).Y), J (((boxL ((l.drop (1 : Int).toNat).take i.toNat) (Zvec_Bound_0 l)).Hi).Z)]) s35 ty_43 h79 rfl (.tmp rfl (.nil))), ?_, m83⟩
 exact congrArg AV.tup (lc (congrArg AV.agg (lc (congrArg (AV.int .i64) (show (((boxL ((l.drop (1 : Int).toNat).take i.toNat) (Zvec_Bound_0 l)).Lo).X : Int) = (((boundR l).1).Lo).X from by rw [← bound_drop (i := i) b8 (by omega)])) (lc (congrArg (AV.int .i64) (show (((boxL ((l.drop (1 : Int).toNat).take i.toNat) (Zvec_Bound_0 l)).Lo).Y : Int) = (((boundR l).1).Lo).Y from by rw [← bound_drop (i := i) b8 (by omega)])) (lc (congrArg (AV.int .i64) (show (((boxL ((l.drop (1 : Int).toNat).take i.toNat) (Zvec_Bound_0 l)).Lo).Z : Int) = (((boundR l).1).Lo).Z from by rw [← bound_drop (i := i) b8 (by omega)])) (lc (congrArg (AV.int .i64) (show (((boxL ((l.drop (1 : Int).toNat).take i.toNat) (Zvec_Bound_0 l)).Hi).X : Int) = (((boundR l).1).Hi).X from by rw [← bound_drop (i := i) b8 (by omega)])) (lc (congrArg (AV.int .i64) (show (((boxL ((l.drop (1 : Int).toNat).take i.toNat) (Zvec_Bound_0 l)).Hi).Y : Int) = (((boundR l).1).Hi).Y from by rw [← bound_drop (i := i) b8 (by omega)])) (lc (congrArg (AV.int .i64) (show (((boxL ((l.drop (1 : Int).toNat).take i.toNat) (Zvec_Bound_0 l)).Hi).Z : Int) = (((boundR l).1).Hi).Z from by rw [← bound_drop (i := i) b8 (by omega)])) rfl))))))) (lc (congrArg AV.bool (show (true : Bool) = (boundR l).2 from by rw [← bound_drop (i := i) b8 (by omega)])) rfl))
end Go.Proofs.M
namespace Go.Proofs.M
open Go Go.AH
theorem pre_step {α : Type} [Inhabited α] {a b : List α} {i : Int} (h : ∀ j : Int, 0 ≤ j → j < i → at_ a j = at_ b j) (hi : at_ a i = at_ b i) : ∀ j : Int, 0 ≤ j → j < i + 1 → at_ a j = at_ b j := by
  intro j h1 h2
  by_cases e : j = i
  · subst e; exact hi
  · exact h j h1 (by omega)
theorem ext_at {α : Type} [Inhabited α] {a b : List α} (hl : a.length = b.length) (h : ∀ j : Int, 0 ≤ j → j < a.length → at_ a j = at_ b j) : a = b := by
  apply List.ext_getElem hl
  intro j h1 h2
  have := h j (by omega) (by omega)
  simpa [at_, h1, h2] using this
theorem min3L (a b c : Int) : minL [a, b, c] = min (min a b) c := by
  show min (min (min a a) b) c = _
  rw [Int.min_self]
theorem max3L (a b c : Int) : maxL [a, b, c] = max (max a b) c := by
  show max (max (max a a) b) c = _
  rw [Int.max_self]
theorem bound_in {l : List VT} {B : Int} (h : ∀ i : Int, 0 ≤ i → i < l.length → inV B (at_ l i)) (hl : 1 ≤ l.length) : inV B (boundR l).1.Lo ∧ inV B (boundR l).1.Hi := by
  have key : ∀ (l : List VT) (b : BoxT), inV B b.Lo → inV B b.Hi → (∀ v ∈ l, inV B v) → inV B (boxL l b).Lo ∧ inV B (boxL l b).Hi := by
    intro l
    induction l with
    | nil => intro b h1 h2 _; exact ⟨h1, h2⟩
    | cons a l ih =>
      intro b h1 h2 h3
      unfold boxL
      rw [List.foldl_cons]
      have ha := h3 a (.head _)
      refine ih _ ?_ ?_ fun v hv => h3 v (.tail _ hv)
      · obtain ⟨a1, a2, a3, a4, a5, a6⟩ := ha; obtain ⟨b1, b2, b3, b4, b5, b6⟩ := h1
        simp only [R_vec_Join, inV]; omega
      · obtain ⟨a1, a2, a3, a4, a5, a6⟩ := ha; obtain ⟨b1, b2, b3, b4, b5, b6⟩ := h2
        simp only [R_vec_Join, inV]; omega
  unfold boundR
  rw [if_neg (by omega)]
  have h0 := h 0 (by omega) (by omega)
  refine key l _ h0 h0 fun v hv => ?_
  obtain ⟨i, i0, i1, rfl⟩ := mem_at hv
  exact h i i0 i1
def ranM (m : MeshT) : Prop := (∀ v ∈ m.Verts, ranV v) ∧ (∀ k ∈ m.Keys, ranK k) ∧ ∀ t ∈ m.Tris, ranI3 t
end Go.Proofs.M
