/- A part of the proof that a law answers true for every input of its row: own work, by an AI agent. -/
import Derived.Test.YtfgfalidpbbkhaaDoorB03
set_option linter.unusedSimpArgs false
set_option linter.unusedVariables false
namespace Go.Proofs.M
open Go Go.AH
set_option maxRecDepth 4000
set_option linter.unusedSimpArgs false
set_option linter.unusedVariables false
set_option maxHeartbeats 4000000
theorem c_Weave (rs : List Int) (h : rs.length = 4) : PC Tryd.prog 25 [.agg (rs.map eI)] (.tup [.sl ((weaveR rs).1).length (((weaveR rs).1).flatMap eSpot), .sl ((weaveR rs).2.1).length (((weaveR rs).2.1).flatMap eI3), .bool ((weaveR rs).2.2)]) := by
 intro H0
 refine ACalls.of_body' (n := 57) rfl rfl rfl rfl ?_
 have m0 := Mono.refl H0
 refine AWP.seq ?_
 refine AWP.region (l := [0, 1, 2, 3]) rfl ?_
 refine AOps.cons rfl rfl (AOp.box (.agg (rs.map eI)) rfl rfl rfl ?_)
 intro i1 H2 n3 h4 k5
 have z6 := Mono.free m0 n3
 have m7 := Mono.new m0 n3 k5
 refine AOps.cons rfl rfl (AOp.assign (.snil) rfl rfl ?_)
 refine AOps.cons rfl rfl (AOp.assign (.snil) rfl rfl ?_)
 refine AOps.cons rfl rfl (AOp.assign (.bool false) rfl rfl ?_)
 refine AOps.nil ?_
 change AWP _ _ _ _ _ _
 refine AWP.seq ?_
 refine AWP.seq ?_
 refine AWP.frzP 1 h4 z6 rfl m7 fun H8 m9 k10 => ?_
 refine AWP.region (l := [0, 1, 2, 3, 4, 5, 6, 7]) rfl ?_
 refine AOps.cons rfl rfl (AOp.sliceAF rfl rfl ar_25 h SubAt.all ?_)
 refine AOps.cons rfl rfl (AOp.pcall («as» := [.sl rs.length (rs.map eI)]) rfl rfl (rfl) tf_40 (c_Min rs (by first | (have := h; omega) | simp) (by first | omega | assumption | (constructor <;> omega) | simp)) ?_)
 intro H11 m12
 have m13 := m9.trans m12
 refine AOps.cons rfl rfl (AOp.bin (.bool (decide (minL rs < 1))) rfl rfl rfl rfl ?_)
 refine AOps.cons rfl rfl (AOp.move (.bool (decide (minL rs < 1))) rfl rfl ?_)
 by_cases b14 : minL rs < 1
 ·
  refine AOps.no rfl rfl rfl rfl rfl rfl rfl (ble_of (decide_eq_true b14) (by decide)) ?_
  refine AOps.no rfl rfl rfl rfl rfl rfl rfl (ble_of (decide_eq_true b14) (by decide)) ?_
  refine AOps.no rfl rfl rfl rfl rfl rfl rfl (ble_of (decide_eq_true b14) (by decide)) ?_
  refine AOps.cons rfl rfl (AOp.pickT (.bool true) rfl rfl (decide_eq_true b14) rfl ?_)
  refine AOps.nil ?_
  change AWP _ _ _ _ _ _
  refine AWP.condT rfl rfl ?_
  refine AWP.seq ?_
  refine AWP.region (l := [0, 1, 2]) rfl ?_
  refine AOps.cons rfl rfl (AOp.assign (.snil) rfl rfl ?_)
  refine AOps.cons rfl rfl (AOp.assign (.snil) rfl rfl ?_)
  refine AOps.cons rfl rfl (AOp.assign (.bool false) rfl rfl ?_)
  refine AOps.nil ?_
  change AWP _ _ _ _ _ _
  refine AWP.ret ?_
  refine Fin.frz 2 (Own.nil H0 H11 1) rfl m13 fun H15 m16 k17 => ?_
  refine Fin.frz 3 (Own.nil H0 H15 1) rfl m16 fun H18 m19 k20 => ?_
  refine ⟨_, _, Ghost.refl, .inr rfl, _, Res.three rfl rfl rfl rfl, ?_, m19⟩
  exact congrArg AV.tup (lc (congrArg (fun l : List SpotT => AV.sl l.length (l.flatMap eSpot)) (show ([] : List SpotT) = (weaveR rs).1 from by unfold weaveR; rw [if_pos (.inl b14)])) (lc (congrArg (fun l : List I3T => AV.sl l.length (l.flatMap eI3)) (show ([] : List I3T) = (weaveR rs).2.1 from by unfold weaveR; rw [if_pos (.inl b14)])) (lc (congrArg AV.bool (show (false : Bool) = (weaveR rs).2.2 from by unfold weaveR; rw [if_pos (.inl b14)])) rfl)))
 ·
  refine AOps.yes rfl rfl rfl rfl rfl rfl rfl (decide_eq_false b14) (AOp.sliceAF rfl rfl ar_25 h SubAt.all ?_)
  refine AOps.yes rfl rfl rfl rfl rfl rfl rfl (decide_eq_false b14) (AOp.pcall («as» := [.sl rs.length (rs.map eI)]) rfl rfl (rfl) tf_26 (c_Max rs (by first | (have := h; omega) | simp) (by first | omega | assumption | (constructor <;> omega) | simp)) ?_)
  intro H21 m22
  have m23 := m13.trans m22
  refine AOps.yes rfl rfl rfl rfl rfl rfl rfl (decide_eq_false b14) (AOp.bin (.bool (decide (maxL rs > 16))) rfl rfl rfl rfl ?_)
  refine AOps.cons rfl rfl (AOp.pickF (.bool (decide (maxL rs > 16))) rfl rfl (decide_eq_false b14) rfl ?_)
  refine AOps.nil ?_
  change AWP _ _ _ _ _ _
  by_cases b24 : maxL rs > 16
  ·
   refine AWP.condT rfl (decide_eq_true b24) ?_
   refine AWP.seq ?_
   refine AWP.region (l := [0, 1, 2]) rfl ?_
   refine AOps.cons rfl rfl (AOp.assign (.snil) rfl rfl ?_)
   refine AOps.cons rfl rfl (AOp.assign (.snil) rfl rfl ?_)
   refine AOps.cons rfl rfl (AOp.assign (.bool false) rfl rfl ?_)
   refine AOps.nil ?_
   change AWP _ _ _ _ _ _
   refine AWP.ret ?_
   refine Fin.frz 2 (Own.nil H0 H21 1) rfl m23 fun H25 m26 k27 => ?_
   refine Fin.frz 3 (Own.nil H0 H25 1) rfl m26 fun H28 m29 k30 => ?_
   refine ⟨_, _, Ghost.refl, .inr rfl, _, Res.three rfl rfl rfl rfl, ?_, m29⟩
   exact congrArg AV.tup (lc (congrArg (fun l : List SpotT => AV.sl l.length (l.flatMap eSpot)) (show ([] : List SpotT) = (weaveR rs).1 from by unfold weaveR; rw [if_pos (.inr b24)])) (lc (congrArg (fun l : List I3T => AV.sl l.length (l.flatMap eI3)) (show ([] : List I3T) = (weaveR rs).2.1 from by unfold weaveR; rw [if_pos (.inr b24)])) (lc (congrArg AV.bool (show (false : Bool) = (weaveR rs).2.2 from by unfold weaveR; rw [if_pos (.inr b24)])) rfl)))
  ·
   refine AWP.condF rfl (decide_eq_false b24) ?_
   refine AWP.skip ?_
   change AWP _ _ _ _ _ _
   refine AWP.seq ?_
   have hrt := rates_of h (by omega) (by omega)
   have hm16 : maxL rs ≤ 16 := by omega
   have hm1 := max_ge h hrt
   refine AWP.region_str mixed (by kernel_rfl) [(0, none), (1, none), (2, none), (3, some [0, 1, 2])] [4, 5, 6] (by kernel_rfl) ?_
   refine STR.op rfl rfl (.inl ⟨rfl, fun H1 f' H' hf hN hM => AOp.loadF (.agg (rs.map eI)) rfl ((hf 1 rfl).trans rfl) ty_25 (ld_all (len1 h)) ⟨rfl, hN⟩⟩) ?_
   refine STR.op rfl rfl (.inl ⟨rfl, fun H1 f' H' hf hN hM => AOp.sliceAF rfl ((hf 1 rfl).trans rfl) ar_25 h SubAt.all ⟨rfl, hN⟩⟩) ?_
   refine STR.op rfl rfl (.inl ⟨rfl, fun H1 f' H' hf hN hM => AOp.pcall («as» := [.sl rs.length (rs.map eI)]) rfl rfl (lapp (lcons ((hf 16 rfl).trans rfl) rfl) rfl) tf_26 (c_Max rs (by first | (have := h; omega) | simp) (by first | omega | assumption | (constructor <;> omega) | simp)) fun H2 m2 => ⟨rfl, hN.trans m2⟩⟩) ?_
   refine STR.eff rfl rfl rfl fun f31 H32 hf33 m34 => ?_
   have m35 := m23.trans m34
   refine AOp.makeMap rfl ?_
   intro i36 H37 n38 h39 k40
   have z41 := Mono.free m35 n38
   have m42 := Mono.new m35 n38 k40
   refine ⟨_, rfl, .inl (Mono.new (Mono.refl _) n38 k40), ?_⟩
   refine STR.done fun H43 m44 => ?_
   have h45 := m44 _ _ h39
   have m46 := m42.trans m44
   refine AOps.cons rfl rfl (AOp.build (ps := [(0, .agg (rs.map eI)), (1, .int .i64 (maxL rs)), (3, .map i36)]) (cells := rs.map eI ++ [.int .i64 (maxL rs), .snil, .map i36, .snil]) rfl tz_98 pl_98 rfl (fill_step (c' := ((rs.map eI : List AV) ++ ([.int .i64 0, .snil, .mapnil, .snil] : List AV))) rfl rfl (show (AV.cells (.agg (rs.map eI))).length = 4 from (len1 h)) rfl (wr_pre (len1 h)) (fill_step (c' := ((rs.map eI : List AV) ++ ([.int .i64 (maxL rs), .snil, .mapnil, .snil] : List AV))) rfl rfl rfl (blelen (len_app (m := 4) (n := 4) (k := 8) (len1 h) rfl rfl) (by omega)) (wr_skip (off' := 0) (len1 h) (by omega) rfl) (fill_step (c' := ((rs.map eI : List AV) ++ ([.int .i64 (maxL rs), .snil, .map i36, .snil] : List AV))) rfl rfl rfl (blelen (len_app (m := 4) (n := 4) (k := 8) (len1 h) rfl rfl) (by omega)) (wr_skip (off' := 2) (len1 h) (by omega) rfl) (rfl)))) ?_)
   refine AOps.cons rfl rfl (AOp.box (.agg (rs.map eI ++ [.int .i64 (maxL rs), .snil, .map i36, .snil])) rfl rfl rfl ?_)
   intro i47 H48 n49 h50 k51
   have e52 := ne_new h45 n49
   have z53 := Mono.free m46 n49
   have h54 := keep k51 (ne_new h45 n49) h45
   have m55 := Mono.new m46 n49 k51
   refine AOps.cons rfl rfl (AOp.assign (.ptr i47 0 0) rfl rfl ?_)
   refine AOps.nil ?_
   change AWP _ _ _ _ _ _
   refine AWP.seq ?_
   refine AWP.region (l := [0, 1]) rfl ?_
   refine AOps.cons rfl rfl (AOp.move (.ptr i47 0 0) rfl rfl ?_)
   refine AOps.cons rfl rfl (AOp.inline (n' := 53) («as» := [.ptr i47 0 0]) rfl rfl (rfl) tf_48 rfl rfl rfl rfl ?_)
   refine AWP.seq ?_
   refine AWP.seq ?_
   refine AWP.region (l := [0]) rfl ?_
   refine AOps.cons rfl rfl (AOp.move (.int .i64 0) rfl rfl ?_)
   refine AOps.nil ?_
   change AWP _ _ _ _ _ _
   refine AWP.block ?_
   refine AWP.loop (fun q56 fq Hq => ∃ (lq : Int) (w0_2 : AV), q56 = ((4 : Int) - lq).toNat ∧ fq 8 = .int .i64 lq ∧ fq 0 = .ptr i47 0 0 ∧ Own H0 Hq 3 w0_2 (corL lq).length ((corL lq).flatMap eSpot) ∧ NotId w0_2 i36 ∧ NotId w0_2 i47 ∧ Hq i36 = some (.map (plc (corL lq))) ∧ Hq i47 = some (.row 0 (rs.map eI ++ [.int .i64 (maxL rs), w0_2, .map i36, .snil])) ∧ Mono H0 Hq ∧ (0 ≤ lq) ∧ (lq ≤ 4)) (k := ((4 : Int) - 0).toNat) ?_ ?_
   ·
    exact ⟨0, .snil, rfl, rfl, rfl, Own.nil _ _ _, (NotId.nil _), (NotId.nil _), h54, h50, m55, by omega, by omega⟩
   ·
    rintro _ f58 H57 ⟨lq, w0_2, rfl, s59, s60, o61, no62, no63, h64, h65, m66, hlq0, hlq1⟩
    refine AWP.seq ?_
    refine AWP.region (l := [0]) rfl ?_
    refine AOps.cons rfl rfl (AOp.bin (.bool (decide (lq < 4))) rfl s59 rfl rfl ?_)
    refine AOps.nil ?_
    change AWP _ _ _ _ _ _
    refine AWP.seq ?_
    by_cases b67 : lq < 4
    ·
     refine AWP.condT rfl (decide_eq_true b67) ?_
     refine AWP.skip ?_
     change AWP _ _ _ _ _ _
     refine AWP.seq ?_
     refine AWP.block ?_
     refine AWP.seq ?_
     refine AWP.region (l := [0, 1]) rfl ?_
     refine AOps.cons rfl rfl (AOp.move (.int .i64 lq) rfl s59 ?_)
     refine AOps.cons rfl rfl (AOp.assign (.int .i64 lq) rfl rfl ?_)
     refine AOps.nil ?_
     change AWP _ _ _ _ _ _
     refine AWP.region (l := [0, 1, 2]) rfl ?_
     refine AOps.cons rfl rfl (AOp.move (.ptr i47 0 0) rfl s60 ?_)
     refine AOps.cons rfl rfl (AOp.move (.int .i64 lq) rfl rfl ?_)
     refine AOps.cons rfl rfl (AOp.inline (n' := 33) («as» := [.ptr i47 0 0, .int .i64 1, .int .i64 lq, .int .i64 0]) rfl rfl (rfl) tf_80 rfl rfl rfl rfl ?_)
     refine AWP.seq ?_
     refine AWP.region (l := [0, 1, 2, 3, 4, 5]) rfl ?_
     refine AOps.cons rfl rfl (AOp.move (.int .i64 1) rfl rfl ?_)
     refine AOps.cons rfl rfl (AOp.move (.int .i64 lq) rfl rfl ?_)
     refine AOps.cons rfl rfl (AOp.move (.int .i64 0) rfl rfl ?_)
     refine AOps.cons rfl rfl (AOp.build (cells := [.int .i64 1, .int .i64 lq, .int .i64 0]) rfl tz_76 pl_76 rfl rfl ?_)
     refine AOps.cons rfl rfl (AOp.alloc rfl tz_76 ?_)
     intro i68 H69 n70 h71 k72
     have e73 := ne_new h64 n70
     have e74 := ne_new h65 n70
     have z75 := Mono.free m66 n70
     have h76 := keep k72 (ne_new h64 n70) h64
     have h77 := keep k72 (ne_new h65 n70) h65
     have o78 := Own.keep o61 k72 (Own.notnew o61 n70)
     have no79 := Own.notnew o61 n70
     have m80 := Mono.new m66 n70 k72
     refine AOps.cons rfl rfl (AOp.store' (cells' := [.int .i64 1, .int .i64 lq, .int .i64 0]) (.agg [.int .i64 1, .int .i64 lq, .int .i64 0]) rfl rfl ts_76 h71 rfl rfl rfl rfl ?_)
     intro H81 h82 k83
     have h84 := keep k83 e73 h76
     have h85 := keep k83 e74 h77
     have o87 := Own.keep o78 k83 no79
     have m88 := Mono.set m80 z75 k83
     refine AOps.nil ?_
     change AWP _ _ _ _ _ _
     refine AWP.seq ?_
     refine AWP.frzP 8 h82 z75 rfl m88 fun H89 m90 k91 => ?_
     have h92 := (k91 _ e73).trans h84
     have h93 := (k91 _ e74).trans h85
     have o94 := Own.keep o87 k91 no79
     obtain ⟨hnot, hran, hsl, hns⟩ := lay_cor hlq0 (by omega)
     refine AWP.region_quiet mixed (by kernel_rfl) 10 [10] rfl (by kernel_rfl) (Mono H89) (Mono.refl _) ?_
     refine QE.op rfl rfl (.inl ⟨rfl, fun f' H' hf hM => AOp.move (.ptr i47 0 0) rfl ((hf 0 rfl).trans rfl) ⟨rfl, hM⟩⟩) ?_
     refine QE.op rfl rfl (.inl ⟨rfl, fun f' H' hf hM => AOp.nilCheck (.ptr i47 0 0) rfl ((hf 13 rfl).trans rfl) rfl ⟨rfl, hM⟩⟩) ?_
     refine QE.op rfl rfl (.inl ⟨rfl, fun f' H' hf hM => AOp.fieldAddr rfl ((hf 14 rfl).trans rfl) fl_98_3 ⟨rfl, hM⟩ (hid := ⟨_, (hM _ _ h93)⟩)⟩) ?_
     refine QE.op rfl rfl (.inl ⟨rfl, fun f' H' hf hM => AOp.load (.map i36) rfl ((hf 15 rfl).trans rfl) ty_96 (hM _ _ h93) (ld_skip (off' := 2) (len1 h) (by omega) rfl) ⟨rfl, hM⟩⟩) ?_
     refine QE.op rfl rfl (.inl ⟨rfl, fun f' H' hf hM => AOp.loadF (.agg [.int .i64 1, .int .i64 lq, .int .i64 0]) rfl ((hf 8 rfl).trans rfl) ty_76 rfl ⟨rfl, hM⟩⟩) ?_
     refine QE.op rfl rfl (.inl ⟨rfl, fun f' H' hf hM => AOp.move (.ptr i47 0 0) rfl ((hf 0 rfl).trans rfl) ⟨rfl, hM⟩⟩) ?_
     refine QE.op rfl rfl (.inl ⟨rfl, fun f' H' hf hM => AOp.nilCheck (.ptr i47 0 0) rfl ((hf 18 rfl).trans rfl) rfl ⟨rfl, hM⟩⟩) ?_
     refine QE.op rfl rfl (.inl ⟨rfl, fun f' H' hf hM => AOp.fieldAddr rfl ((hf 19 rfl).trans rfl) fl_98_2 ⟨rfl, hM⟩ (hid := ⟨_, (hM _ _ h93)⟩)⟩) ?_
     refine QE.op rfl rfl (.inl ⟨rfl, fun f' H' hf hM => AOp.load (w0_2) rfl ((hf 20 rfl).trans rfl) ty_68 (hM _ _ h93) (ld_skip (off' := 1) (len1 h) (by omega) rfl) ⟨rfl, hM⟩⟩) ?_
     refine QE.op rfl rfl (.inl ⟨rfl, fun f' H' hf hM => AOp.len_own (m := ((corL lq).length)) rfl ((hf 21 rfl).trans rfl) o94 u_68 ⟨rfl, hM⟩⟩) ?_
     refine QE.done fun H95 m96 => ?_
     have h97 := m96 _ _ h92
     have h98 := m96 _ _ h93
     have o99 := Own.mono o94 m96
     have m100 := m90.trans m96
     refine AOps.cons rfl rfl (AOp.mapUpdate2 (es' := plc ((corL lq) ++ [(SpotT.mk 1 lq 0)])) rfl h97 rfl (kokS hns) (plc_keys hran) tm96 rfl ((mput_plc hnot)) ?_)
     intro H101 h102 k103
     have h105 := keep k103 (Ne.symm e52) h98
     have o106 := Own.keep o99 k103 no62
     have m107 := Mono.set m100 z41 k103
     refine AOps.nil ?_
     change AWP _ _ _ _ _ _
     refine AWP.region_str mixed (by kernel_rfl) [(0, none), (1, none), (2, none), (3, none), (4, none), (5, none), (6, some [0, 1, 2, 3, 4]), (7, some [0])] [8, 9, 10] (by kernel_rfl) ?_
     refine STR.op rfl rfl (.inl ⟨rfl, fun H1 f' H' hf hN hM => AOp.move (.ptr i47 0 0) rfl ((hf 0 rfl).trans rfl) ⟨rfl, hN⟩⟩) ?_
     refine STR.op rfl rfl (.inl ⟨rfl, fun H1 f' H' hf hN hM => AOp.move (.ptr i47 0 0) rfl ((hf 0 rfl).trans rfl) ⟨rfl, hN⟩⟩) ?_
     refine STR.op rfl rfl (.inl ⟨rfl, fun H1 f' H' hf hN hM => AOp.nilCheck (.ptr i47 0 0) rfl ((hf 24 rfl).trans rfl) rfl ⟨rfl, hN⟩⟩) ?_
     refine STR.op rfl rfl (.inl ⟨rfl, fun H1 f' H' hf hN hM => AOp.fieldAddr rfl ((hf 25 rfl).trans rfl) fl_98_2 ⟨rfl, hN⟩ (hid := ⟨_, (hM _ _ h105)⟩)⟩) ?_
     refine STR.op rfl rfl (.inl ⟨rfl, fun H1 f' H' hf hN hM => AOp.load (w0_2) rfl ((hf 26 rfl).trans rfl) ty_68 (hM _ _ h105) (ld_skip (off' := 1) (len1 h) (by omega) rfl) ⟨rfl, hN⟩⟩) ?_
     refine STR.op rfl rfl (.inl ⟨rfl, fun H1 f' H' hf hN hM => AOp.loadF (.agg [.int .i64 1, .int .i64 lq, .int .i64 0]) rfl ((hf 8 rfl).trans rfl) ty_76 rfl ⟨rfl, hN⟩⟩) ?_
     refine STR.eff rfl rfl rfl fun f108 H109 hf110 m111 => ?_
     have h112 := m111 _ _ h105
     have h113 := m111 _ _ h102
     have o114 := Own.mono o106 m111
     have m115 := m107.trans m111
     refine AOp.buildSlice (cells := [.int .i64 1, .int .i64 lq, .int .i64 0]) rfl u_68 ts_76 tz_76 rfl (lconsP ((hf110 28 rfl).trans rfl) rfl) rfl ?_
     intro i116 H117 n118 h119 k120
     have e121 := ne_new h112 n118
     have e122 := ne_new h113 n118
     have z123 := Mono.free m115 n118
     have h124 := keep k120 (ne_new h112 n118) h112
     have h125 := keep k120 (ne_new h113 n118) h113
     have o126 := Own.keep o114 k120 (Own.notnew o114 n118)
     have no127 := Own.notnew o114 n118
     have m128 := Mono.new m115 n118 k120
     refine ⟨_, rfl, .inl (Mono.new (Mono.refl _) n118 k120), ?_⟩
     refine STR.eff rfl rfl rfl fun f129 H130 hf131 m132 => ?_
     have h133 := m132 _ _ h124
     have h134 := m132 _ _ h125
     have h135 := m132 _ _ h119
     have o136 := Own.mono o126 m132
     have m137 := m128.trans m132
     refine AOp.append_own (es := 3) (m := 1) (len := ((corL lq).length)) (old := (corL lq).flatMap eSpot) (cells := [.int .i64 1, .int .i64 lq, .int .i64 0]) rfl u_68 ts_76 tzn_76 tb_76 (by decide) ni_68 ((hf131 27 rfl).trans rfl) o136 m137 ((hf131 29 rfl).trans rfl) (.slm h135 rfl) (one_of rfl) (by decide) (by first | omega | (simp; omega)) ?_
     intro v138 H139 o140 m141 k142 j143
     have o144 := Own.snocM (xs := ((corL lq) : List SpotT)) (y := (SpotT.mk 1 lq 0)) (e := eSpot) (by simp) o140
     have h145 := (k142 _ no63 (by rw [h133]; simp)).trans h133
     have no146 := j143 _ no63 (by rw [h133]; simp)
     have h147 := (k142 _ no62 (by rw [h134]; simp)).trans h134
     have no148 := j143 _ no62 (by rw [h134]; simp)
     refine ⟨_, rfl, .inr (RevR.skip rfl (RevR.skip rfl (RevR.skip rfl (RevR.skip rfl (RevR.skip rfl (RevR.skip rfl (RevR.cons rfl (.inl ⟨rfl, fun H1 f' H' hf hN hM => AOp.move (.ptr i47 0 0) rfl ((hf 0 rfl).trans rfl) ⟨rfl, hN⟩⟩) RevR.nil))))))), ?_⟩
     refine STR.done fun H149 m150 => ?_
     have h151 := m150 _ _ h145
     have h152 := m150 _ _ h147
     have o153 := Own.mono o144 m150
     have m154 := m141.trans m150
     refine AOps.cons rfl rfl (AOp.nilCheck (.ptr i47 0 0) rfl rfl rfl ?_)
     refine AOps.cons rfl rfl (AOp.fieldAddr rfl rfl fl_98_2 ?_ (hid := ⟨_, h151⟩))
     refine AOps.cons rfl rfl (AOp.store' (cells' := rs.map eI ++ [.int .i64 (maxL rs), v138, .map i36, .snil]) (v138) rfl rfl ts_68 h151 (by rw [Own.cells_ o153]; simp only [List.all_cons, List.all_nil, Own.one_ o153]; rfl) (by rw [Own.cells_ o153]; rfl) (blelen (len_app (m := 4) (n := 4) (k := 8) (len1 h) rfl rfl) (by omega)) (by rw [Own.cells_ o153]; exact (wr_skip (off' := 1) (len1 h) (by omega) rfl)) ?_)
     intro H155 h156 k157
     have h159 := keep k157 e52 h152
     have o160 := Own.keep o153 k157 no146
     have m161 := Mono.set m154 z53 k157
     refine AOps.nil ?_
     refine ⟨_, _, Ghost.refl, .inl rfl, _, Res.zero rfl, ?_⟩
     refine AOps.nil ?_
     change AWP _ _ _ _ _ _
     refine AWP.region (l := [0, 1]) rfl ?_
     refine AOps.cons rfl rfl (AOp.bin (.int .i64 (lq + 1)) rfl s59 rfl (iadd (by omega)) ?_)
     refine AOps.cons rfl rfl (AOp.move (.int .i64 (lq + 1)) rfl rfl ?_)
     refine AOps.nil ?_
     exact ⟨_, by omega, lq + 1, v138, rfl, rfl, s60, (have hx : (((corL lq) ++ [(SpotT.mk 1 lq 0)]) : List SpotT) = corL (lq + 1) := (by rw [corL_step hlq0] <;> rfl); Own.re o160 (congrArg List.length hx) (congrArg (fun l : List SpotT => l.flatMap eSpot) hx)), no148, no146, (h159.trans (congrArg (fun l : List SpotT => some (AB.map (plc l))) (show (((corL lq) ++ [(SpotT.mk 1 lq 0)]) : List SpotT) = (corL (lq + 1)) from by rw [corL_step hlq0] <;> rfl))), h156, m161, by omega, by omega⟩
    ·
     refine AWP.condF rfl (decide_eq_false b67) ?_
     refine AWP.exit ?_
     change AWP _ _ _ _ _ _
     refine AWP.seq ?_
     refine AWP.seq ?_
     refine AWP.region (l := [0, 1, 2, 3, 4]) rfl ?_
     refine AOps.cons rfl rfl (AOp.move (.ptr i47 0 0) rfl s60 ?_)
     refine AOps.cons rfl rfl (AOp.nilCheck (.ptr i47 0 0) rfl rfl rfl ?_)
     refine AOps.cons rfl rfl (AOp.fieldAddr rfl rfl fl_98_0 ?_ (hid := ⟨_, h65⟩))
     refine AOps.cons rfl rfl (AOp.load (.agg (rs.map eI)) rfl rfl ty_25 h65 (ld_fst (fun h => by first | rfl | cases h) (ld_all (len1 h))) ?_)
     refine AOps.cons rfl rfl (AOp.move (.int .i64 0) rfl rfl ?_)
     refine AOps.nil ?_
     change AWP _ _ _ _ _ _
     refine AWP.block ?_
     refine AWP.loop (fun q162 fq Hq => ∃ (lk : Int) (w0_2 : AV), q162 = ((4 : Int) - lk).toNat ∧ fq 19 = .int .i64 lk ∧ fq 0 = .ptr i47 0 0 ∧ fq 18 = .agg (rs.map eI) ∧ Own H0 Hq 3 w0_2 (corL 4 ++ edgO rs lk).length ((corL 4 ++ edgO rs lk).flatMap eSpot) ∧ NotId w0_2 i36 ∧ NotId w0_2 i47 ∧ Hq i36 = some (.map (plc (corL 4 ++ edgO rs lk))) ∧ Hq i47 = some (.row 0 (rs.map eI ++ [.int .i64 (maxL rs), w0_2, .map i36, .snil])) ∧ Mono H0 Hq ∧ (0 ≤ lk) ∧ (lk ≤ 4)) (k := ((4 : Int) - 0).toNat) ?_ ?_
     ·
      exact ⟨0, w0_2, rfl, rfl, s60, rfl, (have hx : ((corL lq) : List SpotT) = corL 4 ++ edgO rs 0 := (by rw [show lq = 4 by omega, edgO_0, List.append_nil]); Own.re o61 (congrArg List.length hx) (congrArg (fun l : List SpotT => l.flatMap eSpot) hx)), no62, no63, (h64.trans (congrArg (fun l : List SpotT => some (AB.map (plc l))) (show ((corL lq) : List SpotT) = (corL 4 ++ edgO rs 0) from by rw [show lq = 4 by omega, edgO_0, List.append_nil]))), h65, m66, by omega, by omega⟩
     ·
      rintro _ f164 H163 ⟨lk, w0_2, rfl, s165, s166, s167, o168, no169, no170, h171, h172, m173, hlk0, hlk1⟩
      refine AWP.seq ?_
      refine AWP.region (l := [0]) rfl ?_
      refine AOps.cons rfl rfl (AOp.bin (.bool (decide (lk < 4))) rfl s165 rfl rfl ?_)
      refine AOps.nil ?_
      change AWP _ _ _ _ _ _
      refine AWP.seq ?_
      by_cases b174 : lk < 4
      ·
       refine AWP.condT rfl (decide_eq_true b174) ?_
       refine AWP.skip ?_
       change AWP _ _ _ _ _ _
       refine AWP.seq ?_
       refine AWP.block ?_
       refine AWP.seq ?_
       refine AWP.region (l := [0, 1, 2, 3]) rfl ?_
       refine AOps.cons rfl rfl (AOp.move (.int .i64 lk) rfl s165 ?_)
       refine AOps.cons rfl rfl (AOp.indexArr (.int .i64 (at_ rs lk)) rfl s167 s165 ar_25 (by omega) (by omega) (ld1 (i := lk) (by omega) (by first | (have := h; omega) | (simp; omega))) ?_)
       refine AOps.cons rfl rfl (AOp.assign (.int .i64 lk) rfl rfl ?_)
       refine AOps.cons rfl rfl (AOp.assign (.int .i64 (at_ rs lk)) rfl rfl ?_)
       refine AOps.nil ?_
       change AWP _ _ _ _ _ _
       refine AWP.seq ?_
       have hrk := hrt lk hlk0 (by omega)
       refine AWP.region (l := [0]) rfl ?_
       refine AOps.cons rfl rfl (AOp.assign (.int .i64 1) rfl rfl ?_)
       refine AOps.nil ?_
       change AWP _ _ _ _ _ _
       refine AWP.block ?_
       refine AWP.loop (fun q175 fq Hq => ∃ (li : Int) (w0_2 : AV), q175 = ((at_ rs lk : Int) - li).toNat ∧ fq 5 = .int .i64 li ∧ fq 19 = .int .i64 lk ∧ fq 0 = .ptr i47 0 0 ∧ fq 18 = .agg (rs.map eI) ∧ fq 3 = .int .i64 lk ∧ fq 4 = .int .i64 (at_ rs lk) ∧ Own H0 Hq 3 w0_2 (corL 4 ++ edgO rs lk ++ edgI lk li).length ((corL 4 ++ edgO rs lk ++ edgI lk li).flatMap eSpot) ∧ NotId w0_2 i36 ∧ NotId w0_2 i47 ∧ Hq i36 = some (.map (plc (corL 4 ++ edgO rs lk ++ edgI lk li))) ∧ Hq i47 = some (.row 0 (rs.map eI ++ [.int .i64 (maxL rs), w0_2, .map i36, .snil])) ∧ Mono H0 Hq ∧ (1 ≤ li) ∧ (li ≤ at_ rs lk)) (k := ((at_ rs lk : Int) - 1).toNat) ?_ ?_
       ·
        exact ⟨1, w0_2, rfl, rfl, s165, s166, s167, rfl, rfl, (have hx : ((corL 4 ++ edgO rs lk) : List SpotT) = corL 4 ++ edgO rs lk ++ edgI lk 1 := (by rw [edgI_1 (Int.le_refl 1), List.append_nil]); Own.re o168 (congrArg List.length hx) (congrArg (fun l : List SpotT => l.flatMap eSpot) hx)), no169, no170, (h171.trans (congrArg (fun l : List SpotT => some (AB.map (plc l))) (show ((corL 4 ++ edgO rs lk) : List SpotT) = (corL 4 ++ edgO rs lk ++ edgI lk 1) from by rw [edgI_1 (Int.le_refl 1), List.append_nil]))), h172, m173, by omega, by omega⟩
       ·
        rintro _ f177 H176 ⟨li, w0_2, rfl, s178, s179, s180, s181, s182, s183, o184, no185, no186, h187, h188, m189, hli0, hli1⟩
        refine AWP.seq ?_
        refine AWP.seq ?_
        refine AWP.region (l := [0, 1, 2]) rfl ?_
        refine AOps.cons rfl rfl (AOp.move (.int .i64 li) rfl s178 ?_)
        refine AOps.cons rfl rfl (AOp.move (.int .i64 (at_ rs lk)) rfl s183 ?_)
        refine AOps.cons rfl rfl (AOp.bin (.bool (decide (li < at_ rs lk))) rfl rfl rfl rfl ?_)
        refine AOps.nil ?_
        change AWP _ _ _ _ _ _
        by_cases b190 : li < at_ rs lk
        ·
         refine AWP.condT rfl (decide_eq_true b190) ?_
         refine AWP.skip ?_
         change AWP _ _ _ _ _ _
         refine AWP.seq ?_
         refine AWP.block ?_
         refine AWP.region (l := [0, 1, 2, 3]) rfl ?_
         refine AOps.cons rfl rfl (AOp.move (.ptr i47 0 0) rfl s180 ?_)
         refine AOps.cons rfl rfl (AOp.move (.int .i64 lk) rfl s182 ?_)
         refine AOps.cons rfl rfl (AOp.move (.int .i64 li) rfl s178 ?_)
         refine AOps.cons rfl rfl (AOp.inline (n' := 33) («as» := [.ptr i47 0 0, .int .i64 2, .int .i64 lk, .int .i64 li]) rfl rfl (rfl) tf_80 rfl rfl rfl rfl ?_)
         refine AWP.seq ?_
         refine AWP.region (l := [0, 1, 2, 3, 4, 5]) rfl ?_
         refine AOps.cons rfl rfl (AOp.move (.int .i64 2) rfl rfl ?_)
         refine AOps.cons rfl rfl (AOp.move (.int .i64 lk) rfl rfl ?_)
         refine AOps.cons rfl rfl (AOp.move (.int .i64 li) rfl rfl ?_)
         refine AOps.cons rfl rfl (AOp.build (cells := [.int .i64 2, .int .i64 lk, .int .i64 li]) rfl tz_76 pl_76 rfl rfl ?_)
         refine AOps.cons rfl rfl (AOp.alloc rfl tz_76 ?_)
         intro i191 H192 n193 h194 k195
         have e196 := ne_new h187 n193
         have e197 := ne_new h188 n193
         have z198 := Mono.free m189 n193
         have h199 := keep k195 (ne_new h187 n193) h187
         have h200 := keep k195 (ne_new h188 n193) h188
         have o201 := Own.keep o184 k195 (Own.notnew o184 n193)
         have no202 := Own.notnew o184 n193
         have m203 := Mono.new m189 n193 k195
         refine AOps.cons rfl rfl (AOp.store' (cells' := [.int .i64 2, .int .i64 lk, .int .i64 li]) (.agg [.int .i64 2, .int .i64 lk, .int .i64 li]) rfl rfl ts_76 h194 rfl rfl rfl rfl ?_)
         intro H204 h205 k206
         have h207 := keep k206 e196 h199
         have h208 := keep k206 e197 h200
         have o210 := Own.keep o201 k206 no202
         have m211 := Mono.set m203 z198 k206
         refine AOps.nil ?_
         change AWP _ _ _ _ _ _
         refine AWP.seq ?_
         refine AWP.frzP 8 h205 z198 rfl m211 fun H212 m213 k214 => ?_
         have h215 := (k214 _ e196).trans h207
         have h216 := (k214 _ e197).trans h208
         have o217 := Own.keep o210 k214 no202
         obtain ⟨hnot, hran, hsl, hns⟩ := lay_edg hrt hlk0 (by omega) hli0 (by omega)
         refine AWP.region_quiet mixed (by kernel_rfl) 10 [10] rfl (by kernel_rfl) (Mono H212) (Mono.refl _) ?_
         refine QE.op rfl rfl (.inl ⟨rfl, fun f' H' hf hM => AOp.move (.ptr i47 0 0) rfl ((hf 0 rfl).trans rfl) ⟨rfl, hM⟩⟩) ?_
         refine QE.op rfl rfl (.inl ⟨rfl, fun f' H' hf hM => AOp.nilCheck (.ptr i47 0 0) rfl ((hf 13 rfl).trans rfl) rfl ⟨rfl, hM⟩⟩) ?_
         refine QE.op rfl rfl (.inl ⟨rfl, fun f' H' hf hM => AOp.fieldAddr rfl ((hf 14 rfl).trans rfl) fl_98_3 ⟨rfl, hM⟩ (hid := ⟨_, (hM _ _ h216)⟩)⟩) ?_
         refine QE.op rfl rfl (.inl ⟨rfl, fun f' H' hf hM => AOp.load (.map i36) rfl ((hf 15 rfl).trans rfl) ty_96 (hM _ _ h216) (ld_skip (off' := 2) (len1 h) (by omega) rfl) ⟨rfl, hM⟩⟩) ?_
         refine QE.op rfl rfl (.inl ⟨rfl, fun f' H' hf hM => AOp.loadF (.agg [.int .i64 2, .int .i64 lk, .int .i64 li]) rfl ((hf 8 rfl).trans rfl) ty_76 rfl ⟨rfl, hM⟩⟩) ?_
         refine QE.op rfl rfl (.inl ⟨rfl, fun f' H' hf hM => AOp.move (.ptr i47 0 0) rfl ((hf 0 rfl).trans rfl) ⟨rfl, hM⟩⟩) ?_
         refine QE.op rfl rfl (.inl ⟨rfl, fun f' H' hf hM => AOp.nilCheck (.ptr i47 0 0) rfl ((hf 18 rfl).trans rfl) rfl ⟨rfl, hM⟩⟩) ?_
         refine QE.op rfl rfl (.inl ⟨rfl, fun f' H' hf hM => AOp.fieldAddr rfl ((hf 19 rfl).trans rfl) fl_98_2 ⟨rfl, hM⟩ (hid := ⟨_, (hM _ _ h216)⟩)⟩) ?_
         refine QE.op rfl rfl (.inl ⟨rfl, fun f' H' hf hM => AOp.load (w0_2) rfl ((hf 20 rfl).trans rfl) ty_68 (hM _ _ h216) (ld_skip (off' := 1) (len1 h) (by omega) rfl) ⟨rfl, hM⟩⟩) ?_
         refine QE.op rfl rfl (.inl ⟨rfl, fun f' H' hf hM => AOp.len_own (m := ((corL 4 ++ edgO rs lk ++ edgI lk li).length)) rfl ((hf 21 rfl).trans rfl) o217 u_68 ⟨rfl, hM⟩⟩) ?_
         refine QE.done fun H218 m219 => ?_
         have h220 := m219 _ _ h215
         have h221 := m219 _ _ h216
         have o222 := Own.mono o217 m219
         have m223 := m213.trans m219
         refine AOps.cons rfl rfl (AOp.mapUpdate2 (es' := plc ((corL 4 ++ edgO rs lk ++ edgI lk li) ++ [(SpotT.mk 2 lk li)])) rfl h220 rfl (kokS hns) (plc_keys hran) tm96 rfl ((mput_plc hnot)) ?_)
         intro H224 h225 k226
         have h228 := keep k226 (Ne.symm e52) h221
         have o229 := Own.keep o222 k226 no185
         have m230 := Mono.set m223 z41 k226
         refine AOps.nil ?_
         change AWP _ _ _ _ _ _
         refine AWP.region_str mixed (by kernel_rfl) [(0, none), (1, none), (2, none), (3, none), (4, none), (5, none), (6, some [0, 1, 2, 3, 4]), (7, some [0])] [8, 9, 10] (by kernel_rfl) ?_
         refine STR.op rfl rfl (.inl ⟨rfl, fun H1 f' H' hf hN hM => AOp.move (.ptr i47 0 0) rfl ((hf 0 rfl).trans rfl) ⟨rfl, hN⟩⟩) ?_
         refine STR.op rfl rfl (.inl ⟨rfl, fun H1 f' H' hf hN hM => AOp.move (.ptr i47 0 0) rfl ((hf 0 rfl).trans rfl) ⟨rfl, hN⟩⟩) ?_
         refine STR.op rfl rfl (.inl ⟨rfl, fun H1 f' H' hf hN hM => AOp.nilCheck (.ptr i47 0 0) rfl ((hf 24 rfl).trans rfl) rfl ⟨rfl, hN⟩⟩) ?_
         refine STR.op rfl rfl (.inl ⟨rfl, fun H1 f' H' hf hN hM => AOp.fieldAddr rfl ((hf 25 rfl).trans rfl) fl_98_2 ⟨rfl, hN⟩ (hid := ⟨_, (hM _ _ h228)⟩)⟩) ?_
         refine STR.op rfl rfl (.inl ⟨rfl, fun H1 f' H' hf hN hM => AOp.load (w0_2) rfl ((hf 26 rfl).trans rfl) ty_68 (hM _ _ h228) (ld_skip (off' := 1) (len1 h) (by omega) rfl) ⟨rfl, hN⟩⟩) ?_
         refine STR.op rfl rfl (.inl ⟨rfl, fun H1 f' H' hf hN hM => AOp.loadF (.agg [.int .i64 2, .int .i64 lk, .int .i64 li]) rfl ((hf 8 rfl).trans rfl) ty_76 rfl ⟨rfl, hN⟩⟩) ?_
         refine STR.eff rfl rfl rfl fun f231 H232 hf233 m234 => ?_
         have h235 := m234 _ _ h228
         have h236 := m234 _ _ h225
         have o237 := Own.mono o229 m234
         have m238 := m230.trans m234
         refine AOp.buildSlice (cells := [.int .i64 2, .int .i64 lk, .int .i64 li]) rfl u_68 ts_76 tz_76 rfl (lconsP ((hf233 28 rfl).trans rfl) rfl) rfl ?_
         intro i239 H240 n241 h242 k243
         have e244 := ne_new h235 n241
         have e245 := ne_new h236 n241
         have z246 := Mono.free m238 n241
         have h247 := keep k243 (ne_new h235 n241) h235
         have h248 := keep k243 (ne_new h236 n241) h236
         have o249 := Own.keep o237 k243 (Own.notnew o237 n241)
         have no250 := Own.notnew o237 n241
         have m251 := Mono.new m238 n241 k243
         refine ⟨_, rfl, .inl (Mono.new (Mono.refl _) n241 k243), ?_⟩
         refine STR.eff rfl rfl rfl fun f252 H253 hf254 m255 => ?_
         have h256 := m255 _ _ h247
         have h257 := m255 _ _ h248
         have h258 := m255 _ _ h242
         have o259 := Own.mono o249 m255
         have m260 := m251.trans m255
         refine AOp.append_own (es := 3) (m := 1) (len := ((corL 4 ++ edgO rs lk ++ edgI lk li).length)) (old := (corL 4 ++ edgO rs lk ++ edgI lk li).flatMap eSpot) (cells := [.int .i64 2, .int .i64 lk, .int .i64 li]) rfl u_68 ts_76 tzn_76 tb_76 (by decide) ni_68 ((hf254 27 rfl).trans rfl) o259 m260 ((hf254 29 rfl).trans rfl) (.slm h258 rfl) (one_of rfl) (by decide) (by first | omega | (simp; omega)) ?_
         intro v261 H262 o263 m264 k265 j266
         have o267 := Own.snocM (xs := ((corL 4 ++ edgO rs lk ++ edgI lk li) : List SpotT)) (y := (SpotT.mk 2 lk li)) (e := eSpot) (by simp) o263
         have h268 := (k265 _ no186 (by rw [h256]; simp)).trans h256
         have no269 := j266 _ no186 (by rw [h256]; simp)
         have h270 := (k265 _ no185 (by rw [h257]; simp)).trans h257
         have no271 := j266 _ no185 (by rw [h257]; simp)
         refine ⟨_, rfl, .inr (RevR.skip rfl (RevR.skip rfl (RevR.skip rfl (RevR.skip rfl (RevR.skip rfl (RevR.skip rfl (RevR.cons rfl (.inl ⟨rfl, fun H1 f' H' hf hN hM => AOp.move (.ptr i47 0 0) rfl ((hf 0 rfl).trans rfl) ⟨rfl, hN⟩⟩) RevR.nil))))))), ?_⟩
         refine STR.done fun H272 m273 => ?_
         have h274 := m273 _ _ h268
         have h275 := m273 _ _ h270
         have o276 := Own.mono o267 m273
         have m277 := m264.trans m273
         refine AOps.cons rfl rfl (AOp.nilCheck (.ptr i47 0 0) rfl rfl rfl ?_)
         refine AOps.cons rfl rfl (AOp.fieldAddr rfl rfl fl_98_2 ?_ (hid := ⟨_, h274⟩))
         refine AOps.cons rfl rfl (AOp.store' (cells' := rs.map eI ++ [.int .i64 (maxL rs), v261, .map i36, .snil]) (v261) rfl rfl ts_68 h274 (by rw [Own.cells_ o276]; simp only [List.all_cons, List.all_nil, Own.one_ o276]; rfl) (by rw [Own.cells_ o276]; rfl) (blelen (len_app (m := 4) (n := 4) (k := 8) (len1 h) rfl rfl) (by omega)) (by rw [Own.cells_ o276]; exact (wr_skip (off' := 1) (len1 h) (by omega) rfl)) ?_)
         intro H278 h279 k280
         have h282 := keep k280 e52 h275
         have o283 := Own.keep o276 k280 no269
         have m284 := Mono.set m277 z53 k280
         refine AOps.nil ?_
         refine ⟨_, _, Ghost.refl, .inl rfl, _, Res.zero rfl, ?_⟩
         refine AOps.nil ?_
         change AWP _ _ _ _ _ _
         refine AWP.region (l := [0, 1, 2]) rfl ?_
         refine AOps.cons rfl rfl (AOp.move (.int .i64 li) rfl s178 ?_)
         refine AOps.cons rfl rfl (AOp.bin (.int .i64 (li + 1)) rfl rfl rfl (iadd (by omega)) ?_)
         refine AOps.cons rfl rfl (AOp.assign (.int .i64 (li + 1)) rfl rfl ?_)
         refine AOps.nil ?_
         exact ⟨_, by omega, li + 1, v261, rfl, rfl, s179, s180, s181, s182, s183, (have hx : (((corL 4 ++ edgO rs lk ++ edgI lk li) ++ [(SpotT.mk 2 lk li)]) : List SpotT) = corL 4 ++ edgO rs lk ++ edgI lk (li + 1) := (by rw [edgI_step hli0, ← List.append_assoc] <;> rfl); Own.re o283 (congrArg List.length hx) (congrArg (fun l : List SpotT => l.flatMap eSpot) hx)), no271, no269, (h282.trans (congrArg (fun l : List SpotT => some (AB.map (plc l))) (show (((corL 4 ++ edgO rs lk ++ edgI lk li) ++ [(SpotT.mk 2 lk li)]) : List SpotT) = (corL 4 ++ edgO rs lk ++ edgI lk (li + 1)) from by rw [edgI_step hli0, ← List.append_assoc] <;> rfl))), h279, m284, by omega, by omega⟩
        ·
         refine AWP.condF rfl (decide_eq_false b190) ?_
         refine AWP.exit ?_
         change AWP _ _ _ _ _ _
         refine AWP.region (l := [0, 1]) rfl ?_
         refine AOps.cons rfl rfl (AOp.bin (.int .i64 (lk + 1)) rfl s179 rfl (iadd (by omega)) ?_)
         refine AOps.cons rfl rfl (AOp.move (.int .i64 (lk + 1)) rfl rfl ?_)
         refine AOps.nil ?_
         exact ⟨_, by omega, lk + 1, w0_2, rfl, rfl, s180, s181, (have hx : ((corL 4 ++ edgO rs lk ++ edgI lk li) : List SpotT) = corL 4 ++ edgO rs (lk + 1) := (by rw [show li = at_ rs lk by omega, edgO_step hlk0, List.append_assoc]); Own.re o184 (congrArg List.length hx) (congrArg (fun l : List SpotT => l.flatMap eSpot) hx)), no185, no186, (h187.trans (congrArg (fun l : List SpotT => some (AB.map (plc l))) (show ((corL 4 ++ edgO rs lk ++ edgI lk li) : List SpotT) = (corL 4 ++ edgO rs (lk + 1)) from by rw [show li = at_ rs lk by omega, edgO_step hlk0, List.append_assoc]))), h188, m189, by omega, by omega⟩
      ·
       refine AWP.condF rfl (decide_eq_false b174) ?_
       refine AWP.exit ?_
       change AWP _ _ _ _ _ _
       refine AWP.seq ?_
       refine AWP.region (l := [0]) rfl ?_
       refine AOps.cons rfl rfl (AOp.assign (.int .i64 1) rfl rfl ?_)
       refine AOps.nil ?_
       change AWP _ _ _ _ _ _
       refine AWP.block ?_
       refine AWP.loop (fun q285 fq Hq => ∃ (lb : Int) (w0_2 : AV), q285 = ((maxL rs : Int) - lb).toNat ∧ fq 6 = .int .i64 lb ∧ fq 0 = .ptr i47 0 0 ∧ Own H0 Hq 3 w0_2 (corL 4 ++ edgO rs 4 ++ innO (maxL rs) lb).length ((corL 4 ++ edgO rs 4 ++ innO (maxL rs) lb).flatMap eSpot) ∧ NotId w0_2 i36 ∧ NotId w0_2 i47 ∧ Hq i36 = some (.map (plc (corL 4 ++ edgO rs 4 ++ innO (maxL rs) lb))) ∧ Hq i47 = some (.row 0 (rs.map eI ++ [.int .i64 (maxL rs), w0_2, .map i36, .snil])) ∧ Mono H0 Hq ∧ (1 ≤ lb) ∧ (lb ≤ maxL rs)) (k := ((maxL rs : Int) - 1).toNat) ?_ ?_
       ·
        exact ⟨1, w0_2, rfl, rfl, s166, (have hx : ((corL 4 ++ edgO rs lk) : List SpotT) = corL 4 ++ edgO rs 4 ++ innO (maxL rs) 1 := (by rw [show lk = 4 by omega, innO_1 (Int.le_refl 1), List.append_nil]); Own.re o168 (congrArg List.length hx) (congrArg (fun l : List SpotT => l.flatMap eSpot) hx)), no169, no170, (h171.trans (congrArg (fun l : List SpotT => some (AB.map (plc l))) (show ((corL 4 ++ edgO rs lk) : List SpotT) = (corL 4 ++ edgO rs 4 ++ innO (maxL rs) 1) from by rw [show lk = 4 by omega, innO_1 (Int.le_refl 1), List.append_nil]))), h172, m173, by omega, by omega⟩
       ·
        rintro _ f287 H286 ⟨lb, w0_2, rfl, s288, s289, o290, no291, no292, h293, h294, m295, hlb0, hlb1⟩
        refine AWP.seq ?_
        refine AWP.seq ?_
        refine AWP.region (l := [0, 1, 2, 3, 4, 5]) rfl ?_
        refine AOps.cons rfl rfl (AOp.move (.int .i64 lb) rfl s288 ?_)
        refine AOps.cons rfl rfl (AOp.move (.ptr i47 0 0) rfl s289 ?_)
        refine AOps.cons rfl rfl (AOp.nilCheck (.ptr i47 0 0) rfl rfl rfl ?_)
        refine AOps.cons rfl rfl (AOp.fieldAddr rfl rfl fl_98_1 ?_ (hid := ⟨_, h294⟩))
        refine AOps.cons rfl rfl (AOp.load (.int .i64 (maxL rs)) rfl rfl ty_3 h294 (ld_skip (off' := 0) (len1 h) (by omega) rfl) ?_)
        refine AOps.cons rfl rfl (AOp.bin (.bool (decide (lb < maxL rs))) rfl rfl rfl rfl ?_)
        refine AOps.nil ?_
        change AWP _ _ _ _ _ _
        by_cases b296 : lb < maxL rs
        ·
         refine AWP.condT rfl (decide_eq_true b296) ?_
         refine AWP.skip ?_
         change AWP _ _ _ _ _ _
         refine AWP.seq ?_
         refine AWP.block ?_
         refine AWP.seq ?_
         refine AWP.region (l := [0]) rfl ?_
         refine AOps.cons rfl rfl (AOp.assign (.int .i64 1) rfl rfl ?_)
         refine AOps.nil ?_
         change AWP _ _ _ _ _ _
         refine AWP.block ?_
         refine AWP.loop (fun q297 fq Hq => ∃ (la : Int) (w0_2 : AV), q297 = ((maxL rs : Int) - la).toNat ∧ fq 7 = .int .i64 la ∧ fq 6 = .int .i64 lb ∧ fq 0 = .ptr i47 0 0 ∧ Own H0 Hq 3 w0_2 (corL 4 ++ edgO rs 4 ++ innO (maxL rs) lb ++ innI lb la).length ((corL 4 ++ edgO rs 4 ++ innO (maxL rs) lb ++ innI lb la).flatMap eSpot) ∧ NotId w0_2 i36 ∧ NotId w0_2 i47 ∧ Hq i36 = some (.map (plc (corL 4 ++ edgO rs 4 ++ innO (maxL rs) lb ++ innI lb la))) ∧ Hq i47 = some (.row 0 (rs.map eI ++ [.int .i64 (maxL rs), w0_2, .map i36, .snil])) ∧ Mono H0 Hq ∧ (1 ≤ la) ∧ (la ≤ maxL rs)) (k := ((maxL rs : Int) - 1).toNat) ?_ ?_
         ·
          exact ⟨1, w0_2, rfl, rfl, s288, s289, (have hx : ((corL 4 ++ edgO rs 4 ++ innO (maxL rs) lb) : List SpotT) = corL 4 ++ edgO rs 4 ++ innO (maxL rs) lb ++ innI lb 1 := (by rw [innI_1 (Int.le_refl 1), List.append_nil]); Own.re o290 (congrArg List.length hx) (congrArg (fun l : List SpotT => l.flatMap eSpot) hx)), no291, no292, (h293.trans (congrArg (fun l : List SpotT => some (AB.map (plc l))) (show ((corL 4 ++ edgO rs 4 ++ innO (maxL rs) lb) : List SpotT) = (corL 4 ++ edgO rs 4 ++ innO (maxL rs) lb ++ innI lb 1) from by rw [innI_1 (Int.le_refl 1), List.append_nil]))), h294, m295, by omega, by omega⟩
         ·
          rintro _ f299 H298 ⟨la, w0_2, rfl, s300, s301, s302, o303, no304, no305, h306, h307, m308, hla0, hla1⟩
          refine AWP.seq ?_
          refine AWP.seq ?_
          refine AWP.region (l := [0, 1, 2, 3, 4, 5]) rfl ?_
          refine AOps.cons rfl rfl (AOp.move (.int .i64 la) rfl s300 ?_)
          refine AOps.cons rfl rfl (AOp.move (.ptr i47 0 0) rfl s302 ?_)
          refine AOps.cons rfl rfl (AOp.nilCheck (.ptr i47 0 0) rfl rfl rfl ?_)
          refine AOps.cons rfl rfl (AOp.fieldAddr rfl rfl fl_98_1 ?_ (hid := ⟨_, h307⟩))
          refine AOps.cons rfl rfl (AOp.load (.int .i64 (maxL rs)) rfl rfl ty_3 h307 (ld_skip (off' := 0) (len1 h) (by omega) rfl) ?_)
          refine AOps.cons rfl rfl (AOp.bin (.bool (decide (la < maxL rs))) rfl rfl rfl rfl ?_)
          refine AOps.nil ?_
          change AWP _ _ _ _ _ _
          by_cases b309 : la < maxL rs
          ·
           refine AWP.condT rfl (decide_eq_true b309) ?_
           refine AWP.skip ?_
           change AWP _ _ _ _ _ _
           refine AWP.seq ?_
           refine AWP.block ?_
           refine AWP.region (l := [0, 1, 2, 3]) rfl ?_
           refine AOps.cons rfl rfl (AOp.move (.ptr i47 0 0) rfl s302 ?_)
           refine AOps.cons rfl rfl (AOp.move (.int .i64 la) rfl s300 ?_)
           refine AOps.cons rfl rfl (AOp.move (.int .i64 lb) rfl s301 ?_)
           refine AOps.cons rfl rfl (AOp.inline (n' := 33) («as» := [.ptr i47 0 0, .int .i64 3, .int .i64 la, .int .i64 lb]) rfl rfl (rfl) tf_80 rfl rfl rfl rfl ?_)
           refine AWP.seq ?_
           refine AWP.region (l := [0, 1, 2, 3, 4, 5]) rfl ?_
           refine AOps.cons rfl rfl (AOp.move (.int .i64 3) rfl rfl ?_)
           refine AOps.cons rfl rfl (AOp.move (.int .i64 la) rfl rfl ?_)
           refine AOps.cons rfl rfl (AOp.move (.int .i64 lb) rfl rfl ?_)
           refine AOps.cons rfl rfl (AOp.build (cells := [.int .i64 3, .int .i64 la, .int .i64 lb]) rfl tz_76 pl_76 rfl rfl ?_)
           refine AOps.cons rfl rfl (AOp.alloc rfl tz_76 ?_)
           intro i310 H311 n312 h313 k314
           have e315 := ne_new h306 n312
           have e316 := ne_new h307 n312
           have z317 := Mono.free m308 n312
           have h318 := keep k314 (ne_new h306 n312) h306
           have h319 := keep k314 (ne_new h307 n312) h307
           have o320 := Own.keep o303 k314 (Own.notnew o303 n312)
           have no321 := Own.notnew o303 n312
           have m322 := Mono.new m308 n312 k314
           refine AOps.cons rfl rfl (AOp.store' (cells' := [.int .i64 3, .int .i64 la, .int .i64 lb]) (.agg [.int .i64 3, .int .i64 la, .int .i64 lb]) rfl rfl ts_76 h313 rfl rfl rfl rfl ?_)
           intro H323 h324 k325
           have h326 := keep k325 e315 h318
           have h327 := keep k325 e316 h319
           have o329 := Own.keep o320 k325 no321
           have m330 := Mono.set m322 z317 k325
           refine AOps.nil ?_
           change AWP _ _ _ _ _ _
           refine AWP.seq ?_
           refine AWP.frzP 8 h324 z317 rfl m330 fun H331 m332 k333 => ?_
           have h334 := (k333 _ e315).trans h326
           have h335 := (k333 _ e316).trans h327
           have o336 := Own.keep o329 k333 no321
           obtain ⟨hnot, hran, hsl, hns⟩ := lay_inn hrt hm16 hlb0 (by omega) hla0 (by omega)
           refine AWP.region_quiet mixed (by kernel_rfl) 10 [10] rfl (by kernel_rfl) (Mono H331) (Mono.refl _) ?_
           refine QE.op rfl rfl (.inl ⟨rfl, fun f' H' hf hM => AOp.move (.ptr i47 0 0) rfl ((hf 0 rfl).trans rfl) ⟨rfl, hM⟩⟩) ?_
           refine QE.op rfl rfl (.inl ⟨rfl, fun f' H' hf hM => AOp.nilCheck (.ptr i47 0 0) rfl ((hf 13 rfl).trans rfl) rfl ⟨rfl, hM⟩⟩) ?_
           refine QE.op rfl rfl (.inl ⟨rfl, fun f' H' hf hM => AOp.fieldAddr rfl ((hf 14 rfl).trans rfl) fl_98_3 ⟨rfl, hM⟩ (hid := ⟨_, (hM _ _ h335)⟩)⟩) ?_
           refine QE.op rfl rfl (.inl ⟨rfl, fun f' H' hf hM => AOp.load (.map i36) rfl ((hf 15 rfl).trans rfl) ty_96 (hM _ _ h335) (ld_skip (off' := 2) (len1 h) (by omega) rfl) ⟨rfl, hM⟩⟩) ?_
           refine QE.op rfl rfl (.inl ⟨rfl, fun f' H' hf hM => AOp.loadF (.agg [.int .i64 3, .int .i64 la, .int .i64 lb]) rfl ((hf 8 rfl).trans rfl) ty_76 rfl ⟨rfl, hM⟩⟩) ?_
           refine QE.op rfl rfl (.inl ⟨rfl, fun f' H' hf hM => AOp.move (.ptr i47 0 0) rfl ((hf 0 rfl).trans rfl) ⟨rfl, hM⟩⟩) ?_
           refine QE.op rfl rfl (.inl ⟨rfl, fun f' H' hf hM => AOp.nilCheck (.ptr i47 0 0) rfl ((hf 18 rfl).trans rfl) rfl ⟨rfl, hM⟩⟩) ?_
           refine QE.op rfl rfl (.inl ⟨rfl, fun f' H' hf hM => AOp.fieldAddr rfl ((hf 19 rfl).trans rfl) fl_98_2 ⟨rfl, hM⟩ (hid := ⟨_, (hM _ _ h335)⟩)⟩) ?_
           refine QE.op rfl rfl (.inl ⟨rfl, fun f' H' hf hM => AOp.load (w0_2) rfl ((hf 20 rfl).trans rfl) ty_68 (hM _ _ h335) (ld_skip (off' := 1) (len1 h) (by omega) rfl) ⟨rfl, hM⟩⟩) ?_
           refine QE.op rfl rfl (.inl ⟨rfl, fun f' H' hf hM => AOp.len_own (m := ((corL 4 ++ edgO rs 4 ++ innO (maxL rs) lb ++ innI lb la).length)) rfl ((hf 21 rfl).trans rfl) o336 u_68 ⟨rfl, hM⟩⟩) ?_
           refine QE.done fun H337 m338 => ?_
           have h339 := m338 _ _ h334
           have h340 := m338 _ _ h335
           have o341 := Own.mono o336 m338
           have m342 := m332.trans m338
           refine AOps.cons rfl rfl (AOp.mapUpdate2 (es' := plc ((corL 4 ++ edgO rs 4 ++ innO (maxL rs) lb ++ innI lb la) ++ [(SpotT.mk 3 la lb)])) rfl h339 rfl (kokS hns) (plc_keys hran) tm96 rfl ((mput_plc hnot)) ?_)
           intro H343 h344 k345
           have h347 := keep k345 (Ne.symm e52) h340
           have o348 := Own.keep o341 k345 no304
           have m349 := Mono.set m342 z41 k345
           refine AOps.nil ?_
           change AWP _ _ _ _ _ _
           refine AWP.region_str mixed (by kernel_rfl) [(0, none), (1, none), (2, none), (3, none), (4, none), (5, none), (6, some [0, 1, 2, 3, 4]), (7, some [0])] [8, 9, 10] (by kernel_rfl) ?_
           refine STR.op rfl rfl (.inl ⟨rfl, fun H1 f' H' hf hN hM => AOp.move (.ptr i47 0 0) rfl ((hf 0 rfl).trans rfl) ⟨rfl, hN⟩⟩) ?_
           refine STR.op rfl rfl (.inl ⟨rfl, fun H1 f' H' hf hN hM => AOp.move (.ptr i47 0 0) rfl ((hf 0 rfl).trans rfl) ⟨rfl, hN⟩⟩) ?_
           refine STR.op rfl rfl (.inl ⟨rfl, fun H1 f' H' hf hN hM => AOp.nilCheck (.ptr i47 0 0) rfl ((hf 24 rfl).trans rfl) rfl ⟨rfl, hN⟩⟩) ?_
           refine STR.op rfl rfl (.inl ⟨rfl, fun H1 f' H' hf hN hM => AOp.fieldAddr rfl ((hf 25 rfl).trans rfl) fl_98_2 ⟨rfl, hN⟩ (hid := ⟨_, (hM _ _ h347)⟩)⟩) ?_
           refine STR.op rfl rfl (.inl ⟨rfl, fun H1 f' H' hf hN hM => AOp.load (w0_2) rfl ((hf 26 rfl).trans rfl) ty_68 (hM _ _ h347) (ld_skip (off' := 1) (len1 h) (by omega) rfl) ⟨rfl, hN⟩⟩) ?_
           refine STR.op rfl rfl (.inl ⟨rfl, fun H1 f' H' hf hN hM => AOp.loadF (.agg [.int .i64 3, .int .i64 la, .int .i64 lb]) rfl ((hf 8 rfl).trans rfl) ty_76 rfl ⟨rfl, hN⟩⟩) ?_
           refine STR.eff rfl rfl rfl fun f350 H351 hf352 m353 => ?_
           have h354 := m353 _ _ h347
           have h355 := m353 _ _ h344
           have o356 := Own.mono o348 m353
           have m357 := m349.trans m353
           refine AOp.buildSlice (cells := [.int .i64 3, .int .i64 la, .int .i64 lb]) rfl u_68 ts_76 tz_76 rfl (lconsP ((hf352 28 rfl).trans rfl) rfl) rfl ?_
           intro i358 H359 n360 h361 k362
           have e363 := ne_new h354 n360
           have e364 := ne_new h355 n360
           have z365 := Mono.free m357 n360
           have h366 := keep k362 (ne_new h354 n360) h354
           have h367 := keep k362 (ne_new h355 n360) h355
           have o368 := Own.keep o356 k362 (Own.notnew o356 n360)
           have no369 := Own.notnew o356 n360
           have m370 := Mono.new m357 n360 k362
           refine ⟨_, rfl, .inl (Mono.new (Mono.refl _) n360 k362), ?_⟩
           refine STR.eff rfl rfl rfl fun f371 H372 hf373 m374 => ?_
           have h375 := m374 _ _ h366
           have h376 := m374 _ _ h367
           have h377 := m374 _ _ h361
           have o378 := Own.mono o368 m374
           have m379 := m370.trans m374
           refine AOp.append_own (es := 3) (m := 1) (len := ((corL 4 ++ edgO rs 4 ++ innO (maxL rs) lb ++ innI lb la).length)) (old := (corL 4 ++ edgO rs 4 ++ innO (maxL rs) lb ++ innI lb la).flatMap eSpot) (cells := [.int .i64 3, .int .i64 la, .int .i64 lb]) rfl u_68 ts_76 tzn_76 tb_76 (by decide) ni_68 ((hf373 27 rfl).trans rfl) o378 m379 ((hf373 29 rfl).trans rfl) (.slm h377 rfl) (one_of rfl) (by decide) (by first | omega | (simp; omega)) ?_
           intro v380 H381 o382 m383 k384 j385
           have o386 := Own.snocM (xs := ((corL 4 ++ edgO rs 4 ++ innO (maxL rs) lb ++ innI lb la) : List SpotT)) (y := (SpotT.mk 3 la lb)) (e := eSpot) (by simp) o382
           have h387 := (k384 _ no305 (by rw [h375]; simp)).trans h375
           have no388 := j385 _ no305 (by rw [h375]; simp)
           have h389 := (k384 _ no304 (by rw [h376]; simp)).trans h376
           have no390 := j385 _ no304 (by rw [h376]; simp)
           refine ⟨_, rfl, .inr (RevR.skip rfl (RevR.skip rfl (RevR.skip rfl (RevR.skip rfl (RevR.skip rfl (RevR.skip rfl (RevR.cons rfl (.inl ⟨rfl, fun H1 f' H' hf hN hM => AOp.move (.ptr i47 0 0) rfl ((hf 0 rfl).trans rfl) ⟨rfl, hN⟩⟩) RevR.nil))))))), ?_⟩
           refine STR.done fun H391 m392 => ?_
           have h393 := m392 _ _ h387
           have h394 := m392 _ _ h389
           have o395 := Own.mono o386 m392
           have m396 := m383.trans m392
           refine AOps.cons rfl rfl (AOp.nilCheck (.ptr i47 0 0) rfl rfl rfl ?_)
           refine AOps.cons rfl rfl (AOp.fieldAddr rfl rfl fl_98_2 ?_ (hid := ⟨_, h393⟩))
           refine AOps.cons rfl rfl (AOp.store' (cells' := rs.map eI ++ [.int .i64 (maxL rs), v380, .map i36, .snil]) (v380) rfl rfl ts_68 h393 (by rw [Own.cells_ o395]; simp only [List.all_cons, List.all_nil, Own.one_ o395]; rfl) (by rw [Own.cells_ o395]; rfl) (blelen (len_app (m := 4) (n := 4) (k := 8) (len1 h) rfl rfl) (by omega)) (by rw [Own.cells_ o395]; exact (wr_skip (off' := 1) (len1 h) (by omega) rfl)) ?_)
           intro H397 h398 k399
           have h401 := keep k399 e52 h394
           have o402 := Own.keep o395 k399 no388
           have m403 := Mono.set m396 z53 k399
           refine AOps.nil ?_
           refine ⟨_, _, Ghost.refl, .inl rfl, _, Res.zero rfl, ?_⟩
           refine AOps.nil ?_
           change AWP _ _ _ _ _ _
           refine AWP.region (l := [0, 1, 2]) rfl ?_
           refine AOps.cons rfl rfl (AOp.move (.int .i64 la) rfl s300 ?_)
           refine AOps.cons rfl rfl (AOp.bin (.int .i64 (la + 1)) rfl rfl rfl (iadd (by omega)) ?_)
           refine AOps.cons rfl rfl (AOp.assign (.int .i64 (la + 1)) rfl rfl ?_)
           refine AOps.nil ?_
           exact ⟨_, by omega, la + 1, v380, rfl, rfl, s301, s302, (have hx : (((corL 4 ++ edgO rs 4 ++ innO (maxL rs) lb ++ innI lb la) ++ [(SpotT.mk 3 la lb)]) : List SpotT) = corL 4 ++ edgO rs 4 ++ innO (maxL rs) lb ++ innI lb (la + 1) := (by rw [innI_step hla0, ← List.append_assoc] <;> rfl); Own.re o402 (congrArg List.length hx) (congrArg (fun l : List SpotT => l.flatMap eSpot) hx)), no390, no388, (h401.trans (congrArg (fun l : List SpotT => some (AB.map (plc l))) (show (((corL 4 ++ edgO rs 4 ++ innO (maxL rs) lb ++ innI lb la) ++ [(SpotT.mk 3 la lb)]) : List SpotT) = (corL 4 ++ edgO rs 4 ++ innO (maxL rs) lb ++ innI lb (la + 1)) from by rw [innI_step hla0, ← List.append_assoc] <;> rfl))), h398, m403, by omega, by omega⟩
          ·
           refine AWP.condF rfl (decide_eq_false b309) ?_
           refine AWP.exit ?_
           change AWP _ _ _ _ _ _
           refine AWP.region (l := [0, 1, 2]) rfl ?_
           refine AOps.cons rfl rfl (AOp.move (.int .i64 lb) rfl s301 ?_)
           refine AOps.cons rfl rfl (AOp.bin (.int .i64 (lb + 1)) rfl rfl rfl (iadd (by omega)) ?_)
           refine AOps.cons rfl rfl (AOp.assign (.int .i64 (lb + 1)) rfl rfl ?_)
           refine AOps.nil ?_
           exact ⟨_, by omega, lb + 1, w0_2, rfl, rfl, s302, (have hx : ((corL 4 ++ edgO rs 4 ++ innO (maxL rs) lb ++ innI lb la) : List SpotT) = corL 4 ++ edgO rs 4 ++ innO (maxL rs) (lb + 1) := (by rw [show la = maxL rs by omega, innO_step hlb0, ← List.append_assoc]); Own.re o303 (congrArg List.length hx) (congrArg (fun l : List SpotT => l.flatMap eSpot) hx)), no304, no305, (h306.trans (congrArg (fun l : List SpotT => some (AB.map (plc l))) (show ((corL 4 ++ edgO rs 4 ++ innO (maxL rs) lb ++ innI lb la) : List SpotT) = (corL 4 ++ edgO rs 4 ++ innO (maxL rs) (lb + 1)) from by rw [show la = maxL rs by omega, innO_step hlb0, ← List.append_assoc]))), h307, m308, by omega, by omega⟩
        ·
         refine AWP.condF rfl (decide_eq_false b296) ?_
         refine AWP.exit ?_
         refine ⟨_, _, Ghost.refl, .inl rfl, _, Res.zero rfl, ?_⟩
         refine AOps.nil ?_
         change AWP _ _ _ _ _ _
         refine AWP.seq ?_
         refine AWP.seq ?_
         have hse404 : (corL 4 ++ edgO rs 4 ++ innO (maxL rs) lb : List SpotT) = spotsL rs (maxL rs) := by rw [show lb = maxL rs by omega] <;> rfl
         have o405 := Own.re o290 (congrArg List.length hse404) (congrArg (fun l : List SpotT => l.flatMap eSpot) hse404)
         have h406 := h293.trans (congrArg (fun l : List SpotT => some (AB.map (plc l))) hse404)
         have hb := 0
         refine AWP.region (l := [0, 1, 2, 3, 4]) rfl ?_
         refine AOps.cons rfl rfl (AOp.move (.ptr i47 0 0) rfl rfl ?_)
         refine AOps.cons rfl rfl (AOp.nilCheck (.ptr i47 0 0) rfl rfl rfl ?_)
         refine AOps.cons rfl rfl (AOp.fieldAddr rfl rfl fl_98_1 ?_ (hid := ⟨_, h294⟩))
         refine AOps.cons rfl rfl (AOp.load (.int .i64 (maxL rs)) rfl rfl ty_3 h294 (ld_skip (off' := 0) (len1 h) (by omega) rfl) ?_)
         refine AOps.cons rfl rfl (AOp.bin (.bool (decide (maxL rs = 1))) rfl rfl rfl ieq ?_)
         refine AOps.nil ?_
         change AWP _ _ _ _ _ _
         by_cases b407 : maxL rs = 1
         ·
          refine AWP.condT rfl (decide_eq_true b407) ?_
          refine AWP.seq ?_
          refine AWP.region (l := [0, 1]) rfl ?_
          refine AOps.cons rfl rfl (AOp.move (.ptr i47 0 0) rfl rfl ?_)
          refine AOps.cons rfl rfl (AOp.inline (n' := 21) («as» := [.ptr i47 0 0, .int .i64 0, .int .i64 1, .int .i64 2]) rfl rfl (rfl) tf_49 rfl rfl rfl rfl ?_)
          have hsl : ([] : List I3T).length ≤ 2000 := by simp
          refine AWP.region (l := [0, 1, 2, 3, 4, 5, 6, 7, 8, 9, 10, 11, 12, 13]) rfl ?_
          refine AOps.cons rfl rfl (AOp.move (.ptr i47 0 0) rfl rfl ?_)
          refine AOps.cons rfl rfl (AOp.move (.ptr i47 0 0) rfl rfl ?_)
          refine AOps.cons rfl rfl (AOp.nilCheck (.ptr i47 0 0) rfl rfl rfl ?_)
          refine AOps.cons rfl rfl (AOp.fieldAddr rfl rfl fl_98_4 ?_ (hid := ⟨_, h294⟩))
          refine AOps.cons rfl rfl (AOp.load (.snil) rfl rfl ty_36 h294 (ld_skip (off' := 3) (len1 h) (by omega) rfl) ?_)
          refine AOps.cons rfl rfl (AOp.move (.int .i64 0) rfl rfl ?_)
          refine AOps.cons rfl rfl (AOp.move (.int .i64 1) rfl rfl ?_)
          refine AOps.cons rfl rfl (AOp.move (.int .i64 2) rfl rfl ?_)
          refine AOps.cons rfl rfl (AOp.build (cells := [.int .i64 0, .int .i64 1, .int .i64 2]) rfl tz_59 pl_59 rfl rfl ?_)
          refine AOps.cons rfl rfl (AOp.buildSlice (cells := [.int .i64 0, .int .i64 1, .int .i64 2]) rfl u_36 ts_59 tz_59 rfl rfl rfl ?_)
          intro i408 H409 n410 h411 k412
          have e413 := ne_new h406 n410
          have e414 := ne_new h294 n410
          have z415 := Mono.free m295 n410
          have h416 := keep k412 (ne_new h406 n410) h406
          have h417 := keep k412 (ne_new h294 n410) h294
          have o418 := Own.keep o405 k412 (Own.notnew o405 n410)
          have no419 := Own.notnew o405 n410
          have m420 := Mono.new m295 n410 k412
          refine AOps.cons rfl rfl (AOp.append_own (es := 3) (m := 1) (len := 0) (old := []) (cells := [.int .i64 0, .int .i64 1, .int .i64 2]) rfl u_36 ts_59 tzn_59 tb_59 (by decide) ni_36 rfl (Own.nil H0 H409 3) m420 rfl (.slm h411 rfl) (one_of rfl) (by decide) (by first | omega | (simp; omega)) ?_)
          intro v421 H422 o423 m424 k425 j426
          have o427 := Own.snocM (xs := ([] : List I3T)) (y := (I3T.mk 0 1 2)) (e := eI3) (by simp) o423
          have h428 := (k425 _ (NotId.nil _) (by rw [h416]; simp)).trans h416
          have no429 := j426 _ (NotId.nil _) (by rw [h416]; simp)
          have h430 := (k425 _ (NotId.nil _) (by rw [h417]; simp)).trans h417
          have no431 := j426 _ (NotId.nil _) (by rw [h417]; simp)
          have sp433 := Own.sep o418 (Sep.nilR _) j426
          have o432 := Own.stay o418 (Sep.nilR _) k425
          refine AOps.cons rfl rfl (AOp.nilCheck (.ptr i47 0 0) rfl rfl rfl ?_)
          refine AOps.cons rfl rfl (AOp.fieldAddr rfl rfl fl_98_4 ?_ (hid := ⟨_, h430⟩))
          refine AOps.cons rfl rfl (AOp.store' (cells' := rs.map eI ++ [.int .i64 (maxL rs), w0_2, .map i36, v421]) (v421) rfl rfl ts_36 h430 (by rw [Own.cells_ o427]; simp only [List.all_cons, List.all_nil, Own.one_ o427]; rfl) (by rw [Own.cells_ o427]; rfl) (blelen (len_app (m := 4) (n := 4) (k := 8) (len1 h) rfl rfl) (by omega)) (by rw [Own.cells_ o427]; exact (wr_skip (off' := 3) (len1 h) (by omega) rfl)) ?_)
          intro H434 h435 k436
          have h437 := keep k436 e52 h428
          have o439 := Own.keep o432 k436 no292
          have o440 := Own.keep o427 k436 no431
          have m441 := Mono.set m424 z53 k436
          refine AOps.nil ?_
          refine ⟨_, _, Ghost.refl, .inl rfl, _, Res.zero rfl, ?_⟩
          refine AOps.nil ?_
          change AWP _ _ _ _ _ _
          refine AWP.seq ?_
          refine AWP.region (l := [0, 1]) rfl ?_
          refine AOps.cons rfl rfl (AOp.move (.ptr i47 0 0) rfl rfl ?_)
          refine AOps.cons rfl rfl (AOp.inline (n' := 21) («as» := [.ptr i47 0 0, .int .i64 0, .int .i64 2, .int .i64 3]) rfl rfl (rfl) tf_49 rfl rfl rfl rfl ?_)
          have hsl : (([] : List I3T) ++ [(I3T.mk 0 1 2)]).length ≤ 2000 := by simp
          refine AWP.region (l := [0, 1, 2, 3, 4, 5, 6, 7, 8, 9, 10, 11, 12, 13]) rfl ?_
          refine AOps.cons rfl rfl (AOp.move (.ptr i47 0 0) rfl rfl ?_)
          refine AOps.cons rfl rfl (AOp.move (.ptr i47 0 0) rfl rfl ?_)
          refine AOps.cons rfl rfl (AOp.nilCheck (.ptr i47 0 0) rfl rfl rfl ?_)
          refine AOps.cons rfl rfl (AOp.fieldAddr rfl rfl fl_98_4 ?_ (hid := ⟨_, h435⟩))
          refine AOps.cons rfl rfl (AOp.load (v421) rfl rfl ty_36 h435 (ld_skip (off' := 3) (len1 h) (by omega) rfl) ?_)
          refine AOps.cons rfl rfl (AOp.move (.int .i64 0) rfl rfl ?_)
          refine AOps.cons rfl rfl (AOp.move (.int .i64 2) rfl rfl ?_)
          refine AOps.cons rfl rfl (AOp.move (.int .i64 3) rfl rfl ?_)
          refine AOps.cons rfl rfl (AOp.build (cells := [.int .i64 0, .int .i64 2, .int .i64 3]) rfl tz_59 pl_59 rfl rfl ?_)
          refine AOps.cons rfl rfl (AOp.buildSlice (cells := [.int .i64 0, .int .i64 2, .int .i64 3]) rfl u_36 ts_59 tz_59 rfl rfl rfl ?_)
          intro i442 H443 n444 h445 k446
          have e447 := ne_new h437 n444
          have e448 := ne_new h435 n444
          have z449 := Mono.free m441 n444
          have h450 := keep k446 (ne_new h437 n444) h437
          have h451 := keep k446 (ne_new h435 n444) h435
          have o452 := Own.keep o439 k446 (Own.notnew o439 n444)
          have no453 := Own.notnew o439 n444
          have o454 := Own.keep o440 k446 (Own.notnew o440 n444)
          have no455 := Own.notnew o440 n444
          have m456 := Mono.new m441 n444 k446
          refine AOps.cons rfl rfl (AOp.append_own (es := 3) (m := 1) (len := ((([] : List I3T) ++ [(I3T.mk 0 1 2)]).length)) (old := (([] : List I3T) ++ [(I3T.mk 0 1 2)]).flatMap eI3) (cells := [.int .i64 0, .int .i64 2, .int .i64 3]) rfl u_36 ts_59 tzn_59 tb_59 (by decide) ni_36 rfl o454 m456 rfl (.slm h445 rfl) (one_of rfl) (by decide) (by first | omega | (simp; omega)) ?_)
          intro v457 H458 o459 m460 k461 j462
          have o463 := Own.snocM (xs := ((([] : List I3T) ++ [(I3T.mk 0 1 2)]) : List I3T)) (y := (I3T.mk 0 2 3)) (e := eI3) (by simp) o459
          have h464 := (k461 _ no429 (by rw [h450]; simp)).trans h450
          have no465 := j462 _ no429 (by rw [h450]; simp)
          have h466 := (k461 _ no431 (by rw [h451]; simp)).trans h451
          have no467 := j462 _ no431 (by rw [h451]; simp)
          have sp469 := Own.sep o452 sp433 j462
          have o468 := Own.stay o452 sp433 k461
          refine AOps.cons rfl rfl (AOp.nilCheck (.ptr i47 0 0) rfl rfl rfl ?_)
          refine AOps.cons rfl rfl (AOp.fieldAddr rfl rfl fl_98_4 ?_ (hid := ⟨_, h466⟩))
          refine AOps.cons rfl rfl (AOp.store' (cells' := rs.map eI ++ [.int .i64 (maxL rs), w0_2, .map i36, v457]) (v457) rfl rfl ts_36 h466 (by rw [Own.cells_ o463]; simp only [List.all_cons, List.all_nil, Own.one_ o463]; rfl) (by rw [Own.cells_ o463]; rfl) (blelen (len_app (m := 4) (n := 4) (k := 8) (len1 h) rfl rfl) (by omega)) (by rw [Own.cells_ o463]; exact (wr_skip (off' := 3) (len1 h) (by omega) rfl)) ?_)
          intro H470 h471 k472
          have h473 := keep k472 e52 h464
          have o475 := Own.keep o468 k472 no292
          have o476 := Own.keep o463 k472 no467
          have m477 := Mono.set m460 z53 k472
          refine AOps.nil ?_
          refine ⟨_, _, Ghost.refl, .inl rfl, _, Res.zero rfl, ?_⟩
          refine AOps.nil ?_
          change AWP _ _ _ _ _ _
          refine AWP.seq ?_
          refine AWP.region_quiet mixed (by kernel_rfl) 11 [] rfl (by kernel_rfl) (Mono H470) (Mono.refl _) ?_
          refine QE.op rfl rfl (.inl ⟨rfl, fun f' H' hf hM => AOp.move (.ptr i47 0 0) rfl ((hf 5 rfl).trans rfl) ⟨rfl, hM⟩⟩) ?_
          refine QE.op rfl rfl (.inl ⟨rfl, fun f' H' hf hM => AOp.nilCheck (.ptr i47 0 0) rfl ((hf 32 rfl).trans rfl) rfl ⟨rfl, hM⟩⟩) ?_
          refine QE.op rfl rfl (.inl ⟨rfl, fun f' H' hf hM => AOp.fieldAddr rfl ((hf 33 rfl).trans rfl) fl_98_2 ⟨rfl, hM⟩ (hid := ⟨_, (hM _ _ h471)⟩)⟩) ?_
          refine QE.op rfl rfl (.inl ⟨rfl, fun f' H' hf hM => AOp.load (w0_2) rfl ((hf 34 rfl).trans rfl) ty_68 (hM _ _ h471) (ld_skip (off' := 1) (len1 h) (by omega) rfl) ⟨rfl, hM⟩⟩) ?_
          refine QE.op rfl rfl (.inl ⟨rfl, fun f' H' hf hM => AOp.move (.ptr i47 0 0) rfl ((hf 5 rfl).trans rfl) ⟨rfl, hM⟩⟩) ?_
          refine QE.op rfl rfl (.inl ⟨rfl, fun f' H' hf hM => AOp.nilCheck (.ptr i47 0 0) rfl ((hf 36 rfl).trans rfl) rfl ⟨rfl, hM⟩⟩) ?_
          refine QE.op rfl rfl (.inl ⟨rfl, fun f' H' hf hM => AOp.fieldAddr rfl ((hf 37 rfl).trans rfl) fl_98_4 ⟨rfl, hM⟩ (hid := ⟨_, (hM _ _ h471)⟩)⟩) ?_
          refine QE.op rfl rfl (.inl ⟨rfl, fun f' H' hf hM => AOp.load (v457) rfl ((hf 38 rfl).trans rfl) ty_36 (hM _ _ h471) (ld_skip (off' := 3) (len1 h) (by omega) rfl) ⟨rfl, hM⟩⟩) ?_
          refine QE.op rfl rfl (.inl ⟨rfl, fun f' H' hf hM => AOp.assign (w0_2) rfl ((hf 35 rfl).trans rfl) ⟨rfl, hM⟩⟩) ?_
          refine QE.op rfl rfl (.inl ⟨rfl, fun f' H' hf hM => AOp.assign (v457) rfl ((hf 39 rfl).trans rfl) ⟨rfl, hM⟩⟩) ?_
          refine QE.op rfl rfl (.inl ⟨rfl, fun f' H' hf hM => AOp.assign (.bool true) rfl rfl ⟨rfl, hM⟩⟩) ?_
          refine QE.done fun H478 m479 => ?_
          have h480 := m479 _ _ h473
          have h481 := m479 _ _ h471
          have o482 := Own.mono o475 m479
          have o483 := Own.mono o476 m479
          have m484 := m477.trans m479
          refine AOps.nil ?_
          change AWP _ _ _ _ _ _
          refine AWP.ret ?_
          refine Fin.frz 2 o482 rfl m484 fun H485 m486 k487 => ?_
          have h488 := (k487 _ no291).trans h480
          have h489 := (k487 _ no292).trans h481
          have o490 := Own.stay o483 (Sep.symm sp469) (fun i hi _ => k487 i hi)
          refine Fin.frz 3 o490 rfl m486 fun H491 m492 k493 => ?_
          have h494 := (k493 _ no465).trans h488
          have h495 := (k493 _ no467).trans h489
          refine ⟨_, _, Ghost.refl, .inr rfl, _, Res.three rfl rfl rfl rfl, ?_, m492⟩
          exact congrArg AV.tup (lc (congrArg (fun l : List SpotT => AV.sl l.length (l.flatMap eSpot)) (show ((spotsL rs (maxL rs)) : List SpotT) = (weaveR rs).1 from by rw [(weave_T h hrt).2.2]; first | done | rfl | (unfold trisL; rw [if_pos b407] <;> rfl))) (lc (congrArg (fun l : List I3T => AV.sl l.length (l.flatMap eI3)) (show (((([] : List I3T) ++ [(I3T.mk 0 1 2)]) ++ [(I3T.mk 0 2 3)]) : List I3T) = (weaveR rs).2.1 from by rw [(weave_T h hrt).2.2]; first | done | rfl | (unfold trisL; rw [if_pos b407] <;> rfl))) (lc (congrArg AV.bool (show (true : Bool) = (weaveR rs).2.2 from by rw [(weave_T h hrt).2.2]; first | done | rfl | (unfold trisL; rw [if_pos b407] <;> rfl))) rfl)))
         ·
          refine AWP.condF rfl (decide_eq_false b407) ?_
          refine AWP.skip ?_
          change AWP _ _ _ _ _ _
          refine AWP.seq ?_
          have hm2 : 2 ≤ maxL rs := by omega
          refine AWP.region (l := [0, 1]) rfl ?_
          refine AOps.cons rfl rfl (AOp.move (.ptr i47 0 0) rfl rfl ?_)
          refine AOps.cons rfl rfl (AOp.inline (n' := 52) («as» := [.ptr i47 0 0]) rfl rfl (rfl) tf_50 rfl rfl rfl rfl ?_)
          refine AWP.seq ?_
          refine AWP.region (l := [0]) rfl ?_
          refine AOps.cons rfl rfl (AOp.assign (.int .i64 1) rfl rfl ?_)
          refine AOps.nil ?_
          change AWP _ _ _ _ _ _
          refine AWP.block ?_
          refine AWP.loop (fun q496 fq Hq => ∃ (mb : Int) (w0_4 : AV), q496 = ((maxL rs - 1 : Int) - mb).toNat ∧ fq 2 = .int .i64 mb ∧ fq 0 = .ptr i47 0 0 ∧ Own H0 Hq 3 w0_4 (midO (numL (spotsL rs (maxL rs))) (maxL rs) mb).length ((midO (numL (spotsL rs (maxL rs))) (maxL rs) mb).flatMap eI3) ∧ Own H0 Hq 3 w0_2 ((spotsL rs (maxL rs)).length) ((spotsL rs (maxL rs)).flatMap eSpot) ∧ NotId w0_4 i36 ∧ NotId w0_4 i47 ∧ NotId w0_2 i36 ∧ NotId w0_2 i47 ∧ Sep w0_4 w0_2 ∧ Hq i36 = some (.map (plc (spotsL rs (maxL rs)))) ∧ Hq i47 = some (.row 0 (rs.map eI ++ [.int .i64 (maxL rs), w0_2, .map i36, w0_4])) ∧ Mono H0 Hq ∧ (1 ≤ mb) ∧ (mb ≤ maxL rs - 1)) (k := ((maxL rs - 1 : Int) - 1).toNat) ?_ ?_
          ·
           exact ⟨1, .snil, rfl, rfl, rfl, Own.nil _ _ _, o405, (NotId.nil _), (NotId.nil _), no291, no292, (Sep.nilL _), h406, h294, m295, by omega, by omega⟩
          ·
           rintro _ f498 H497 ⟨mb, w0_4, rfl, s499, s500, o501, o502, no503, no504, no505, no506, sp507, h508, h509, m510, hmb0, hmb1⟩
           refine AWP.seq ?_
           refine AWP.seq ?_
           refine AWP.region (l := [0, 1, 2, 3, 4, 5, 6]) rfl ?_
           refine AOps.cons rfl rfl (AOp.move (.int .i64 mb) rfl s499 ?_)
           refine AOps.cons rfl rfl (AOp.move (.ptr i47 0 0) rfl s500 ?_)
           refine AOps.cons rfl rfl (AOp.nilCheck (.ptr i47 0 0) rfl rfl rfl ?_)
           refine AOps.cons rfl rfl (AOp.fieldAddr rfl rfl fl_98_1 ?_ (hid := ⟨_, h509⟩))
           refine AOps.cons rfl rfl (AOp.load (.int .i64 (maxL rs)) rfl rfl ty_3 h509 (ld_skip (off' := 0) (len1 h) (by omega) rfl) ?_)
           refine AOps.cons rfl rfl (AOp.bin (.int .i64 (maxL rs - 1)) rfl rfl rfl (isub (by omega)) ?_)
           refine AOps.cons rfl rfl (AOp.bin (.bool (decide (mb < maxL rs - 1))) rfl rfl rfl rfl ?_)
           refine AOps.nil ?_
           change AWP _ _ _ _ _ _
           by_cases b511 : mb < maxL rs - 1
           ·
            refine AWP.condT rfl (decide_eq_true b511) ?_
            refine AWP.skip ?_
            change AWP _ _ _ _ _ _
            refine AWP.seq ?_
            refine AWP.block ?_
            refine AWP.seq ?_
            refine AWP.region (l := [0]) rfl ?_
            refine AOps.cons rfl rfl (AOp.assign (.int .i64 1) rfl rfl ?_)
            refine AOps.nil ?_
            change AWP _ _ _ _ _ _
            refine AWP.block ?_
            refine AWP.loop (fun q512 fq Hq => ∃ (ma : Int) (w0_4 : AV), q512 = ((maxL rs - 1 : Int) - ma).toNat ∧ fq 3 = .int .i64 ma ∧ fq 2 = .int .i64 mb ∧ fq 0 = .ptr i47 0 0 ∧ Own H0 Hq 3 w0_4 (midO (numL (spotsL rs (maxL rs))) (maxL rs) mb ++ midI (numL (spotsL rs (maxL rs))) mb ma).length ((midO (numL (spotsL rs (maxL rs))) (maxL rs) mb ++ midI (numL (spotsL rs (maxL rs))) mb ma).flatMap eI3) ∧ Own H0 Hq 3 w0_2 ((spotsL rs (maxL rs)).length) ((spotsL rs (maxL rs)).flatMap eSpot) ∧ NotId w0_4 i36 ∧ NotId w0_4 i47 ∧ NotId w0_2 i36 ∧ NotId w0_2 i47 ∧ Sep w0_4 w0_2 ∧ Hq i36 = some (.map (plc (spotsL rs (maxL rs)))) ∧ Hq i47 = some (.row 0 (rs.map eI ++ [.int .i64 (maxL rs), w0_2, .map i36, w0_4])) ∧ Mono H0 Hq ∧ (1 ≤ ma) ∧ (ma ≤ maxL rs - 1)) (k := ((maxL rs - 1 : Int) - 1).toNat) ?_ ?_
            ·
             exact ⟨1, w0_4, rfl, rfl, s499, s500, (have hx : ((midO (numL (spotsL rs (maxL rs))) (maxL rs) mb) : List I3T) = midO (numL (spotsL rs (maxL rs))) (maxL rs) mb ++ midI (numL (spotsL rs (maxL rs))) mb 1 := (by rw [midI_1 (Int.le_refl 1), List.append_nil]); Own.re o501 (congrArg List.length hx) (congrArg (fun l : List I3T => l.flatMap eI3) hx)), o502, no503, no504, no505, no506, sp507, h508, h509, m510, by omega, by omega⟩
            ·
             rintro _ f514 H513 ⟨ma, w0_4, rfl, s515, s516, s517, o518, o519, no520, no521, no522, no523, sp524, h525, h526, m527, hma0, hma1⟩
             refine AWP.seq ?_
             refine AWP.seq ?_
             refine AWP.region (l := [0, 1, 2, 3, 4, 5, 6]) rfl ?_
             refine AOps.cons rfl rfl (AOp.move (.int .i64 ma) rfl s515 ?_)
             refine AOps.cons rfl rfl (AOp.move (.ptr i47 0 0) rfl s517 ?_)
             refine AOps.cons rfl rfl (AOp.nilCheck (.ptr i47 0 0) rfl rfl rfl ?_)
             refine AOps.cons rfl rfl (AOp.fieldAddr rfl rfl fl_98_1 ?_ (hid := ⟨_, h526⟩))
             refine AOps.cons rfl rfl (AOp.load (.int .i64 (maxL rs)) rfl rfl ty_3 h526 (ld_skip (off' := 0) (len1 h) (by omega) rfl) ?_)
             refine AOps.cons rfl rfl (AOp.bin (.int .i64 (maxL rs - 1)) rfl rfl rfl (isub (by omega)) ?_)
             refine AOps.cons rfl rfl (AOp.bin (.bool (decide (ma < maxL rs - 1))) rfl rfl rfl rfl ?_)
             refine AOps.nil ?_
             change AWP _ _ _ _ _ _
             by_cases b528 : ma < maxL rs - 1
             ·
              refine AWP.condT rfl (decide_eq_true b528) ?_
              refine AWP.skip ?_
              change AWP _ _ _ _ _ _
              refine AWP.seq ?_
              refine AWP.block ?_
              refine AWP.seq ?_
              refine AWP.region (l := [0, 1, 2, 3, 4, 5, 6, 7, 8, 9, 10, 11]) rfl ?_
              refine AOps.cons rfl rfl (AOp.move (.ptr i47 0 0) rfl s517 ?_)
              refine AOps.cons rfl rfl (AOp.move (.int .i64 ma) rfl s515 ?_)
              refine AOps.cons rfl rfl (AOp.move (.int .i64 mb) rfl s516 ?_)
              refine AOps.cons rfl rfl (AOp.pcallH («as» := [.ptr i47 0 0, .int .i64 ma, .int .i64 mb]) rfl rfl (rfl) tf_81 (c_inner rs h (maxL rs) hrt hm16 h526 h525 ma mb (by omega) (by omega)) ?_)
              intro H529 m530
              have h531 := m530 _ _ h525
              have h532 := m530 _ _ h526
              have o533 := Own.mono o518 m530
              have o534 := Own.mono o519 m530
              have m535 := m527.trans m530
              refine AOps.cons rfl rfl (AOp.move (.ptr i47 0 0) rfl s517 ?_)
              refine AOps.cons rfl rfl (AOp.move (.int .i64 ma) rfl s515 ?_)
              refine AOps.cons rfl rfl (AOp.bin (.int .i64 (ma + 1)) rfl rfl rfl (iadd (by omega)) ?_)
              refine AOps.cons rfl rfl (AOp.move (.int .i64 mb) rfl s516 ?_)
              refine AOps.cons rfl rfl (AOp.bin (.int .i64 (mb + 1)) rfl rfl rfl (iadd (by omega)) ?_)
              refine AOps.cons rfl rfl (AOp.pcallH («as» := [.ptr i47 0 0, .int .i64 (ma + 1), .int .i64 (mb + 1)]) rfl rfl (rfl) tf_81 (c_inner rs h (maxL rs) hrt hm16 h532 h531 (ma + 1) (mb + 1) (by omega) (by omega)) ?_)
              intro H536 m537
              have h538 := m537 _ _ h531
              have h539 := m537 _ _ h532
              have o540 := Own.mono o533 m537
              have o541 := Own.mono o534 m537
              have m542 := m535.trans m537
              refine AOps.cons rfl rfl (AOp.assign (.int .i64 (numL (spotsL rs (maxL rs)) (inn ma mb))) rfl rfl ?_)
              refine AOps.cons rfl rfl (AOp.assign (.int .i64 (numL (spotsL rs (maxL rs)) (inn (ma + 1) (mb + 1)))) rfl rfl ?_)
              refine AOps.nil ?_
              change AWP _ _ _ _ _ _
              refine AWP.seq ?_
              refine AWP.region (l := [0, 1, 2, 3, 4, 5, 6, 7, 8]) rfl ?_
              refine AOps.cons rfl rfl (AOp.move (.ptr i47 0 0) rfl s517 ?_)
              refine AOps.cons rfl rfl (AOp.move (.int .i64 (numL (spotsL rs (maxL rs)) (inn ma mb))) rfl rfl ?_)
              refine AOps.cons rfl rfl (AOp.move (.ptr i47 0 0) rfl s517 ?_)
              refine AOps.cons rfl rfl (AOp.move (.int .i64 ma) rfl s515 ?_)
              refine AOps.cons rfl rfl (AOp.bin (.int .i64 (ma + 1)) rfl rfl rfl (iadd (by omega)) ?_)
              refine AOps.cons rfl rfl (AOp.move (.int .i64 mb) rfl s516 ?_)
              refine AOps.cons rfl rfl (AOp.pcallH («as» := [.ptr i47 0 0, .int .i64 (ma + 1), .int .i64 mb]) rfl rfl (rfl) tf_81 (c_inner rs h (maxL rs) hrt hm16 h539 h538 (ma + 1) mb (by omega) (by omega)) ?_)
              intro H543 m544
              have h545 := m544 _ _ h538
              have h546 := m544 _ _ h539
              have o547 := Own.mono o540 m544
              have o548 := Own.mono o541 m544
              have m549 := m542.trans m544
              refine AOps.cons rfl rfl (AOp.move (.int .i64 (numL (spotsL rs (maxL rs)) (inn (ma + 1) (mb + 1)))) rfl rfl ?_)
              refine AOps.cons rfl rfl (AOp.inline (n' := 21) («as» := [.ptr i47 0 0, .int .i64 (numL (spotsL rs (maxL rs)) (inn ma mb)), .int .i64 (numL (spotsL rs (maxL rs)) (inn (ma + 1) mb)), .int .i64 (numL (spotsL rs (maxL rs)) (inn (ma + 1) (mb + 1)))]) rfl rfl (rfl) tf_49 rfl rfl rfl rfl ?_)
              have hsl : (midO (numL (spotsL rs (maxL rs))) (maxL rs) mb ++ midI (numL (spotsL rs (maxL rs))) mb ma).length ≤ 2000 := by have q1 := midO_len (N := (numL (spotsL rs (maxL rs)))) (m := maxL rs) (b := mb) hm16 (by omega); have q2 := midI_len (N := (numL (spotsL rs (maxL rs)))) (b := mb) (a := ma) (by omega); simp only [List.length_append, List.length_cons, List.length_nil]; omega
              refine AWP.region (l := [0, 1, 2, 3, 4, 5, 6, 7, 8, 9, 10, 11, 12, 13]) rfl ?_
              refine AOps.cons rfl rfl (AOp.move (.ptr i47 0 0) rfl rfl ?_)
              refine AOps.cons rfl rfl (AOp.move (.ptr i47 0 0) rfl rfl ?_)
              refine AOps.cons rfl rfl (AOp.nilCheck (.ptr i47 0 0) rfl rfl rfl ?_)
              refine AOps.cons rfl rfl (AOp.fieldAddr rfl rfl fl_98_4 ?_ (hid := ⟨_, h546⟩))
              refine AOps.cons rfl rfl (AOp.load (w0_4) rfl rfl ty_36 h546 (ld_skip (off' := 3) (len1 h) (by omega) rfl) ?_)
              refine AOps.cons rfl rfl (AOp.move (.int .i64 (numL (spotsL rs (maxL rs)) (inn ma mb))) rfl rfl ?_)
              refine AOps.cons rfl rfl (AOp.move (.int .i64 (numL (spotsL rs (maxL rs)) (inn (ma + 1) mb))) rfl rfl ?_)
              refine AOps.cons rfl rfl (AOp.move (.int .i64 (numL (spotsL rs (maxL rs)) (inn (ma + 1) (mb + 1)))) rfl rfl ?_)
              refine AOps.cons rfl rfl (AOp.build (cells := [.int .i64 (numL (spotsL rs (maxL rs)) (inn ma mb)), .int .i64 (numL (spotsL rs (maxL rs)) (inn (ma + 1) mb)), .int .i64 (numL (spotsL rs (maxL rs)) (inn (ma + 1) (mb + 1)))]) rfl tz_59 pl_59 rfl rfl ?_)
              refine AOps.cons rfl rfl (AOp.buildSlice (cells := [.int .i64 (numL (spotsL rs (maxL rs)) (inn ma mb)), .int .i64 (numL (spotsL rs (maxL rs)) (inn (ma + 1) mb)), .int .i64 (numL (spotsL rs (maxL rs)) (inn (ma + 1) (mb + 1)))]) rfl u_36 ts_59 tz_59 rfl rfl rfl ?_)
              intro i550 H551 n552 h553 k554
              have e555 := ne_new h545 n552
              have e556 := ne_new h546 n552
              have z557 := Mono.free m549 n552
              have h558 := keep k554 (ne_new h545 n552) h545
              have h559 := keep k554 (ne_new h546 n552) h546
              have o560 := Own.keep o547 k554 (Own.notnew o547 n552)
              have no561 := Own.notnew o547 n552
              have o562 := Own.keep o548 k554 (Own.notnew o548 n552)
              have no563 := Own.notnew o548 n552
              have m564 := Mono.new m549 n552 k554
              refine AOps.cons rfl rfl (AOp.append_own (es := 3) (m := 1) (len := ((midO (numL (spotsL rs (maxL rs))) (maxL rs) mb ++ midI (numL (spotsL rs (maxL rs))) mb ma).length)) (old := (midO (numL (spotsL rs (maxL rs))) (maxL rs) mb ++ midI (numL (spotsL rs (maxL rs))) mb ma).flatMap eI3) (cells := [.int .i64 (numL (spotsL rs (maxL rs)) (inn ma mb)), .int .i64 (numL (spotsL rs (maxL rs)) (inn (ma + 1) mb)), .int .i64 (numL (spotsL rs (maxL rs)) (inn (ma + 1) (mb + 1)))]) rfl u_36 ts_59 tzn_59 tb_59 (by decide) ni_36 rfl o560 m564 rfl (.slm h553 rfl) (one_of rfl) (by decide) (by first | omega | (simp; omega)) ?_)
              intro v565 H566 o567 m568 k569 j570
              have o571 := Own.snocM (xs := ((midO (numL (spotsL rs (maxL rs))) (maxL rs) mb ++ midI (numL (spotsL rs (maxL rs))) mb ma) : List I3T)) (y := (I3T.mk (numL (spotsL rs (maxL rs)) (inn ma mb)) (numL (spotsL rs (maxL rs)) (inn (ma + 1) mb)) (numL (spotsL rs (maxL rs)) (inn (ma + 1) (mb + 1))))) (e := eI3) (by simp) o567
              have h572 := (k569 _ no520 (by rw [h558]; simp)).trans h558
              have no573 := j570 _ no520 (by rw [h558]; simp)
              have h574 := (k569 _ no521 (by rw [h559]; simp)).trans h559
              have no575 := j570 _ no521 (by rw [h559]; simp)
              have sp577 := Own.sep o562 (Sep.symm sp524) j570
              have o576 := Own.stay o562 (Sep.symm sp524) k569
              refine AOps.cons rfl rfl (AOp.nilCheck (.ptr i47 0 0) rfl rfl rfl ?_)
              refine AOps.cons rfl rfl (AOp.fieldAddr rfl rfl fl_98_4 ?_ (hid := ⟨_, h574⟩))
              refine AOps.cons rfl rfl (AOp.store' (cells' := rs.map eI ++ [.int .i64 (maxL rs), w0_2, .map i36, v565]) (v565) rfl rfl ts_36 h574 (by rw [Own.cells_ o571]; simp only [List.all_cons, List.all_nil, Own.one_ o571]; rfl) (by rw [Own.cells_ o571]; rfl) (blelen (len_app (m := 4) (n := 4) (k := 8) (len1 h) rfl rfl) (by omega)) (by rw [Own.cells_ o571]; exact (wr_skip (off' := 3) (len1 h) (by omega) rfl)) ?_)
              intro H578 h579 k580
              have h581 := keep k580 e52 h572
              have o583 := Own.keep o576 k580 no523
              have o584 := Own.keep o571 k580 no575
              have m585 := Mono.set m568 z53 k580
              refine AOps.nil ?_
              refine ⟨_, _, Ghost.refl, .inl rfl, _, Res.zero rfl, ?_⟩
              refine AOps.nil ?_
              change AWP _ _ _ _ _ _
              refine AWP.region (l := [0, 1, 2, 3, 4, 5, 6, 7, 8]) rfl ?_
              refine AOps.cons rfl rfl (AOp.move (.ptr i47 0 0) rfl s517 ?_)
              refine AOps.cons rfl rfl (AOp.move (.int .i64 (numL (spotsL rs (maxL rs)) (inn ma mb))) rfl rfl ?_)
              refine AOps.cons rfl rfl (AOp.move (.int .i64 (numL (spotsL rs (maxL rs)) (inn (ma + 1) (mb + 1)))) rfl rfl ?_)
              refine AOps.cons rfl rfl (AOp.move (.ptr i47 0 0) rfl s517 ?_)
              refine AOps.cons rfl rfl (AOp.move (.int .i64 ma) rfl s515 ?_)
              refine AOps.cons rfl rfl (AOp.move (.int .i64 mb) rfl s516 ?_)
              refine AOps.cons rfl rfl (AOp.bin (.int .i64 (mb + 1)) rfl rfl rfl (iadd (by omega)) ?_)
              refine AOps.cons rfl rfl (AOp.pcallH («as» := [.ptr i47 0 0, .int .i64 ma, .int .i64 (mb + 1)]) rfl rfl (rfl) tf_81 (c_inner rs h (maxL rs) hrt hm16 h579 h581 ma (mb + 1) (by omega) (by omega)) ?_)
              intro H586 m587
              have h588 := m587 _ _ h581
              have h589 := m587 _ _ h579
              have o590 := Own.mono o583 m587
              have o591 := Own.mono o584 m587
              have m592 := m585.trans m587
              refine AOps.cons rfl rfl (AOp.inline (n' := 21) («as» := [.ptr i47 0 0, .int .i64 (numL (spotsL rs (maxL rs)) (inn ma mb)), .int .i64 (numL (spotsL rs (maxL rs)) (inn (ma + 1) (mb + 1))), .int .i64 (numL (spotsL rs (maxL rs)) (inn ma (mb + 1)))]) rfl rfl (rfl) tf_49 rfl rfl rfl rfl ?_)
              have hsl : ((midO (numL (spotsL rs (maxL rs))) (maxL rs) mb ++ midI (numL (spotsL rs (maxL rs))) mb ma) ++ [(I3T.mk (numL (spotsL rs (maxL rs)) (inn ma mb)) (numL (spotsL rs (maxL rs)) (inn (ma + 1) mb)) (numL (spotsL rs (maxL rs)) (inn (ma + 1) (mb + 1))))]).length ≤ 2000 := by have q1 := midO_len (N := (numL (spotsL rs (maxL rs)))) (m := maxL rs) (b := mb) hm16 (by omega); have q2 := midI_len (N := (numL (spotsL rs (maxL rs)))) (b := mb) (a := ma) (by omega); simp only [List.length_append, List.length_cons, List.length_nil]; omega
              refine AWP.region (l := [0, 1, 2, 3, 4, 5, 6, 7, 8, 9, 10, 11, 12, 13]) rfl ?_
              refine AOps.cons rfl rfl (AOp.move (.ptr i47 0 0) rfl rfl ?_)
              refine AOps.cons rfl rfl (AOp.move (.ptr i47 0 0) rfl rfl ?_)
              refine AOps.cons rfl rfl (AOp.nilCheck (.ptr i47 0 0) rfl rfl rfl ?_)
              refine AOps.cons rfl rfl (AOp.fieldAddr rfl rfl fl_98_4 ?_ (hid := ⟨_, h589⟩))
              refine AOps.cons rfl rfl (AOp.load (v565) rfl rfl ty_36 h589 (ld_skip (off' := 3) (len1 h) (by omega) rfl) ?_)
              refine AOps.cons rfl rfl (AOp.move (.int .i64 (numL (spotsL rs (maxL rs)) (inn ma mb))) rfl rfl ?_)
              refine AOps.cons rfl rfl (AOp.move (.int .i64 (numL (spotsL rs (maxL rs)) (inn (ma + 1) (mb + 1)))) rfl rfl ?_)
              refine AOps.cons rfl rfl (AOp.move (.int .i64 (numL (spotsL rs (maxL rs)) (inn ma (mb + 1)))) rfl rfl ?_)
              refine AOps.cons rfl rfl (AOp.build (cells := [.int .i64 (numL (spotsL rs (maxL rs)) (inn ma mb)), .int .i64 (numL (spotsL rs (maxL rs)) (inn (ma + 1) (mb + 1))), .int .i64 (numL (spotsL rs (maxL rs)) (inn ma (mb + 1)))]) rfl tz_59 pl_59 rfl rfl ?_)
              refine AOps.cons rfl rfl (AOp.buildSlice (cells := [.int .i64 (numL (spotsL rs (maxL rs)) (inn ma mb)), .int .i64 (numL (spotsL rs (maxL rs)) (inn (ma + 1) (mb + 1))), .int .i64 (numL (spotsL rs (maxL rs)) (inn ma (mb + 1)))]) rfl u_36 ts_59 tz_59 rfl rfl rfl ?_)
              intro i593 H594 n595 h596 k597
              have e598 := ne_new h588 n595
              have e599 := ne_new h589 n595
              have z600 := Mono.free m592 n595
              have h601 := keep k597 (ne_new h588 n595) h588
              have h602 := keep k597 (ne_new h589 n595) h589
              have o603 := Own.keep o590 k597 (Own.notnew o590 n595)
              have no604 := Own.notnew o590 n595
              have o605 := Own.keep o591 k597 (Own.notnew o591 n595)
              have no606 := Own.notnew o591 n595
              have m607 := Mono.new m592 n595 k597
              refine AOps.cons rfl rfl (AOp.append_own (es := 3) (m := 1) (len := (((midO (numL (spotsL rs (maxL rs))) (maxL rs) mb ++ midI (numL (spotsL rs (maxL rs))) mb ma) ++ [(I3T.mk (numL (spotsL rs (maxL rs)) (inn ma mb)) (numL (spotsL rs (maxL rs)) (inn (ma + 1) mb)) (numL (spotsL rs (maxL rs)) (inn (ma + 1) (mb + 1))))]).length)) (old := ((midO (numL (spotsL rs (maxL rs))) (maxL rs) mb ++ midI (numL (spotsL rs (maxL rs))) mb ma) ++ [(I3T.mk (numL (spotsL rs (maxL rs)) (inn ma mb)) (numL (spotsL rs (maxL rs)) (inn (ma + 1) mb)) (numL (spotsL rs (maxL rs)) (inn (ma + 1) (mb + 1))))]).flatMap eI3) (cells := [.int .i64 (numL (spotsL rs (maxL rs)) (inn ma mb)), .int .i64 (numL (spotsL rs (maxL rs)) (inn (ma + 1) (mb + 1))), .int .i64 (numL (spotsL rs (maxL rs)) (inn ma (mb + 1)))]) rfl u_36 ts_59 tzn_59 tb_59 (by decide) ni_36 rfl o605 m607 rfl (.slm h596 rfl) (one_of rfl) (by decide) (by first | omega | (simp; omega)) ?_)
              intro v608 H609 o610 m611 k612 j613
              have o614 := Own.snocM (xs := (((midO (numL (spotsL rs (maxL rs))) (maxL rs) mb ++ midI (numL (spotsL rs (maxL rs))) mb ma) ++ [(I3T.mk (numL (spotsL rs (maxL rs)) (inn ma mb)) (numL (spotsL rs (maxL rs)) (inn (ma + 1) mb)) (numL (spotsL rs (maxL rs)) (inn (ma + 1) (mb + 1))))]) : List I3T)) (y := (I3T.mk (numL (spotsL rs (maxL rs)) (inn ma mb)) (numL (spotsL rs (maxL rs)) (inn (ma + 1) (mb + 1))) (numL (spotsL rs (maxL rs)) (inn ma (mb + 1))))) (e := eI3) (by simp) o610
              have h615 := (k612 _ no573 (by rw [h601]; simp)).trans h601
              have no616 := j613 _ no573 (by rw [h601]; simp)
              have h617 := (k612 _ no575 (by rw [h602]; simp)).trans h602
              have no618 := j613 _ no575 (by rw [h602]; simp)
              have sp620 := Own.sep o603 sp577 j613
              have o619 := Own.stay o603 sp577 k612
              refine AOps.cons rfl rfl (AOp.nilCheck (.ptr i47 0 0) rfl rfl rfl ?_)
              refine AOps.cons rfl rfl (AOp.fieldAddr rfl rfl fl_98_4 ?_ (hid := ⟨_, h617⟩))
              refine AOps.cons rfl rfl (AOp.store' (cells' := rs.map eI ++ [.int .i64 (maxL rs), w0_2, .map i36, v608]) (v608) rfl rfl ts_36 h617 (by rw [Own.cells_ o614]; simp only [List.all_cons, List.all_nil, Own.one_ o614]; rfl) (by rw [Own.cells_ o614]; rfl) (blelen (len_app (m := 4) (n := 4) (k := 8) (len1 h) rfl rfl) (by omega)) (by rw [Own.cells_ o614]; exact (wr_skip (off' := 3) (len1 h) (by omega) rfl)) ?_)
              intro H621 h622 k623
              have h624 := keep k623 e52 h615
              have o626 := Own.keep o619 k623 no523
              have o627 := Own.keep o614 k623 no618
              have m628 := Mono.set m611 z53 k623
              refine AOps.nil ?_
              refine ⟨_, _, Ghost.refl, .inl rfl, _, Res.zero rfl, ?_⟩
              refine AOps.nil ?_
              change AWP _ _ _ _ _ _
              refine AWP.region (l := [0, 1, 2]) rfl ?_
              refine AOps.cons rfl rfl (AOp.move (.int .i64 ma) rfl s515 ?_)
              refine AOps.cons rfl rfl (AOp.bin (.int .i64 (ma + 1)) rfl rfl rfl (iadd (by omega)) ?_)
              refine AOps.cons rfl rfl (AOp.assign (.int .i64 (ma + 1)) rfl rfl ?_)
              refine AOps.nil ?_
              exact ⟨_, by omega, ma + 1, v608, rfl, rfl, s516, s517, (have hx : ((((midO (numL (spotsL rs (maxL rs))) (maxL rs) mb ++ midI (numL (spotsL rs (maxL rs))) mb ma) ++ [(I3T.mk (numL (spotsL rs (maxL rs)) (inn ma mb)) (numL (spotsL rs (maxL rs)) (inn (ma + 1) mb)) (numL (spotsL rs (maxL rs)) (inn (ma + 1) (mb + 1))))]) ++ [(I3T.mk (numL (spotsL rs (maxL rs)) (inn ma mb)) (numL (spotsL rs (maxL rs)) (inn (ma + 1) (mb + 1))) (numL (spotsL rs (maxL rs)) (inn ma (mb + 1))))]) : List I3T) = midO (numL (spotsL rs (maxL rs))) (maxL rs) mb ++ midI (numL (spotsL rs (maxL rs))) mb (ma + 1) := (by rw [midI_step hma0]; simp only [midC, List.append_assoc, List.cons_append, List.nil_append]); Own.re o627 (congrArg List.length hx) (congrArg (fun l : List I3T => l.flatMap eI3) hx)), o626, no616, no618, no522, no523, (Sep.symm sp620), h624, h622, m628, by omega, by omega⟩
             ·
              refine AWP.condF rfl (decide_eq_false b528) ?_
              refine AWP.exit ?_
              change AWP _ _ _ _ _ _
              refine AWP.region (l := [0, 1, 2]) rfl ?_
              refine AOps.cons rfl rfl (AOp.move (.int .i64 mb) rfl s516 ?_)
              refine AOps.cons rfl rfl (AOp.bin (.int .i64 (mb + 1)) rfl rfl rfl (iadd (by omega)) ?_)
              refine AOps.cons rfl rfl (AOp.assign (.int .i64 (mb + 1)) rfl rfl ?_)
              refine AOps.nil ?_
              exact ⟨_, by omega, mb + 1, w0_4, rfl, rfl, s517, (have hx : ((midO (numL (spotsL rs (maxL rs))) (maxL rs) mb ++ midI (numL (spotsL rs (maxL rs))) mb ma) : List I3T) = midO (numL (spotsL rs (maxL rs))) (maxL rs) (mb + 1) := (by rw [show ma = maxL rs - 1 by omega, midO_step hmb0]); Own.re o518 (congrArg List.length hx) (congrArg (fun l : List I3T => l.flatMap eI3) hx)), o519, no520, no521, no522, no523, sp524, h525, h526, m527, by omega, by omega⟩
           ·
            refine AWP.condF rfl (decide_eq_false b511) ?_
            refine AWP.exit ?_
            refine ⟨_, _, Ghost.refl, .inl rfl, _, Res.zero rfl, ?_⟩
            refine AOps.nil ?_
            change AWP _ _ _ _ _ _
            refine AWP.seq ?_
            refine AWP.seq ?_
            refine AWP.region (l := [0]) rfl ?_
            refine AOps.cons rfl rfl (AOp.move (.int .i64 0) rfl rfl ?_)
            refine AOps.nil ?_
            change AWP _ _ _ _ _ _
            refine AWP.block ?_
            refine AWP.loop (fun q629 fq Hq => ∃ (k : Int) (w5_4 : AV), q629 = ((4 : Int) - k).toNat ∧ fq 42 = .int .i64 k ∧ fq 2 = .snil ∧ fq 3 = .snil ∧ fq 4 = .bool false ∧ fq 5 = .ptr i47 0 0 ∧ Own H0 Hq 3 w5_4 (midO (numL (spotsL rs (maxL rs))) (maxL rs) (maxL rs - 1) ++ strO (numL (spotsL rs (maxL rs))) rs (maxL rs) k).length ((midO (numL (spotsL rs (maxL rs))) (maxL rs) (maxL rs - 1) ++ strO (numL (spotsL rs (maxL rs))) rs (maxL rs) k).flatMap eI3) ∧ Own H0 Hq 3 w0_2 ((spotsL rs (maxL rs)).length) ((spotsL rs (maxL rs)).flatMap eSpot) ∧ NotId w5_4 i36 ∧ NotId w5_4 i47 ∧ NotId w0_2 i36 ∧ NotId w0_2 i47 ∧ Sep w5_4 w0_2 ∧ Hq i36 = some (.map (plc (spotsL rs (maxL rs)))) ∧ Hq i47 = some (.row 0 (rs.map eI ++ [.int .i64 (maxL rs), w0_2, .map i36, w5_4])) ∧ Mono H0 Hq ∧ (0 ≤ k) ∧ (k ≤ 4)) (k := ((4 : Int) - 0).toNat) ?_ ?_
            ·
             exact ⟨0, w0_4, rfl, rfl, rfl, rfl, rfl, rfl, (have hx : ((midO (numL (spotsL rs (maxL rs))) (maxL rs) mb) : List I3T) = midO (numL (spotsL rs (maxL rs))) (maxL rs) (maxL rs - 1) ++ strO (numL (spotsL rs (maxL rs))) rs (maxL rs) 0 := (by rw [show mb = maxL rs - 1 by omega, strO_0, List.append_nil]); Own.re o501 (congrArg List.length hx) (congrArg (fun l : List I3T => l.flatMap eI3) hx)), o502, no503, no504, no505, no506, sp507, h508, h509, m510, by omega, by omega⟩
            ·
             rintro _ f631 H630 ⟨k, w5_4, rfl, s632, s633, s634, s635, s636, o637, o638, no639, no640, no641, no642, sp643, h644, h645, m646, hk0, hk1⟩
             refine AWP.seq ?_
             refine AWP.region (l := [0]) rfl ?_
             refine AOps.cons rfl rfl (AOp.bin (.bool (decide (k < 4))) rfl s632 rfl rfl ?_)
             refine AOps.nil ?_
             change AWP _ _ _ _ _ _
             refine AWP.seq ?_
             by_cases b647 : k < 4
             ·
              refine AWP.condT rfl (decide_eq_true b647) ?_
              refine AWP.skip ?_
              change AWP _ _ _ _ _ _
              refine AWP.seq ?_
              refine AWP.block ?_
              refine AWP.seq ?_
              refine AWP.region (l := [0, 1]) rfl ?_
              refine AOps.cons rfl rfl (AOp.move (.int .i64 k) rfl s632 ?_)
              refine AOps.cons rfl rfl (AOp.assign (.int .i64 k) rfl rfl ?_)
              refine AOps.nil ?_
              change AWP _ _ _ _ _ _
              refine AWP.region (l := [0, 1, 2]) rfl ?_
              refine AOps.cons rfl rfl (AOp.move (.ptr i47 0 0) rfl s636 ?_)
              refine AOps.cons rfl rfl (AOp.move (.int .i64 k) rfl rfl ?_)
              refine AOps.cons rfl rfl (AOp.inline (n' := 81) («as» := [.ptr i47 0 0, .int .i64 k]) rfl rfl (rfl) tf_51 rfl rfl rfl rfl ?_)
              refine AWP.seq ?_
              have hrk := hrt k hk0 (by omega)
              refine AWP.region_quiet mixed (by kernel_rfl) 13 [] rfl (by kernel_rfl) (Mono H630) (Mono.refl _) ?_
              refine QE.op rfl rfl (.inl ⟨rfl, fun f' H' hf hM => AOp.move (.ptr i47 0 0) rfl ((hf 0 rfl).trans rfl) ⟨rfl, hM⟩⟩) ?_
              refine QE.op rfl rfl (.inl ⟨rfl, fun f' H' hf hM => AOp.move (.int .i64 k) rfl ((hf 1 rfl).trans rfl) ⟨rfl, hM⟩⟩) ?_
              refine QE.op rfl rfl (.inl ⟨rfl, fun f' H' hf hM => AOp.nilCheck (.ptr i47 0 0) rfl ((hf 10 rfl).trans rfl) rfl ⟨rfl, hM⟩⟩) ?_
              refine QE.op rfl rfl (.inl ⟨rfl, fun f' H' hf hM => AOp.fieldAddr rfl ((hf 12 rfl).trans rfl) fl_98_0 ⟨rfl, hM⟩ (hid := ⟨_, (hM _ _ h645)⟩)⟩) ?_
              refine QE.op rfl rfl (.inl ⟨rfl, fun f' H' hf hM => AOp.indexAddrA rfl ((hf 13 rfl).trans rfl) ((hf 11 rfl).trans rfl) ar_25 (by omega) (by omega) ⟨_, (hM _ _ h645)⟩ ⟨rfl, hM⟩⟩) ?_
              refine QE.op rfl rfl (.inl ⟨rfl, fun f' H' hf hM => AOp.load (.int .i64 (at_ rs k)) rfl ((hf 14 rfl).trans rfl) ty_3 (hM _ _ h645) (ld_off (o := 0 + k.toNat * 1) (by omega) (ld_fst (fun h => by first | rfl | cases h) (ld1 (i := k) (by omega) (by first | (have := h; omega) | (simp; omega))))) ⟨rfl, hM⟩⟩) ?_
              refine QE.op rfl rfl (.inl ⟨rfl, fun f' H' hf hM => AOp.move (.ptr i47 0 0) rfl ((hf 0 rfl).trans rfl) ⟨rfl, hM⟩⟩) ?_
              refine QE.op rfl rfl (.inl ⟨rfl, fun f' H' hf hM => AOp.nilCheck (.ptr i47 0 0) rfl ((hf 16 rfl).trans rfl) rfl ⟨rfl, hM⟩⟩) ?_
              refine QE.op rfl rfl (.inl ⟨rfl, fun f' H' hf hM => AOp.fieldAddr rfl ((hf 17 rfl).trans rfl) fl_98_1 ⟨rfl, hM⟩ (hid := ⟨_, (hM _ _ h645)⟩)⟩) ?_
              refine QE.op rfl rfl (.inl ⟨rfl, fun f' H' hf hM => AOp.load (.int .i64 (maxL rs)) rfl ((hf 18 rfl).trans rfl) ty_3 (hM _ _ h645) (ld_skip (off' := 0) (len1 h) (by omega) rfl) ⟨rfl, hM⟩⟩) ?_
              refine QE.op rfl rfl (.inl ⟨rfl, fun f' H' hf hM => AOp.bin (.int .i64 (maxL rs - 1)) rfl ((hf 19 rfl).trans rfl) rfl (isub (by omega)) ⟨rfl, hM⟩⟩) ?_
              refine QE.op rfl rfl (.inl ⟨rfl, fun f' H' hf hM => AOp.assign (.int .i64 (at_ rs k)) rfl ((hf 15 rfl).trans rfl) ⟨rfl, hM⟩⟩) ?_
              refine QE.op rfl rfl (.inl ⟨rfl, fun f' H' hf hM => AOp.assign (.int .i64 (maxL rs - 1)) rfl ((hf 20 rfl).trans rfl) ⟨rfl, hM⟩⟩) ?_
              refine QE.done fun H648 m649 => ?_
              have h650 := m649 _ _ h644
              have h651 := m649 _ _ h645
              have o652 := Own.mono o637 m649
              have o653 := Own.mono o638 m649
              have m654 := m646.trans m649
              refine AOps.nil ?_
              change AWP _ _ _ _ _ _
              refine AWP.seq ?_
              refine AWP.region (l := [0, 1]) rfl ?_
              refine AOps.cons rfl rfl (AOp.assign (.int .i64 0) rfl rfl ?_)
              refine AOps.cons rfl rfl (AOp.assign (.int .i64 1) rfl rfl ?_)
              refine AOps.nil ?_
              change AWP _ _ _ _ _ _
              refine AWP.block ?_
              refine AWP.loop (fun q655 fq Hq => ∃ (i : Int) (t : Int) (ts : List I3T) (w0_4 : AV), q655 = ((at_ rs k - i) + (maxL rs - 1 - t)).toNat ∧ fq 6 = .int .i64 i ∧ fq 7 = .int .i64 t ∧ fq 0 = .ptr i47 0 0 ∧ fq 1 = .int .i64 k ∧ fq 4 = .int .i64 (at_ rs k) ∧ fq 5 = .int .i64 (maxL rs - 1) ∧ Own H0 Hq 3 w0_4 (ts).length ((ts).flatMap eI3) ∧ Own H0 Hq 3 w0_2 ((spotsL rs (maxL rs)).length) ((spotsL rs (maxL rs)).flatMap eSpot) ∧ NotId w0_4 i36 ∧ NotId w0_4 i47 ∧ NotId w0_2 i36 ∧ NotId w0_2 i47 ∧ Sep w0_4 w0_2 ∧ Hq i36 = some (.map (plc (spotsL rs (maxL rs)))) ∧ Hq i47 = some (.row 0 (rs.map eI ++ [.int .i64 (maxL rs), w0_2, .map i36, w0_4])) ∧ Mono H0 Hq ∧ (0 ≤ i) ∧ (i ≤ at_ rs k) ∧ (1 ≤ t) ∧ (t ≤ maxL rs - 1) ∧ ((ts.length : Int) + (at_ rs k - i) + (maxL rs - 1 - t) ≤ 1000) ∧ (ts ++ strT (numL (spotsL rs (maxL rs))) k (at_ rs k) (maxL rs) i t = midO (numL (spotsL rs (maxL rs))) (maxL rs) (maxL rs - 1) ++ strO (numL (spotsL rs (maxL rs))) rs (maxL rs)  (k + 1))) (k := ((at_ rs k - 0) + (maxL rs - 1 - 1)).toNat) ?_ ?_
              ·
               exact ⟨0, 1, midO (numL (spotsL rs (maxL rs))) (maxL rs) (maxL rs - 1) ++ strO (numL (spotsL rs (maxL rs))) rs (maxL rs) k, w5_4, rfl, rfl, rfl, rfl, rfl, rfl, rfl, o652, o653, no639, no640, no641, no642, sp643, h650, h651, m654, by omega, by omega, by omega, by omega, by have q1 := midO_len (N := (numL (spotsL rs (maxL rs)))) (m := maxL rs) (b := maxL rs - 1) hm16 (by omega); have q2 := strO_len (N := (numL (spotsL rs (maxL rs)))) (rs := rs) (m := maxL rs) (k := k) hrt hm16 (by omega); simp only [List.length_append]; omega, by rw [strO_step hk0, List.append_assoc]⟩
              ·
               rintro _ f657 H656 ⟨i, t, ts, w0_4, rfl, s658, s659, s660, s661, s662, s663, o664, o665, no666, no667, no668, no669, sp670, h671, h672, m673, hi0, hi1, ht0, ht1, htl, hts2⟩
               refine AWP.seq ?_
               refine AWP.seq ?_
               refine AWP.region (l := [0, 1, 2, 3, 4, 5, 6, 7]) rfl ?_
               refine AOps.cons rfl rfl (AOp.move (.int .i64 i) rfl s658 ?_)
               refine AOps.cons rfl rfl (AOp.move (.int .i64 (at_ rs k)) rfl s662 ?_)
               refine AOps.cons rfl rfl (AOp.bin (.bool (decide (i < at_ rs k))) rfl rfl rfl rfl ?_)
               refine AOps.cons rfl rfl (AOp.move (.bool (decide (i < at_ rs k))) rfl rfl ?_)
               by_cases b674 : i < at_ rs k
               ·
                refine AOps.no rfl rfl rfl rfl rfl rfl rfl (ble_of (decide_eq_true b674) (by decide)) ?_
                refine AOps.no rfl rfl rfl rfl rfl rfl rfl (ble_of (decide_eq_true b674) (by decide)) ?_
                refine AOps.no rfl rfl rfl rfl rfl rfl rfl (ble_of (decide_eq_true b674) (by decide)) ?_
                refine AOps.cons rfl rfl (AOp.pickT (.bool true) rfl rfl (decide_eq_true b674) rfl ?_)
                refine AOps.nil ?_
                change AWP _ _ _ _ _ _
                refine AWP.condT rfl rfl ?_
                refine AWP.skip ?_
                change AWP _ _ _ _ _ _
                refine AWP.block ?_
                refine AWP.seq ?_
                refine AWP.region (l := [0, 1, 2, 3, 4, 5, 6, 7, 8, 9]) rfl ?_
                refine AOps.cons rfl rfl (AOp.move (.ptr i47 0 0) rfl s660 ?_)
                refine AOps.cons rfl rfl (AOp.move (.int .i64 k) rfl s661 ?_)
                refine AOps.cons rfl rfl (AOp.move (.int .i64 i) rfl s658 ?_)
                refine AOps.cons rfl rfl (AOp.pcallH («as» := [.ptr i47 0 0, .int .i64 k, .int .i64 i]) rfl rfl (rfl) tf_82 (c_outer rs h (maxL rs) hrt hm16 h672 h671 k i (by omega) (by omega)) ?_)
                intro H675 m676
                have h677 := m676 _ _ h671
                have h678 := m676 _ _ h672
                have o679 := Own.mono o664 m676
                have o680 := Own.mono o665 m676
                have m681 := m673.trans m676
                refine AOps.cons rfl rfl (AOp.move (.ptr i47 0 0) rfl s660 ?_)
                refine AOps.cons rfl rfl (AOp.move (.int .i64 k) rfl s661 ?_)
                refine AOps.cons rfl rfl (AOp.move (.int .i64 t) rfl s659 ?_)
                refine AOps.cons rfl rfl (AOp.pcallH («as» := [.ptr i47 0 0, .int .i64 k, .int .i64 t]) rfl rfl (rfl) tf_83 (c_beside rs h (maxL rs) hrt hm16 h678 h677 k t (by omega) (by omega)) ?_)
                intro H682 m683
                have h684 := m683 _ _ h677
                have h685 := m683 _ _ h678
                have o686 := Own.mono o679 m683
                have o687 := Own.mono o680 m683
                have m688 := m681.trans m683
                refine AOps.cons rfl rfl (AOp.assign (.int .i64 (numL (spotsL rs (maxL rs)) (outS k i (at_ rs k)))) rfl rfl ?_)
                refine AOps.cons rfl rfl (AOp.assign (.int .i64 (numL (spotsL rs (maxL rs)) (besS k t (maxL rs)))) rfl rfl ?_)
                refine AOps.nil ?_
                change AWP _ _ _ _ _ _
                refine AWP.seq ?_
                refine AWP.region (l := [0, 1, 2, 3, 4, 5, 6, 7, 8, 9, 10, 11, 12, 13, 14, 15, 16, 17, 18, 19, 20, 21, 22, 23]) rfl ?_
                refine AOps.cons rfl rfl (AOp.move (.int .i64 i) rfl s658 ?_)
                refine AOps.cons rfl rfl (AOp.move (.int .i64 (at_ rs k)) rfl s662 ?_)
                refine AOps.cons rfl rfl (AOp.bin (.bool (decide (i < at_ rs k))) rfl rfl rfl rfl ?_)
                refine AOps.cons rfl rfl (AOp.move (.bool (decide (i < at_ rs k))) rfl rfl ?_)
                refine AOps.yes rfl rfl rfl rfl rfl rfl rfl (decide_eq_true b674) (AOp.move (.int .i64 t) rfl s659 ?_)
                refine AOps.yes rfl rfl rfl rfl rfl rfl rfl (decide_eq_true b674) (AOp.move (.int .i64 (maxL rs - 1)) rfl s663 ?_)
                refine AOps.yes rfl rfl rfl rfl rfl rfl rfl (decide_eq_true b674) (AOp.bin (.bool (decide (t = maxL rs - 1))) rfl rfl rfl ieq ?_)
                refine AOps.yes rfl rfl rfl rfl rfl rfl rfl (decide_eq_true b674) (AOp.move (.bool (decide (t = maxL rs - 1))) rfl rfl ?_)
                by_cases b689 : t = maxL rs - 1
                ·
                 refine AOps.no rfl rfl rfl rfl rfl rfl rfl (ble_of (decide_eq_true b689) (by decide)) ?_
                 refine AOps.no rfl rfl rfl rfl rfl rfl rfl (ble_of (decide_eq_true b689) (by decide)) ?_
                 refine AOps.no rfl rfl rfl rfl rfl rfl rfl (ble_of (decide_eq_true b689) (by decide)) ?_
                 refine AOps.no rfl rfl rfl rfl rfl rfl rfl (ble_of (decide_eq_true b689) (by decide)) ?_
                 refine AOps.no rfl rfl rfl rfl rfl rfl rfl (ble_of (decide_eq_true b689) (by decide)) ?_
                 refine AOps.no rfl rfl rfl rfl rfl rfl rfl (ble_of (decide_eq_true b689) (by decide)) ?_
                 refine AOps.no rfl rfl rfl rfl rfl rfl rfl (ble_of (decide_eq_true b689) (by decide)) ?_
                 refine AOps.no rfl rfl rfl rfl rfl rfl rfl (ble_of (decide_eq_true b689) (by decide)) ?_
                 refine AOps.no rfl rfl rfl rfl rfl rfl rfl (ble_of (decide_eq_true b689) (by decide)) ?_
                 refine AOps.no rfl rfl rfl rfl rfl rfl rfl (ble_of (decide_eq_true b689) (by decide)) ?_
                 refine AOps.no rfl rfl rfl rfl rfl rfl rfl (ble_of (decide_eq_true b689) (by decide)) ?_
                 refine AOps.no rfl rfl rfl rfl rfl rfl rfl (ble_of (decide_eq_true b689) (by decide)) ?_
                 refine AOps.no rfl rfl rfl rfl rfl rfl rfl (ble_of (decide_eq_true b689) (by decide)) ?_
                 refine AOps.no rfl rfl rfl rfl rfl rfl rfl (ble_of (decide_eq_true b689) (by decide)) ?_
                 refine AOps.yes rfl rfl rfl rfl rfl rfl rfl (decide_eq_true b674) (AOp.pickT (.bool true) rfl rfl (decide_eq_true b689) rfl ?_)
                 refine AOps.cons rfl rfl (AOp.pickT (.bool true) rfl rfl (decide_eq_true b674) rfl ?_)
                 refine AOps.nil ?_
                 change AWP _ _ _ _ _ _
                 refine AWP.condT rfl rfl ?_
                 refine AWP.seq ?_
                 refine AWP.region (l := [0, 1, 2]) rfl ?_
                 refine AOps.cons rfl rfl (AOp.move (.int .i64 i) rfl s658 ?_)
                 refine AOps.cons rfl rfl (AOp.bin (.int .i64 (i + 1)) rfl rfl rfl (iadd (by omega)) ?_)
                 refine AOps.cons rfl rfl (AOp.assign (.int .i64 (i + 1)) rfl rfl ?_)
                 refine AOps.nil ?_
                 change AWP _ _ _ _ _ _
                 refine AWP.region (l := [0, 1, 2, 3, 4, 5, 6, 7]) rfl ?_
                 refine AOps.cons rfl rfl (AOp.move (.ptr i47 0 0) rfl s660 ?_)
                 refine AOps.cons rfl rfl (AOp.move (.int .i64 (numL (spotsL rs (maxL rs)) (outS k i (at_ rs k)))) rfl rfl ?_)
                 refine AOps.cons rfl rfl (AOp.move (.ptr i47 0 0) rfl s660 ?_)
                 refine AOps.cons rfl rfl (AOp.move (.int .i64 k) rfl s661 ?_)
                 refine AOps.cons rfl rfl (AOp.move (.int .i64 (i + 1)) rfl rfl ?_)
                 refine AOps.cons rfl rfl (AOp.pcallH («as» := [.ptr i47 0 0, .int .i64 k, .int .i64 (i + 1)]) rfl rfl (rfl) tf_82 (c_outer rs h (maxL rs) hrt hm16 h685 h684 k (i + 1) (by omega) (by omega)) ?_)
                 intro H690 m691
                 have h692 := m691 _ _ h684
                 have h693 := m691 _ _ h685
                 have o694 := Own.mono o686 m691
                 have o695 := Own.mono o687 m691
                 have m696 := m688.trans m691
                 refine AOps.cons rfl rfl (AOp.move (.int .i64 (numL (spotsL rs (maxL rs)) (besS k t (maxL rs)))) rfl rfl ?_)
                 refine AOps.cons rfl rfl (AOp.inline (n' := 21) («as» := [.ptr i47 0 0, .int .i64 (numL (spotsL rs (maxL rs)) (outS k i (at_ rs k))), .int .i64 (numL (spotsL rs (maxL rs)) (outS k (i + 1) (at_ rs k))), .int .i64 (numL (spotsL rs (maxL rs)) (besS k t (maxL rs)))]) rfl rfl (rfl) tf_49 rfl rfl rfl rfl ?_)
                 have hsl : (ts).length ≤ 2000 := by omega
                 refine AWP.region (l := [0, 1, 2, 3, 4, 5, 6, 7, 8, 9, 10, 11, 12, 13]) rfl ?_
                 refine AOps.cons rfl rfl (AOp.move (.ptr i47 0 0) rfl rfl ?_)
                 refine AOps.cons rfl rfl (AOp.move (.ptr i47 0 0) rfl rfl ?_)
                 refine AOps.cons rfl rfl (AOp.nilCheck (.ptr i47 0 0) rfl rfl rfl ?_)
                 refine AOps.cons rfl rfl (AOp.fieldAddr rfl rfl fl_98_4 ?_ (hid := ⟨_, h693⟩))
                 refine AOps.cons rfl rfl (AOp.load (w0_4) rfl rfl ty_36 h693 (ld_skip (off' := 3) (len1 h) (by omega) rfl) ?_)
                 refine AOps.cons rfl rfl (AOp.move (.int .i64 (numL (spotsL rs (maxL rs)) (outS k i (at_ rs k)))) rfl rfl ?_)
                 refine AOps.cons rfl rfl (AOp.move (.int .i64 (numL (spotsL rs (maxL rs)) (outS k (i + 1) (at_ rs k)))) rfl rfl ?_)
                 refine AOps.cons rfl rfl (AOp.move (.int .i64 (numL (spotsL rs (maxL rs)) (besS k t (maxL rs)))) rfl rfl ?_)
                 refine AOps.cons rfl rfl (AOp.build (cells := [.int .i64 (numL (spotsL rs (maxL rs)) (outS k i (at_ rs k))), .int .i64 (numL (spotsL rs (maxL rs)) (outS k (i + 1) (at_ rs k))), .int .i64 (numL (spotsL rs (maxL rs)) (besS k t (maxL rs)))]) rfl tz_59 pl_59 rfl rfl ?_)
                 refine AOps.cons rfl rfl (AOp.buildSlice (cells := [.int .i64 (numL (spotsL rs (maxL rs)) (outS k i (at_ rs k))), .int .i64 (numL (spotsL rs (maxL rs)) (outS k (i + 1) (at_ rs k))), .int .i64 (numL (spotsL rs (maxL rs)) (besS k t (maxL rs)))]) rfl u_36 ts_59 tz_59 rfl rfl rfl ?_)
                 intro i697 H698 n699 h700 k701
                 have e702 := ne_new h692 n699
                 have e703 := ne_new h693 n699
                 have z704 := Mono.free m696 n699
                 have h705 := keep k701 (ne_new h692 n699) h692
                 have h706 := keep k701 (ne_new h693 n699) h693
                 have o707 := Own.keep o694 k701 (Own.notnew o694 n699)
                 have no708 := Own.notnew o694 n699
                 have o709 := Own.keep o695 k701 (Own.notnew o695 n699)
                 have no710 := Own.notnew o695 n699
                 have m711 := Mono.new m696 n699 k701
                 refine AOps.cons rfl rfl (AOp.append_own (es := 3) (m := 1) (len := ((ts).length)) (old := (ts).flatMap eI3) (cells := [.int .i64 (numL (spotsL rs (maxL rs)) (outS k i (at_ rs k))), .int .i64 (numL (spotsL rs (maxL rs)) (outS k (i + 1) (at_ rs k))), .int .i64 (numL (spotsL rs (maxL rs)) (besS k t (maxL rs)))]) rfl u_36 ts_59 tzn_59 tb_59 (by decide) ni_36 rfl o707 m711 rfl (.slm h700 rfl) (one_of rfl) (by decide) (by first | omega | (simp; omega)) ?_)
                 intro v712 H713 o714 m715 k716 j717
                 have o718 := Own.snocM (xs := ((ts) : List I3T)) (y := (I3T.mk (numL (spotsL rs (maxL rs)) (outS k i (at_ rs k))) (numL (spotsL rs (maxL rs)) (outS k (i + 1) (at_ rs k))) (numL (spotsL rs (maxL rs)) (besS k t (maxL rs))))) (e := eI3) (by simp) o714
                 have h719 := (k716 _ no666 (by rw [h705]; simp)).trans h705
                 have no720 := j717 _ no666 (by rw [h705]; simp)
                 have h721 := (k716 _ no667 (by rw [h706]; simp)).trans h706
                 have no722 := j717 _ no667 (by rw [h706]; simp)
                 have sp724 := Own.sep o709 (Sep.symm sp670) j717
                 have o723 := Own.stay o709 (Sep.symm sp670) k716
                 refine AOps.cons rfl rfl (AOp.nilCheck (.ptr i47 0 0) rfl rfl rfl ?_)
                 refine AOps.cons rfl rfl (AOp.fieldAddr rfl rfl fl_98_4 ?_ (hid := ⟨_, h721⟩))
                 refine AOps.cons rfl rfl (AOp.store' (cells' := rs.map eI ++ [.int .i64 (maxL rs), w0_2, .map i36, v712]) (v712) rfl rfl ts_36 h721 (by rw [Own.cells_ o718]; simp only [List.all_cons, List.all_nil, Own.one_ o718]; rfl) (by rw [Own.cells_ o718]; rfl) (blelen (len_app (m := 4) (n := 4) (k := 8) (len1 h) rfl rfl) (by omega)) (by rw [Own.cells_ o718]; exact (wr_skip (off' := 3) (len1 h) (by omega) rfl)) ?_)
                 intro H725 h726 k727
                 have h728 := keep k727 e52 h719
                 have o730 := Own.keep o723 k727 no669
                 have o731 := Own.keep o718 k727 no722
                 have m732 := Mono.set m715 z53 k727
                 refine AOps.nil ?_
                 refine ⟨_, _, Ghost.refl, .inl rfl, _, Res.zero rfl, ?_⟩
                 refine AOps.nil ?_
                 exact ⟨_, by omega, i + 1, t, (ts) ++ [(I3T.mk (numL (spotsL rs (maxL rs)) (outS k i (at_ rs k))) (numL (spotsL rs (maxL rs)) (outS k (i + 1) (at_ rs k))) (numL (spotsL rs (maxL rs)) (besS k t (maxL rs))))], v712, rfl, rfl, s659, s660, s661, s662, s663, o731, o730, no720, no722, no668, no669, (Sep.symm sp724), h728, h726, m732, by omega, by omega, by omega, by omega, by simp only [List.length_append, List.length_cons, List.length_nil]; omega, by rw [← hts2, strT_out (i := i) (t := t) (by omega) (by omega) ⟨by omega, by first | (left; omega) | (right; omega)⟩]; simp only [List.append_assoc, List.cons_append, List.nil_append]⟩
                ·
                 refine AOps.yes rfl rfl rfl rfl rfl rfl rfl (decide_eq_false b689) (AOp.move (.int .i64 i) rfl s658 ?_)
                 refine AOps.yes rfl rfl rfl rfl rfl rfl rfl (decide_eq_false b689) (AOp.bin (.int .i64 (2 * i)) rfl rfl rfl (imul (by omega)) ?_)
                 refine AOps.yes rfl rfl rfl rfl rfl rfl rfl (decide_eq_false b689) (AOp.bin (.int .i64 (2 * i + 1)) rfl rfl rfl (iadd (by omega)) ?_)
                 refine AOps.yes rfl rfl rfl rfl rfl rfl rfl (decide_eq_false b689) (AOp.move (.ptr i47 0 0) rfl s660 ?_)
                 refine AOps.yes rfl rfl rfl rfl rfl rfl rfl (decide_eq_false b689) (AOp.nilCheck (.ptr i47 0 0) rfl rfl rfl ?_)
                 refine AOps.yes rfl rfl rfl rfl rfl rfl rfl (decide_eq_false b689) (AOp.fieldAddr rfl rfl fl_98_1 ?_ (hid := ⟨_, h685⟩))
                 refine AOps.yes rfl rfl rfl rfl rfl rfl rfl (decide_eq_false b689) (AOp.load (.int .i64 (maxL rs)) rfl rfl ty_3 h685 (ld_skip (off' := 0) (len1 h) (by omega) rfl) ?_)
                 refine AOps.yes rfl rfl rfl rfl rfl rfl rfl (decide_eq_false b689) (AOp.bin (.int .i64 ((2 * i + 1) * (maxL rs))) rfl rfl rfl (imul (by have := mul_rng (x := 2 * i + 1) (k := maxL rs) (A := 64) (C := 16) (by omega) (by omega); omega)) ?_)
                 refine AOps.yes rfl rfl rfl rfl rfl rfl rfl (decide_eq_false b689) (AOp.move (.int .i64 t) rfl s659 ?_)
                 refine AOps.yes rfl rfl rfl rfl rfl rfl rfl (decide_eq_false b689) (AOp.bin (.int .i64 (2 * t)) rfl rfl rfl (imul (by omega)) ?_)
                 refine AOps.yes rfl rfl rfl rfl rfl rfl rfl (decide_eq_false b689) (AOp.bin (.int .i64 (2 * t + 1)) rfl rfl rfl (iadd (by omega)) ?_)
                 refine AOps.yes rfl rfl rfl rfl rfl rfl rfl (decide_eq_false b689) (AOp.move (.int .i64 (at_ rs k)) rfl s662 ?_)
                 refine AOps.yes rfl rfl rfl rfl rfl rfl rfl (decide_eq_false b689) (AOp.bin (.int .i64 ((2 * t + 1) * (at_ rs k))) rfl rfl rfl (imul (by have := mul_rng (x := 2 * t + 1) (k := at_ rs k) (A := 64) (C := 16) (by omega) (by omega); omega)) ?_)
                 refine AOps.yes rfl rfl rfl rfl rfl rfl rfl (decide_eq_false b689) (AOp.bin (.bool (decide ((2 * i + 1) * (maxL rs) ≤ (2 * t + 1) * (at_ rs k)))) rfl rfl rfl rfl ?_)
                 refine AOps.yes rfl rfl rfl rfl rfl rfl rfl (decide_eq_true b674) (AOp.pickF (.bool (decide ((2 * i + 1) * (maxL rs) ≤ (2 * t + 1) * (at_ rs k)))) rfl rfl (decide_eq_false b689) rfl ?_)
                 refine AOps.cons rfl rfl (AOp.pickT (.bool (decide ((2 * i + 1) * (maxL rs) ≤ (2 * t + 1) * (at_ rs k)))) rfl rfl (decide_eq_true b674) rfl ?_)
                 refine AOps.nil ?_
                 change AWP _ _ _ _ _ _
                 by_cases b733 : (2 * i + 1) * (maxL rs) ≤ (2 * t + 1) * (at_ rs k)
                 ·
                  refine AWP.condT rfl (decide_eq_true b733) ?_
                  refine AWP.seq ?_
                  refine AWP.region (l := [0, 1, 2]) rfl ?_
                  refine AOps.cons rfl rfl (AOp.move (.int .i64 i) rfl s658 ?_)
                  refine AOps.cons rfl rfl (AOp.bin (.int .i64 (i + 1)) rfl rfl rfl (iadd (by omega)) ?_)
                  refine AOps.cons rfl rfl (AOp.assign (.int .i64 (i + 1)) rfl rfl ?_)
                  refine AOps.nil ?_
                  change AWP _ _ _ _ _ _
                  refine AWP.region (l := [0, 1, 2, 3, 4, 5, 6, 7]) rfl ?_
                  refine AOps.cons rfl rfl (AOp.move (.ptr i47 0 0) rfl s660 ?_)
                  refine AOps.cons rfl rfl (AOp.move (.int .i64 (numL (spotsL rs (maxL rs)) (outS k i (at_ rs k)))) rfl rfl ?_)
                  refine AOps.cons rfl rfl (AOp.move (.ptr i47 0 0) rfl s660 ?_)
                  refine AOps.cons rfl rfl (AOp.move (.int .i64 k) rfl s661 ?_)
                  refine AOps.cons rfl rfl (AOp.move (.int .i64 (i + 1)) rfl rfl ?_)
                  refine AOps.cons rfl rfl (AOp.pcallH («as» := [.ptr i47 0 0, .int .i64 k, .int .i64 (i + 1)]) rfl rfl (rfl) tf_82 (c_outer rs h (maxL rs) hrt hm16 h685 h684 k (i + 1) (by omega) (by omega)) ?_)
                  intro H734 m735
                  have h736 := m735 _ _ h684
                  have h737 := m735 _ _ h685
                  have o738 := Own.mono o686 m735
                  have o739 := Own.mono o687 m735
                  have m740 := m688.trans m735
                  refine AOps.cons rfl rfl (AOp.move (.int .i64 (numL (spotsL rs (maxL rs)) (besS k t (maxL rs)))) rfl rfl ?_)
                  refine AOps.cons rfl rfl (AOp.inline (n' := 21) («as» := [.ptr i47 0 0, .int .i64 (numL (spotsL rs (maxL rs)) (outS k i (at_ rs k))), .int .i64 (numL (spotsL rs (maxL rs)) (outS k (i + 1) (at_ rs k))), .int .i64 (numL (spotsL rs (maxL rs)) (besS k t (maxL rs)))]) rfl rfl (rfl) tf_49 rfl rfl rfl rfl ?_)
                  have hsl : (ts).length ≤ 2000 := by omega
                  refine AWP.region (l := [0, 1, 2, 3, 4, 5, 6, 7, 8, 9, 10, 11, 12, 13]) rfl ?_
                  refine AOps.cons rfl rfl (AOp.move (.ptr i47 0 0) rfl rfl ?_)
                  refine AOps.cons rfl rfl (AOp.move (.ptr i47 0 0) rfl rfl ?_)
                  refine AOps.cons rfl rfl (AOp.nilCheck (.ptr i47 0 0) rfl rfl rfl ?_)
                  refine AOps.cons rfl rfl (AOp.fieldAddr rfl rfl fl_98_4 ?_ (hid := ⟨_, h737⟩))
                  refine AOps.cons rfl rfl (AOp.load (w0_4) rfl rfl ty_36 h737 (ld_skip (off' := 3) (len1 h) (by omega) rfl) ?_)
                  refine AOps.cons rfl rfl (AOp.move (.int .i64 (numL (spotsL rs (maxL rs)) (outS k i (at_ rs k)))) rfl rfl ?_)
                  refine AOps.cons rfl rfl (AOp.move (.int .i64 (numL (spotsL rs (maxL rs)) (outS k (i + 1) (at_ rs k)))) rfl rfl ?_)
                  refine AOps.cons rfl rfl (AOp.move (.int .i64 (numL (spotsL rs (maxL rs)) (besS k t (maxL rs)))) rfl rfl ?_)
                  refine AOps.cons rfl rfl (AOp.build (cells := [.int .i64 (numL (spotsL rs (maxL rs)) (outS k i (at_ rs k))), .int .i64 (numL (spotsL rs (maxL rs)) (outS k (i + 1) (at_ rs k))), .int .i64 (numL (spotsL rs (maxL rs)) (besS k t (maxL rs)))]) rfl tz_59 pl_59 rfl rfl ?_)
                  refine AOps.cons rfl rfl (AOp.buildSlice (cells := [.int .i64 (numL (spotsL rs (maxL rs)) (outS k i (at_ rs k))), .int .i64 (numL (spotsL rs (maxL rs)) (outS k (i + 1) (at_ rs k))), .int .i64 (numL (spotsL rs (maxL rs)) (besS k t (maxL rs)))]) rfl u_36 ts_59 tz_59 rfl rfl rfl ?_)
                  intro i741 H742 n743 h744 k745
                  have e746 := ne_new h736 n743
                  have e747 := ne_new h737 n743
                  have z748 := Mono.free m740 n743
                  have h749 := keep k745 (ne_new h736 n743) h736
                  have h750 := keep k745 (ne_new h737 n743) h737
                  have o751 := Own.keep o738 k745 (Own.notnew o738 n743)
                  have no752 := Own.notnew o738 n743
                  have o753 := Own.keep o739 k745 (Own.notnew o739 n743)
                  have no754 := Own.notnew o739 n743
                  have m755 := Mono.new m740 n743 k745
                  refine AOps.cons rfl rfl (AOp.append_own (es := 3) (m := 1) (len := ((ts).length)) (old := (ts).flatMap eI3) (cells := [.int .i64 (numL (spotsL rs (maxL rs)) (outS k i (at_ rs k))), .int .i64 (numL (spotsL rs (maxL rs)) (outS k (i + 1) (at_ rs k))), .int .i64 (numL (spotsL rs (maxL rs)) (besS k t (maxL rs)))]) rfl u_36 ts_59 tzn_59 tb_59 (by decide) ni_36 rfl o751 m755 rfl (.slm h744 rfl) (one_of rfl) (by decide) (by first | omega | (simp; omega)) ?_)
                  intro v756 H757 o758 m759 k760 j761
                  have o762 := Own.snocM (xs := ((ts) : List I3T)) (y := (I3T.mk (numL (spotsL rs (maxL rs)) (outS k i (at_ rs k))) (numL (spotsL rs (maxL rs)) (outS k (i + 1) (at_ rs k))) (numL (spotsL rs (maxL rs)) (besS k t (maxL rs))))) (e := eI3) (by simp) o758
                  have h763 := (k760 _ no666 (by rw [h749]; simp)).trans h749
                  have no764 := j761 _ no666 (by rw [h749]; simp)
                  have h765 := (k760 _ no667 (by rw [h750]; simp)).trans h750
                  have no766 := j761 _ no667 (by rw [h750]; simp)
                  have sp768 := Own.sep o753 (Sep.symm sp670) j761
                  have o767 := Own.stay o753 (Sep.symm sp670) k760
                  refine AOps.cons rfl rfl (AOp.nilCheck (.ptr i47 0 0) rfl rfl rfl ?_)
                  refine AOps.cons rfl rfl (AOp.fieldAddr rfl rfl fl_98_4 ?_ (hid := ⟨_, h765⟩))
                  refine AOps.cons rfl rfl (AOp.store' (cells' := rs.map eI ++ [.int .i64 (maxL rs), w0_2, .map i36, v756]) (v756) rfl rfl ts_36 h765 (by rw [Own.cells_ o762]; simp only [List.all_cons, List.all_nil, Own.one_ o762]; rfl) (by rw [Own.cells_ o762]; rfl) (blelen (len_app (m := 4) (n := 4) (k := 8) (len1 h) rfl rfl) (by omega)) (by rw [Own.cells_ o762]; exact (wr_skip (off' := 3) (len1 h) (by omega) rfl)) ?_)
                  intro H769 h770 k771
                  have h772 := keep k771 e52 h763
                  have o774 := Own.keep o767 k771 no669
                  have o775 := Own.keep o762 k771 no766
                  have m776 := Mono.set m759 z53 k771
                  refine AOps.nil ?_
                  refine ⟨_, _, Ghost.refl, .inl rfl, _, Res.zero rfl, ?_⟩
                  refine AOps.nil ?_
                  exact ⟨_, by omega, i + 1, t, (ts) ++ [(I3T.mk (numL (spotsL rs (maxL rs)) (outS k i (at_ rs k))) (numL (spotsL rs (maxL rs)) (outS k (i + 1) (at_ rs k))) (numL (spotsL rs (maxL rs)) (besS k t (maxL rs))))], v756, rfl, rfl, s659, s660, s661, s662, s663, o775, o774, no764, no766, no668, no669, (Sep.symm sp768), h772, h770, m776, by omega, by omega, by omega, by omega, by simp only [List.length_append, List.length_cons, List.length_nil]; omega, by rw [← hts2, strT_out (i := i) (t := t) (by omega) (by omega) ⟨by omega, by first | (left; omega) | (right; omega)⟩]; simp only [List.append_assoc, List.cons_append, List.nil_append]⟩
                 ·
                  refine AWP.condF rfl (decide_eq_false b733) ?_
                  refine AWP.seq ?_
                  refine AWP.region (l := [0, 1, 2]) rfl ?_
                  refine AOps.cons rfl rfl (AOp.move (.int .i64 t) rfl s659 ?_)
                  refine AOps.cons rfl rfl (AOp.bin (.int .i64 (t + 1)) rfl rfl rfl (iadd (by omega)) ?_)
                  refine AOps.cons rfl rfl (AOp.assign (.int .i64 (t + 1)) rfl rfl ?_)
                  refine AOps.nil ?_
                  change AWP _ _ _ _ _ _
                  refine AWP.region (l := [0, 1, 2, 3, 4, 5, 6, 7]) rfl ?_
                  refine AOps.cons rfl rfl (AOp.move (.ptr i47 0 0) rfl s660 ?_)
                  refine AOps.cons rfl rfl (AOp.move (.int .i64 (numL (spotsL rs (maxL rs)) (outS k i (at_ rs k)))) rfl rfl ?_)
                  refine AOps.cons rfl rfl (AOp.move (.ptr i47 0 0) rfl s660 ?_)
                  refine AOps.cons rfl rfl (AOp.move (.int .i64 k) rfl s661 ?_)
                  refine AOps.cons rfl rfl (AOp.move (.int .i64 (t + 1)) rfl rfl ?_)
                  refine AOps.cons rfl rfl (AOp.pcallH («as» := [.ptr i47 0 0, .int .i64 k, .int .i64 (t + 1)]) rfl rfl (rfl) tf_83 (c_beside rs h (maxL rs) hrt hm16 h685 h684 k (t + 1) (by omega) (by omega)) ?_)
                  intro H777 m778
                  have h779 := m778 _ _ h684
                  have h780 := m778 _ _ h685
                  have o781 := Own.mono o686 m778
                  have o782 := Own.mono o687 m778
                  have m783 := m688.trans m778
                  refine AOps.cons rfl rfl (AOp.move (.int .i64 (numL (spotsL rs (maxL rs)) (besS k t (maxL rs)))) rfl rfl ?_)
                  refine AOps.cons rfl rfl (AOp.inline (n' := 21) («as» := [.ptr i47 0 0, .int .i64 (numL (spotsL rs (maxL rs)) (outS k i (at_ rs k))), .int .i64 (numL (spotsL rs (maxL rs)) (besS k (t + 1) (maxL rs))), .int .i64 (numL (spotsL rs (maxL rs)) (besS k t (maxL rs)))]) rfl rfl (rfl) tf_49 rfl rfl rfl rfl ?_)
                  have hsl : (ts).length ≤ 2000 := by omega
                  refine AWP.region (l := [0, 1, 2, 3, 4, 5, 6, 7, 8, 9, 10, 11, 12, 13]) rfl ?_
                  refine AOps.cons rfl rfl (AOp.move (.ptr i47 0 0) rfl rfl ?_)
                  refine AOps.cons rfl rfl (AOp.move (.ptr i47 0 0) rfl rfl ?_)
                  refine AOps.cons rfl rfl (AOp.nilCheck (.ptr i47 0 0) rfl rfl rfl ?_)
                  refine AOps.cons rfl rfl (AOp.fieldAddr rfl rfl fl_98_4 ?_ (hid := ⟨_, h780⟩))
                  refine AOps.cons rfl rfl (AOp.load (w0_4) rfl rfl ty_36 h780 (ld_skip (off' := 3) (len1 h) (by omega) rfl) ?_)
                  refine AOps.cons rfl rfl (AOp.move (.int .i64 (numL (spotsL rs (maxL rs)) (outS k i (at_ rs k)))) rfl rfl ?_)
                  refine AOps.cons rfl rfl (AOp.move (.int .i64 (numL (spotsL rs (maxL rs)) (besS k (t + 1) (maxL rs)))) rfl rfl ?_)
                  refine AOps.cons rfl rfl (AOp.move (.int .i64 (numL (spotsL rs (maxL rs)) (besS k t (maxL rs)))) rfl rfl ?_)
                  refine AOps.cons rfl rfl (AOp.build (cells := [.int .i64 (numL (spotsL rs (maxL rs)) (outS k i (at_ rs k))), .int .i64 (numL (spotsL rs (maxL rs)) (besS k (t + 1) (maxL rs))), .int .i64 (numL (spotsL rs (maxL rs)) (besS k t (maxL rs)))]) rfl tz_59 pl_59 rfl rfl ?_)
                  refine AOps.cons rfl rfl (AOp.buildSlice (cells := [.int .i64 (numL (spotsL rs (maxL rs)) (outS k i (at_ rs k))), .int .i64 (numL (spotsL rs (maxL rs)) (besS k (t + 1) (maxL rs))), .int .i64 (numL (spotsL rs (maxL rs)) (besS k t (maxL rs)))]) rfl u_36 ts_59 tz_59 rfl rfl rfl ?_)
                  intro i784 H785 n786 h787 k788
                  have e789 := ne_new h779 n786
                  have e790 := ne_new h780 n786
                  have z791 := Mono.free m783 n786
                  have h792 := keep k788 (ne_new h779 n786) h779
                  have h793 := keep k788 (ne_new h780 n786) h780
                  have o794 := Own.keep o781 k788 (Own.notnew o781 n786)
                  have no795 := Own.notnew o781 n786
                  have o796 := Own.keep o782 k788 (Own.notnew o782 n786)
                  have no797 := Own.notnew o782 n786
                  have m798 := Mono.new m783 n786 k788
                  refine AOps.cons rfl rfl (AOp.append_own (es := 3) (m := 1) (len := ((ts).length)) (old := (ts).flatMap eI3) (cells := [.int .i64 (numL (spotsL rs (maxL rs)) (outS k i (at_ rs k))), .int .i64 (numL (spotsL rs (maxL rs)) (besS k (t + 1) (maxL rs))), .int .i64 (numL (spotsL rs (maxL rs)) (besS k t (maxL rs)))]) rfl u_36 ts_59 tzn_59 tb_59 (by decide) ni_36 rfl o794 m798 rfl (.slm h787 rfl) (one_of rfl) (by decide) (by first | omega | (simp; omega)) ?_)
                  intro v799 H800 o801 m802 k803 j804
                  have o805 := Own.snocM (xs := ((ts) : List I3T)) (y := (I3T.mk (numL (spotsL rs (maxL rs)) (outS k i (at_ rs k))) (numL (spotsL rs (maxL rs)) (besS k (t + 1) (maxL rs))) (numL (spotsL rs (maxL rs)) (besS k t (maxL rs))))) (e := eI3) (by simp) o801
                  have h806 := (k803 _ no666 (by rw [h792]; simp)).trans h792
                  have no807 := j804 _ no666 (by rw [h792]; simp)
                  have h808 := (k803 _ no667 (by rw [h793]; simp)).trans h793
                  have no809 := j804 _ no667 (by rw [h793]; simp)
                  have sp811 := Own.sep o796 (Sep.symm sp670) j804
                  have o810 := Own.stay o796 (Sep.symm sp670) k803
                  refine AOps.cons rfl rfl (AOp.nilCheck (.ptr i47 0 0) rfl rfl rfl ?_)
                  refine AOps.cons rfl rfl (AOp.fieldAddr rfl rfl fl_98_4 ?_ (hid := ⟨_, h808⟩))
                  refine AOps.cons rfl rfl (AOp.store' (cells' := rs.map eI ++ [.int .i64 (maxL rs), w0_2, .map i36, v799]) (v799) rfl rfl ts_36 h808 (by rw [Own.cells_ o805]; simp only [List.all_cons, List.all_nil, Own.one_ o805]; rfl) (by rw [Own.cells_ o805]; rfl) (blelen (len_app (m := 4) (n := 4) (k := 8) (len1 h) rfl rfl) (by omega)) (by rw [Own.cells_ o805]; exact (wr_skip (off' := 3) (len1 h) (by omega) rfl)) ?_)
                  intro H812 h813 k814
                  have h815 := keep k814 e52 h806
                  have o817 := Own.keep o810 k814 no669
                  have o818 := Own.keep o805 k814 no809
                  have m819 := Mono.set m802 z53 k814
                  refine AOps.nil ?_
                  refine ⟨_, _, Ghost.refl, .inl rfl, _, Res.zero rfl, ?_⟩
                  refine AOps.nil ?_
                  exact ⟨_, by omega, i, t + 1, (ts) ++ [(I3T.mk (numL (spotsL rs (maxL rs)) (outS k i (at_ rs k))) (numL (spotsL rs (maxL rs)) (besS k (t + 1) (maxL rs))) (numL (spotsL rs (maxL rs)) (besS k t (maxL rs))))], v799, rfl, s658, rfl, s660, s661, s662, s663, o818, o817, no807, no809, no668, no669, (Sep.symm sp811), h815, h813, m819, by omega, by omega, by omega, by omega, by simp only [List.length_append, List.length_cons, List.length_nil]; omega, by rw [← hts2, strT_in (i := i) (t := t) (by omega) (by omega) (by omega)]; simp only [List.append_assoc, List.cons_append, List.nil_append]⟩
               ·
                refine AOps.yes rfl rfl rfl rfl rfl rfl rfl (decide_eq_false b674) (AOp.move (.int .i64 t) rfl s659 ?_)
                refine AOps.yes rfl rfl rfl rfl rfl rfl rfl (decide_eq_false b674) (AOp.move (.int .i64 (maxL rs - 1)) rfl s663 ?_)
                refine AOps.yes rfl rfl rfl rfl rfl rfl rfl (decide_eq_false b674) (AOp.bin (.bool (decide (t < maxL rs - 1))) rfl rfl rfl rfl ?_)
                refine AOps.cons rfl rfl (AOp.pickF (.bool (decide (t < maxL rs - 1))) rfl rfl (decide_eq_false b674) rfl ?_)
                refine AOps.nil ?_
                change AWP _ _ _ _ _ _
                by_cases b820 : t < maxL rs - 1
                ·
                 refine AWP.condT rfl (decide_eq_true b820) ?_
                 refine AWP.skip ?_
                 change AWP _ _ _ _ _ _
                 refine AWP.block ?_
                 refine AWP.seq ?_
                 refine AWP.region (l := [0, 1, 2, 3, 4, 5, 6, 7, 8, 9]) rfl ?_
                 refine AOps.cons rfl rfl (AOp.move (.ptr i47 0 0) rfl s660 ?_)
                 refine AOps.cons rfl rfl (AOp.move (.int .i64 k) rfl s661 ?_)
                 refine AOps.cons rfl rfl (AOp.move (.int .i64 i) rfl s658 ?_)
                 refine AOps.cons rfl rfl (AOp.pcallH («as» := [.ptr i47 0 0, .int .i64 k, .int .i64 i]) rfl rfl (rfl) tf_82 (c_outer rs h (maxL rs) hrt hm16 h672 h671 k i (by omega) (by omega)) ?_)
                 intro H821 m822
                 have h823 := m822 _ _ h671
                 have h824 := m822 _ _ h672
                 have o825 := Own.mono o664 m822
                 have o826 := Own.mono o665 m822
                 have m827 := m673.trans m822
                 refine AOps.cons rfl rfl (AOp.move (.ptr i47 0 0) rfl s660 ?_)
                 refine AOps.cons rfl rfl (AOp.move (.int .i64 k) rfl s661 ?_)
                 refine AOps.cons rfl rfl (AOp.move (.int .i64 t) rfl s659 ?_)
                 refine AOps.cons rfl rfl (AOp.pcallH («as» := [.ptr i47 0 0, .int .i64 k, .int .i64 t]) rfl rfl (rfl) tf_83 (c_beside rs h (maxL rs) hrt hm16 h824 h823 k t (by omega) (by omega)) ?_)
                 intro H828 m829
                 have h830 := m829 _ _ h823
                 have h831 := m829 _ _ h824
                 have o832 := Own.mono o825 m829
                 have o833 := Own.mono o826 m829
                 have m834 := m827.trans m829
                 refine AOps.cons rfl rfl (AOp.assign (.int .i64 (numL (spotsL rs (maxL rs)) (outS k i (at_ rs k)))) rfl rfl ?_)
                 refine AOps.cons rfl rfl (AOp.assign (.int .i64 (numL (spotsL rs (maxL rs)) (besS k t (maxL rs)))) rfl rfl ?_)
                 refine AOps.nil ?_
                 change AWP _ _ _ _ _ _
                 refine AWP.seq ?_
                 refine AWP.region (l := [0, 1, 2, 3, 4, 5, 6, 7, 8, 9, 10, 11, 12, 13, 14, 15, 16, 17, 18, 19, 20, 21, 22, 23]) rfl ?_
                 refine AOps.cons rfl rfl (AOp.move (.int .i64 i) rfl s658 ?_)
                 refine AOps.cons rfl rfl (AOp.move (.int .i64 (at_ rs k)) rfl s662 ?_)
                 refine AOps.cons rfl rfl (AOp.bin (.bool (decide (i < at_ rs k))) rfl rfl rfl rfl ?_)
                 refine AOps.cons rfl rfl (AOp.move (.bool (decide (i < at_ rs k))) rfl rfl ?_)
                 refine AOps.no rfl rfl rfl rfl rfl rfl rfl (ble_of (decide_eq_false b674) (by decide)) ?_
                 refine AOps.no rfl rfl rfl rfl rfl rfl rfl (ble_of (decide_eq_false b674) (by decide)) ?_
                 refine AOps.no rfl rfl rfl rfl rfl rfl rfl (ble_of (decide_eq_false b674) (by decide)) ?_
                 refine AOps.no rfl rfl rfl rfl rfl rfl rfl (ble_of (decide_eq_false b674) (by decide)) ?_
                 refine AOps.un rfl rfl rfl rfl rfl rfl rfl ?_
                 refine AOps.un rfl rfl rfl rfl rfl rfl rfl ?_
                 refine AOps.un rfl rfl rfl rfl rfl rfl rfl ?_
                 refine AOps.un rfl rfl rfl rfl rfl rfl rfl ?_
                 refine AOps.un rfl rfl rfl rfl rfl rfl rfl ?_
                 refine AOps.un rfl rfl rfl rfl rfl rfl rfl ?_
                 refine AOps.un rfl rfl rfl rfl rfl rfl rfl ?_
                 refine AOps.un rfl rfl rfl rfl rfl rfl rfl ?_
                 refine AOps.un rfl rfl rfl rfl rfl rfl rfl ?_
                 refine AOps.un rfl rfl rfl rfl rfl rfl rfl ?_
                 refine AOps.un rfl rfl rfl rfl rfl rfl rfl ?_
                 refine AOps.un rfl rfl rfl rfl rfl rfl rfl ?_
                 refine AOps.un rfl rfl rfl rfl rfl rfl rfl ?_
                 refine AOps.un rfl rfl rfl rfl rfl rfl rfl ?_
                 refine AOps.no rfl rfl rfl rfl rfl rfl rfl (ble_of (decide_eq_false b674) (by decide)) ?_
                 refine AOps.cons rfl rfl (AOp.pickF (.bool false) rfl rfl (decide_eq_false b674) rfl ?_)
                 refine AOps.nil ?_
                 change AWP _ _ _ _ _ _
                 refine AWP.condF rfl rfl ?_
                 refine AWP.seq ?_
                 refine AWP.region (l := [0, 1, 2]) rfl ?_
                 refine AOps.cons rfl rfl (AOp.move (.int .i64 t) rfl s659 ?_)
                 refine AOps.cons rfl rfl (AOp.bin (.int .i64 (t + 1)) rfl rfl rfl (iadd (by omega)) ?_)
                 refine AOps.cons rfl rfl (AOp.assign (.int .i64 (t + 1)) rfl rfl ?_)
                 refine AOps.nil ?_
                 change AWP _ _ _ _ _ _
                 refine AWP.region (l := [0, 1, 2, 3, 4, 5, 6, 7]) rfl ?_
                 refine AOps.cons rfl rfl (AOp.move (.ptr i47 0 0) rfl s660 ?_)
                 refine AOps.cons rfl rfl (AOp.move (.int .i64 (numL (spotsL rs (maxL rs)) (outS k i (at_ rs k)))) rfl rfl ?_)
                 refine AOps.cons rfl rfl (AOp.move (.ptr i47 0 0) rfl s660 ?_)
                 refine AOps.cons rfl rfl (AOp.move (.int .i64 k) rfl s661 ?_)
                 refine AOps.cons rfl rfl (AOp.move (.int .i64 (t + 1)) rfl rfl ?_)
                 refine AOps.cons rfl rfl (AOp.pcallH («as» := [.ptr i47 0 0, .int .i64 k, .int .i64 (t + 1)]) rfl rfl (rfl) tf_83 (c_beside rs h (maxL rs) hrt hm16 h831 h830 k (t + 1) (by omega) (by omega)) ?_)
                 intro H835 m836
                 have h837 := m836 _ _ h830
                 have h838 := m836 _ _ h831
                 have o839 := Own.mono o832 m836
                 have o840 := Own.mono o833 m836
                 have m841 := m834.trans m836
                 refine AOps.cons rfl rfl (AOp.move (.int .i64 (numL (spotsL rs (maxL rs)) (besS k t (maxL rs)))) rfl rfl ?_)
                 refine AOps.cons rfl rfl (AOp.inline (n' := 21) («as» := [.ptr i47 0 0, .int .i64 (numL (spotsL rs (maxL rs)) (outS k i (at_ rs k))), .int .i64 (numL (spotsL rs (maxL rs)) (besS k (t + 1) (maxL rs))), .int .i64 (numL (spotsL rs (maxL rs)) (besS k t (maxL rs)))]) rfl rfl (rfl) tf_49 rfl rfl rfl rfl ?_)
                 have hsl : (ts).length ≤ 2000 := by omega
                 refine AWP.region (l := [0, 1, 2, 3, 4, 5, 6, 7, 8, 9, 10, 11, 12, 13]) rfl ?_
                 refine AOps.cons rfl rfl (AOp.move (.ptr i47 0 0) rfl rfl ?_)
                 refine AOps.cons rfl rfl (AOp.move (.ptr i47 0 0) rfl rfl ?_)
                 refine AOps.cons rfl rfl (AOp.nilCheck (.ptr i47 0 0) rfl rfl rfl ?_)
                 refine AOps.cons rfl rfl (AOp.fieldAddr rfl rfl fl_98_4 ?_ (hid := ⟨_, h838⟩))
                 refine AOps.cons rfl rfl (AOp.load (w0_4) rfl rfl ty_36 h838 (ld_skip (off' := 3) (len1 h) (by omega) rfl) ?_)
                 refine AOps.cons rfl rfl (AOp.move (.int .i64 (numL (spotsL rs (maxL rs)) (outS k i (at_ rs k)))) rfl rfl ?_)
                 refine AOps.cons rfl rfl (AOp.move (.int .i64 (numL (spotsL rs (maxL rs)) (besS k (t + 1) (maxL rs)))) rfl rfl ?_)
                 refine AOps.cons rfl rfl (AOp.move (.int .i64 (numL (spotsL rs (maxL rs)) (besS k t (maxL rs)))) rfl rfl ?_)
                 refine AOps.cons rfl rfl (AOp.build (cells := [.int .i64 (numL (spotsL rs (maxL rs)) (outS k i (at_ rs k))), .int .i64 (numL (spotsL rs (maxL rs)) (besS k (t + 1) (maxL rs))), .int .i64 (numL (spotsL rs (maxL rs)) (besS k t (maxL rs)))]) rfl tz_59 pl_59 rfl rfl ?_)
                 refine AOps.cons rfl rfl (AOp.buildSlice (cells := [.int .i64 (numL (spotsL rs (maxL rs)) (outS k i (at_ rs k))), .int .i64 (numL (spotsL rs (maxL rs)) (besS k (t + 1) (maxL rs))), .int .i64 (numL (spotsL rs (maxL rs)) (besS k t (maxL rs)))]) rfl u_36 ts_59 tz_59 rfl rfl rfl ?_)
                 intro i842 H843 n844 h845 k846
                 have e847 := ne_new h837 n844
                 have e848 := ne_new h838 n844
                 have z849 := Mono.free m841 n844
                 have h850 := keep k846 (ne_new h837 n844) h837
                 have h851 := keep k846 (ne_new h838 n844) h838
                 have o852 := Own.keep o839 k846 (Own.notnew o839 n844)
                 have no853 := Own.notnew o839 n844
                 have o854 := Own.keep o840 k846 (Own.notnew o840 n844)
                 have no855 := Own.notnew o840 n844
                 have m856 := Mono.new m841 n844 k846
                 refine AOps.cons rfl rfl (AOp.append_own (es := 3) (m := 1) (len := ((ts).length)) (old := (ts).flatMap eI3) (cells := [.int .i64 (numL (spotsL rs (maxL rs)) (outS k i (at_ rs k))), .int .i64 (numL (spotsL rs (maxL rs)) (besS k (t + 1) (maxL rs))), .int .i64 (numL (spotsL rs (maxL rs)) (besS k t (maxL rs)))]) rfl u_36 ts_59 tzn_59 tb_59 (by decide) ni_36 rfl o852 m856 rfl (.slm h845 rfl) (one_of rfl) (by decide) (by first | omega | (simp; omega)) ?_)
                 intro v857 H858 o859 m860 k861 j862
                 have o863 := Own.snocM (xs := ((ts) : List I3T)) (y := (I3T.mk (numL (spotsL rs (maxL rs)) (outS k i (at_ rs k))) (numL (spotsL rs (maxL rs)) (besS k (t + 1) (maxL rs))) (numL (spotsL rs (maxL rs)) (besS k t (maxL rs))))) (e := eI3) (by simp) o859
                 have h864 := (k861 _ no666 (by rw [h850]; simp)).trans h850
                 have no865 := j862 _ no666 (by rw [h850]; simp)
                 have h866 := (k861 _ no667 (by rw [h851]; simp)).trans h851
                 have no867 := j862 _ no667 (by rw [h851]; simp)
                 have sp869 := Own.sep o854 (Sep.symm sp670) j862
                 have o868 := Own.stay o854 (Sep.symm sp670) k861
                 refine AOps.cons rfl rfl (AOp.nilCheck (.ptr i47 0 0) rfl rfl rfl ?_)
                 refine AOps.cons rfl rfl (AOp.fieldAddr rfl rfl fl_98_4 ?_ (hid := ⟨_, h866⟩))
                 refine AOps.cons rfl rfl (AOp.store' (cells' := rs.map eI ++ [.int .i64 (maxL rs), w0_2, .map i36, v857]) (v857) rfl rfl ts_36 h866 (by rw [Own.cells_ o863]; simp only [List.all_cons, List.all_nil, Own.one_ o863]; rfl) (by rw [Own.cells_ o863]; rfl) (blelen (len_app (m := 4) (n := 4) (k := 8) (len1 h) rfl rfl) (by omega)) (by rw [Own.cells_ o863]; exact (wr_skip (off' := 3) (len1 h) (by omega) rfl)) ?_)
                 intro H870 h871 k872
                 have h873 := keep k872 e52 h864
                 have o875 := Own.keep o868 k872 no669
                 have o876 := Own.keep o863 k872 no867
                 have m877 := Mono.set m860 z53 k872
                 refine AOps.nil ?_
                 refine ⟨_, _, Ghost.refl, .inl rfl, _, Res.zero rfl, ?_⟩
                 refine AOps.nil ?_
                 exact ⟨_, by omega, i, t + 1, (ts) ++ [(I3T.mk (numL (spotsL rs (maxL rs)) (outS k i (at_ rs k))) (numL (spotsL rs (maxL rs)) (besS k (t + 1) (maxL rs))) (numL (spotsL rs (maxL rs)) (besS k t (maxL rs))))], v857, rfl, s658, rfl, s660, s661, s662, s663, o876, o875, no865, no867, no668, no669, (Sep.symm sp869), h873, h871, m877, by omega, by omega, by omega, by omega, by simp only [List.length_append, List.length_cons, List.length_nil]; omega, by rw [← hts2, strT_in (i := i) (t := t) (by omega) (by omega) (by omega)]; simp only [List.append_assoc, List.cons_append, List.nil_append]⟩
                ·
                 refine AWP.condF rfl (decide_eq_false b820) ?_
                 refine AWP.exit ?_
                 refine ⟨_, _, Ghost.refl, .inl rfl, _, Res.zero rfl, ?_⟩
                 refine AOps.nil ?_
                 change AWP _ _ _ _ _ _
                 refine AWP.region (l := [0, 1]) rfl ?_
                 refine AOps.cons rfl rfl (AOp.bin (.int .i64 (k + 1)) rfl s632 rfl (iadd (by omega)) ?_)
                 refine AOps.cons rfl rfl (AOp.move (.int .i64 (k + 1)) rfl rfl ?_)
                 refine AOps.nil ?_
                 exact ⟨_, by omega, k + 1, w0_4, rfl, rfl, s633, s634, s635, s636, (have hx : ((ts) : List I3T) = midO (numL (spotsL rs (maxL rs))) (maxL rs) (maxL rs - 1) ++ strO (numL (spotsL rs (maxL rs))) rs (maxL rs) (k + 1) := (by rw [← hts2, strT_end (by omega) (by omega), List.append_nil]); Own.re o664 (congrArg List.length hx) (congrArg (fun l : List I3T => l.flatMap eI3) hx)), o665, no666, no667, no668, no669, sp670, h671, h672, m673, by omega, by omega⟩
             ·
              refine AWP.condF rfl (decide_eq_false b647) ?_
              refine AWP.exit ?_
              change AWP _ _ _ _ _ _
              refine AWP.seq ?_
              refine AWP.region_quiet mixed (by kernel_rfl) 11 [] rfl (by kernel_rfl) (Mono H630) (Mono.refl _) ?_
              refine QE.op rfl rfl (.inl ⟨rfl, fun f' H' hf hM => AOp.move (.ptr i47 0 0) rfl ((hf 5 rfl).trans s636) ⟨rfl, hM⟩⟩) ?_
              refine QE.op rfl rfl (.inl ⟨rfl, fun f' H' hf hM => AOp.nilCheck (.ptr i47 0 0) rfl ((hf 49 rfl).trans rfl) rfl ⟨rfl, hM⟩⟩) ?_
              refine QE.op rfl rfl (.inl ⟨rfl, fun f' H' hf hM => AOp.fieldAddr rfl ((hf 50 rfl).trans rfl) fl_98_2 ⟨rfl, hM⟩ (hid := ⟨_, (hM _ _ h645)⟩)⟩) ?_
              refine QE.op rfl rfl (.inl ⟨rfl, fun f' H' hf hM => AOp.load (w0_2) rfl ((hf 51 rfl).trans rfl) ty_68 (hM _ _ h645) (ld_skip (off' := 1) (len1 h) (by omega) rfl) ⟨rfl, hM⟩⟩) ?_
              refine QE.op rfl rfl (.inl ⟨rfl, fun f' H' hf hM => AOp.move (.ptr i47 0 0) rfl ((hf 5 rfl).trans s636) ⟨rfl, hM⟩⟩) ?_
              refine QE.op rfl rfl (.inl ⟨rfl, fun f' H' hf hM => AOp.nilCheck (.ptr i47 0 0) rfl ((hf 53 rfl).trans rfl) rfl ⟨rfl, hM⟩⟩) ?_
              refine QE.op rfl rfl (.inl ⟨rfl, fun f' H' hf hM => AOp.fieldAddr rfl ((hf 54 rfl).trans rfl) fl_98_4 ⟨rfl, hM⟩ (hid := ⟨_, (hM _ _ h645)⟩)⟩) ?_
              refine QE.op rfl rfl (.inl ⟨rfl, fun f' H' hf hM => AOp.load (w5_4) rfl ((hf 55 rfl).trans rfl) ty_36 (hM _ _ h645) (ld_skip (off' := 3) (len1 h) (by omega) rfl) ⟨rfl, hM⟩⟩) ?_
              refine QE.op rfl rfl (.inl ⟨rfl, fun f' H' hf hM => AOp.assign (w0_2) rfl ((hf 52 rfl).trans rfl) ⟨rfl, hM⟩⟩) ?_
              refine QE.op rfl rfl (.inl ⟨rfl, fun f' H' hf hM => AOp.assign (w5_4) rfl ((hf 56 rfl).trans rfl) ⟨rfl, hM⟩⟩) ?_
              refine QE.op rfl rfl (.inl ⟨rfl, fun f' H' hf hM => AOp.assign (.bool true) rfl rfl ⟨rfl, hM⟩⟩) ?_
              refine QE.done fun H878 m879 => ?_
              have h880 := m879 _ _ h644
              have h881 := m879 _ _ h645
              have o882 := Own.mono o637 m879
              have o883 := Own.mono o638 m879
              have m884 := m646.trans m879
              refine AOps.nil ?_
              change AWP _ _ _ _ _ _
              refine AWP.ret ?_
              refine Fin.frz 2 o883 rfl m884 fun H885 m886 k887 => ?_
              have h888 := (k887 _ no641).trans h880
              have h889 := (k887 _ no642).trans h881
              have o890 := Own.stay o882 sp643 (fun i hi _ => k887 i hi)
              refine Fin.frz 3 o890 rfl m886 fun H891 m892 k893 => ?_
              have h894 := (k893 _ no639).trans h888
              have h895 := (k893 _ no640).trans h889
              refine ⟨_, _, Ghost.refl, .inr rfl, _, Res.three rfl rfl rfl rfl, ?_, m892⟩
              exact congrArg AV.tup (lc (congrArg (fun l : List SpotT => AV.sl l.length (l.flatMap eSpot)) (show ((spotsL rs (maxL rs)) : List SpotT) = (weaveR rs).1 from by rw [(weave_T h hrt).2.2]; first | done | rfl | (unfold trisL; rw [if_neg b407, show k = 4 by omega]))) (lc (congrArg (fun l : List I3T => AV.sl l.length (l.flatMap eI3)) (show ((midO (numL (spotsL rs (maxL rs))) (maxL rs) (maxL rs - 1) ++ strO (numL (spotsL rs (maxL rs))) rs (maxL rs) k) : List I3T) = (weaveR rs).2.1 from by rw [(weave_T h hrt).2.2]; first | done | rfl | (unfold trisL; rw [if_neg b407, show k = 4 by omega]))) (lc (congrArg AV.bool (show (true : Bool) = (weaveR rs).2.2 from by rw [(weave_T h hrt).2.2]; first | done | rfl | (unfold trisL; rw [if_neg b407, show k = 4 by omega]))) rfl)))
end Go.Proofs.M
namespace Go.Proofs.M
open Go Go.AH
set_option maxRecDepth 4000
set_option linter.unusedSimpArgs false
set_option linter.unusedVariables false
set_option maxHeartbeats 4000000
end Go.Proofs.M
namespace Go.Proofs.M
open Go Go.AH
theorem crn_rng {k : Int} (h0 : 0 ≤ k) (h4 : k < 4) : 0 ≤ at_ ([0, 3, 15, 12] : List Int) k ∧ at_ ([0, 3, 15, 12] : List Int) k < 16 := by
  rcases (by omega : k = 0 ∨ k = 1 ∨ k = 2 ∨ k = 3) with rfl | rfl | rfl | rfl <;> decide
end Go.Proofs.M
namespace Go.Proofs.M
open Go Go.AH
set_option maxRecDepth 4000
set_option linter.unusedSimpArgs false
set_option linter.unusedVariables false
set_option maxHeartbeats 4000000
def R_mesh_corner (p : PatchT) (cage id : Int) (rs : List Int) (m : Int) (k : Int) : VertexT :=
  (VertexT.mk (at_ p.aP (at_ ([0, 3, 15, 12] : List Int) k)) (at_ p.aNormals k) (KeyT.mk 1 cage (at_ p.aCorners k) 0 0))
theorem c_mesh_corner (p : PatchT) (cage id : Int) (rs : List Int) (h : rs.length = 4) (m : Int) (k : Int) (hk : 0 ≤ k ∧ k < 4) : PC Tryd.prog 52 [.fptr ((p.aP.flatMap eV) ++ ((p.aCorners.map eI) ++ ((p.aNormals.flatMap eV) ++ (([.int .i64 p.Skin, .int .i64 cage, .int .i64 id] : List AV) ++ ((rs.map eI) ++ ([.int .i64 m] : List AV)))))) 0, .int .i64 k] (.agg [.int .i64 (((R_mesh_corner p cage id rs m k).atF).X), .int .i64 (((R_mesh_corner p cage id rs m k).atF).Y), .int .i64 (((R_mesh_corner p cage id rs m k).atF).Z), .int .i64 (((R_mesh_corner p cage id rs m k).up).X), .int .i64 (((R_mesh_corner p cage id rs m k).up).Y), .int .i64 (((R_mesh_corner p cage id rs m k).up).Z), .int .i64 (((R_mesh_corner p cage id rs m k).key).Kind), .int .i64 (((R_mesh_corner p cage id rs m k).key).Of), .int .i64 (((R_mesh_corner p cage id rs m k).key).A), .int .i64 (((R_mesh_corner p cage id rs m k).key).B), .int .i64 (((R_mesh_corner p cage id rs m k).key).N)]) := by
 intro H0
 refine ACalls.of_body' (n := 34) rfl rfl rfl rfl ?_
 have m0 := Mono.refl H0
 refine AWP.seq ?_
 refine AWP.region (l := [0]) rfl ?_
 refine AOps.cons rfl rfl (AOp.alloc rfl tz_78 ?_)
 intro i1 H2 n3 h4 k5
 have z6 := Mono.free m0 n3
 have m7 := Mono.new m0 n3 k5
 refine AOps.nil ?_
 change AWP _ _ _ _ _ _
 refine AWP.seq ?_
 have hg := crn_rng hk.1 hk.2
 refine AWP.region_quiet mixed (by kernel_rfl) 29 [29] rfl (by kernel_rfl) (Mono H2) (Mono.refl _) ?_
 refine QE.op rfl rfl (.inl ⟨rfl, fun f' H' hf hM => AOp.move (.fptr ((p.aP.flatMap eV) ++ ((p.aCorners.map eI) ++ ((p.aNormals.flatMap eV) ++ (([.int .i64 p.Skin, .int .i64 cage, .int .i64 id] : List AV) ++ ((rs.map eI) ++ ([.int .i64 m] : List AV)))))) 0) rfl ((hf 0 rfl).trans rfl) ⟨rfl, hM⟩⟩) ?_
 refine QE.op rfl rfl (.inl ⟨rfl, fun f' H' hf hM => AOp.move (.int .i64 k) rfl ((hf 1 rfl).trans rfl) ⟨rfl, hM⟩⟩) ?_
 refine QE.op rfl rfl (.inl ⟨rfl, fun f' H' hf hM => AOp.indexAddrFA rfl rfl ((hf 6 rfl).trans rfl) ar_25 (by omega) (by omega) ⟨rfl, hM⟩⟩) ?_
 refine QE.op rfl rfl (.inl ⟨rfl, fun f' H' hf hM => AOp.loadF (.int .i64 (at_ ([0, 3, 15, 12] : List Int) k)) rfl ((hf 7 rfl).trans rfl) ty_3 (ld_off (o := 0 + k.toNat * 1) (by omega) (ld1 (i := k) (xs := ([0, 3, 15, 12] : List Int)) (by omega) (by first | (have := (rfl : ([0, 3, 15, 12] : List Int).length = 4); omega) | (simp; omega)))) ⟨rfl, hM⟩⟩) ?_
 refine QE.op rfl rfl (.inl ⟨rfl, fun f' H' hf hM => AOp.nilCheck (.fptr ((p.aP.flatMap eV) ++ ((p.aCorners.map eI) ++ ((p.aNormals.flatMap eV) ++ (([.int .i64 p.Skin, .int .i64 cage, .int .i64 id] : List AV) ++ ((rs.map eI) ++ ([.int .i64 m] : List AV)))))) 0) rfl ((hf 5 rfl).trans rfl) rfl ⟨rfl, hM⟩⟩) ?_
 refine QE.op rfl rfl (.inl ⟨rfl, fun f' H' hf hM => AOp.fieldAddrF rfl ((hf 9 rfl).trans rfl) fl_74_0 ⟨rfl, hM⟩⟩) ?_
 refine QE.op rfl rfl (.inl ⟨rfl, fun f' H' hf hM => AOp.fieldAddrF rfl ((hf 10 rfl).trans rfl) fl_28_0 ⟨rfl, hM⟩⟩) ?_
 refine QE.op rfl rfl (.inl ⟨rfl, fun f' H' hf hM => AOp.indexAddrFA rfl ((hf 11 rfl).trans rfl) ((hf 8 rfl).trans rfl) ar_24 (by omega) (by omega) ⟨rfl, hM⟩⟩) ?_
 refine QE.op rfl rfl (.inl ⟨rfl, fun f' H' hf hM => AOp.loadF (.agg [.int .i64 ((at_ p.aP (at_ ([0, 3, 15, 12] : List Int) k)).X), .int .i64 ((at_ p.aP (at_ ([0, 3, 15, 12] : List Int) k)).Y), .int .i64 ((at_ p.aP (at_ ([0, 3, 15, 12] : List Int) k)).Z)]) rfl ((hf 12 rfl).trans rfl) ty_23 (ld_off (o := 0 + (at_ ([0, 3, 15, 12] : List Int) k).toNat * 3) (by omega) (ld_fst (fun h => by first | rfl | cases h) (ldM eV_len (i := at_ ([0, 3, 15, 12] : List Int) k) (by omega) (by first | (have := p.lP; omega) | (simp; omega))))) ⟨rfl, hM⟩⟩) ?_
 refine QE.op rfl rfl (.inl ⟨rfl, fun f' H' hf hM => AOp.move (.fptr ((p.aP.flatMap eV) ++ ((p.aCorners.map eI) ++ ((p.aNormals.flatMap eV) ++ (([.int .i64 p.Skin, .int .i64 cage, .int .i64 id] : List AV) ++ ((rs.map eI) ++ ([.int .i64 m] : List AV)))))) 0) rfl ((hf 0 rfl).trans rfl) ⟨rfl, hM⟩⟩) ?_
 refine QE.op rfl rfl (.inl ⟨rfl, fun f' H' hf hM => AOp.move (.int .i64 k) rfl ((hf 1 rfl).trans rfl) ⟨rfl, hM⟩⟩) ?_
 refine QE.op rfl rfl (.inl ⟨rfl, fun f' H' hf hM => AOp.nilCheck (.fptr ((p.aP.flatMap eV) ++ ((p.aCorners.map eI) ++ ((p.aNormals.flatMap eV) ++ (([.int .i64 p.Skin, .int .i64 cage, .int .i64 id] : List AV) ++ ((rs.map eI) ++ ([.int .i64 m] : List AV)))))) 0) rfl ((hf 14 rfl).trans rfl) rfl ⟨rfl, hM⟩⟩) ?_
 refine QE.op rfl rfl (.inl ⟨rfl, fun f' H' hf hM => AOp.fieldAddrF rfl ((hf 16 rfl).trans rfl) fl_74_0 ⟨rfl, hM⟩⟩) ?_
 refine QE.op rfl rfl (.inl ⟨rfl, fun f' H' hf hM => AOp.fieldAddrF rfl ((hf 17 rfl).trans rfl) fl_28_2 ⟨rfl, hM⟩⟩) ?_
 refine QE.op rfl rfl (.inl ⟨rfl, fun f' H' hf hM => AOp.indexAddrFA rfl ((hf 18 rfl).trans rfl) ((hf 15 rfl).trans rfl) ar_26 (by omega) (by omega) ⟨rfl, hM⟩⟩) ?_
 refine QE.op rfl rfl (.inl ⟨rfl, fun f' H' hf hM => AOp.loadF (.agg [.int .i64 ((at_ p.aNormals k).X), .int .i64 ((at_ p.aNormals k).Y), .int .i64 ((at_ p.aNormals k).Z)]) rfl ((hf 19 rfl).trans rfl) ty_23 (ld_skip (off' := 4 + ((k).toNat * 3)) (lenM eV_len p.lP rfl) (by omega) (ld_skip (off' := (k).toNat * 3) (len1 p.lCorners) (by omega) (ld_fst (fun h => by first | rfl | cases h) (ldM eV_len (i := k) (by omega) (by first | (have := p.lNormals; omega) | (simp; omega)))))) ⟨rfl, hM⟩⟩) ?_
 refine QE.op rfl rfl (.inl ⟨rfl, fun f' H' hf hM => AOp.move (.fptr ((p.aP.flatMap eV) ++ ((p.aCorners.map eI) ++ ((p.aNormals.flatMap eV) ++ (([.int .i64 p.Skin, .int .i64 cage, .int .i64 id] : List AV) ++ ((rs.map eI) ++ ([.int .i64 m] : List AV)))))) 0) rfl ((hf 0 rfl).trans rfl) ⟨rfl, hM⟩⟩) ?_
 refine QE.op rfl rfl (.inl ⟨rfl, fun f' H' hf hM => AOp.nilCheck (.fptr ((p.aP.flatMap eV) ++ ((p.aCorners.map eI) ++ ((p.aNormals.flatMap eV) ++ (([.int .i64 p.Skin, .int .i64 cage, .int .i64 id] : List AV) ++ ((rs.map eI) ++ ([.int .i64 m] : List AV)))))) 0) rfl ((hf 21 rfl).trans rfl) rfl ⟨rfl, hM⟩⟩) ?_
 refine QE.op rfl rfl (.inl ⟨rfl, fun f' H' hf hM => AOp.fieldAddrF rfl ((hf 22 rfl).trans rfl) fl_74_1 ⟨rfl, hM⟩⟩) ?_
 refine QE.op rfl rfl (.inl ⟨rfl, fun f' H' hf hM => AOp.loadF (.int .i64 cage) rfl ((hf 23 rfl).trans rfl) ty_3 (ld_skip (off' := 17) (lenM eV_len p.lP rfl) (by omega) (ld_skip (off' := 13) (len1 p.lCorners) (by omega) (ld_skip (off' := 1) (lenM eV_len p.lNormals rfl) (by omega) (ld_fst (fun h => by first | rfl | cases h) rfl)))) ⟨rfl, hM⟩⟩) ?_
 refine QE.op rfl rfl (.inl ⟨rfl, fun f' H' hf hM => AOp.move (.fptr ((p.aP.flatMap eV) ++ ((p.aCorners.map eI) ++ ((p.aNormals.flatMap eV) ++ (([.int .i64 p.Skin, .int .i64 cage, .int .i64 id] : List AV) ++ ((rs.map eI) ++ ([.int .i64 m] : List AV)))))) 0) rfl ((hf 0 rfl).trans rfl) ⟨rfl, hM⟩⟩) ?_
 refine QE.op rfl rfl (.inl ⟨rfl, fun f' H' hf hM => AOp.move (.int .i64 k) rfl ((hf 1 rfl).trans rfl) ⟨rfl, hM⟩⟩) ?_
 refine QE.op rfl rfl (.inl ⟨rfl, fun f' H' hf hM => AOp.nilCheck (.fptr ((p.aP.flatMap eV) ++ ((p.aCorners.map eI) ++ ((p.aNormals.flatMap eV) ++ (([.int .i64 p.Skin, .int .i64 cage, .int .i64 id] : List AV) ++ ((rs.map eI) ++ ([.int .i64 m] : List AV)))))) 0) rfl ((hf 25 rfl).trans rfl) rfl ⟨rfl, hM⟩⟩) ?_
 refine QE.op rfl rfl (.inl ⟨rfl, fun f' H' hf hM => AOp.fieldAddrF rfl ((hf 27 rfl).trans rfl) fl_74_0 ⟨rfl, hM⟩⟩) ?_
 refine QE.op rfl rfl (.inl ⟨rfl, fun f' H' hf hM => AOp.fieldAddrF rfl ((hf 28 rfl).trans rfl) fl_28_1 ⟨rfl, hM⟩⟩) ?_
 refine QE.op rfl rfl (.inl ⟨rfl, fun f' H' hf hM => AOp.indexAddrFA rfl ((hf 29 rfl).trans rfl) ((hf 26 rfl).trans rfl) ar_25 (by omega) (by omega) ⟨rfl, hM⟩⟩) ?_
 refine QE.op rfl rfl (.inl ⟨rfl, fun f' H' hf hM => AOp.loadF (.int .i64 (at_ p.aCorners k)) rfl ((hf 30 rfl).trans rfl) ty_3 (ld_skip (off' := (k).toNat * 1) (lenM eV_len p.lP rfl) (by omega) (ld_fst (fun h => by first | rfl | cases h) (ld1 (i := k) (by omega) (by first | (have := p.lCorners; omega) | (simp; omega))))) ⟨rfl, hM⟩⟩) ?_
 refine QE.op rfl rfl (.inl ⟨rfl, fun f' H' hf hM => AOp.build (cells := [.int .i64 1, .int .i64 cage, .int .i64 (at_ p.aCorners k), .int .i64 0, .int .i64 0]) rfl tz_58 pl_58 (lconsP rfl (lconsP ((hf 24 rfl).trans rfl) (lconsP ((hf 31 rfl).trans rfl) rfl))) rfl ⟨rfl, hM⟩⟩) ?_
 refine QE.op rfl rfl (.inl ⟨rfl, fun f' H' hf hM => AOp.build (cells := [.int .i64 ((at_ p.aP (at_ ([0, 3, 15, 12] : List Int) k)).X), .int .i64 ((at_ p.aP (at_ ([0, 3, 15, 12] : List Int) k)).Y), .int .i64 ((at_ p.aP (at_ ([0, 3, 15, 12] : List Int) k)).Z), .int .i64 ((at_ p.aNormals k).X), .int .i64 ((at_ p.aNormals k).Y), .int .i64 ((at_ p.aNormals k).Z), .int .i64 1, .int .i64 cage, .int .i64 (at_ p.aCorners k), .int .i64 0, .int .i64 0]) rfl tz_78 pl_78 (lconsP ((hf 13 rfl).trans rfl) (lconsP ((hf 20 rfl).trans rfl) (lconsP ((hf 32 rfl).trans rfl) rfl))) rfl ⟨rfl, hM⟩⟩) ?_
 refine QE.done fun H8 m9 => ?_
 have h10 := m9 _ _ h4
 have m11 := m7.trans m9
 refine AOps.cons rfl rfl (AOp.store' (cells' := [.int .i64 ((at_ p.aP (at_ ([0, 3, 15, 12] : List Int) k)).X), .int .i64 ((at_ p.aP (at_ ([0, 3, 15, 12] : List Int) k)).Y), .int .i64 ((at_ p.aP (at_ ([0, 3, 15, 12] : List Int) k)).Z), .int .i64 ((at_ p.aNormals k).X), .int .i64 ((at_ p.aNormals k).Y), .int .i64 ((at_ p.aNormals k).Z), .int .i64 1, .int .i64 cage, .int .i64 (at_ p.aCorners k), .int .i64 0, .int .i64 0]) (.agg [.int .i64 ((at_ p.aP (at_ ([0, 3, 15, 12] : List Int) k)).X), .int .i64 ((at_ p.aP (at_ ([0, 3, 15, 12] : List Int) k)).Y), .int .i64 ((at_ p.aP (at_ ([0, 3, 15, 12] : List Int) k)).Z), .int .i64 ((at_ p.aNormals k).X), .int .i64 ((at_ p.aNormals k).Y), .int .i64 ((at_ p.aNormals k).Z), .int .i64 1, .int .i64 cage, .int .i64 (at_ p.aCorners k), .int .i64 0, .int .i64 0]) rfl rfl ts_78 h10 rfl rfl rfl rfl ?_)
 intro H12 h13 k14
 have m16 := Mono.set m11 z6 k14
 refine AOps.nil ?_
 change AWP _ _ _ _ _ _
 refine AWP.ret ?_
 refine ⟨_, _, Ghost.refl, .inr rfl, _, Res.list1 rfl (.cell (v := .agg [.int .i64 ((at_ p.aP (at_ ([0, 3, 15, 12] : List Int) k)).X), .int .i64 ((at_ p.aP (at_ ([0, 3, 15, 12] : List Int) k)).Y), .int .i64 ((at_ p.aP (at_ ([0, 3, 15, 12] : List Int) k)).Z), .int .i64 ((at_ p.aNormals k).X), .int .i64 ((at_ p.aNormals k).Y), .int .i64 ((at_ p.aNormals k).Z), .int .i64 1, .int .i64 cage, .int .i64 (at_ p.aCorners k), .int .i64 0, .int .i64 0]) rfl ty_78 h13 rfl (.nil)), ?_, m16⟩
 have hR : R_mesh_corner p cage id rs m k = (VertexT.mk (at_ p.aP (at_ ([0, 3, 15, 12] : List Int) k)) (at_ p.aNormals k) (KeyT.mk 1 cage (at_ p.aCorners k) 0 0)) := rfl
 exact (congrArg (fun r : VertexT => (.agg [.int .i64 r.atF.X, .int .i64 r.atF.Y, .int .i64 r.atF.Z, .int .i64 r.up.X, .int .i64 r.up.Y, .int .i64 r.up.Z, .int .i64 r.key.Kind, .int .i64 r.key.Of, .int .i64 r.key.A, .int .i64 r.key.B, .int .i64 r.key.N] : AV)) hR).symm
def R_mesh_side (p : PatchT) (cage id : Int) (rs : List Int) (m : Int) (k : Int) (i : Int) : VertexT :=
  if at_ p.aCorners ((k + 1) % 4) < at_ p.aCorners k then (VertexT.mk ((R_curve_Cubic (R_curve_Row p.aP k) i (at_ rs k)).1) ((R_relief_Blend (at_ p.aNormals k) (at_ p.aNormals ((k + 1) % 4)) i (at_ rs k)).1) (KeyT.mk 2 cage (at_ p.aCorners ((k + 1) % 4)) (at_ p.aCorners k) (at_ rs k - i))) else (VertexT.mk ((R_curve_Cubic (R_curve_Row p.aP k) i (at_ rs k)).1) ((R_relief_Blend (at_ p.aNormals k) (at_ p.aNormals ((k + 1) % 4)) i (at_ rs k)).1) (KeyT.mk 2 cage (at_ p.aCorners k) (at_ p.aCorners ((k + 1) % 4)) i))
theorem c_mesh_side (p : PatchT) (cage id : Int) (rs : List Int) (h : rs.length = 4) (m : Int) (k : Int) (i : Int) (hk : 0 ≤ k ∧ k < 4) (hi : -1000 ≤ i ∧ i ≤ 1000) (hrk : -1000 ≤ at_ rs k ∧ at_ rs k ≤ 1000) : PC Tryd.prog 53 [.fptr ((p.aP.flatMap eV) ++ ((p.aCorners.map eI) ++ ((p.aNormals.flatMap eV) ++ (([.int .i64 p.Skin, .int .i64 cage, .int .i64 id] : List AV) ++ ((rs.map eI) ++ ([.int .i64 m] : List AV)))))) 0, .int .i64 k, .int .i64 i] (.agg [.int .i64 (((R_mesh_side p cage id rs m k i).atF).X), .int .i64 (((R_mesh_side p cage id rs m k i).atF).Y), .int .i64 (((R_mesh_side p cage id rs m k i).atF).Z), .int .i64 (((R_mesh_side p cage id rs m k i).up).X), .int .i64 (((R_mesh_side p cage id rs m k i).up).Y), .int .i64 (((R_mesh_side p cage id rs m k i).up).Z), .int .i64 (((R_mesh_side p cage id rs m k i).key).Kind), .int .i64 (((R_mesh_side p cage id rs m k i).key).Of), .int .i64 (((R_mesh_side p cage id rs m k i).key).A), .int .i64 (((R_mesh_side p cage id rs m k i).key).B), .int .i64 (((R_mesh_side p cage id rs m k i).key).N)]) := by
 intro H0
 refine ACalls.of_body' (n := 90) rfl rfl rfl rfl ?_
 have m0 := Mono.refl H0
 refine AWP.seq ?_
 refine AWP.region (l := [0]) rfl ?_
 refine AOps.cons rfl rfl (AOp.alloc rfl tz_78 ?_)
 intro i1 H2 n3 h4 k5
 have z6 := Mono.free m0 n3
 have m7 := Mono.new m0 n3 k5
 refine AOps.nil ?_
 change AWP _ _ _ _ _ _
 refine AWP.seq ?_
 refine AWP.region (l := [0, 1, 2, 3, 4, 5, 6, 7, 8, 9, 10]) rfl ?_
 refine AOps.cons rfl rfl (AOp.move (.fptr ((p.aP.flatMap eV) ++ ((p.aCorners.map eI) ++ ((p.aNormals.flatMap eV) ++ (([.int .i64 p.Skin, .int .i64 cage, .int .i64 id] : List AV) ++ ((rs.map eI) ++ ([.int .i64 m] : List AV)))))) 0) rfl rfl ?_)
 refine AOps.cons rfl rfl (AOp.move (.int .i64 k) rfl rfl ?_)
 refine AOps.cons rfl rfl (AOp.nilCheck (.fptr ((p.aP.flatMap eV) ++ ((p.aCorners.map eI) ++ ((p.aNormals.flatMap eV) ++ (([.int .i64 p.Skin, .int .i64 cage, .int .i64 id] : List AV) ++ ((rs.map eI) ++ ([.int .i64 m] : List AV)))))) 0) rfl rfl rfl ?_)
 refine AOps.cons rfl rfl (AOp.fieldAddrF rfl rfl fl_74_3 ?_)
 refine AOps.cons rfl rfl (AOp.indexAddrFA rfl rfl rfl ar_25 (by omega) (by omega) ?_)
 refine AOps.cons rfl rfl (AOp.loadF (.int .i64 (at_ rs k)) rfl rfl ty_3 (ld_skip (off' := 19 + ((k).toNat * 1)) (lenM eV_len p.lP rfl) (by omega) (ld_skip (off' := 15 + ((k).toNat * 1)) (len1 p.lCorners) (by omega) (ld_skip (off' := 3 + ((k).toNat * 1)) (lenM eV_len p.lNormals rfl) (by omega) (ld_skip (off' := (k).toNat * 1) (n := 3) rfl (by omega) (ld_fst (fun h => by first | rfl | cases h) (ld1 (i := k) (by omega) (by first | (have := h; omega) | (simp; omega)))))))) ?_)
 refine AOps.cons rfl rfl (AOp.move (.int .i64 k) rfl rfl ?_)
 refine AOps.cons rfl rfl (AOp.bin (.int .i64 (k + 1)) rfl rfl rfl (iadd (by omega)) ?_)
 refine AOps.cons rfl rfl (AOp.remP rfl rfl rfl (by omega) (by omega) ?_)
 refine AOps.cons rfl rfl (AOp.assign (.int .i64 (at_ rs k)) rfl rfl ?_)
 refine AOps.cons rfl rfl (AOp.assign (.int .i64 ((k + 1) % 4)) rfl rfl ?_)
 refine AOps.nil ?_
 change AWP _ _ _ _ _ _
 refine AWP.seq ?_
 refine AWP.region (l := [0, 1, 2, 3, 4, 5, 6, 7, 8, 9, 10, 11, 12, 13, 14, 15]) rfl ?_
 refine AOps.cons rfl rfl (AOp.move (.fptr ((p.aP.flatMap eV) ++ ((p.aCorners.map eI) ++ ((p.aNormals.flatMap eV) ++ (([.int .i64 p.Skin, .int .i64 cage, .int .i64 id] : List AV) ++ ((rs.map eI) ++ ([.int .i64 m] : List AV)))))) 0) rfl rfl ?_)
 refine AOps.cons rfl rfl (AOp.nilCheck (.fptr ((p.aP.flatMap eV) ++ ((p.aCorners.map eI) ++ ((p.aNormals.flatMap eV) ++ (([.int .i64 p.Skin, .int .i64 cage, .int .i64 id] : List AV) ++ ((rs.map eI) ++ ([.int .i64 m] : List AV)))))) 0) rfl rfl rfl ?_)
 refine AOps.cons rfl rfl (AOp.fieldAddrF rfl rfl fl_74_0 ?_)
 refine AOps.cons rfl rfl (AOp.fieldAddrF rfl rfl fl_28_0 ?_)
 refine AOps.cons rfl rfl (AOp.loadF (.agg (p.aP.flatMap eV)) rfl rfl ty_24 (ld_fst (fun h => by first | rfl | cases h) (ld_all (lenM eV_len p.lP rfl))) ?_)
 refine AOps.cons rfl rfl (AOp.move (.int .i64 k) rfl rfl ?_)
 refine AOps.cons rfl rfl (AOp.pcall («as» := [.agg (p.aP.flatMap eV), .int .i64 k]) rfl rfl (rfl) tf_47 (c_curve_Row p.aP p.lP k) ?_)
 intro H8 m9
 have h10 := m9 _ _ h4
 have m11 := m7.trans m9
 refine AOps.cons rfl rfl (AOp.move (.int .i64 i) rfl rfl ?_)
 refine AOps.cons rfl rfl (AOp.move (.int .i64 (at_ rs k)) rfl rfl ?_)
 refine AOps.cons rfl rfl (AOp.pcall («as» := [.agg ((R_curve_Row p.aP k).flatMap eV), .int .i64 i, .int .i64 (at_ rs k)]) rfl rfl (rfl) tf_84 (c_curve_Cubic (R_curve_Row p.aP k) (R_curve_Row_len p.aP k) i (at_ rs k)) ?_)
 intro H12 m13
 have h14 := m13 _ _ h10
 have m15 := m11.trans m13
 refine AOps.cons rfl rfl (AOp.move (.tup [.agg [.int .i64 (((R_curve_Cubic (R_curve_Row p.aP k) i (at_ rs k)).1).X), .int .i64 (((R_curve_Cubic (R_curve_Row p.aP k) i (at_ rs k)).1).Y), .int .i64 (((R_curve_Cubic (R_curve_Row p.aP k) i (at_ rs k)).1).Z)], .bool ((R_curve_Cubic (R_curve_Row p.aP k) i (at_ rs k)).2)]) rfl rfl ?_)
 refine AOps.cons rfl rfl (AOp.extract (.agg [.int .i64 (((R_curve_Cubic (R_curve_Row p.aP k) i (at_ rs k)).1).X), .int .i64 (((R_curve_Cubic (R_curve_Row p.aP k) i (at_ rs k)).1).Y), .int .i64 (((R_curve_Cubic (R_curve_Row p.aP k) i (at_ rs k)).1).Z)]) rfl rfl rfl ?_)
 refine AOps.cons rfl rfl (AOp.extract (.bool ((R_curve_Cubic (R_curve_Row p.aP k) i (at_ rs k)).2)) rfl rfl rfl ?_)
 refine AOps.cons rfl rfl (AOp.alloc rfl tz_23 ?_)
 intro i16 H17 n18 h19 k20
 have e21 := ne_new h14 n18
 have z22 := Mono.free m15 n18
 have h23 := keep k20 (ne_new h14 n18) h14
 have m24 := Mono.new m15 n18 k20
 refine AOps.cons rfl rfl (AOp.store' (cells' := [.int .i64 (((R_curve_Cubic (R_curve_Row p.aP k) i (at_ rs k)).1).X), .int .i64 (((R_curve_Cubic (R_curve_Row p.aP k) i (at_ rs k)).1).Y), .int .i64 (((R_curve_Cubic (R_curve_Row p.aP k) i (at_ rs k)).1).Z)]) (.agg [.int .i64 (((R_curve_Cubic (R_curve_Row p.aP k) i (at_ rs k)).1).X), .int .i64 (((R_curve_Cubic (R_curve_Row p.aP k) i (at_ rs k)).1).Y), .int .i64 (((R_curve_Cubic (R_curve_Row p.aP k) i (at_ rs k)).1).Z)]) rfl rfl ts_23 h19 rfl rfl rfl rfl ?_)
 intro H25 h26 k27
 have h28 := keep k27 e21 h23
 have m30 := Mono.set m24 z22 k27
 refine AOps.cons rfl rfl (AOp.assign (.bool ((R_curve_Cubic (R_curve_Row p.aP k) i (at_ rs k)).2)) rfl rfl ?_)
 refine AOps.nil ?_
 change AWP _ _ _ _ _ _
 refine AWP.seq ?_
 refine AWP.frzP 9 h26 z22 rfl m30 fun H31 m32 k33 => ?_
 have h34 := (k33 _ e21).trans h28
 refine AWP.region_str mixed (by kernel_rfl) [(0, none), (1, none), (2, none), (3, none), (4, none), (5, none), (6, none), (7, none), (8, none), (9, none), (10, none), (11, none), (12, none), (13, none), (14, none), (15, none), (16, none), (17, none), (18, none), (19, none), (20, some [0, 1, 2, 3, 4, 5, 6, 7, 8, 9, 10, 11, 12, 13, 14, 15, 16, 17, 18, 19]), (21, some [19])] [22] (by kernel_rfl) ?_
 refine STR.op rfl rfl (.inl ⟨rfl, fun H1 f' H' hf hN hM => AOp.move (.fptr ((p.aP.flatMap eV) ++ ((p.aCorners.map eI) ++ ((p.aNormals.flatMap eV) ++ (([.int .i64 p.Skin, .int .i64 cage, .int .i64 id] : List AV) ++ ((rs.map eI) ++ ([.int .i64 m] : List AV)))))) 0) rfl ((hf 0 rfl).trans rfl) ⟨rfl, hN⟩⟩) ?_
 refine STR.op rfl rfl (.inl ⟨rfl, fun H1 f' H' hf hN hM => AOp.move (.int .i64 k) rfl ((hf 1 rfl).trans rfl) ⟨rfl, hN⟩⟩) ?_
 refine STR.op rfl rfl (.inl ⟨rfl, fun H1 f' H' hf hN hM => AOp.nilCheck (.fptr ((p.aP.flatMap eV) ++ ((p.aCorners.map eI) ++ ((p.aNormals.flatMap eV) ++ (([.int .i64 p.Skin, .int .i64 cage, .int .i64 id] : List AV) ++ ((rs.map eI) ++ ([.int .i64 m] : List AV)))))) 0) rfl ((hf 38 rfl).trans rfl) rfl ⟨rfl, hN⟩⟩) ?_
 refine STR.op rfl rfl (.inl ⟨rfl, fun H1 f' H' hf hN hM => AOp.fieldAddrF rfl ((hf 40 rfl).trans rfl) fl_74_0 ⟨rfl, hN⟩⟩) ?_
 refine STR.op rfl rfl (.inl ⟨rfl, fun H1 f' H' hf hN hM => AOp.fieldAddrF rfl ((hf 41 rfl).trans rfl) fl_28_2 ⟨rfl, hN⟩⟩) ?_
 refine STR.op rfl rfl (.inl ⟨rfl, fun H1 f' H' hf hN hM => AOp.indexAddrFA rfl ((hf 42 rfl).trans rfl) ((hf 39 rfl).trans rfl) ar_26 (by omega) (by omega) ⟨rfl, hN⟩⟩) ?_
 refine STR.op rfl rfl (.inl ⟨rfl, fun H1 f' H' hf hN hM => AOp.loadF (.agg [.int .i64 ((at_ p.aNormals k).X), .int .i64 ((at_ p.aNormals k).Y), .int .i64 ((at_ p.aNormals k).Z)]) rfl ((hf 43 rfl).trans rfl) ty_23 (ld_skip (off' := 4 + ((k).toNat * 3)) (lenM eV_len p.lP rfl) (by omega) (ld_skip (off' := (k).toNat * 3) (len1 p.lCorners) (by omega) (ld_fst (fun h => by first | rfl | cases h) (ldM eV_len (i := k) (by omega) (by first | (have := p.lNormals; omega) | (simp; omega)))))) ⟨rfl, hN⟩⟩) ?_
 refine STR.op rfl rfl (.inl ⟨rfl, fun H1 f' H' hf hN hM => AOp.move (.fptr ((p.aP.flatMap eV) ++ ((p.aCorners.map eI) ++ ((p.aNormals.flatMap eV) ++ (([.int .i64 p.Skin, .int .i64 cage, .int .i64 id] : List AV) ++ ((rs.map eI) ++ ([.int .i64 m] : List AV)))))) 0) rfl ((hf 0 rfl).trans rfl) ⟨rfl, hN⟩⟩) ?_
 refine STR.op rfl rfl (.inl ⟨rfl, fun H1 f' H' hf hN hM => AOp.move (.int .i64 ((k + 1) % 4)) rfl ((hf 8 rfl).trans rfl) ⟨rfl, hN⟩⟩) ?_
 refine STR.op rfl rfl (.inl ⟨rfl, fun H1 f' H' hf hN hM => AOp.nilCheck (.fptr ((p.aP.flatMap eV) ++ ((p.aCorners.map eI) ++ ((p.aNormals.flatMap eV) ++ (([.int .i64 p.Skin, .int .i64 cage, .int .i64 id] : List AV) ++ ((rs.map eI) ++ ([.int .i64 m] : List AV)))))) 0) rfl ((hf 45 rfl).trans rfl) rfl ⟨rfl, hN⟩⟩) ?_
 refine STR.op rfl rfl (.inl ⟨rfl, fun H1 f' H' hf hN hM => AOp.fieldAddrF rfl ((hf 47 rfl).trans rfl) fl_74_0 ⟨rfl, hN⟩⟩) ?_
 refine STR.op rfl rfl (.inl ⟨rfl, fun H1 f' H' hf hN hM => AOp.fieldAddrF rfl ((hf 48 rfl).trans rfl) fl_28_2 ⟨rfl, hN⟩⟩) ?_
 refine STR.op rfl rfl (.inl ⟨rfl, fun H1 f' H' hf hN hM => AOp.indexAddrFA rfl ((hf 49 rfl).trans rfl) ((hf 46 rfl).trans rfl) ar_26 (by omega) (by omega) ⟨rfl, hN⟩⟩) ?_
 refine STR.op rfl rfl (.inl ⟨rfl, fun H1 f' H' hf hN hM => AOp.loadF (.agg [.int .i64 ((at_ p.aNormals ((k + 1) % 4)).X), .int .i64 ((at_ p.aNormals ((k + 1) % 4)).Y), .int .i64 ((at_ p.aNormals ((k + 1) % 4)).Z)]) rfl ((hf 50 rfl).trans rfl) ty_23 (ld_skip (off' := 4 + (((k + 1) % 4).toNat * 3)) (lenM eV_len p.lP rfl) (by omega) (ld_skip (off' := ((k + 1) % 4).toNat * 3) (len1 p.lCorners) (by omega) (ld_fst (fun h => by first | rfl | cases h) (ldM eV_len (i := (k + 1) % 4) (by omega) (by first | (have := p.lNormals; omega) | (simp; omega)))))) ⟨rfl, hN⟩⟩) ?_
 refine STR.op rfl rfl (.inl ⟨rfl, fun H1 f' H' hf hN hM => AOp.move (.int .i64 i) rfl ((hf 2 rfl).trans rfl) ⟨rfl, hN⟩⟩) ?_
 refine STR.op rfl rfl (.inl ⟨rfl, fun H1 f' H' hf hN hM => AOp.move (.int .i64 (at_ rs k)) rfl ((hf 7 rfl).trans rfl) ⟨rfl, hN⟩⟩) ?_
 refine STR.op rfl rfl (.inl ⟨rfl, fun H1 f' H' hf hN hM => AOp.pcall («as» := [.agg [.int .i64 ((at_ p.aNormals k).X), .int .i64 ((at_ p.aNormals k).Y), .int .i64 ((at_ p.aNormals k).Z)], .agg [.int .i64 ((at_ p.aNormals ((k + 1) % 4)).X), .int .i64 ((at_ p.aNormals ((k + 1) % 4)).Y), .int .i64 ((at_ p.aNormals ((k + 1) % 4)).Z)], .int .i64 i, .int .i64 (at_ rs k)]) rfl rfl (lapp (lcons ((hf 44 rfl).trans rfl) (lcons ((hf 51 rfl).trans rfl) (lcons ((hf 52 rfl).trans rfl) (lcons ((hf 53 rfl).trans rfl) rfl)))) rfl) tf_85 (c_relief_Blend (at_ p.aNormals k) (at_ p.aNormals ((k + 1) % 4)) i (at_ rs k)) fun H2 m2 => ⟨rfl, hN.trans m2⟩⟩) ?_
 refine STR.op rfl rfl (.inl ⟨rfl, fun H1 f' H' hf hN hM => AOp.move (.tup [.agg [.int .i64 (((R_relief_Blend (at_ p.aNormals k) (at_ p.aNormals ((k + 1) % 4)) i (at_ rs k)).1).X), .int .i64 (((R_relief_Blend (at_ p.aNormals k) (at_ p.aNormals ((k + 1) % 4)) i (at_ rs k)).1).Y), .int .i64 (((R_relief_Blend (at_ p.aNormals k) (at_ p.aNormals ((k + 1) % 4)) i (at_ rs k)).1).Z)], .bool ((R_relief_Blend (at_ p.aNormals k) (at_ p.aNormals ((k + 1) % 4)) i (at_ rs k)).2)]) rfl ((hf 54 rfl).trans rfl) ⟨rfl, hN⟩⟩) ?_
 refine STR.op rfl rfl (.inl ⟨rfl, fun H1 f' H' hf hN hM => AOp.extract (.agg [.int .i64 (((R_relief_Blend (at_ p.aNormals k) (at_ p.aNormals ((k + 1) % 4)) i (at_ rs k)).1).X), .int .i64 (((R_relief_Blend (at_ p.aNormals k) (at_ p.aNormals ((k + 1) % 4)) i (at_ rs k)).1).Y), .int .i64 (((R_relief_Blend (at_ p.aNormals k) (at_ p.aNormals ((k + 1) % 4)) i (at_ rs k)).1).Z)]) rfl ((hf 37 rfl).trans rfl) rfl ⟨rfl, hN⟩⟩) ?_
 refine STR.op rfl rfl (.inl ⟨rfl, fun H1 f' H' hf hN hM => AOp.extract (.bool ((R_relief_Blend (at_ p.aNormals k) (at_ p.aNormals ((k + 1) % 4)) i (at_ rs k)).2)) rfl ((hf 37 rfl).trans rfl) rfl ⟨rfl, hN⟩⟩) ?_
 refine STR.eff rfl rfl rfl fun f35 H36 hf37 m38 => ?_
 have h39 := m38 _ _ h34
 have m40 := m32.trans m38
 refine AOp.alloc rfl tz_23 ?_
 intro i41 H42 n43 h44 k45
 have e46 := ne_new h39 n43
 have z47 := Mono.free m40 n43
 have h48 := keep k45 (ne_new h39 n43) h39
 have m49 := Mono.new m40 n43 k45
 refine ⟨_, rfl, .inl (Mono.new (Mono.refl _) n43 k45), ?_⟩
 refine STR.st rfl rfl rfl fun f50 H51 hf52 m53 => ?_
 have h54 := m53 _ _ h48
 have h55 := m53 _ _ h44
 have m56 := m49.trans m53
 refine AOp.store' (cells' := [.int .i64 (((R_relief_Blend (at_ p.aNormals k) (at_ p.aNormals ((k + 1) % 4)) i (at_ rs k)).1).X), .int .i64 (((R_relief_Blend (at_ p.aNormals k) (at_ p.aNormals ((k + 1) % 4)) i (at_ rs k)).1).Y), .int .i64 (((R_relief_Blend (at_ p.aNormals k) (at_ p.aNormals ((k + 1) % 4)) i (at_ rs k)).1).Z)]) (.agg [.int .i64 (((R_relief_Blend (at_ p.aNormals k) (at_ p.aNormals ((k + 1) % 4)) i (at_ rs k)).1).X), .int .i64 (((R_relief_Blend (at_ p.aNormals k) (at_ p.aNormals ((k + 1) % 4)) i (at_ rs k)).1).Y), .int .i64 (((R_relief_Blend (at_ p.aNormals k) (at_ p.aNormals ((k + 1) % 4)) i (at_ rs k)).1).Z)]) ((hf52 11 rfl).trans rfl) ((hf52 55 rfl).trans rfl) ts_23 h55 rfl rfl rfl rfl ?_
 intro H57 h58 k59
 have h60 := keep k59 e46 h54
 have m62 := Mono.set m56 z47 k59
 refine ⟨rfl, .inr (RevR.skip rfl (RevR.cons rfl (.inl ⟨rfl, fun H1 f' H' hf hN hM => AOp.extract (.bool ((R_relief_Blend (at_ p.aNormals k) (at_ p.aNormals ((k + 1) % 4)) i (at_ rs k)).2)) rfl ((hf 37 rfl).trans rfl) rfl ⟨rfl, hN⟩⟩) (RevR.skip rfl (RevR.skip rfl (RevR.skip rfl (RevR.skip rfl (RevR.skip rfl (RevR.skip rfl (RevR.skip rfl (RevR.skip rfl (RevR.skip rfl (RevR.skip rfl (RevR.skip rfl (RevR.skip rfl (RevR.skip rfl (RevR.skip rfl (RevR.skip rfl (RevR.skip rfl (RevR.skip rfl (RevR.skip rfl (RevR.skip rfl RevR.nil))))))))))))))))))))), ?_⟩
 refine STR.done fun H63 m64 => ?_
 have h65 := m64 _ _ h60
 have h66 := m64 _ _ h58
 have m67 := m62.trans m64
 refine AOps.cons rfl rfl (AOp.assign (.bool ((R_relief_Blend (at_ p.aNormals k) (at_ p.aNormals ((k + 1) % 4)) i (at_ rs k)).2)) rfl rfl ?_)
 refine AOps.nil ?_
 change AWP _ _ _ _ _ _
 refine AWP.seq ?_
 refine AWP.frzP 11 h66 z47 rfl m67 fun H68 m69 k70 => ?_
 have h71 := (k70 _ e46).trans h65
 refine AWP.region_quiet mixed (by kernel_rfl) 16 [] rfl (by kernel_rfl) (Mono H68) (Mono.refl _) ?_
 refine QE.op rfl rfl (.inl ⟨rfl, fun f' H' hf hM => AOp.move (.fptr ((p.aP.flatMap eV) ++ ((p.aCorners.map eI) ++ ((p.aNormals.flatMap eV) ++ (([.int .i64 p.Skin, .int .i64 cage, .int .i64 id] : List AV) ++ ((rs.map eI) ++ ([.int .i64 m] : List AV)))))) 0) rfl ((hf 0 rfl).trans rfl) ⟨rfl, hM⟩⟩) ?_
 refine QE.op rfl rfl (.inl ⟨rfl, fun f' H' hf hM => AOp.move (.int .i64 k) rfl ((hf 1 rfl).trans rfl) ⟨rfl, hM⟩⟩) ?_
 refine QE.op rfl rfl (.inl ⟨rfl, fun f' H' hf hM => AOp.nilCheck (.fptr ((p.aP.flatMap eV) ++ ((p.aCorners.map eI) ++ ((p.aNormals.flatMap eV) ++ (([.int .i64 p.Skin, .int .i64 cage, .int .i64 id] : List AV) ++ ((rs.map eI) ++ ([.int .i64 m] : List AV)))))) 0) rfl ((hf 57 rfl).trans rfl) rfl ⟨rfl, hM⟩⟩) ?_
 refine QE.op rfl rfl (.inl ⟨rfl, fun f' H' hf hM => AOp.fieldAddrF rfl ((hf 59 rfl).trans rfl) fl_74_0 ⟨rfl, hM⟩⟩) ?_
 refine QE.op rfl rfl (.inl ⟨rfl, fun f' H' hf hM => AOp.fieldAddrF rfl ((hf 60 rfl).trans rfl) fl_28_1 ⟨rfl, hM⟩⟩) ?_
 refine QE.op rfl rfl (.inl ⟨rfl, fun f' H' hf hM => AOp.indexAddrFA rfl ((hf 61 rfl).trans rfl) ((hf 58 rfl).trans rfl) ar_25 (by omega) (by omega) ⟨rfl, hM⟩⟩) ?_
 refine QE.op rfl rfl (.inl ⟨rfl, fun f' H' hf hM => AOp.loadF (.int .i64 (at_ p.aCorners k)) rfl ((hf 62 rfl).trans rfl) ty_3 (ld_skip (off' := (k).toNat * 1) (lenM eV_len p.lP rfl) (by omega) (ld_fst (fun h => by first | rfl | cases h) (ld1 (i := k) (by omega) (by first | (have := p.lCorners; omega) | (simp; omega))))) ⟨rfl, hM⟩⟩) ?_
 refine QE.op rfl rfl (.inl ⟨rfl, fun f' H' hf hM => AOp.move (.fptr ((p.aP.flatMap eV) ++ ((p.aCorners.map eI) ++ ((p.aNormals.flatMap eV) ++ (([.int .i64 p.Skin, .int .i64 cage, .int .i64 id] : List AV) ++ ((rs.map eI) ++ ([.int .i64 m] : List AV)))))) 0) rfl ((hf 0 rfl).trans rfl) ⟨rfl, hM⟩⟩) ?_
 refine QE.op rfl rfl (.inl ⟨rfl, fun f' H' hf hM => AOp.move (.int .i64 ((k + 1) % 4)) rfl ((hf 8 rfl).trans rfl) ⟨rfl, hM⟩⟩) ?_
 refine QE.op rfl rfl (.inl ⟨rfl, fun f' H' hf hM => AOp.nilCheck (.fptr ((p.aP.flatMap eV) ++ ((p.aCorners.map eI) ++ ((p.aNormals.flatMap eV) ++ (([.int .i64 p.Skin, .int .i64 cage, .int .i64 id] : List AV) ++ ((rs.map eI) ++ ([.int .i64 m] : List AV)))))) 0) rfl ((hf 64 rfl).trans rfl) rfl ⟨rfl, hM⟩⟩) ?_
 refine QE.op rfl rfl (.inl ⟨rfl, fun f' H' hf hM => AOp.fieldAddrF rfl ((hf 66 rfl).trans rfl) fl_74_0 ⟨rfl, hM⟩⟩) ?_
 refine QE.op rfl rfl (.inl ⟨rfl, fun f' H' hf hM => AOp.fieldAddrF rfl ((hf 67 rfl).trans rfl) fl_28_1 ⟨rfl, hM⟩⟩) ?_
 refine QE.op rfl rfl (.inl ⟨rfl, fun f' H' hf hM => AOp.indexAddrFA rfl ((hf 68 rfl).trans rfl) ((hf 65 rfl).trans rfl) ar_25 (by omega) (by omega) ⟨rfl, hM⟩⟩) ?_
 refine QE.op rfl rfl (.inl ⟨rfl, fun f' H' hf hM => AOp.loadF (.int .i64 (at_ p.aCorners ((k + 1) % 4))) rfl ((hf 69 rfl).trans rfl) ty_3 (ld_skip (off' := ((k + 1) % 4).toNat * 1) (lenM eV_len p.lP rfl) (by omega) (ld_fst (fun h => by first | rfl | cases h) (ld1 (i := (k + 1) % 4) (by omega) (by first | (have := p.lCorners; omega) | (simp; omega))))) ⟨rfl, hM⟩⟩) ?_
 refine QE.op rfl rfl (.inl ⟨rfl, fun f' H' hf hM => AOp.assign (.int .i64 (at_ p.aCorners k)) rfl ((hf 63 rfl).trans rfl) ⟨rfl, hM⟩⟩) ?_
 refine QE.op rfl rfl (.inl ⟨rfl, fun f' H' hf hM => AOp.assign (.int .i64 (at_ p.aCorners ((k + 1) % 4))) rfl ((hf 70 rfl).trans rfl) ⟨rfl, hM⟩⟩) ?_
 refine QE.done fun H72 m73 => ?_
 have h74 := m73 _ _ h71
 have m75 := m69.trans m73
 refine AOps.nil ?_
 change AWP _ _ _ _ _ _
 refine AWP.seq ?_
 refine AWP.seq ?_
 refine AWP.region (l := [0, 1, 2]) rfl ?_
 refine AOps.cons rfl rfl (AOp.move (.int .i64 (at_ p.aCorners ((k + 1) % 4))) rfl rfl ?_)
 refine AOps.cons rfl rfl (AOp.move (.int .i64 (at_ p.aCorners k)) rfl rfl ?_)
 refine AOps.cons rfl rfl (AOp.bin (.bool (decide (at_ p.aCorners ((k + 1) % 4) < at_ p.aCorners k))) rfl rfl rfl rfl ?_)
 refine AOps.nil ?_
 change AWP _ _ _ _ _ _
 by_cases b76 : at_ p.aCorners ((k + 1) % 4) < at_ p.aCorners k
 ·
  refine AWP.condT rfl (decide_eq_true b76) ?_
  refine AWP.region (l := [0, 1, 2, 3, 4, 5, 6, 7]) rfl ?_
  refine AOps.cons rfl rfl (AOp.move (.int .i64 (at_ p.aCorners ((k + 1) % 4))) rfl rfl ?_)
  refine AOps.cons rfl rfl (AOp.move (.int .i64 (at_ p.aCorners k)) rfl rfl ?_)
  refine AOps.cons rfl rfl (AOp.move (.int .i64 (at_ rs k)) rfl rfl ?_)
  refine AOps.cons rfl rfl (AOp.move (.int .i64 i) rfl rfl ?_)
  refine AOps.cons rfl rfl (AOp.bin (.int .i64 (at_ rs k - i)) rfl rfl rfl (isub (by omega)) ?_)
  refine AOps.cons rfl rfl (AOp.assign (.int .i64 (at_ p.aCorners ((k + 1) % 4))) rfl rfl ?_)
  refine AOps.cons rfl rfl (AOp.assign (.int .i64 (at_ p.aCorners k)) rfl rfl ?_)
  refine AOps.cons rfl rfl (AOp.assign (.int .i64 (at_ rs k - i)) rfl rfl ?_)
  refine AOps.nil ?_
  change AWP _ _ _ _ _ _
  refine AWP.seq ?_
  refine AWP.region_quiet mixed (by kernel_rfl) 11 [11] rfl (by kernel_rfl) (Mono H72) (Mono.refl _) ?_
  refine QE.op rfl rfl (.inl ⟨rfl, fun f' H' hf hM => AOp.loadF (.agg [.int .i64 (((R_curve_Cubic (R_curve_Row p.aP k) i (at_ rs k)).1).X), .int .i64 (((R_curve_Cubic (R_curve_Row p.aP k) i (at_ rs k)).1).Y), .int .i64 (((R_curve_Cubic (R_curve_Row p.aP k) i (at_ rs k)).1).Z)]) rfl ((hf 9 rfl).trans rfl) ty_23 rfl ⟨rfl, hM⟩⟩) ?_
  refine QE.op rfl rfl (.inl ⟨rfl, fun f' H' hf hM => AOp.loadF (.agg [.int .i64 (((R_relief_Blend (at_ p.aNormals k) (at_ p.aNormals ((k + 1) % 4)) i (at_ rs k)).1).X), .int .i64 (((R_relief_Blend (at_ p.aNormals k) (at_ p.aNormals ((k + 1) % 4)) i (at_ rs k)).1).Y), .int .i64 (((R_relief_Blend (at_ p.aNormals k) (at_ p.aNormals ((k + 1) % 4)) i (at_ rs k)).1).Z)]) rfl ((hf 11 rfl).trans rfl) ty_23 rfl ⟨rfl, hM⟩⟩) ?_
  refine QE.op rfl rfl (.inl ⟨rfl, fun f' H' hf hM => AOp.move (.fptr ((p.aP.flatMap eV) ++ ((p.aCorners.map eI) ++ ((p.aNormals.flatMap eV) ++ (([.int .i64 p.Skin, .int .i64 cage, .int .i64 id] : List AV) ++ ((rs.map eI) ++ ([.int .i64 m] : List AV)))))) 0) rfl ((hf 0 rfl).trans rfl) ⟨rfl, hM⟩⟩) ?_
  refine QE.op rfl rfl (.inl ⟨rfl, fun f' H' hf hM => AOp.nilCheck (.fptr ((p.aP.flatMap eV) ++ ((p.aCorners.map eI) ++ ((p.aNormals.flatMap eV) ++ (([.int .i64 p.Skin, .int .i64 cage, .int .i64 id] : List AV) ++ ((rs.map eI) ++ ([.int .i64 m] : List AV)))))) 0) rfl ((hf 81 rfl).trans rfl) rfl ⟨rfl, hM⟩⟩) ?_
  refine QE.op rfl rfl (.inl ⟨rfl, fun f' H' hf hM => AOp.fieldAddrF rfl ((hf 82 rfl).trans rfl) fl_74_1 ⟨rfl, hM⟩⟩) ?_
  refine QE.op rfl rfl (.inl ⟨rfl, fun f' H' hf hM => AOp.loadF (.int .i64 cage) rfl ((hf 83 rfl).trans rfl) ty_3 (ld_skip (off' := 17) (lenM eV_len p.lP rfl) (by omega) (ld_skip (off' := 13) (len1 p.lCorners) (by omega) (ld_skip (off' := 1) (lenM eV_len p.lNormals rfl) (by omega) (ld_fst (fun h => by first | rfl | cases h) rfl)))) ⟨rfl, hM⟩⟩) ?_
  refine QE.op rfl rfl (.inl ⟨rfl, fun f' H' hf hM => AOp.move (.int .i64 (at_ p.aCorners ((k + 1) % 4))) rfl ((hf 13 rfl).trans rfl) ⟨rfl, hM⟩⟩) ?_
  refine QE.op rfl rfl (.inl ⟨rfl, fun f' H' hf hM => AOp.move (.int .i64 (at_ p.aCorners k)) rfl ((hf 14 rfl).trans rfl) ⟨rfl, hM⟩⟩) ?_
  refine QE.op rfl rfl (.inl ⟨rfl, fun f' H' hf hM => AOp.move (.int .i64 (at_ rs k - i)) rfl ((hf 2 rfl).trans rfl) ⟨rfl, hM⟩⟩) ?_
  refine QE.op rfl rfl (.inl ⟨rfl, fun f' H' hf hM => AOp.build (cells := [.int .i64 2, .int .i64 cage, .int .i64 (at_ p.aCorners ((k + 1) % 4)), .int .i64 (at_ p.aCorners k), .int .i64 (at_ rs k - i)]) rfl tz_58 pl_58 (lconsP rfl (lconsP ((hf 84 rfl).trans rfl) (lconsP ((hf 85 rfl).trans rfl) (lconsP ((hf 86 rfl).trans rfl) (lconsP ((hf 87 rfl).trans rfl) rfl))))) rfl ⟨rfl, hM⟩⟩) ?_
  refine QE.op rfl rfl (.inl ⟨rfl, fun f' H' hf hM => AOp.build (cells := [.int .i64 (((R_curve_Cubic (R_curve_Row p.aP k) i (at_ rs k)).1).X), .int .i64 (((R_curve_Cubic (R_curve_Row p.aP k) i (at_ rs k)).1).Y), .int .i64 (((R_curve_Cubic (R_curve_Row p.aP k) i (at_ rs k)).1).Z), .int .i64 (((R_relief_Blend (at_ p.aNormals k) (at_ p.aNormals ((k + 1) % 4)) i (at_ rs k)).1).X), .int .i64 (((R_relief_Blend (at_ p.aNormals k) (at_ p.aNormals ((k + 1) % 4)) i (at_ rs k)).1).Y), .int .i64 (((R_relief_Blend (at_ p.aNormals k) (at_ p.aNormals ((k + 1) % 4)) i (at_ rs k)).1).Z), .int .i64 2, .int .i64 cage, .int .i64 (at_ p.aCorners ((k + 1) % 4)), .int .i64 (at_ p.aCorners k), .int .i64 (at_ rs k - i)]) rfl tz_78 pl_78 (lconsP ((hf 79 rfl).trans rfl) (lconsP ((hf 80 rfl).trans rfl) (lconsP ((hf 88 rfl).trans rfl) rfl))) rfl ⟨rfl, hM⟩⟩) ?_
  refine QE.done fun H77 m78 => ?_
  have h79 := m78 _ _ h74
  have m80 := m75.trans m78
  refine AOps.cons rfl rfl (AOp.store' (cells' := [.int .i64 (((R_curve_Cubic (R_curve_Row p.aP k) i (at_ rs k)).1).X), .int .i64 (((R_curve_Cubic (R_curve_Row p.aP k) i (at_ rs k)).1).Y), .int .i64 (((R_curve_Cubic (R_curve_Row p.aP k) i (at_ rs k)).1).Z), .int .i64 (((R_relief_Blend (at_ p.aNormals k) (at_ p.aNormals ((k + 1) % 4)) i (at_ rs k)).1).X), .int .i64 (((R_relief_Blend (at_ p.aNormals k) (at_ p.aNormals ((k + 1) % 4)) i (at_ rs k)).1).Y), .int .i64 (((R_relief_Blend (at_ p.aNormals k) (at_ p.aNormals ((k + 1) % 4)) i (at_ rs k)).1).Z), .int .i64 2, .int .i64 cage, .int .i64 (at_ p.aCorners ((k + 1) % 4)), .int .i64 (at_ p.aCorners k), .int .i64 (at_ rs k - i)]) (.agg [.int .i64 (((R_curve_Cubic (R_curve_Row p.aP k) i (at_ rs k)).1).X), .int .i64 (((R_curve_Cubic (R_curve_Row p.aP k) i (at_ rs k)).1).Y), .int .i64 (((R_curve_Cubic (R_curve_Row p.aP k) i (at_ rs k)).1).Z), .int .i64 (((R_relief_Blend (at_ p.aNormals k) (at_ p.aNormals ((k + 1) % 4)) i (at_ rs k)).1).X), .int .i64 (((R_relief_Blend (at_ p.aNormals k) (at_ p.aNormals ((k + 1) % 4)) i (at_ rs k)).1).Y), .int .i64 (((R_relief_Blend (at_ p.aNormals k) (at_ p.aNormals ((k + 1) % 4)) i (at_ rs k)).1).Z), .int .i64 2, .int .i64 cage, .int .i64 (at_ p.aCorners ((k + 1) % 4)), .int .i64 (at_ p.aCorners k), .int .i64 (at_ rs k - i)]) rfl rfl ts_78 h79 rfl rfl rfl rfl ?_)
  intro H81 h82 k83
  have m85 := Mono.set m80 z6 k83
  refine AOps.nil ?_
  change AWP _ _ _ _ _ _
  refine AWP.ret ?_
  refine ⟨_, _, Ghost.refl, .inr rfl, _, Res.list1 rfl (.cell (v := .agg [.int .i64 (((R_curve_Cubic (R_curve_Row p.aP k) i (at_ rs k)).1).X), .int .i64 (((R_curve_Cubic (R_curve_Row p.aP k) i (at_ rs k)).1).Y), .int .i64 (((R_curve_Cubic (R_curve_Row p.aP k) i (at_ rs k)).1).Z), .int .i64 (((R_relief_Blend (at_ p.aNormals k) (at_ p.aNormals ((k + 1) % 4)) i (at_ rs k)).1).X), .int .i64 (((R_relief_Blend (at_ p.aNormals k) (at_ p.aNormals ((k + 1) % 4)) i (at_ rs k)).1).Y), .int .i64 (((R_relief_Blend (at_ p.aNormals k) (at_ p.aNormals ((k + 1) % 4)) i (at_ rs k)).1).Z), .int .i64 2, .int .i64 cage, .int .i64 (at_ p.aCorners ((k + 1) % 4)), .int .i64 (at_ p.aCorners k), .int .i64 (at_ rs k - i)]) rfl ty_78 h82 rfl (.nil)), ?_, m85⟩
  have hR : R_mesh_side p cage id rs m k i = (VertexT.mk ((R_curve_Cubic (R_curve_Row p.aP k) i (at_ rs k)).1) ((R_relief_Blend (at_ p.aNormals k) (at_ p.aNormals ((k + 1) % 4)) i (at_ rs k)).1) (KeyT.mk 2 cage (at_ p.aCorners ((k + 1) % 4)) (at_ p.aCorners k) (at_ rs k - i))) := by unfold R_mesh_side; rw [if_pos b76]
  exact (congrArg (fun r : VertexT => (.agg [.int .i64 r.atF.X, .int .i64 r.atF.Y, .int .i64 r.atF.Z, .int .i64 r.up.X, .int .i64 r.up.Y, .int .i64 r.up.Z, .int .i64 r.key.Kind, .int .i64 r.key.Of, .int .i64 r.key.A, .int .i64 r.key.B, .int .i64 r.key.N] : AV)) hR).symm
 ·
  refine AWP.condF rfl (decide_eq_false b76) ?_
  refine AWP.skip ?_
  change AWP _ _ _ _ _ _
  refine AWP.seq ?_
  refine AWP.region_quiet mixed (by kernel_rfl) 11 [11] rfl (by kernel_rfl) (Mono H72) (Mono.refl _) ?_
  refine QE.op rfl rfl (.inl ⟨rfl, fun f' H' hf hM => AOp.loadF (.agg [.int .i64 (((R_curve_Cubic (R_curve_Row p.aP k) i (at_ rs k)).1).X), .int .i64 (((R_curve_Cubic (R_curve_Row p.aP k) i (at_ rs k)).1).Y), .int .i64 (((R_curve_Cubic (R_curve_Row p.aP k) i (at_ rs k)).1).Z)]) rfl ((hf 9 rfl).trans rfl) ty_23 rfl ⟨rfl, hM⟩⟩) ?_
  refine QE.op rfl rfl (.inl ⟨rfl, fun f' H' hf hM => AOp.loadF (.agg [.int .i64 (((R_relief_Blend (at_ p.aNormals k) (at_ p.aNormals ((k + 1) % 4)) i (at_ rs k)).1).X), .int .i64 (((R_relief_Blend (at_ p.aNormals k) (at_ p.aNormals ((k + 1) % 4)) i (at_ rs k)).1).Y), .int .i64 (((R_relief_Blend (at_ p.aNormals k) (at_ p.aNormals ((k + 1) % 4)) i (at_ rs k)).1).Z)]) rfl ((hf 11 rfl).trans rfl) ty_23 rfl ⟨rfl, hM⟩⟩) ?_
  refine QE.op rfl rfl (.inl ⟨rfl, fun f' H' hf hM => AOp.move (.fptr ((p.aP.flatMap eV) ++ ((p.aCorners.map eI) ++ ((p.aNormals.flatMap eV) ++ (([.int .i64 p.Skin, .int .i64 cage, .int .i64 id] : List AV) ++ ((rs.map eI) ++ ([.int .i64 m] : List AV)))))) 0) rfl ((hf 0 rfl).trans rfl) ⟨rfl, hM⟩⟩) ?_
  refine QE.op rfl rfl (.inl ⟨rfl, fun f' H' hf hM => AOp.nilCheck (.fptr ((p.aP.flatMap eV) ++ ((p.aCorners.map eI) ++ ((p.aNormals.flatMap eV) ++ (([.int .i64 p.Skin, .int .i64 cage, .int .i64 id] : List AV) ++ ((rs.map eI) ++ ([.int .i64 m] : List AV)))))) 0) rfl ((hf 81 rfl).trans rfl) rfl ⟨rfl, hM⟩⟩) ?_
  refine QE.op rfl rfl (.inl ⟨rfl, fun f' H' hf hM => AOp.fieldAddrF rfl ((hf 82 rfl).trans rfl) fl_74_1 ⟨rfl, hM⟩⟩) ?_
  refine QE.op rfl rfl (.inl ⟨rfl, fun f' H' hf hM => AOp.loadF (.int .i64 cage) rfl ((hf 83 rfl).trans rfl) ty_3 (ld_skip (off' := 17) (lenM eV_len p.lP rfl) (by omega) (ld_skip (off' := 13) (len1 p.lCorners) (by omega) (ld_skip (off' := 1) (lenM eV_len p.lNormals rfl) (by omega) (ld_fst (fun h => by first | rfl | cases h) rfl)))) ⟨rfl, hM⟩⟩) ?_
  refine QE.op rfl rfl (.inl ⟨rfl, fun f' H' hf hM => AOp.move (.int .i64 (at_ p.aCorners k)) rfl ((hf 13 rfl).trans rfl) ⟨rfl, hM⟩⟩) ?_
  refine QE.op rfl rfl (.inl ⟨rfl, fun f' H' hf hM => AOp.move (.int .i64 (at_ p.aCorners ((k + 1) % 4))) rfl ((hf 14 rfl).trans rfl) ⟨rfl, hM⟩⟩) ?_
  refine QE.op rfl rfl (.inl ⟨rfl, fun f' H' hf hM => AOp.move (.int .i64 i) rfl ((hf 2 rfl).trans rfl) ⟨rfl, hM⟩⟩) ?_
  refine QE.op rfl rfl (.inl ⟨rfl, fun f' H' hf hM => AOp.build (cells := [.int .i64 2, .int .i64 cage, .int .i64 (at_ p.aCorners k), .int .i64 (at_ p.aCorners ((k + 1) % 4)), .int .i64 i]) rfl tz_58 pl_58 (lconsP rfl (lconsP ((hf 84 rfl).trans rfl) (lconsP ((hf 85 rfl).trans rfl) (lconsP ((hf 86 rfl).trans rfl) (lconsP ((hf 87 rfl).trans rfl) rfl))))) rfl ⟨rfl, hM⟩⟩) ?_
  refine QE.op rfl rfl (.inl ⟨rfl, fun f' H' hf hM => AOp.build (cells := [.int .i64 (((R_curve_Cubic (R_curve_Row p.aP k) i (at_ rs k)).1).X), .int .i64 (((R_curve_Cubic (R_curve_Row p.aP k) i (at_ rs k)).1).Y), .int .i64 (((R_curve_Cubic (R_curve_Row p.aP k) i (at_ rs k)).1).Z), .int .i64 (((R_relief_Blend (at_ p.aNormals k) (at_ p.aNormals ((k + 1) % 4)) i (at_ rs k)).1).X), .int .i64 (((R_relief_Blend (at_ p.aNormals k) (at_ p.aNormals ((k + 1) % 4)) i (at_ rs k)).1).Y), .int .i64 (((R_relief_Blend (at_ p.aNormals k) (at_ p.aNormals ((k + 1) % 4)) i (at_ rs k)).1).Z), .int .i64 2, .int .i64 cage, .int .i64 (at_ p.aCorners k), .int .i64 (at_ p.aCorners ((k + 1) % 4)), .int .i64 i]) rfl tz_78 pl_78 (lconsP ((hf 79 rfl).trans rfl) (lconsP ((hf 80 rfl).trans rfl) (lconsP ((hf 88 rfl).trans rfl) rfl))) rfl ⟨rfl, hM⟩⟩) ?_
  refine QE.done fun H86 m87 => ?_
  have h88 := m87 _ _ h74
  have m89 := m75.trans m87
  refine AOps.cons rfl rfl (AOp.store' (cells' := [.int .i64 (((R_curve_Cubic (R_curve_Row p.aP k) i (at_ rs k)).1).X), .int .i64 (((R_curve_Cubic (R_curve_Row p.aP k) i (at_ rs k)).1).Y), .int .i64 (((R_curve_Cubic (R_curve_Row p.aP k) i (at_ rs k)).1).Z), .int .i64 (((R_relief_Blend (at_ p.aNormals k) (at_ p.aNormals ((k + 1) % 4)) i (at_ rs k)).1).X), .int .i64 (((R_relief_Blend (at_ p.aNormals k) (at_ p.aNormals ((k + 1) % 4)) i (at_ rs k)).1).Y), .int .i64 (((R_relief_Blend (at_ p.aNormals k) (at_ p.aNormals ((k + 1) % 4)) i (at_ rs k)).1).Z), .int .i64 2, .int .i64 cage, .int .i64 (at_ p.aCorners k), .int .i64 (at_ p.aCorners ((k + 1) % 4)), .int .i64 i]) (.agg [.int .i64 (((R_curve_Cubic (R_curve_Row p.aP k) i (at_ rs k)).1).X), .int .i64 (((R_curve_Cubic (R_curve_Row p.aP k) i (at_ rs k)).1).Y), .int .i64 (((R_curve_Cubic (R_curve_Row p.aP k) i (at_ rs k)).1).Z), .int .i64 (((R_relief_Blend (at_ p.aNormals k) (at_ p.aNormals ((k + 1) % 4)) i (at_ rs k)).1).X), .int .i64 (((R_relief_Blend (at_ p.aNormals k) (at_ p.aNormals ((k + 1) % 4)) i (at_ rs k)).1).Y), .int .i64 (((R_relief_Blend (at_ p.aNormals k) (at_ p.aNormals ((k + 1) % 4)) i (at_ rs k)).1).Z), .int .i64 2, .int .i64 cage, .int .i64 (at_ p.aCorners k), .int .i64 (at_ p.aCorners ((k + 1) % 4)), .int .i64 i]) rfl rfl ts_78 h88 rfl rfl rfl rfl ?_)
  intro H90 h91 k92
  have m94 := Mono.set m89 z6 k92
  refine AOps.nil ?_
  change AWP _ _ _ _ _ _
  refine AWP.ret ?_
  refine ⟨_, _, Ghost.refl, .inr rfl, _, Res.list1 rfl (.cell (v := .agg [.int .i64 (((R_curve_Cubic (R_curve_Row p.aP k) i (at_ rs k)).1).X), .int .i64 (((R_curve_Cubic (R_curve_Row p.aP k) i (at_ rs k)).1).Y), .int .i64 (((R_curve_Cubic (R_curve_Row p.aP k) i (at_ rs k)).1).Z), .int .i64 (((R_relief_Blend (at_ p.aNormals k) (at_ p.aNormals ((k + 1) % 4)) i (at_ rs k)).1).X), .int .i64 (((R_relief_Blend (at_ p.aNormals k) (at_ p.aNormals ((k + 1) % 4)) i (at_ rs k)).1).Y), .int .i64 (((R_relief_Blend (at_ p.aNormals k) (at_ p.aNormals ((k + 1) % 4)) i (at_ rs k)).1).Z), .int .i64 2, .int .i64 cage, .int .i64 (at_ p.aCorners k), .int .i64 (at_ p.aCorners ((k + 1) % 4)), .int .i64 i]) rfl ty_78 h91 rfl (.nil)), ?_, m94⟩
  have hR : R_mesh_side p cage id rs m k i = (VertexT.mk ((R_curve_Cubic (R_curve_Row p.aP k) i (at_ rs k)).1) ((R_relief_Blend (at_ p.aNormals k) (at_ p.aNormals ((k + 1) % 4)) i (at_ rs k)).1) (KeyT.mk 2 cage (at_ p.aCorners k) (at_ p.aCorners ((k + 1) % 4)) i)) := by unfold R_mesh_side; rw [if_neg b76]
  exact (congrArg (fun r : VertexT => (.agg [.int .i64 r.atF.X, .int .i64 r.atF.Y, .int .i64 r.atF.Z, .int .i64 r.up.X, .int .i64 r.up.Y, .int .i64 r.up.Z, .int .i64 r.key.Kind, .int .i64 r.key.Of, .int .i64 r.key.A, .int .i64 r.key.B, .int .i64 r.key.N] : AV)) hR).symm
def R_mesh_inner (p : PatchT) (cage id : Int) (rs : List Int) (m : Int) (a : Int) (b : Int) : VertexT :=
  (VertexT.mk ((R_curve_Point p.aP a m b m).1) ((R_relief_Mix p.aNormals a m b m).1) (KeyT.mk 3 id a b 0))
theorem c_mesh_inner (p : PatchT) (cage id : Int) (rs : List Int) (h : rs.length = 4) (m : Int) (a : Int) (b : Int) : PC Tryd.prog 54 [.fptr ((p.aP.flatMap eV) ++ ((p.aCorners.map eI) ++ ((p.aNormals.flatMap eV) ++ (([.int .i64 p.Skin, .int .i64 cage, .int .i64 id] : List AV) ++ ((rs.map eI) ++ ([.int .i64 m] : List AV)))))) 0, .int .i64 a, .int .i64 b] (.agg [.int .i64 (((R_mesh_inner p cage id rs m a b).atF).X), .int .i64 (((R_mesh_inner p cage id rs m a b).atF).Y), .int .i64 (((R_mesh_inner p cage id rs m a b).atF).Z), .int .i64 (((R_mesh_inner p cage id rs m a b).up).X), .int .i64 (((R_mesh_inner p cage id rs m a b).up).Y), .int .i64 (((R_mesh_inner p cage id rs m a b).up).Z), .int .i64 (((R_mesh_inner p cage id rs m a b).key).Kind), .int .i64 (((R_mesh_inner p cage id rs m a b).key).Of), .int .i64 (((R_mesh_inner p cage id rs m a b).key).A), .int .i64 (((R_mesh_inner p cage id rs m a b).key).B), .int .i64 (((R_mesh_inner p cage id rs m a b).key).N)]) := by
 intro H0
 refine ACalls.of_body' (n := 59) rfl rfl rfl rfl ?_
 have m0 := Mono.refl H0
 refine AWP.seq ?_
 refine AWP.region (l := [0]) rfl ?_
 refine AOps.cons rfl rfl (AOp.alloc rfl tz_78 ?_)
 intro i1 H2 n3 h4 k5
 have z6 := Mono.free m0 n3
 have m7 := Mono.new m0 n3 k5
 refine AOps.nil ?_
 change AWP _ _ _ _ _ _
 refine AWP.seq ?_
 refine AWP.region_str mixed (by kernel_rfl) [(0, none), (1, none), (2, none), (3, none), (4, none), (5, none), (6, none), (7, none), (8, none), (9, none), (10, none), (11, none), (12, none), (13, none), (14, none), (15, none), (16, none), (17, none), (18, none), (19, some [0, 1, 2, 3, 4, 5, 6, 7, 8, 9, 10, 11, 12, 13, 14, 15, 16, 17, 18]), (20, some [18])] [21] (by kernel_rfl) ?_
 refine STR.op rfl rfl (.inl ⟨rfl, fun H1 f' H' hf hN hM => AOp.move (.fptr ((p.aP.flatMap eV) ++ ((p.aCorners.map eI) ++ ((p.aNormals.flatMap eV) ++ (([.int .i64 p.Skin, .int .i64 cage, .int .i64 id] : List AV) ++ ((rs.map eI) ++ ([.int .i64 m] : List AV)))))) 0) rfl ((hf 0 rfl).trans rfl) ⟨rfl, hN⟩⟩) ?_
 refine STR.op rfl rfl (.inl ⟨rfl, fun H1 f' H' hf hN hM => AOp.nilCheck (.fptr ((p.aP.flatMap eV) ++ ((p.aCorners.map eI) ++ ((p.aNormals.flatMap eV) ++ (([.int .i64 p.Skin, .int .i64 cage, .int .i64 id] : List AV) ++ ((rs.map eI) ++ ([.int .i64 m] : List AV)))))) 0) rfl ((hf 12 rfl).trans rfl) rfl ⟨rfl, hN⟩⟩) ?_
 refine STR.op rfl rfl (.inl ⟨rfl, fun H1 f' H' hf hN hM => AOp.fieldAddrF rfl ((hf 13 rfl).trans rfl) fl_74_0 ⟨rfl, hN⟩⟩) ?_
 refine STR.op rfl rfl (.inl ⟨rfl, fun H1 f' H' hf hN hM => AOp.fieldAddrF rfl ((hf 14 rfl).trans rfl) fl_28_0 ⟨rfl, hN⟩⟩) ?_
 refine STR.op rfl rfl (.inl ⟨rfl, fun H1 f' H' hf hN hM => AOp.loadF (.agg (p.aP.flatMap eV)) rfl ((hf 15 rfl).trans rfl) ty_24 (ld_fst (fun h => by first | rfl | cases h) (ld_all (lenM eV_len p.lP rfl))) ⟨rfl, hN⟩⟩) ?_
 refine STR.op rfl rfl (.inl ⟨rfl, fun H1 f' H' hf hN hM => AOp.move (.int .i64 a) rfl ((hf 1 rfl).trans rfl) ⟨rfl, hN⟩⟩) ?_
 refine STR.op rfl rfl (.inl ⟨rfl, fun H1 f' H' hf hN hM => AOp.move (.fptr ((p.aP.flatMap eV) ++ ((p.aCorners.map eI) ++ ((p.aNormals.flatMap eV) ++ (([.int .i64 p.Skin, .int .i64 cage, .int .i64 id] : List AV) ++ ((rs.map eI) ++ ([.int .i64 m] : List AV)))))) 0) rfl ((hf 0 rfl).trans rfl) ⟨rfl, hN⟩⟩) ?_
 refine STR.op rfl rfl (.inl ⟨rfl, fun H1 f' H' hf hN hM => AOp.nilCheck (.fptr ((p.aP.flatMap eV) ++ ((p.aCorners.map eI) ++ ((p.aNormals.flatMap eV) ++ (([.int .i64 p.Skin, .int .i64 cage, .int .i64 id] : List AV) ++ ((rs.map eI) ++ ([.int .i64 m] : List AV)))))) 0) rfl ((hf 18 rfl).trans rfl) rfl ⟨rfl, hN⟩⟩) ?_
 refine STR.op rfl rfl (.inl ⟨rfl, fun H1 f' H' hf hN hM => AOp.fieldAddrF rfl ((hf 19 rfl).trans rfl) fl_74_4 ⟨rfl, hN⟩⟩) ?_
 refine STR.op rfl rfl (.inl ⟨rfl, fun H1 f' H' hf hN hM => AOp.loadF (.int .i64 m) rfl ((hf 20 rfl).trans rfl) ty_3 (ld_skip (off' := 23) (lenM eV_len p.lP rfl) (by omega) (ld_skip (off' := 19) (len1 p.lCorners) (by omega) (ld_skip (off' := 7) (lenM eV_len p.lNormals rfl) (by omega) (ld_skip (off' := 4) (n := 3) rfl (by omega) (ld_skip (off' := 0) (len1 h) (by omega) rfl))))) ⟨rfl, hN⟩⟩) ?_
 refine STR.op rfl rfl (.inl ⟨rfl, fun H1 f' H' hf hN hM => AOp.move (.int .i64 b) rfl ((hf 2 rfl).trans rfl) ⟨rfl, hN⟩⟩) ?_
 refine STR.op rfl rfl (.inl ⟨rfl, fun H1 f' H' hf hN hM => AOp.move (.fptr ((p.aP.flatMap eV) ++ ((p.aCorners.map eI) ++ ((p.aNormals.flatMap eV) ++ (([.int .i64 p.Skin, .int .i64 cage, .int .i64 id] : List AV) ++ ((rs.map eI) ++ ([.int .i64 m] : List AV)))))) 0) rfl ((hf 0 rfl).trans rfl) ⟨rfl, hN⟩⟩) ?_
 refine STR.op rfl rfl (.inl ⟨rfl, fun H1 f' H' hf hN hM => AOp.nilCheck (.fptr ((p.aP.flatMap eV) ++ ((p.aCorners.map eI) ++ ((p.aNormals.flatMap eV) ++ (([.int .i64 p.Skin, .int .i64 cage, .int .i64 id] : List AV) ++ ((rs.map eI) ++ ([.int .i64 m] : List AV)))))) 0) rfl ((hf 23 rfl).trans rfl) rfl ⟨rfl, hN⟩⟩) ?_
 refine STR.op rfl rfl (.inl ⟨rfl, fun H1 f' H' hf hN hM => AOp.fieldAddrF rfl ((hf 24 rfl).trans rfl) fl_74_4 ⟨rfl, hN⟩⟩) ?_
 refine STR.op rfl rfl (.inl ⟨rfl, fun H1 f' H' hf hN hM => AOp.loadF (.int .i64 m) rfl ((hf 25 rfl).trans rfl) ty_3 (ld_skip (off' := 23) (lenM eV_len p.lP rfl) (by omega) (ld_skip (off' := 19) (len1 p.lCorners) (by omega) (ld_skip (off' := 7) (lenM eV_len p.lNormals rfl) (by omega) (ld_skip (off' := 4) (n := 3) rfl (by omega) (ld_skip (off' := 0) (len1 h) (by omega) rfl))))) ⟨rfl, hN⟩⟩) ?_
 refine STR.op rfl rfl (.inl ⟨rfl, fun H1 f' H' hf hN hM => AOp.pcall («as» := [.agg (p.aP.flatMap eV), .int .i64 a, .int .i64 m, .int .i64 b, .int .i64 m]) rfl rfl (lapp (lcons ((hf 16 rfl).trans rfl) (lcons ((hf 17 rfl).trans rfl) (lcons ((hf 21 rfl).trans rfl) (lcons ((hf 22 rfl).trans rfl) (lcons ((hf 26 rfl).trans rfl) rfl))))) rfl) tf_86 (c_curve_Point p.aP p.lP a m b m) fun H2 m2 => ⟨rfl, hN.trans m2⟩⟩) ?_
 refine STR.op rfl rfl (.inl ⟨rfl, fun H1 f' H' hf hN hM => AOp.move (.tup [.agg [.int .i64 (((R_curve_Point p.aP a m b m).1).X), .int .i64 (((R_curve_Point p.aP a m b m).1).Y), .int .i64 (((R_curve_Point p.aP a m b m).1).Z)], .bool ((R_curve_Point p.aP a m b m).2)]) rfl ((hf 27 rfl).trans rfl) ⟨rfl, hN⟩⟩) ?_
 refine STR.op rfl rfl (.inl ⟨rfl, fun H1 f' H' hf hN hM => AOp.extract (.agg [.int .i64 (((R_curve_Point p.aP a m b m).1).X), .int .i64 (((R_curve_Point p.aP a m b m).1).Y), .int .i64 (((R_curve_Point p.aP a m b m).1).Z)]) rfl ((hf 11 rfl).trans rfl) rfl ⟨rfl, hN⟩⟩) ?_
 refine STR.op rfl rfl (.inl ⟨rfl, fun H1 f' H' hf hN hM => AOp.extract (.bool ((R_curve_Point p.aP a m b m).2)) rfl ((hf 11 rfl).trans rfl) rfl ⟨rfl, hN⟩⟩) ?_
 refine STR.eff rfl rfl rfl fun f8 H9 hf10 m11 => ?_
 have h12 := m11 _ _ h4
 have m13 := m7.trans m11
 refine AOp.alloc rfl tz_23 ?_
 intro i14 H15 n16 h17 k18
 have e19 := ne_new h12 n16
 have z20 := Mono.free m13 n16
 have h21 := keep k18 (ne_new h12 n16) h12
 have m22 := Mono.new m13 n16 k18
 refine ⟨_, rfl, .inl (Mono.new (Mono.refl _) n16 k18), ?_⟩
 refine STR.st rfl rfl rfl fun f23 H24 hf25 m26 => ?_
 have h27 := m26 _ _ h21
 have h28 := m26 _ _ h17
 have m29 := m22.trans m26
 refine AOp.store' (cells' := [.int .i64 (((R_curve_Point p.aP a m b m).1).X), .int .i64 (((R_curve_Point p.aP a m b m).1).Y), .int .i64 (((R_curve_Point p.aP a m b m).1).Z)]) (.agg [.int .i64 (((R_curve_Point p.aP a m b m).1).X), .int .i64 (((R_curve_Point p.aP a m b m).1).Y), .int .i64 (((R_curve_Point p.aP a m b m).1).Z)]) ((hf25 7 rfl).trans rfl) ((hf25 28 rfl).trans rfl) ts_23 h28 rfl rfl rfl rfl ?_
 intro H30 h31 k32
 have h33 := keep k32 e19 h27
 have m35 := Mono.set m29 z20 k32
 refine ⟨rfl, .inr (RevR.skip rfl (RevR.cons rfl (.inl ⟨rfl, fun H1 f' H' hf hN hM => AOp.extract (.bool ((R_curve_Point p.aP a m b m).2)) rfl ((hf 11 rfl).trans rfl) rfl ⟨rfl, hN⟩⟩) (RevR.skip rfl (RevR.skip rfl (RevR.skip rfl (RevR.skip rfl (RevR.skip rfl (RevR.skip rfl (RevR.skip rfl (RevR.skip rfl (RevR.skip rfl (RevR.skip rfl (RevR.skip rfl (RevR.skip rfl (RevR.skip rfl (RevR.skip rfl (RevR.skip rfl (RevR.skip rfl (RevR.skip rfl (RevR.skip rfl RevR.nil)))))))))))))))))))), ?_⟩
 refine STR.done fun H36 m37 => ?_
 have h38 := m37 _ _ h33
 have h39 := m37 _ _ h31
 have m40 := m35.trans m37
 refine AOps.cons rfl rfl (AOp.assign (.bool ((R_curve_Point p.aP a m b m).2)) rfl rfl ?_)
 refine AOps.nil ?_
 change AWP _ _ _ _ _ _
 refine AWP.seq ?_
 refine AWP.frzP 7 h39 z20 rfl m40 fun H41 m42 k43 => ?_
 have h44 := (k43 _ e19).trans h38
 refine AWP.region_str mixed (by kernel_rfl) [(0, none), (1, none), (2, none), (3, none), (4, none), (5, none), (6, none), (7, none), (8, none), (9, none), (10, none), (11, none), (12, none), (13, none), (14, none), (15, none), (16, none), (17, none), (18, none), (19, some [0, 1, 2, 3, 4, 5, 6, 7, 8, 9, 10, 11, 12, 13, 14, 15, 16, 17, 18]), (20, some [18])] [21] (by kernel_rfl) ?_
 refine STR.op rfl rfl (.inl ⟨rfl, fun H1 f' H' hf hN hM => AOp.move (.fptr ((p.aP.flatMap eV) ++ ((p.aCorners.map eI) ++ ((p.aNormals.flatMap eV) ++ (([.int .i64 p.Skin, .int .i64 cage, .int .i64 id] : List AV) ++ ((rs.map eI) ++ ([.int .i64 m] : List AV)))))) 0) rfl ((hf 0 rfl).trans rfl) ⟨rfl, hN⟩⟩) ?_
 refine STR.op rfl rfl (.inl ⟨rfl, fun H1 f' H' hf hN hM => AOp.nilCheck (.fptr ((p.aP.flatMap eV) ++ ((p.aCorners.map eI) ++ ((p.aNormals.flatMap eV) ++ (([.int .i64 p.Skin, .int .i64 cage, .int .i64 id] : List AV) ++ ((rs.map eI) ++ ([.int .i64 m] : List AV)))))) 0) rfl ((hf 31 rfl).trans rfl) rfl ⟨rfl, hN⟩⟩) ?_
 refine STR.op rfl rfl (.inl ⟨rfl, fun H1 f' H' hf hN hM => AOp.fieldAddrF rfl ((hf 32 rfl).trans rfl) fl_74_0 ⟨rfl, hN⟩⟩) ?_
 refine STR.op rfl rfl (.inl ⟨rfl, fun H1 f' H' hf hN hM => AOp.fieldAddrF rfl ((hf 33 rfl).trans rfl) fl_28_2 ⟨rfl, hN⟩⟩) ?_
 refine STR.op rfl rfl (.inl ⟨rfl, fun H1 f' H' hf hN hM => AOp.loadF (.agg (p.aNormals.flatMap eV)) rfl ((hf 34 rfl).trans rfl) ty_26 (ld_skip (off' := 4) (lenM eV_len p.lP rfl) (by omega) (ld_skip (off' := 0) (len1 p.lCorners) (by omega) (ld_fst (fun h => by first | rfl | cases h) (ld_all (lenM eV_len p.lNormals rfl))))) ⟨rfl, hN⟩⟩) ?_
 refine STR.op rfl rfl (.inl ⟨rfl, fun H1 f' H' hf hN hM => AOp.move (.int .i64 a) rfl ((hf 1 rfl).trans rfl) ⟨rfl, hN⟩⟩) ?_
 refine STR.op rfl rfl (.inl ⟨rfl, fun H1 f' H' hf hN hM => AOp.move (.fptr ((p.aP.flatMap eV) ++ ((p.aCorners.map eI) ++ ((p.aNormals.flatMap eV) ++ (([.int .i64 p.Skin, .int .i64 cage, .int .i64 id] : List AV) ++ ((rs.map eI) ++ ([.int .i64 m] : List AV)))))) 0) rfl ((hf 0 rfl).trans rfl) ⟨rfl, hN⟩⟩) ?_
 refine STR.op rfl rfl (.inl ⟨rfl, fun H1 f' H' hf hN hM => AOp.nilCheck (.fptr ((p.aP.flatMap eV) ++ ((p.aCorners.map eI) ++ ((p.aNormals.flatMap eV) ++ (([.int .i64 p.Skin, .int .i64 cage, .int .i64 id] : List AV) ++ ((rs.map eI) ++ ([.int .i64 m] : List AV)))))) 0) rfl ((hf 37 rfl).trans rfl) rfl ⟨rfl, hN⟩⟩) ?_
 refine STR.op rfl rfl (.inl ⟨rfl, fun H1 f' H' hf hN hM => AOp.fieldAddrF rfl ((hf 38 rfl).trans rfl) fl_74_4 ⟨rfl, hN⟩⟩) ?_
 refine STR.op rfl rfl (.inl ⟨rfl, fun H1 f' H' hf hN hM => AOp.loadF (.int .i64 m) rfl ((hf 39 rfl).trans rfl) ty_3 (ld_skip (off' := 23) (lenM eV_len p.lP rfl) (by omega) (ld_skip (off' := 19) (len1 p.lCorners) (by omega) (ld_skip (off' := 7) (lenM eV_len p.lNormals rfl) (by omega) (ld_skip (off' := 4) (n := 3) rfl (by omega) (ld_skip (off' := 0) (len1 h) (by omega) rfl))))) ⟨rfl, hN⟩⟩) ?_
 refine STR.op rfl rfl (.inl ⟨rfl, fun H1 f' H' hf hN hM => AOp.move (.int .i64 b) rfl ((hf 2 rfl).trans rfl) ⟨rfl, hN⟩⟩) ?_
 refine STR.op rfl rfl (.inl ⟨rfl, fun H1 f' H' hf hN hM => AOp.move (.fptr ((p.aP.flatMap eV) ++ ((p.aCorners.map eI) ++ ((p.aNormals.flatMap eV) ++ (([.int .i64 p.Skin, .int .i64 cage, .int .i64 id] : List AV) ++ ((rs.map eI) ++ ([.int .i64 m] : List AV)))))) 0) rfl ((hf 0 rfl).trans rfl) ⟨rfl, hN⟩⟩) ?_
 refine STR.op rfl rfl (.inl ⟨rfl, fun H1 f' H' hf hN hM => AOp.nilCheck (.fptr ((p.aP.flatMap eV) ++ ((p.aCorners.map eI) ++ ((p.aNormals.flatMap eV) ++ (([.int .i64 p.Skin, .int .i64 cage, .int .i64 id] : List AV) ++ ((rs.map eI) ++ ([.int .i64 m] : List AV)))))) 0) rfl ((hf 42 rfl).trans rfl) rfl ⟨rfl, hN⟩⟩) ?_
 refine STR.op rfl rfl (.inl ⟨rfl, fun H1 f' H' hf hN hM => AOp.fieldAddrF rfl ((hf 43 rfl).trans rfl) fl_74_4 ⟨rfl, hN⟩⟩) ?_
 refine STR.op rfl rfl (.inl ⟨rfl, fun H1 f' H' hf hN hM => AOp.loadF (.int .i64 m) rfl ((hf 44 rfl).trans rfl) ty_3 (ld_skip (off' := 23) (lenM eV_len p.lP rfl) (by omega) (ld_skip (off' := 19) (len1 p.lCorners) (by omega) (ld_skip (off' := 7) (lenM eV_len p.lNormals rfl) (by omega) (ld_skip (off' := 4) (n := 3) rfl (by omega) (ld_skip (off' := 0) (len1 h) (by omega) rfl))))) ⟨rfl, hN⟩⟩) ?_
 refine STR.op rfl rfl (.inl ⟨rfl, fun H1 f' H' hf hN hM => AOp.pcall («as» := [.agg (p.aNormals.flatMap eV), .int .i64 a, .int .i64 m, .int .i64 b, .int .i64 m]) rfl rfl (lapp (lcons ((hf 35 rfl).trans rfl) (lcons ((hf 36 rfl).trans rfl) (lcons ((hf 40 rfl).trans rfl) (lcons ((hf 41 rfl).trans rfl) (lcons ((hf 45 rfl).trans rfl) rfl))))) rfl) tf_87 (c_relief_Mix p.aNormals p.lNormals a m b m) fun H2 m2 => ⟨rfl, hN.trans m2⟩⟩) ?_
 refine STR.op rfl rfl (.inl ⟨rfl, fun H1 f' H' hf hN hM => AOp.move (.tup [.agg [.int .i64 (((R_relief_Mix p.aNormals a m b m).1).X), .int .i64 (((R_relief_Mix p.aNormals a m b m).1).Y), .int .i64 (((R_relief_Mix p.aNormals a m b m).1).Z)], .bool ((R_relief_Mix p.aNormals a m b m).2)]) rfl ((hf 46 rfl).trans rfl) ⟨rfl, hN⟩⟩) ?_
 refine STR.op rfl rfl (.inl ⟨rfl, fun H1 f' H' hf hN hM => AOp.extract (.agg [.int .i64 (((R_relief_Mix p.aNormals a m b m).1).X), .int .i64 (((R_relief_Mix p.aNormals a m b m).1).Y), .int .i64 (((R_relief_Mix p.aNormals a m b m).1).Z)]) rfl ((hf 30 rfl).trans rfl) rfl ⟨rfl, hN⟩⟩) ?_
 refine STR.op rfl rfl (.inl ⟨rfl, fun H1 f' H' hf hN hM => AOp.extract (.bool ((R_relief_Mix p.aNormals a m b m).2)) rfl ((hf 30 rfl).trans rfl) rfl ⟨rfl, hN⟩⟩) ?_
 refine STR.eff rfl rfl rfl fun f45 H46 hf47 m48 => ?_
 have h49 := m48 _ _ h44
 have m50 := m42.trans m48
 refine AOp.alloc rfl tz_23 ?_
 intro i51 H52 n53 h54 k55
 have e56 := ne_new h49 n53
 have z57 := Mono.free m50 n53
 have h58 := keep k55 (ne_new h49 n53) h49
 have m59 := Mono.new m50 n53 k55
 refine ⟨_, rfl, .inl (Mono.new (Mono.refl _) n53 k55), ?_⟩
 refine STR.st rfl rfl rfl fun f60 H61 hf62 m63 => ?_
 have h64 := m63 _ _ h58
 have h65 := m63 _ _ h54
 have m66 := m59.trans m63
 refine AOp.store' (cells' := [.int .i64 (((R_relief_Mix p.aNormals a m b m).1).X), .int .i64 (((R_relief_Mix p.aNormals a m b m).1).Y), .int .i64 (((R_relief_Mix p.aNormals a m b m).1).Z)]) (.agg [.int .i64 (((R_relief_Mix p.aNormals a m b m).1).X), .int .i64 (((R_relief_Mix p.aNormals a m b m).1).Y), .int .i64 (((R_relief_Mix p.aNormals a m b m).1).Z)]) ((hf62 9 rfl).trans rfl) ((hf62 47 rfl).trans rfl) ts_23 h65 rfl rfl rfl rfl ?_
 intro H67 h68 k69
 have h70 := keep k69 e56 h64
 have m72 := Mono.set m66 z57 k69
 refine ⟨rfl, .inr (RevR.skip rfl (RevR.cons rfl (.inl ⟨rfl, fun H1 f' H' hf hN hM => AOp.extract (.bool ((R_relief_Mix p.aNormals a m b m).2)) rfl ((hf 30 rfl).trans rfl) rfl ⟨rfl, hN⟩⟩) (RevR.skip rfl (RevR.skip rfl (RevR.skip rfl (RevR.skip rfl (RevR.skip rfl (RevR.skip rfl (RevR.skip rfl (RevR.skip rfl (RevR.skip rfl (RevR.skip rfl (RevR.skip rfl (RevR.skip rfl (RevR.skip rfl (RevR.skip rfl (RevR.skip rfl (RevR.skip rfl (RevR.skip rfl (RevR.skip rfl RevR.nil)))))))))))))))))))), ?_⟩
 refine STR.done fun H73 m74 => ?_
 have h75 := m74 _ _ h70
 have h76 := m74 _ _ h68
 have m77 := m72.trans m74
 refine AOps.cons rfl rfl (AOp.assign (.bool ((R_relief_Mix p.aNormals a m b m).2)) rfl rfl ?_)
 refine AOps.nil ?_
 change AWP _ _ _ _ _ _
 refine AWP.seq ?_
 refine AWP.frzP 9 h76 z57 rfl m77 fun H78 m79 k80 => ?_
 have h81 := (k80 _ e56).trans h75
 refine AWP.region_quiet mixed (by kernel_rfl) 10 [10] rfl (by kernel_rfl) (Mono H78) (Mono.refl _) ?_
 refine QE.op rfl rfl (.inl ⟨rfl, fun f' H' hf hM => AOp.loadF (.agg [.int .i64 (((R_curve_Point p.aP a m b m).1).X), .int .i64 (((R_curve_Point p.aP a m b m).1).Y), .int .i64 (((R_curve_Point p.aP a m b m).1).Z)]) rfl ((hf 7 rfl).trans rfl) ty_23 rfl ⟨rfl, hM⟩⟩) ?_
 refine QE.op rfl rfl (.inl ⟨rfl, fun f' H' hf hM => AOp.loadF (.agg [.int .i64 (((R_relief_Mix p.aNormals a m b m).1).X), .int .i64 (((R_relief_Mix p.aNormals a m b m).1).Y), .int .i64 (((R_relief_Mix p.aNormals a m b m).1).Z)]) rfl ((hf 9 rfl).trans rfl) ty_23 rfl ⟨rfl, hM⟩⟩) ?_
 refine QE.op rfl rfl (.inl ⟨rfl, fun f' H' hf hM => AOp.move (.fptr ((p.aP.flatMap eV) ++ ((p.aCorners.map eI) ++ ((p.aNormals.flatMap eV) ++ (([.int .i64 p.Skin, .int .i64 cage, .int .i64 id] : List AV) ++ ((rs.map eI) ++ ([.int .i64 m] : List AV)))))) 0) rfl ((hf 0 rfl).trans rfl) ⟨rfl, hM⟩⟩) ?_
 refine QE.op rfl rfl (.inl ⟨rfl, fun f' H' hf hM => AOp.nilCheck (.fptr ((p.aP.flatMap eV) ++ ((p.aCorners.map eI) ++ ((p.aNormals.flatMap eV) ++ (([.int .i64 p.Skin, .int .i64 cage, .int .i64 id] : List AV) ++ ((rs.map eI) ++ ([.int .i64 m] : List AV)))))) 0) rfl ((hf 51 rfl).trans rfl) rfl ⟨rfl, hM⟩⟩) ?_
 refine QE.op rfl rfl (.inl ⟨rfl, fun f' H' hf hM => AOp.fieldAddrF rfl ((hf 52 rfl).trans rfl) fl_74_2 ⟨rfl, hM⟩⟩) ?_
 refine QE.op rfl rfl (.inl ⟨rfl, fun f' H' hf hM => AOp.loadF (.int .i64 id) rfl ((hf 53 rfl).trans rfl) ty_3 (ld_skip (off' := 18) (lenM eV_len p.lP rfl) (by omega) (ld_skip (off' := 14) (len1 p.lCorners) (by omega) (ld_skip (off' := 2) (lenM eV_len p.lNormals rfl) (by omega) (ld_fst (fun h => by first | rfl | cases h) rfl)))) ⟨rfl, hM⟩⟩) ?_
 refine QE.op rfl rfl (.inl ⟨rfl, fun f' H' hf hM => AOp.move (.int .i64 a) rfl ((hf 1 rfl).trans rfl) ⟨rfl, hM⟩⟩) ?_
 refine QE.op rfl rfl (.inl ⟨rfl, fun f' H' hf hM => AOp.move (.int .i64 b) rfl ((hf 2 rfl).trans rfl) ⟨rfl, hM⟩⟩) ?_
 refine QE.op rfl rfl (.inl ⟨rfl, fun f' H' hf hM => AOp.build (cells := [.int .i64 3, .int .i64 id, .int .i64 a, .int .i64 b, .int .i64 0]) rfl tz_58 pl_58 (lconsP rfl (lconsP ((hf 54 rfl).trans rfl) (lconsP ((hf 55 rfl).trans rfl) (lconsP ((hf 56 rfl).trans rfl) rfl)))) rfl ⟨rfl, hM⟩⟩) ?_
 refine QE.op rfl rfl (.inl ⟨rfl, fun f' H' hf hM => AOp.build (cells := [.int .i64 (((R_curve_Point p.aP a m b m).1).X), .int .i64 (((R_curve_Point p.aP a m b m).1).Y), .int .i64 (((R_curve_Point p.aP a m b m).1).Z), .int .i64 (((R_relief_Mix p.aNormals a m b m).1).X), .int .i64 (((R_relief_Mix p.aNormals a m b m).1).Y), .int .i64 (((R_relief_Mix p.aNormals a m b m).1).Z), .int .i64 3, .int .i64 id, .int .i64 a, .int .i64 b, .int .i64 0]) rfl tz_78 pl_78 (lconsP ((hf 49 rfl).trans rfl) (lconsP ((hf 50 rfl).trans rfl) (lconsP ((hf 57 rfl).trans rfl) rfl))) rfl ⟨rfl, hM⟩⟩) ?_
 refine QE.done fun H82 m83 => ?_
 have h84 := m83 _ _ h81
 have m85 := m79.trans m83
 refine AOps.cons rfl rfl (AOp.store' (cells' := [.int .i64 (((R_curve_Point p.aP a m b m).1).X), .int .i64 (((R_curve_Point p.aP a m b m).1).Y), .int .i64 (((R_curve_Point p.aP a m b m).1).Z), .int .i64 (((R_relief_Mix p.aNormals a m b m).1).X), .int .i64 (((R_relief_Mix p.aNormals a m b m).1).Y), .int .i64 (((R_relief_Mix p.aNormals a m b m).1).Z), .int .i64 3, .int .i64 id, .int .i64 a, .int .i64 b, .int .i64 0]) (.agg [.int .i64 (((R_curve_Point p.aP a m b m).1).X), .int .i64 (((R_curve_Point p.aP a m b m).1).Y), .int .i64 (((R_curve_Point p.aP a m b m).1).Z), .int .i64 (((R_relief_Mix p.aNormals a m b m).1).X), .int .i64 (((R_relief_Mix p.aNormals a m b m).1).Y), .int .i64 (((R_relief_Mix p.aNormals a m b m).1).Z), .int .i64 3, .int .i64 id, .int .i64 a, .int .i64 b, .int .i64 0]) rfl rfl ts_78 h84 rfl rfl rfl rfl ?_)
 intro H86 h87 k88
 have m90 := Mono.set m85 z6 k88
 refine AOps.nil ?_
 change AWP _ _ _ _ _ _
 refine AWP.ret ?_
 refine ⟨_, _, Ghost.refl, .inr rfl, _, Res.list1 rfl (.cell (v := .agg [.int .i64 (((R_curve_Point p.aP a m b m).1).X), .int .i64 (((R_curve_Point p.aP a m b m).1).Y), .int .i64 (((R_curve_Point p.aP a m b m).1).Z), .int .i64 (((R_relief_Mix p.aNormals a m b m).1).X), .int .i64 (((R_relief_Mix p.aNormals a m b m).1).Y), .int .i64 (((R_relief_Mix p.aNormals a m b m).1).Z), .int .i64 3, .int .i64 id, .int .i64 a, .int .i64 b, .int .i64 0]) rfl ty_78 h87 rfl (.nil)), ?_, m90⟩
 have hR : R_mesh_inner p cage id rs m a b = (VertexT.mk ((R_curve_Point p.aP a m b m).1) ((R_relief_Mix p.aNormals a m b m).1) (KeyT.mk 3 id a b 0)) := rfl
 exact (congrArg (fun r : VertexT => (.agg [.int .i64 r.atF.X, .int .i64 r.atF.Y, .int .i64 r.atF.Z, .int .i64 r.up.X, .int .i64 r.up.Y, .int .i64 r.up.Z, .int .i64 r.key.Kind, .int .i64 r.key.Of, .int .i64 r.key.A, .int .i64 r.key.B, .int .i64 r.key.N] : AV)) hR).symm
def R_mesh_vertex (p : PatchT) (cage id : Int) (rs : List Int) (m : Int) (x : SpotT) : VertexT :=
  if x.Kind = 1 then (R_mesh_corner p cage id rs m x.A) else (if x.Kind = 2 then (R_mesh_side p cage id rs m x.A x.B) else (R_mesh_inner p cage id rs m x.A x.B))
theorem c_mesh_vertex (p : PatchT) (cage id : Int) (rs : List Int) (h : rs.length = 4) (m : Int) (x : SpotT) (hr : rates rs) (hm : m ≤ 16) (hx : x ∈ spotsL rs m) : PC Tryd.prog 27 [.fptr ((p.aP.flatMap eV) ++ ((p.aCorners.map eI) ++ ((p.aNormals.flatMap eV) ++ (([.int .i64 p.Skin, .int .i64 cage, .int .i64 id] : List AV) ++ ((rs.map eI) ++ ([.int .i64 m] : List AV)))))) 0, .agg [.int .i64 x.Kind, .int .i64 x.A, .int .i64 x.B]] (.agg [.int .i64 (((R_mesh_vertex p cage id rs m x).atF).X), .int .i64 (((R_mesh_vertex p cage id rs m x).atF).Y), .int .i64 (((R_mesh_vertex p cage id rs m x).atF).Z), .int .i64 (((R_mesh_vertex p cage id rs m x).up).X), .int .i64 (((R_mesh_vertex p cage id rs m x).up).Y), .int .i64 (((R_mesh_vertex p cage id rs m x).up).Z), .int .i64 (((R_mesh_vertex p cage id rs m x).key).Kind), .int .i64 (((R_mesh_vertex p cage id rs m x).key).Of), .int .i64 (((R_mesh_vertex p cage id rs m x).key).A), .int .i64 (((R_mesh_vertex p cage id rs m x).key).B), .int .i64 (((R_mesh_vertex p cage id rs m x).key).N)]) := by
 intro H0
 refine ACalls.of_body' (n := 27) rfl rfl rfl rfl ?_
 have m0 := Mono.refl H0
 refine AWP.seq ?_
 refine AWP.region (l := [0, 1]) rfl ?_
 refine AOps.cons rfl rfl (AOp.box (.agg [.int .i64 x.Kind, .int .i64 x.A, .int .i64 x.B]) rfl rfl rfl ?_)
 intro i1 H2 n3 h4 k5
 have z6 := Mono.free m0 n3
 have m7 := Mono.new m0 n3 k5
 refine AOps.cons rfl rfl (AOp.alloc rfl tz_78 ?_)
 intro i8 H9 n10 h11 k12
 have e13 := ne_new h4 n10
 have z14 := Mono.free m7 n10
 have h15 := keep k12 (ne_new h4 n10) h4
 have m16 := Mono.new m7 n10 k12
 refine AOps.nil ?_
 change AWP _ _ _ _ _ _
 refine AWP.seq ?_
 refine AWP.seq ?_
 refine AWP.frzP 3 h15 z6 rfl m16 fun H17 m18 k19 => ?_
 have h20 := (k19 _ (Ne.symm e13)).trans h11
 have hxx := mem_spots.1 hx
 refine AWP.region (l := [0, 1]) rfl ?_
 refine AOps.cons rfl rfl (AOp.fieldAddrF rfl rfl fl_76_0 ?_)
 refine AOps.cons rfl rfl (AOp.loadF (.int .i64 x.Kind) rfl rfl ty_3 rfl ?_)
 refine AOps.nil ?_
 change AWP _ _ _ _ _ _
 refine AWP.block ?_
 refine AWP.seq ?_
 refine AWP.region (l := [0, 1]) rfl ?_
 refine AOps.cons rfl rfl (AOp.bin (.bool (decide (x.Kind = 1))) rfl rfl rfl ieq ?_)
 refine AOps.cons rfl rfl (AOp.assign (.bool (decide (x.Kind = 1))) rfl rfl ?_)
 refine AOps.nil ?_
 change AWP _ _ _ _ _ _
 by_cases b21 : x.Kind = 1
 ·
  refine AWP.condT rfl (decide_eq_true b21) ?_
  refine AWP.seq ?_
  refine AWP.region (l := [0, 1, 2, 3, 4]) rfl ?_
  refine AOps.cons rfl rfl (AOp.move (.fptr ((p.aP.flatMap eV) ++ ((p.aCorners.map eI) ++ ((p.aNormals.flatMap eV) ++ (([.int .i64 p.Skin, .int .i64 cage, .int .i64 id] : List AV) ++ ((rs.map eI) ++ ([.int .i64 m] : List AV)))))) 0) rfl rfl ?_)
  refine AOps.cons rfl rfl (AOp.fieldAddrF rfl rfl fl_76_1 ?_)
  refine AOps.cons rfl rfl (AOp.loadF (.int .i64 x.A) rfl rfl ty_3 rfl ?_)
  refine AOps.cons rfl rfl (AOp.pcall («as» := [.fptr ((p.aP.flatMap eV) ++ ((p.aCorners.map eI) ++ ((p.aNormals.flatMap eV) ++ (([.int .i64 p.Skin, .int .i64 cage, .int .i64 id] : List AV) ++ ((rs.map eI) ++ ([.int .i64 m] : List AV)))))) 0, .int .i64 x.A]) rfl rfl (rfl) tf_52 (c_mesh_corner p cage id rs h m x.A (by first | omega | assumption | (constructor <;> omega))) ?_)
  intro H22 m23
  have h24 := m23 _ _ h20
  have m25 := m18.trans m23
  refine AOps.cons rfl rfl (AOp.store' (cells' := [.int .i64 (((R_mesh_corner p cage id rs m x.A).atF).X), .int .i64 (((R_mesh_corner p cage id rs m x.A).atF).Y), .int .i64 (((R_mesh_corner p cage id rs m x.A).atF).Z), .int .i64 (((R_mesh_corner p cage id rs m x.A).up).X), .int .i64 (((R_mesh_corner p cage id rs m x.A).up).Y), .int .i64 (((R_mesh_corner p cage id rs m x.A).up).Z), .int .i64 (((R_mesh_corner p cage id rs m x.A).key).Kind), .int .i64 (((R_mesh_corner p cage id rs m x.A).key).Of), .int .i64 (((R_mesh_corner p cage id rs m x.A).key).A), .int .i64 (((R_mesh_corner p cage id rs m x.A).key).B), .int .i64 (((R_mesh_corner p cage id rs m x.A).key).N)]) (.agg [.int .i64 (((R_mesh_corner p cage id rs m x.A).atF).X), .int .i64 (((R_mesh_corner p cage id rs m x.A).atF).Y), .int .i64 (((R_mesh_corner p cage id rs m x.A).atF).Z), .int .i64 (((R_mesh_corner p cage id rs m x.A).up).X), .int .i64 (((R_mesh_corner p cage id rs m x.A).up).Y), .int .i64 (((R_mesh_corner p cage id rs m x.A).up).Z), .int .i64 (((R_mesh_corner p cage id rs m x.A).key).Kind), .int .i64 (((R_mesh_corner p cage id rs m x.A).key).Of), .int .i64 (((R_mesh_corner p cage id rs m x.A).key).A), .int .i64 (((R_mesh_corner p cage id rs m x.A).key).B), .int .i64 (((R_mesh_corner p cage id rs m x.A).key).N)]) rfl rfl ts_78 h24 rfl rfl rfl rfl ?_)
  intro H26 h27 k28
  have m30 := Mono.set m25 z14 k28
  refine AOps.nil ?_
  change AWP _ _ _ _ _ _
  refine AWP.ret ?_
  refine ⟨_, _, Ghost.refl, .inr rfl, _, Res.list1 rfl (.cell (v := .agg [.int .i64 (((R_mesh_corner p cage id rs m x.A).atF).X), .int .i64 (((R_mesh_corner p cage id rs m x.A).atF).Y), .int .i64 (((R_mesh_corner p cage id rs m x.A).atF).Z), .int .i64 (((R_mesh_corner p cage id rs m x.A).up).X), .int .i64 (((R_mesh_corner p cage id rs m x.A).up).Y), .int .i64 (((R_mesh_corner p cage id rs m x.A).up).Z), .int .i64 (((R_mesh_corner p cage id rs m x.A).key).Kind), .int .i64 (((R_mesh_corner p cage id rs m x.A).key).Of), .int .i64 (((R_mesh_corner p cage id rs m x.A).key).A), .int .i64 (((R_mesh_corner p cage id rs m x.A).key).B), .int .i64 (((R_mesh_corner p cage id rs m x.A).key).N)]) rfl ty_78 h27 rfl (.nil)), ?_, m30⟩
  have hR : R_mesh_vertex p cage id rs m x = (R_mesh_corner p cage id rs m x.A) := by unfold R_mesh_vertex; rw [if_pos b21]
  exact (congrArg (fun r : VertexT => (.agg [.int .i64 r.atF.X, .int .i64 r.atF.Y, .int .i64 r.atF.Z, .int .i64 r.up.X, .int .i64 r.up.Y, .int .i64 r.up.Z, .int .i64 r.key.Kind, .int .i64 r.key.Of, .int .i64 r.key.A, .int .i64 r.key.B, .int .i64 r.key.N] : AV)) hR).symm
 ·
  refine AWP.condF rfl (decide_eq_false b21) ?_
  refine AWP.seq ?_
  refine AWP.region (l := [0, 1]) rfl ?_
  refine AOps.cons rfl rfl (AOp.bin (.bool (decide (x.Kind = 2))) rfl rfl rfl ieq ?_)
  refine AOps.cons rfl rfl (AOp.assign (.bool (decide (x.Kind = 2))) rfl rfl ?_)
  refine AOps.nil ?_
  change AWP _ _ _ _ _ _
  by_cases b31 : x.Kind = 2
  ·
   refine AWP.condT rfl (decide_eq_true b31) ?_
   refine AWP.seq ?_
   have hrk := hr x.A (by omega) (by omega)
   refine AWP.region (l := [0, 1, 2, 3, 4, 5, 6]) rfl ?_
   refine AOps.cons rfl rfl (AOp.move (.fptr ((p.aP.flatMap eV) ++ ((p.aCorners.map eI) ++ ((p.aNormals.flatMap eV) ++ (([.int .i64 p.Skin, .int .i64 cage, .int .i64 id] : List AV) ++ ((rs.map eI) ++ ([.int .i64 m] : List AV)))))) 0) rfl rfl ?_)
   refine AOps.cons rfl rfl (AOp.fieldAddrF rfl rfl fl_76_1 ?_)
   refine AOps.cons rfl rfl (AOp.loadF (.int .i64 x.A) rfl rfl ty_3 rfl ?_)
   refine AOps.cons rfl rfl (AOp.fieldAddrF rfl rfl fl_76_2 ?_)
   refine AOps.cons rfl rfl (AOp.loadF (.int .i64 x.B) rfl rfl ty_3 rfl ?_)
   refine AOps.cons rfl rfl (AOp.pcall («as» := [.fptr ((p.aP.flatMap eV) ++ ((p.aCorners.map eI) ++ ((p.aNormals.flatMap eV) ++ (([.int .i64 p.Skin, .int .i64 cage, .int .i64 id] : List AV) ++ ((rs.map eI) ++ ([.int .i64 m] : List AV)))))) 0, .int .i64 x.A, .int .i64 x.B]) rfl rfl (rfl) tf_53 (c_mesh_side p cage id rs h m x.A x.B (by first | omega | assumption | (constructor <;> omega)) (by first | omega | assumption | (constructor <;> omega)) (by first | omega | assumption | (constructor <;> omega))) ?_)
   intro H32 m33
   have h34 := m33 _ _ h20
   have m35 := m18.trans m33
   refine AOps.cons rfl rfl (AOp.store' (cells' := [.int .i64 (((R_mesh_side p cage id rs m x.A x.B).atF).X), .int .i64 (((R_mesh_side p cage id rs m x.A x.B).atF).Y), .int .i64 (((R_mesh_side p cage id rs m x.A x.B).atF).Z), .int .i64 (((R_mesh_side p cage id rs m x.A x.B).up).X), .int .i64 (((R_mesh_side p cage id rs m x.A x.B).up).Y), .int .i64 (((R_mesh_side p cage id rs m x.A x.B).up).Z), .int .i64 (((R_mesh_side p cage id rs m x.A x.B).key).Kind), .int .i64 (((R_mesh_side p cage id rs m x.A x.B).key).Of), .int .i64 (((R_mesh_side p cage id rs m x.A x.B).key).A), .int .i64 (((R_mesh_side p cage id rs m x.A x.B).key).B), .int .i64 (((R_mesh_side p cage id rs m x.A x.B).key).N)]) (.agg [.int .i64 (((R_mesh_side p cage id rs m x.A x.B).atF).X), .int .i64 (((R_mesh_side p cage id rs m x.A x.B).atF).Y), .int .i64 (((R_mesh_side p cage id rs m x.A x.B).atF).Z), .int .i64 (((R_mesh_side p cage id rs m x.A x.B).up).X), .int .i64 (((R_mesh_side p cage id rs m x.A x.B).up).Y), .int .i64 (((R_mesh_side p cage id rs m x.A x.B).up).Z), .int .i64 (((R_mesh_side p cage id rs m x.A x.B).key).Kind), .int .i64 (((R_mesh_side p cage id rs m x.A x.B).key).Of), .int .i64 (((R_mesh_side p cage id rs m x.A x.B).key).A), .int .i64 (((R_mesh_side p cage id rs m x.A x.B).key).B), .int .i64 (((R_mesh_side p cage id rs m x.A x.B).key).N)]) rfl rfl ts_78 h34 rfl rfl rfl rfl ?_)
   intro H36 h37 k38
   have m40 := Mono.set m35 z14 k38
   refine AOps.nil ?_
   change AWP _ _ _ _ _ _
   refine AWP.ret ?_
   refine ⟨_, _, Ghost.refl, .inr rfl, _, Res.list1 rfl (.cell (v := .agg [.int .i64 (((R_mesh_side p cage id rs m x.A x.B).atF).X), .int .i64 (((R_mesh_side p cage id rs m x.A x.B).atF).Y), .int .i64 (((R_mesh_side p cage id rs m x.A x.B).atF).Z), .int .i64 (((R_mesh_side p cage id rs m x.A x.B).up).X), .int .i64 (((R_mesh_side p cage id rs m x.A x.B).up).Y), .int .i64 (((R_mesh_side p cage id rs m x.A x.B).up).Z), .int .i64 (((R_mesh_side p cage id rs m x.A x.B).key).Kind), .int .i64 (((R_mesh_side p cage id rs m x.A x.B).key).Of), .int .i64 (((R_mesh_side p cage id rs m x.A x.B).key).A), .int .i64 (((R_mesh_side p cage id rs m x.A x.B).key).B), .int .i64 (((R_mesh_side p cage id rs m x.A x.B).key).N)]) rfl ty_78 h37 rfl (.nil)), ?_, m40⟩
   have hR : R_mesh_vertex p cage id rs m x = (R_mesh_side p cage id rs m x.A x.B) := by unfold R_mesh_vertex; rw [if_neg b21, if_pos b31]
   exact (congrArg (fun r : VertexT => (.agg [.int .i64 r.atF.X, .int .i64 r.atF.Y, .int .i64 r.atF.Z, .int .i64 r.up.X, .int .i64 r.up.Y, .int .i64 r.up.Z, .int .i64 r.key.Kind, .int .i64 r.key.Of, .int .i64 r.key.A, .int .i64 r.key.B, .int .i64 r.key.N] : AV)) hR).symm
  ·
   refine AWP.condF rfl (decide_eq_false b31) ?_
   refine AWP.skip ?_
   change AWP _ _ _ _ _ _
   refine AWP.seq ?_
   refine AWP.region (l := [0, 1, 2, 3, 4, 5, 6]) rfl ?_
   refine AOps.cons rfl rfl (AOp.move (.fptr ((p.aP.flatMap eV) ++ ((p.aCorners.map eI) ++ ((p.aNormals.flatMap eV) ++ (([.int .i64 p.Skin, .int .i64 cage, .int .i64 id] : List AV) ++ ((rs.map eI) ++ ([.int .i64 m] : List AV)))))) 0) rfl rfl ?_)
   refine AOps.cons rfl rfl (AOp.fieldAddrF rfl rfl fl_76_1 ?_)
   refine AOps.cons rfl rfl (AOp.loadF (.int .i64 x.A) rfl rfl ty_3 rfl ?_)
   refine AOps.cons rfl rfl (AOp.fieldAddrF rfl rfl fl_76_2 ?_)
   refine AOps.cons rfl rfl (AOp.loadF (.int .i64 x.B) rfl rfl ty_3 rfl ?_)
   refine AOps.cons rfl rfl (AOp.pcall («as» := [.fptr ((p.aP.flatMap eV) ++ ((p.aCorners.map eI) ++ ((p.aNormals.flatMap eV) ++ (([.int .i64 p.Skin, .int .i64 cage, .int .i64 id] : List AV) ++ ((rs.map eI) ++ ([.int .i64 m] : List AV)))))) 0, .int .i64 x.A, .int .i64 x.B]) rfl rfl (rfl) tf_54 (c_mesh_inner p cage id rs h m x.A x.B) ?_)
   intro H41 m42
   have h43 := m42 _ _ h20
   have m44 := m18.trans m42
   refine AOps.cons rfl rfl (AOp.store' (cells' := [.int .i64 (((R_mesh_inner p cage id rs m x.A x.B).atF).X), .int .i64 (((R_mesh_inner p cage id rs m x.A x.B).atF).Y), .int .i64 (((R_mesh_inner p cage id rs m x.A x.B).atF).Z), .int .i64 (((R_mesh_inner p cage id rs m x.A x.B).up).X), .int .i64 (((R_mesh_inner p cage id rs m x.A x.B).up).Y), .int .i64 (((R_mesh_inner p cage id rs m x.A x.B).up).Z), .int .i64 (((R_mesh_inner p cage id rs m x.A x.B).key).Kind), .int .i64 (((R_mesh_inner p cage id rs m x.A x.B).key).Of), .int .i64 (((R_mesh_inner p cage id rs m x.A x.B).key).A), .int .i64 (((R_mesh_inner p cage id rs m x.A x.B).key).B), .int .i64 (((R_mesh_inner p cage id rs m x.A x.B).key).N)]) (.agg [.int .i64 (((R_mesh_inner p cage id rs m x.A x.B).atF).X), .int .i64 (((R_mesh_inner p cage id rs m x.A x.B).atF).Y), .int .i64 (((R_mesh_inner p cage id rs m x.A x.B).atF).Z), .int .i64 (((R_mesh_inner p cage id rs m x.A x.B).up).X), .int .i64 (((R_mesh_inner p cage id rs m x.A x.B).up).Y), .int .i64 (((R_mesh_inner p cage id rs m x.A x.B).up).Z), .int .i64 (((R_mesh_inner p cage id rs m x.A x.B).key).Kind), .int .i64 (((R_mesh_inner p cage id rs m x.A x.B).key).Of), .int .i64 (((R_mesh_inner p cage id rs m x.A x.B).key).A), .int .i64 (((R_mesh_inner p cage id rs m x.A x.B).key).B), .int .i64 (((R_mesh_inner p cage id rs m x.A x.B).key).N)]) rfl rfl ts_78 h43 rfl rfl rfl rfl ?_)
   intro H45 h46 k47
   have m49 := Mono.set m44 z14 k47
   refine AOps.nil ?_
   change AWP _ _ _ _ _ _
   refine AWP.ret ?_
   refine ⟨_, _, Ghost.refl, .inr rfl, _, Res.list1 rfl (.cell (v := .agg [.int .i64 (((R_mesh_inner p cage id rs m x.A x.B).atF).X), .int .i64 (((R_mesh_inner p cage id rs m x.A x.B).atF).Y), .int .i64 (((R_mesh_inner p cage id rs m x.A x.B).atF).Z), .int .i64 (((R_mesh_inner p cage id rs m x.A x.B).up).X), .int .i64 (((R_mesh_inner p cage id rs m x.A x.B).up).Y), .int .i64 (((R_mesh_inner p cage id rs m x.A x.B).up).Z), .int .i64 (((R_mesh_inner p cage id rs m x.A x.B).key).Kind), .int .i64 (((R_mesh_inner p cage id rs m x.A x.B).key).Of), .int .i64 (((R_mesh_inner p cage id rs m x.A x.B).key).A), .int .i64 (((R_mesh_inner p cage id rs m x.A x.B).key).B), .int .i64 (((R_mesh_inner p cage id rs m x.A x.B).key).N)]) rfl ty_78 h46 rfl (.nil)), ?_, m49⟩
   have hR : R_mesh_vertex p cage id rs m x = (R_mesh_inner p cage id rs m x.A x.B) := by unfold R_mesh_vertex; rw [if_neg b21, if_neg b31]
   exact (congrArg (fun r : VertexT => (.agg [.int .i64 r.atF.X, .int .i64 r.atF.Y, .int .i64 r.atF.Z, .int .i64 r.up.X, .int .i64 r.up.Y, .int .i64 r.up.Z, .int .i64 r.key.Kind, .int .i64 r.key.Of, .int .i64 r.key.A, .int .i64 r.key.B, .int .i64 r.key.N] : AV)) hR).symm
end Go.Proofs.M
namespace Go.Proofs.M
open Go Go.AH
set_option maxRecDepth 4000
set_option linter.unusedSimpArgs false
set_option linter.unusedVariables false
set_option maxHeartbeats 4000000
end Go.Proofs.M
namespace Go.Proofs.M
open Go Go.AH
set_option linter.unusedSimpArgs false
theorem sumW4 (i n : Int) : sumW (fun k => at_ (R_ref11_Weights i n) k) 4 = n * n * n := by
  simp only [sumW, R_ref11_Weights, at_]
  simp
  grind
theorem sumW16 (i n j m : Int) : sumW (fun k => at_ (R_ref11_Weights i n) (k % 4) * at_ (R_ref11_Weights j m) (k / 4)) 16 = n * n * n * m * m * m := by
  have a := sumW4 i n
  have b := sumW4 j m
  simp only [sumW] at a b ⊢
  simp at a b ⊢
  grind
end Go.Proofs.M
namespace Go.Proofs.M
open Go Go.AH
theorem weave_mem {rs : List Int} (h : rs.length = 4) {x : SpotT} (hx : x ∈ (weaveR rs).1) : rates rs ∧ maxL rs ≤ 16 ∧ x ∈ spotsL rs (maxL rs) := by
  unfold weaveR at hx
  split at hx
  · cases hx
  · have hr := rates_of h (by omega) (by omega)
    exact ⟨hr, by omega, hx⟩
theorem weave_len {rs : List Int} (h : rs.length = 4) : (weaveR rs).1.length ≤ 400 := by
  unfold weaveR
  split
  · simp
  · exact spots_len (rates_of h (by omega) (by omega)) (by omega)
def vtxD (p : PatchT) (cage id : Int) (s : SkinT) (x : SpotT) : VertexT := R_mesh_vertex p cage id (R_rate_Sides p.aP s.Unit) (maxL (R_rate_Sides p.aP s.Unit)) x
def plT (s : SkinT) (texs : List TexT) (v : VertexT) : Option VT :=
  if s.Tex ≥ 0 ∧ s.Height > 0 then (if (R_relief_Texel (at_ texs s.Tex) v.atF).2 = true then some (R_relief_Lift v.atF v.up (R_relief_Texel (at_ texs s.Tex) v.atF).1 s.Height).1 else none) else some v.atF
def errD (p : PatchT) (s : SkinT) (texs : List TexT) : Int := if R_mesh_fine p s ≠ 11 ∧ (s.Tex < -1 ∨ s.Tex ≥ texs.length) then 11 else R_mesh_fine p s
def fD (p : PatchT) (cage id : Int) (s : SkinT) (texs : List TexT) (x : SpotT) : VT := (plT s texs (vtxD p cage id s x)).getD default
def kD (p : PatchT) (cage id : Int) (s : SkinT) (x : SpotT) : KeyT := (vtxD p cage id s x).key
def diceR (p : PatchT) (cage id : Int) (s : SkinT) (texs : List TexT) : MeshT × Int :=
  if errD p s texs ≠ 0 then (⟨[], [], []⟩, errD p s texs) else
  if (weaveR (R_rate_Sides p.aP s.Unit)).1.all (fun x => (plT s texs (vtxD p cage id s x)).isSome) = true then
    (⟨(weaveR (R_rate_Sides p.aP s.Unit)).1.map (fD p cage id s texs), (weaveR (R_rate_Sides p.aP s.Unit)).1.map (kD p cage id s), (weaveR (R_rate_Sides p.aP s.Unit)).2.1⟩, 0)
  else (⟨[], [], []⟩, 11)
theorem dice_err {p : PatchT} {cage id : Int} {s : SkinT} {texs : List TexT} {e : Int} (h : errD p s texs = e) (he : e ≠ 0) : diceR p cage id s texs = (⟨[], [], []⟩, e) := by
  unfold diceR; rw [h, if_pos he]
theorem dice_bad {p : PatchT} {cage id : Int} {s : SkinT} {texs : List TexT} {i : Int} (h : errD p s texs = 0) (h0 : 0 ≤ i) (h1 : i < (weaveR (R_rate_Sides p.aP s.Unit)).1.length) (hb : plT s texs (vtxD p cage id s (at_ (weaveR (R_rate_Sides p.aP s.Unit)).1 i)) = none) : diceR p cage id s texs = (⟨[], [], []⟩, 11) := by
  unfold diceR
  rw [h, if_neg (by decide), if_neg]
  rw [List.all_eq_true]
  intro g
  have := g _ (at_mem h0 h1)
  rw [hb] at this; cases this
theorem dice_ok {p : PatchT} {cage id : Int} {s : SkinT} {texs : List TexT} {i : Int} (h : errD p s texs = 0) (h1 : (weaveR (R_rate_Sides p.aP s.Unit)).1.length ≤ i) (hp : ∀ j : Int, 0 ≤ j → j < i → (plT s texs (vtxD p cage id s (at_ (weaveR (R_rate_Sides p.aP s.Unit)).1 j))).isSome = true) : diceR p cage id s texs = (⟨((weaveR (R_rate_Sides p.aP s.Unit)).1.take i.toNat).map (fD p cage id s texs), ((weaveR (R_rate_Sides p.aP s.Unit)).1.take i.toNat).map (kD p cage id s), (weaveR (R_rate_Sides p.aP s.Unit)).2.1⟩, 0) := by
  unfold diceR
  rw [h, if_neg (by decide), if_pos, take_all (by omega)]
  rw [List.all_eq_true]
  intro x hx
  obtain ⟨j, h0, h1, rfl⟩ := mem_at hx
  exact hp j h0 (by omega)
theorem map_step {α β : Type} [Inhabited α] {l : List α} {f : α → β} {i : Int} {y : β} (h0 : 0 ≤ i) (h1 : i < l.length) (hy : f (at_ l i) = y) : (l.take i.toNat).map f ++ [y] = (l.take (i + 1).toNat).map f := by
  subst hy; rw [take_step h0 h1, List.map_append]; rfl
theorem fD_of {p : PatchT} {cage id : Int} {s : SkinT} {texs : List TexT} {x : SpotT} {v : VT} (h : plT s texs (vtxD p cage id s x) = some v) : fD p cage id s texs x = v := by unfold fD; rw [h]; rfl
end Go.Proofs.M
namespace Go.Proofs.M
open Go Go.AH
def sumR (texs : List TexT) (n : Nat) : Int := ((texs.take n).map fun t => (t.Rows.length : Int)).sum
theorem sumR_step {texs : List TexT} {i : Int} (h0 : 0 ≤ i) (h1 : i < texs.length) : sumR texs i.toNat + ((at_ texs i).Rows.length : Int) = sumR texs (i + 1).toNat := by
  unfold sumR; rw [take_step h0 h1]; simp
def longS (texs : List TexT) : Bool := (List.range (min texs.length 20)).any (fun k => decide (sumR texs (k + 1) > 3000)) || decide (texs.length > 20)
theorem long_hit {texs : List TexT} {i : Int} (h0 : 0 ≤ i) (h1 : i < texs.length) (h2 : i < 20) (h : sumR texs (i + 1).toNat > 3000) : true = longS texs := by
  unfold longS
  have : (List.range (min texs.length 20)).any (fun k => decide (sumR texs (k + 1) > 3000)) = true := by
    rw [List.any_eq_true]
    refine ⟨i.toNat, List.mem_range.2 (by omega), decide_eq_true ?_⟩
    rw [show i.toNat + 1 = (i + 1).toNat by omega]; exact h
  rw [this]; rfl
theorem long_end {texs : List TexT} {i : Int} (pre : ∀ j : Int, 0 ≤ j → j < i → sumR texs (j + 1).toNat ≤ 3000) (h : (texs.length : Int) ≤ i ∨ 20 ≤ i) : decide ((texs.length : Int) > 20) = longS texs := by
  unfold longS
  have : (List.range (min texs.length 20)).any (fun k => decide (sumR texs (k + 1) > 3000)) = false := by
    rw [List.any_eq_false]
    intro k hk
    have hk := List.mem_range.1 hk
    have := pre k (by omega) (by omega)
    rw [show ((k : Int) + 1).toNat = k + 1 by omega] at this
    simp; omega
  rw [this, Bool.false_or]
  by_cases g : texs.length > 20 <;> simp <;> omega
end Go.Proofs.M
