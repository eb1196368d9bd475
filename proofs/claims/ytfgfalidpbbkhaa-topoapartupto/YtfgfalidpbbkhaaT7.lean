/- A part of the proof that a law of the edges and fans of faces answers true for every input of its bulk: own work, by an AI agent. -/
import Derived.Test.YtfgfalidpbbkhaaTTy
import Derived.Test.YtfgfalidpbbkhaaTSpec5
import Derived.Test.YtfgfalidpbbkhaaTKey
import Derived.KernelRfl
import Derived.Test.YtfgfalidpbbkhaaT6
import Derived.Test.YtfgfalidpbbkhaaTSpec7
namespace Go.Proofs.T
open Go Go.AH
set_option maxRecDepth 4000
set_option linter.unusedSimpArgs false
set_option linter.unusedVariables false
theorem c9 : PC Try.prog 9 [] (.bool true) := by
  intro H0
  have hE1 : E1.length = 3 := rfl
  have hF1 : F1.length = 3 := rfl
  have hR1 : R1.length = 3 := rfl
  refine ACalls.of_body' (n := 57) rfl rfl rfl rfl ?_
  have m0 := Mono.refl H0
  refine AWP.seq ?_
  refine AWP.region (l := [0]) rfl ?_
  refine AOps.cons rfl rfl (AOp.assign (.bool false) rfl rfl ?_)
  refine AOps.nil ?_
  change AWP _ _ _ _ _ _
  refine AWP.seq ?_
  refine AWP.region (l := [0, 1, 2, 3, 4, 5, 6, 7, 8]) rfl ?_
  refine AOps.cons rfl rfl (AOp.buildSlice (cells := [.int .i64 0, .int .i64 1, .int .i64 2]) rfl u_35 ts_3 tz_3 rfl rfl rfl ?_)
  intro i1 H2 n3 h4 k5
  have z6 := Mono.free m0 n3
  have m7 := Mono.new m0 n3 k5
  obtain ⟨v8, e9⟩ : ∃ v : AV, v = .slm i1 0 1 0 3 := ⟨_, rfl⟩
  have o10 : Own H0 H2 1 v8 3 [.int .i64 0, .int .i64 1, .int .i64 2] := .inr ⟨_, _, e9, h4, z6, rfl⟩
  refine AOps.cons rfl rfl ?_
  refine AOp.frz 6 (o10) e9.symm m7 fun H11 m12 k13 => ?_
  refine AOp.buildSlice (cells := [.sl ([0, 1, 2] : List Int).length (([0, 1, 2] : List Int).map eI)]) rfl u_22 ts_35 tz_35 rfl rfl rfl ?_
  intro i14 H15 n16 h17 k18
  have z19 := Mono.free m12 n16
  have m20 := Mono.new m12 n16 k18
  obtain ⟨v21, e22⟩ : ∃ v : AV, v = .slm i14 0 1 0 1 := ⟨_, rfl⟩
  have o23 : Own H0 H15 1 v21 1 [.sl ([0, 1, 2] : List Int).length (([0, 1, 2] : List Int).map eI)] := .inr ⟨_, _, e22, h17, z19, rfl⟩
  refine AOps.cons rfl rfl ?_
  refine AOp.frz 7 (o23) e22.symm m20 fun H24 m25 k26 => ?_
  refine AOp.pcall («as» := [.int .i64 3, .sl ([([0, 1, 2] : List Int)] : List (List Int)).length (([([0, 1, 2] : List Int)] : List (List Int)).map eF)]) rfl rfl (rfl) tf_12 (c12a) ?_
  intro H27 m28
  have m29 := m25.trans m28
  refine AOps.cons rfl rfl (AOp.move (.tup [.agg [.sl E1.length (E1.flatMap eE), .sl F1.length (F1.map eF), .sl R1.length (R1.map eBo)], .int .i64 0]) rfl rfl ?_)
  refine AOps.cons rfl rfl (AOp.extract (.agg [.sl E1.length (E1.flatMap eE), .sl F1.length (F1.map eF), .sl R1.length (R1.map eBo)]) rfl rfl rfl ?_)
  refine AOps.cons rfl rfl (AOp.extract (.int .i64 0) rfl rfl rfl ?_)
  refine AOps.cons rfl rfl (AOp.alloc rfl tz_29 ?_)
  intro i30 H31 n32 h33 k34
  have z35 := Mono.free m29 n32
  have m36 := Mono.new m29 n32 k34
  refine AOps.cons rfl rfl (AOp.store' (cells' := [.sl E1.length (E1.flatMap eE), .sl F1.length (F1.map eF), .sl R1.length (R1.map eBo)]) (.agg [.sl E1.length (E1.flatMap eE), .sl F1.length (F1.map eF), .sl R1.length (R1.map eBo)]) rfl rfl ts_29 h33 rfl rfl rfl rfl ?_)
  intro H37 h38 k39
  have m41 := Mono.set m36 z35 k39
  refine AOps.cons rfl rfl (AOp.assign (.int .i64 0) rfl rfl ?_)
  refine AOps.nil ?_
  change AWP _ _ _ _ _ _
  refine AWP.seq ?_
  refine AWP.region (l := [0, 1, 2, 3, 4, 5, 6, 7, 8, 9]) rfl ?_
  refine AOps.cons rfl rfl (AOp.buildSlice (cells := [.int .i64 0, .int .i64 1, .int .i64 2]) rfl u_35 ts_3 tz_3 rfl rfl rfl ?_)
  intro i42 H43 n44 h45 k46
  have e47 := ne_new h38 n44
  have z48 := Mono.free m41 n44
  have h49 := keep k46 (ne_new h38 n44) h38
  have m50 := Mono.new m41 n44 k46
  refine AOps.cons rfl rfl (AOp.buildSlice (cells := [.int .i64 0, .int .i64 1, .int .i64 3]) rfl u_35 ts_3 tz_3 rfl rfl rfl ?_)
  intro i51 H52 n53 h54 k55
  have e56 := ne_new h49 n53
  have e57 := ne_new h45 n53
  have z58 := Mono.free m50 n53
  have h59 := keep k55 (ne_new h49 n53) h49
  have h60 := keep k55 (ne_new h45 n53) h45
  have m61 := Mono.new m50 n53 k55
  obtain ⟨v62, e63⟩ : ∃ v : AV, v = .slm i42 0 1 0 3 := ⟨_, rfl⟩
  have o64 : Own H0 H52 1 v62 3 [.int .i64 0, .int .i64 1, .int .i64 2] := .inr ⟨_, _, e63, h60, z48, rfl⟩
  have no65 : NotId v62 i30 := by rw [e63]; exact NotId.slm e47
  have no66 : NotId v62 i51 := by rw [e63]; exact NotId.slm (Ne.symm e57)
  refine AOps.cons rfl rfl ?_
  refine AOp.frz 12 (o64) e63.symm m61 fun H67 m68 k69 => ?_
  have h70 := (k69 _ no65).trans h59
  have h71 := (k69 _ no66).trans h54
  obtain ⟨v72, e73⟩ : ∃ v : AV, v = .slm i51 0 1 0 3 := ⟨_, rfl⟩
  have o74 : Own H0 H67 1 v72 3 [.int .i64 0, .int .i64 1, .int .i64 3] := .inr ⟨_, _, e73, h71, z58, rfl⟩
  have no75 : NotId v72 i30 := by rw [e73]; exact NotId.slm e56
  refine AOp.frz 13 (o74) e73.symm m68 fun H76 m77 k78 => ?_
  have h79 := (k78 _ no75).trans h70
  refine AOp.buildSlice (cells := [.sl ([0, 1, 2] : List Int).length (([0, 1, 2] : List Int).map eI), .sl ([0, 1, 3] : List Int).length (([0, 1, 3] : List Int).map eI)]) rfl u_22 ts_35 tz_35 rfl rfl rfl ?_
  intro i80 H81 n82 h83 k84
  have e85 := ne_new h79 n82
  have z86 := Mono.free m77 n82
  have h87 := keep k84 (ne_new h79 n82) h79
  have m88 := Mono.new m77 n82 k84
  obtain ⟨v89, e90⟩ : ∃ v : AV, v = .slm i80 0 1 0 2 := ⟨_, rfl⟩
  have o91 : Own H0 H81 1 v89 2 [.sl ([0, 1, 2] : List Int).length (([0, 1, 2] : List Int).map eI), .sl ([0, 1, 3] : List Int).length (([0, 1, 3] : List Int).map eI)] := .inr ⟨_, _, e90, h83, z86, rfl⟩
  have no92 : NotId v89 i30 := by rw [e90]; exact NotId.slm e85
  refine AOps.cons rfl rfl ?_
  refine AOp.frz 14 (o91) e90.symm m88 fun H93 m94 k95 => ?_
  have h96 := (k95 _ no92).trans h87
  refine AOp.pcall («as» := [.int .i64 4, .sl ([([0, 1, 2] : List Int), ([0, 1, 3] : List Int)] : List (List Int)).length (([([0, 1, 2] : List Int), ([0, 1, 3] : List Int)] : List (List Int)).map eF)]) rfl rfl (rfl) tf_12 (c12b) ?_
  intro H97 m98
  have h99 := m98 _ _ h96
  have m100 := m94.trans m98
  refine AOps.cons rfl rfl (AOp.move (.tup [.agg [.sl ([] : List Ed).length (([] : List Ed).flatMap eE), .sl ([] : List (List Int)).length (([] : List (List Int)).map eF), .sl ([] : List Bool).length (([] : List Bool).map eBo)], .int .i64 14]) rfl rfl ?_)
  refine AOps.cons rfl rfl (AOp.extract (.agg [.sl ([] : List Ed).length (([] : List Ed).flatMap eE), .sl ([] : List (List Int)).length (([] : List (List Int)).map eF), .sl ([] : List Bool).length (([] : List Bool).map eBo)]) rfl rfl rfl ?_)
  refine AOps.cons rfl rfl (AOp.extract (.int .i64 14) rfl rfl rfl ?_)
  refine AOps.cons rfl rfl (AOp.alloc rfl tz_29 ?_)
  intro i101 H102 n103 h104 k105
  have e106 := ne_new h99 n103
  have z107 := Mono.free m100 n103
  have h108 := keep k105 (ne_new h99 n103) h99
  have m109 := Mono.new m100 n103 k105
  refine AOps.cons rfl rfl (AOp.store' (cells' := [.sl ([] : List Ed).length (([] : List Ed).flatMap eE), .sl ([] : List (List Int)).length (([] : List (List Int)).map eF), .sl ([] : List Bool).length (([] : List Bool).map eBo)]) (.agg [.sl ([] : List Ed).length (([] : List Ed).flatMap eE), .sl ([] : List (List Int)).length (([] : List (List Int)).map eF), .sl ([] : List Bool).length (([] : List Bool).map eBo)]) rfl rfl ts_29 h104 rfl rfl rfl rfl ?_)
  intro H110 h111 k112
  have h113 := keep k112 e106 h108
  have m115 := Mono.set m109 z107 k112
  refine AOps.cons rfl rfl (AOp.assign (.int .i64 14) rfl rfl ?_)
  refine AOps.nil ?_
  change AWP _ _ _ _ _ _
  refine AWP.seq ?_
  refine AWP.region (l := [0, 1, 2, 3, 4, 5, 6, 7, 8, 9, 10, 11, 12, 13, 14, 15, 16, 17, 18, 19, 20, 21, 22, 23, 24, 25, 26, 27, 28, 29, 30, 31, 32, 33, 34, 35, 36, 37, 38, 39]) rfl ?_
  refine AOps.cons rfl rfl (AOp.move (.int .i64 0) rfl rfl ?_)
  refine AOps.cons rfl rfl (AOp.bin (.bool (decide (0 = 0))) rfl rfl rfl ieq ?_)
  refine AOps.cons rfl rfl (AOp.move (.bool (decide (0 = 0))) rfl rfl ?_)
  refine AOps.yes rfl rfl rfl rfl rfl rfl rfl (decide_eq_true (rfl)) (AOp.fieldAddr rfl rfl fl_29_0 ?_ (hid := ⟨_, h113⟩))
  refine AOps.yes rfl rfl rfl rfl rfl rfl rfl (decide_eq_true (rfl)) (AOp.load (.sl E1.length (E1.flatMap eE)) rfl rfl ty_26 h113 rfl ?_)
  refine AOps.yes rfl rfl rfl rfl rfl rfl rfl (decide_eq_true (rfl)) (AOp.len (m := E1.length) rfl rfl (.inr (.inl ⟨_, rfl⟩)) u_26 ?_)
  refine AOps.yes rfl rfl rfl rfl rfl rfl rfl (decide_eq_true (rfl)) (AOp.bin (.bool (decide ((E1.length : Int) = 3))) rfl rfl rfl ieq ?_)
  refine AOps.cons rfl rfl (AOp.pickT (.bool (decide ((E1.length : Int) = 3))) rfl rfl (decide_eq_true (rfl)) rfl ?_)
  refine AOps.cons rfl rfl (AOp.move (.bool (decide ((E1.length : Int) = 3))) rfl rfl ?_)
  refine AOps.yes rfl rfl rfl rfl rfl rfl rfl (decide_eq_true (rfl)) (AOp.fieldAddr rfl rfl fl_29_0 ?_ (hid := ⟨_, h113⟩))
  refine AOps.yes rfl rfl rfl rfl rfl rfl rfl (decide_eq_true (rfl)) (AOp.load (.sl E1.length (E1.flatMap eE)) rfl rfl ty_26 h113 rfl ?_)
  refine AOps.yes rfl rfl rfl rfl rfl rfl rfl (decide_eq_true (rfl)) (AOp.indexAddrS rfl rfl rfl sl_26 (by omega) (by omega) ?_)
  refine AOps.yes rfl rfl rfl rfl rfl rfl rfl (decide_eq_true (rfl)) (AOp.loadF (.agg [.int .i64 ((at_ E1 1).A), .int .i64 ((at_ E1 1).B), .int .i64 ((at_ E1 1).F), .int .i64 ((at_ E1 1).G)]) rfl rfl ty_37 (ldM eE_len (by omega) (by omega)) ?_)
  refine AOps.yes rfl rfl rfl rfl rfl rfl rfl (decide_eq_true (rfl)) (AOp.build (cells := [.int .i64 0, .int .i64 2, .int .i64 (-1), .int .i64 0]) rfl tz_37 pl_37 rfl rfl ?_)
  refine AOps.yes rfl rfl rfl rfl rfl rfl rfl (decide_eq_true (rfl)) (AOp.eqAggD rfl rfl rfl teq37 (kok37 (e := (at_ E1 1)) ⟨⟨by decide, by decide⟩, ⟨by decide, by decide⟩, ⟨by decide, by decide⟩, ⟨by decide, by decide⟩⟩) (kok37 (e := (Ed.mk 0 2 (-1) 0)) ⟨⟨by decide, by decide⟩, ⟨by decide, by decide⟩, ⟨by decide, by decide⟩, ⟨by decide, by decide⟩⟩) (eE_iff (at_ E1 1) (Ed.mk 0 2 (-1) 0)) ?_)
  refine AOps.cons rfl rfl (AOp.pickT (.bool (decide ((at_ E1 1) = (Ed.mk 0 2 (-1) 0)))) rfl rfl (decide_eq_true (rfl)) rfl ?_)
  refine AOps.cons rfl rfl (AOp.move (.bool (decide ((at_ E1 1) = (Ed.mk 0 2 (-1) 0)))) rfl rfl ?_)
  refine AOps.yes rfl rfl rfl rfl rfl rfl rfl (decide_eq_true (rfl)) (AOp.fieldAddr rfl rfl fl_29_1 ?_ (hid := ⟨_, h113⟩))
  refine AOps.yes rfl rfl rfl rfl rfl rfl rfl (decide_eq_true (rfl)) (AOp.load (.sl F1.length (F1.map eF)) rfl rfl ty_22 h113 rfl ?_)
  refine AOps.yes rfl rfl rfl rfl rfl rfl rfl (decide_eq_true (rfl)) (AOp.len (m := F1.length) rfl rfl (.inr (.inl ⟨_, rfl⟩)) u_22 ?_)
  refine AOps.yes rfl rfl rfl rfl rfl rfl rfl (decide_eq_true (rfl)) (AOp.bin (.bool (decide ((F1.length : Int) = 3))) rfl rfl rfl ieq ?_)
  refine AOps.cons rfl rfl (AOp.pickT (.bool (decide ((F1.length : Int) = 3))) rfl rfl (decide_eq_true (rfl)) rfl ?_)
  refine AOps.cons rfl rfl (AOp.move (.bool (decide ((F1.length : Int) = 3))) rfl rfl ?_)
  refine AOps.yes rfl rfl rfl rfl rfl rfl rfl (decide_eq_true (rfl)) (AOp.fieldAddr rfl rfl fl_29_2 ?_ (hid := ⟨_, h113⟩))
  refine AOps.yes rfl rfl rfl rfl rfl rfl rfl (decide_eq_true (rfl)) (AOp.load (.sl R1.length (R1.map eBo)) rfl rfl ty_27 h113 rfl ?_)
  refine AOps.yes rfl rfl rfl rfl rfl rfl rfl (decide_eq_true (rfl)) (AOp.len (m := R1.length) rfl rfl (.inr (.inl ⟨_, rfl⟩)) u_27 ?_)
  refine AOps.yes rfl rfl rfl rfl rfl rfl rfl (decide_eq_true (rfl)) (AOp.bin (.bool (decide ((R1.length : Int) = 3))) rfl rfl rfl ieq ?_)
  refine AOps.cons rfl rfl (AOp.pickT (.bool (decide ((R1.length : Int) = 3))) rfl rfl (decide_eq_true (rfl)) rfl ?_)
  refine AOps.cons rfl rfl (AOp.move (.bool (decide ((R1.length : Int) = 3))) rfl rfl ?_)
  refine AOps.yes rfl rfl rfl rfl rfl rfl rfl (decide_eq_true (rfl)) (AOp.fieldAddr rfl rfl fl_29_2 ?_ (hid := ⟨_, h113⟩))
  refine AOps.yes rfl rfl rfl rfl rfl rfl rfl (decide_eq_true (rfl)) (AOp.load (.sl R1.length (R1.map eBo)) rfl rfl ty_27 h113 rfl ?_)
  refine AOps.yes rfl rfl rfl rfl rfl rfl rfl (decide_eq_true (rfl)) (AOp.indexAddrS rfl rfl rfl sl_27 (by omega) (by omega) ?_)
  refine AOps.yes rfl rfl rfl rfl rfl rfl rfl (decide_eq_true (rfl)) (AOp.loadF (.bool (at_ R1 0)) rfl rfl ty_4 (ld1 (by omega) (by omega)) ?_)
  refine AOps.yes rfl rfl rfl rfl rfl rfl rfl (decide_eq_true (rfl)) (AOp.not rfl rfl ?_)
  refine AOps.cons rfl rfl (AOp.pickT (.bool (!(at_ R1 0))) rfl rfl (decide_eq_true (rfl)) rfl ?_)
  refine AOps.cons rfl rfl (AOp.move (.bool (!(at_ R1 0))) rfl rfl ?_)
  refine AOps.yes rfl rfl rfl rfl rfl rfl rfl (nb (rfl)) (AOp.move (.int .i64 14) rfl rfl ?_)
  refine AOps.yes rfl rfl rfl rfl rfl rfl rfl (nb (rfl)) (AOp.bin (.bool (decide (14 = 14))) rfl rfl rfl ieq ?_)
  refine AOps.cons rfl rfl (AOp.pickT (.bool (decide (14 = 14))) rfl rfl (nb (rfl)) rfl ?_)
  refine AOps.cons rfl rfl (AOp.assign (.bool (decide (14 = 14))) rfl rfl ?_)
  refine AOps.nil ?_
  change AWP _ _ _ _ _ _
  refine AWP.ret ?_
  refine ⟨_, _, Ghost.refl, .inr rfl, _, Res.one rfl rfl, ?_, m115⟩
  exact (congrArg AV.bool (show (decide (14 = 14) : Bool) = true from by first | rfl | omega | simp_all))

theorem c3 (v : Int) (fs : List (List Int)) (hfs : fs.length ≤ 1048576) (hfss : ∀ l ∈ fs, l.length ≤ 1048576) : PC Try.prog 3 [.int .i64 v, .sl fs.length (fs.map eF)] (.bool true) := by
  intro H0
  refine ACalls.of_body' (n := 42) rfl rfl rfl rfl ?_
  have m0 := Mono.refl H0
  refine AWP.seq ?_
  refine AWP.region (l := [0]) rfl ?_
  refine AOps.cons rfl rfl (AOp.assign (.bool false) rfl rfl ?_)
  refine AOps.nil ?_
  change AWP _ _ _ _ _ _
  refine AWP.seq ?_
  refine AWP.seq ?_
  refine AWP.region (l := [0, 1]) rfl ?_
  refine AOps.cons rfl rfl (AOp.pcall («as» := []) rfl rfl (rfl) tf_9 (c9) ?_)
  intro H1 m2
  have m3 := m0.trans m2
  refine AOps.cons rfl rfl (AOp.not rfl rfl ?_)
  refine AOps.nil ?_
  change AWP _ _ _ _ _ _
  refine AWP.condF rfl rfl ?_
  refine AWP.skip ?_
  change AWP _ _ _ _ _ _
  refine AWP.seq ?_
  refine AWP.seq ?_
  refine AWP.region (l := [0, 1, 2]) rfl ?_
  refine AOps.cons rfl rfl (AOp.move (.int .i64 v) rfl rfl ?_)
  refine AOps.cons rfl rfl (AOp.move (.sl fs.length (fs.map eF)) rfl rfl ?_)
  refine AOps.cons rfl rfl (AOp.pcall («as» := [.int .i64 v, .sl fs.length (fs.map eF)]) rfl rfl (rfl) tf_10 (c10 _ _ (by assumption) (by assumption)) ?_)
  intro H4 m5
  have m6 := m3.trans m5
  refine AOps.nil ?_
  change AWP _ _ _ _ _ _
  by_cases b7 : greatS v fs
  ·
    refine AWP.condT rfl (decide_eq_true b7) ?_
    refine AWP.seq ?_
    refine AWP.region (l := [0]) rfl ?_
    refine AOps.cons rfl rfl (AOp.assign (.bool true) rfl rfl ?_)
    refine AOps.nil ?_
    change AWP _ _ _ _ _ _
    refine AWP.ret ?_
    refine ⟨_, _, Ghost.refl, .inr rfl, _, Res.one rfl rfl, ?_, m6⟩
    exact rfl
  ·
    refine AWP.condF rfl (decide_eq_false b7) ?_
    refine AWP.skip ?_
    change AWP _ _ _ _ _ _
    refine AWP.seq ?_
    have hgn := great_no b7
    have hsm := build_small b7
    have hsl : (sides fs).length ≤ 4000000000 := by omega
    have ht1 := hsm.ed
    have ht2 := hsm.fan
    have ht3 := hsm.rnd
    have ht4 := hsm.fans
    have ht5 := hsm.ok
    have ht6 := hsm.sorted
    refine AWP.region (l := [0, 1, 2]) rfl ?_
    refine AOps.cons rfl rfl (AOp.move (.sl fs.length (fs.map eF)) rfl rfl ?_)
    refine AOps.cons rfl rfl (AOp.pcall («as» := [.sl fs.length (fs.map eF)]) rfl rfl (rfl) tf_11 (c11 _ (by first | omega | assumption | (simp; omega)) (by assumption)) ?_)
    intro H8 m9
    have m10 := m6.trans m9
    refine AOps.cons rfl rfl (AOp.assign (.sl fs.length (fs.map eF)) rfl rfl ?_)
    refine AOps.nil ?_
    change AWP _ _ _ _ _ _
    refine AWP.seq ?_
    refine AWP.region (l := [0, 1, 2, 3, 4, 5, 6, 7, 8]) rfl ?_
    refine AOps.cons rfl rfl (AOp.move (.int .i64 v) rfl rfl ?_)
    refine AOps.cons rfl rfl (AOp.move (.sl fs.length (fs.map eF)) rfl rfl ?_)
    refine AOps.cons rfl rfl (AOp.pcall («as» := [.int .i64 v, .sl fs.length (fs.map eF)]) rfl rfl (rfl) tf_12 (c12 _ (by assumption) (by assumption) _ (by omega) (by assumption)) ?_)
    intro H11 m12
    have m13 := m10.trans m12
    refine AOps.cons rfl rfl (AOp.move (.tup [.agg [.sl ((buildT v fs).ed).length (((buildT v fs).ed).flatMap eE), .sl ((buildT v fs).fan).length (((buildT v fs).fan).map eF), .sl ((buildT v fs).rnd).length (((buildT v fs).rnd).map eBo)], .int .i64 (buildE v fs)]) rfl rfl ?_)
    refine AOps.cons rfl rfl (AOp.extract (.agg [.sl ((buildT v fs).ed).length (((buildT v fs).ed).flatMap eE), .sl ((buildT v fs).fan).length (((buildT v fs).fan).map eF), .sl ((buildT v fs).rnd).length (((buildT v fs).rnd).map eBo)]) rfl rfl rfl ?_)
    refine AOps.cons rfl rfl (AOp.extract (.int .i64 (buildE v fs)) rfl rfl rfl ?_)
    refine AOps.cons rfl rfl (AOp.alloc rfl tz_29 ?_)
    intro i14 H15 n16 h17 k18
    have z19 := Mono.free m13 n16
    have m20 := Mono.new m13 n16 k18
    refine AOps.cons rfl rfl (AOp.store' (cells' := [.sl ((buildT v fs).ed).length (((buildT v fs).ed).flatMap eE), .sl ((buildT v fs).fan).length (((buildT v fs).fan).map eF), .sl ((buildT v fs).rnd).length (((buildT v fs).rnd).map eBo)]) (.agg [.sl ((buildT v fs).ed).length (((buildT v fs).ed).flatMap eE), .sl ((buildT v fs).fan).length (((buildT v fs).fan).map eF), .sl ((buildT v fs).rnd).length (((buildT v fs).rnd).map eBo)]) rfl rfl ts_29 h17 rfl rfl rfl rfl ?_)
    intro H21 h22 k23
    have m25 := Mono.set m20 z19 k23
    refine AOps.cons rfl rfl (AOp.assign (.int .i64 (buildE v fs)) rfl rfl ?_)
    refine AOps.nil ?_
    change AWP _ _ _ _ _ _
    refine AWP.seq ?_
    refine AWP.region (l := [0, 1, 2, 3, 4, 5, 6, 7, 8]) rfl ?_
    refine AOps.cons rfl rfl (AOp.move (.int .i64 v) rfl rfl ?_)
    refine AOps.cons rfl rfl (AOp.move (.sl fs.length (fs.map eF)) rfl rfl ?_)
    refine AOps.cons rfl rfl (AOp.pcall («as» := [.int .i64 v, .sl fs.length (fs.map eF)]) rfl rfl (rfl) tf_13 (c13 _ (by omega) _ (by assumption) (by assumption)) ?_)
    intro H26 m27
    have h28 := m27 _ _ h22
    have m29 := m25.trans m27
    refine AOps.cons rfl rfl (AOp.move (.tup [.agg [.sl ((buildT v fs).ed).length (((buildT v fs).ed).flatMap eE), .sl ((buildT v fs).fan).length (((buildT v fs).fan).map eF), .sl ((buildT v fs).rnd).length (((buildT v fs).rnd).map eBo)], .int .i64 (buildE v fs)]) rfl rfl ?_)
    refine AOps.cons rfl rfl (AOp.extract (.agg [.sl ((buildT v fs).ed).length (((buildT v fs).ed).flatMap eE), .sl ((buildT v fs).fan).length (((buildT v fs).fan).map eF), .sl ((buildT v fs).rnd).length (((buildT v fs).rnd).map eBo)]) rfl rfl rfl ?_)
    refine AOps.cons rfl rfl (AOp.extract (.int .i64 (buildE v fs)) rfl rfl rfl ?_)
    refine AOps.cons rfl rfl (AOp.alloc rfl tz_29 ?_)
    intro i30 H31 n32 h33 k34
    have e35 := ne_new h28 n32
    have z36 := Mono.free m29 n32
    have h37 := keep k34 (ne_new h28 n32) h28
    have m38 := Mono.new m29 n32 k34
    refine AOps.cons rfl rfl (AOp.store' (cells' := [.sl ((buildT v fs).ed).length (((buildT v fs).ed).flatMap eE), .sl ((buildT v fs).fan).length (((buildT v fs).fan).map eF), .sl ((buildT v fs).rnd).length (((buildT v fs).rnd).map eBo)]) (.agg [.sl ((buildT v fs).ed).length (((buildT v fs).ed).flatMap eE), .sl ((buildT v fs).fan).length (((buildT v fs).fan).map eF), .sl ((buildT v fs).rnd).length (((buildT v fs).rnd).map eBo)]) rfl rfl ts_29 h33 rfl rfl rfl rfl ?_)
    intro H39 h40 k41
    have h42 := keep k41 e35 h37
    have m44 := Mono.set m38 z36 k41
    refine AOps.cons rfl rfl (AOp.assign (.int .i64 (buildE v fs)) rfl rfl ?_)
    refine AOps.nil ?_
    change AWP _ _ _ _ _ _
    refine AWP.seq ?_
    refine AWP.region (l := [0, 1, 2, 3, 4, 5, 6, 7, 8, 9, 10, 11, 12, 13]) rfl ?_
    refine AOps.cons rfl rfl (AOp.load (.agg [.sl ((buildT v fs).ed).length (((buildT v fs).ed).flatMap eE), .sl ((buildT v fs).fan).length (((buildT v fs).fan).map eF), .sl ((buildT v fs).rnd).length (((buildT v fs).rnd).map eBo)]) rfl rfl ty_29 h42 rfl ?_)
    refine AOps.cons rfl rfl (AOp.load (.agg [.sl ((buildT v fs).ed).length (((buildT v fs).ed).flatMap eE), .sl ((buildT v fs).fan).length (((buildT v fs).fan).map eF), .sl ((buildT v fs).rnd).length (((buildT v fs).rnd).map eBo)]) rfl rfl ty_29 h40 rfl ?_)
    refine AOps.cons rfl rfl (AOp.pcall («as» := [.agg [.sl ((buildT v fs).ed).length (((buildT v fs).ed).flatMap eE), .sl ((buildT v fs).fan).length (((buildT v fs).fan).map eF), .sl ((buildT v fs).rnd).length (((buildT v fs).rnd).map eBo)], .agg [.sl ((buildT v fs).ed).length (((buildT v fs).ed).flatMap eE), .sl ((buildT v fs).fan).length (((buildT v fs).fan).map eF), .sl ((buildT v fs).rnd).length (((buildT v fs).rnd).map eBo)]]) rfl rfl (rfl) tf_14 (c14 _ ht1 ht2 ht3 ht4 ht5) ?_)
    intro H45 m46
    have h47 := m46 _ _ h42
    have h48 := m46 _ _ h40
    have m49 := m44.trans m46
    refine AOps.cons rfl rfl (AOp.move (.bool true) rfl rfl ?_)
    refine AOps.yes rfl rfl rfl rfl rfl rfl rfl rfl (AOp.move (.int .i64 (buildE v fs)) rfl rfl ?_)
    refine AOps.yes rfl rfl rfl rfl rfl rfl rfl rfl (AOp.move (.int .i64 (buildE v fs)) rfl rfl ?_)
    refine AOps.yes rfl rfl rfl rfl rfl rfl rfl rfl (AOp.bin (.bool (decide (buildE v fs = buildE v fs))) rfl rfl rfl ieq ?_)
    refine AOps.cons rfl rfl (AOp.pickT (.bool (decide (buildE v fs = buildE v fs))) rfl rfl rfl rfl ?_)
    refine AOps.cons rfl rfl (AOp.move (.bool (decide (buildE v fs = buildE v fs))) rfl rfl ?_)
    refine AOps.yes rfl rfl rfl rfl rfl rfl rfl (decide_eq_true rfl) (AOp.move (.sl fs.length (fs.map eF)) rfl rfl ?_)
    refine AOps.yes rfl rfl rfl rfl rfl rfl rfl (decide_eq_true rfl) (AOp.move (.sl fs.length (fs.map eF)) rfl rfl ?_)
    refine AOps.yes rfl rfl rfl rfl rfl rfl rfl (decide_eq_true rfl) (AOp.pcall («as» := [.sl fs.length (fs.map eF), .sl fs.length (fs.map eF)]) rfl rfl (rfl) tf_15 (c15 _ (by omega) (by assumption) _ (by omega) (by assumption)) ?_)
    intro H50 m51
    have h52 := m51 _ _ h47
    have h53 := m51 _ _ h48
    have m54 := m49.trans m51
    refine AOps.cons rfl rfl (AOp.pickT (.bool (decide (fs = fs))) rfl rfl (decide_eq_true rfl) rfl ?_)
    refine AOps.cons rfl rfl (AOp.assign (.bool (decide (fs = fs))) rfl rfl ?_)
    refine AOps.nil ?_
    change AWP _ _ _ _ _ _
    refine AWP.ret ?_
    refine ⟨_, _, Ghost.refl, .inr rfl, _, Res.one rfl rfl, ?_, m54⟩
    exact (congrArg AV.bool (show (decide (fs = fs) : Bool) = true from by simp))

theorem c7 (v : Int) (fs : List (List Int)) (hfs : fs.length ≤ 1048576) (hfss : ∀ l ∈ fs, l.length ≤ 1048576) (a b : Int) : PC Try.prog 7 [.int .i64 v, .sl fs.length (fs.map eF), .int .i64 a, .int .i64 b] (.bool true) := by
  intro H0
  refine ACalls.of_body' (n := 85) rfl rfl rfl rfl ?_
  have m0 := Mono.refl H0
  refine AWP.seq ?_
  refine AWP.region (l := [0]) rfl ?_
  refine AOps.cons rfl rfl (AOp.assign (.bool false) rfl rfl ?_)
  refine AOps.nil ?_
  change AWP _ _ _ _ _ _
  refine AWP.seq ?_
  refine AWP.seq ?_
  refine AWP.region (l := [0, 1]) rfl ?_
  refine AOps.cons rfl rfl (AOp.pcall («as» := []) rfl rfl (rfl) tf_9 (c9) ?_)
  intro H1 m2
  have m3 := m0.trans m2
  refine AOps.cons rfl rfl (AOp.not rfl rfl ?_)
  refine AOps.nil ?_
  change AWP _ _ _ _ _ _
  refine AWP.condF rfl rfl ?_
  refine AWP.skip ?_
  change AWP _ _ _ _ _ _
  refine AWP.seq ?_
  refine AWP.seq ?_
  refine AWP.region (l := [0, 1, 2]) rfl ?_
  refine AOps.cons rfl rfl (AOp.move (.int .i64 v) rfl rfl ?_)
  refine AOps.cons rfl rfl (AOp.move (.sl fs.length (fs.map eF)) rfl rfl ?_)
  refine AOps.cons rfl rfl (AOp.pcall («as» := [.int .i64 v, .sl fs.length (fs.map eF)]) rfl rfl (rfl) tf_10 (c10 _ _ (by assumption) (by assumption)) ?_)
  intro H4 m5
  have m6 := m3.trans m5
  refine AOps.nil ?_
  change AWP _ _ _ _ _ _
  by_cases b7 : greatS v fs
  ·
    refine AWP.condT rfl (decide_eq_true b7) ?_
    refine AWP.seq ?_
    refine AWP.region (l := [0]) rfl ?_
    refine AOps.cons rfl rfl (AOp.assign (.bool true) rfl rfl ?_)
    refine AOps.nil ?_
    change AWP _ _ _ _ _ _
    refine AWP.ret ?_
    refine ⟨_, _, Ghost.refl, .inr rfl, _, Res.one rfl rfl, ?_, m6⟩
    exact rfl
  ·
    refine AWP.condF rfl (decide_eq_false b7) ?_
    refine AWP.skip ?_
    change AWP _ _ _ _ _ _
    refine AWP.seq ?_
    have hgn := great_no b7
    have hsm := build_small b7
    have hsl : (sides fs).length ≤ 4000000000 := by omega
    have ht1 := hsm.ed
    have ht2 := hsm.fan
    have ht3 := hsm.rnd
    have ht4 := hsm.fans
    have ht5 := hsm.ok
    have ht6 := hsm.sorted
    refine AWP.region (l := [0, 1, 2, 3, 4, 5, 6, 7, 8]) rfl ?_
    refine AOps.cons rfl rfl (AOp.move (.int .i64 v) rfl rfl ?_)
    refine AOps.cons rfl rfl (AOp.move (.sl fs.length (fs.map eF)) rfl rfl ?_)
    refine AOps.cons rfl rfl (AOp.pcall («as» := [.int .i64 v, .sl fs.length (fs.map eF)]) rfl rfl (rfl) tf_12 (c12 _ (by assumption) (by assumption) _ (by omega) (by assumption)) ?_)
    intro H8 m9
    have m10 := m6.trans m9
    refine AOps.cons rfl rfl (AOp.move (.tup [.agg [.sl ((buildT v fs).ed).length (((buildT v fs).ed).flatMap eE), .sl ((buildT v fs).fan).length (((buildT v fs).fan).map eF), .sl ((buildT v fs).rnd).length (((buildT v fs).rnd).map eBo)], .int .i64 (buildE v fs)]) rfl rfl ?_)
    refine AOps.cons rfl rfl (AOp.extract (.agg [.sl ((buildT v fs).ed).length (((buildT v fs).ed).flatMap eE), .sl ((buildT v fs).fan).length (((buildT v fs).fan).map eF), .sl ((buildT v fs).rnd).length (((buildT v fs).rnd).map eBo)]) rfl rfl rfl ?_)
    refine AOps.cons rfl rfl (AOp.extract (.int .i64 (buildE v fs)) rfl rfl rfl ?_)
    refine AOps.cons rfl rfl (AOp.alloc rfl tz_29 ?_)
    intro i11 H12 n13 h14 k15
    have z16 := Mono.free m10 n13
    have m17 := Mono.new m10 n13 k15
    refine AOps.cons rfl rfl (AOp.store' (cells' := [.sl ((buildT v fs).ed).length (((buildT v fs).ed).flatMap eE), .sl ((buildT v fs).fan).length (((buildT v fs).fan).map eF), .sl ((buildT v fs).rnd).length (((buildT v fs).rnd).map eBo)]) (.agg [.sl ((buildT v fs).ed).length (((buildT v fs).ed).flatMap eE), .sl ((buildT v fs).fan).length (((buildT v fs).fan).map eF), .sl ((buildT v fs).rnd).length (((buildT v fs).rnd).map eBo)]) rfl rfl ts_29 h14 rfl rfl rfl rfl ?_)
    intro H18 h19 k20
    have m22 := Mono.set m17 z16 k20
    refine AOps.cons rfl rfl (AOp.assign (.int .i64 (buildE v fs)) rfl rfl ?_)
    refine AOps.nil ?_
    change AWP _ _ _ _ _ _
    refine AWP.seq ?_
    refine AWP.seq ?_
    refine AWP.region (l := [0, 1]) rfl ?_
    refine AOps.cons rfl rfl (AOp.move (.int .i64 (buildE v fs)) rfl rfl ?_)
    refine AOps.cons rfl rfl (AOp.bin (.bool (!decide (buildE v fs = 0))) rfl rfl rfl ine ?_)
    refine AOps.nil ?_
    change AWP _ _ _ _ _ _
    by_cases b23 : buildE v fs = 0
    ·
      refine AWP.condF rfl (nb (decide_eq_true b23)) ?_
      refine AWP.skip ?_
      change AWP _ _ _ _ _ _
      refine AWP.seq ?_
      refine AWP.region (l := [0, 1, 2, 3, 4, 5, 6, 7, 8]) rfl ?_
      refine AOps.cons rfl rfl (AOp.load (.agg [.sl ((buildT v fs).ed).length (((buildT v fs).ed).flatMap eE), .sl ((buildT v fs).fan).length (((buildT v fs).fan).map eF), .sl ((buildT v fs).rnd).length (((buildT v fs).rnd).map eBo)]) rfl rfl ty_29 h19 rfl ?_)
      refine AOps.cons rfl rfl (AOp.move (.int .i64 a) rfl rfl ?_)
      refine AOps.cons rfl rfl (AOp.move (.int .i64 b) rfl rfl ?_)
      refine AOps.cons rfl rfl (AOp.pcall («as» := [.agg [.sl ((buildT v fs).ed).length (((buildT v fs).ed).flatMap eE), .sl ((buildT v fs).fan).length (((buildT v fs).fan).map eF), .sl ((buildT v fs).rnd).length (((buildT v fs).rnd).map eBo)], .int .i64 a, .int .i64 b]) rfl rfl (rfl) tf_19 (c19 _ _ _ (by omega) (by assumption)) ?_)
      intro H24 m25
      have h26 := m25 _ _ h19
      have m27 := m22.trans m25
      refine AOps.cons rfl rfl (AOp.move (.tup [.int .i64 (optI (findS (buildT v fs) a b)), .bool ((findS (buildT v fs) a b).isSome)]) rfl rfl ?_)
      refine AOps.cons rfl rfl (AOp.extract (.int .i64 (optI (findS (buildT v fs) a b))) rfl rfl rfl ?_)
      refine AOps.cons rfl rfl (AOp.extract (.bool ((findS (buildT v fs) a b).isSome)) rfl rfl rfl ?_)
      refine AOps.cons rfl rfl (AOp.assign (.int .i64 (optI (findS (buildT v fs) a b))) rfl rfl ?_)
      refine AOps.cons rfl rfl (AOp.assign (.bool ((findS (buildT v fs) a b).isSome)) rfl rfl ?_)
      refine AOps.nil ?_
      change AWP _ _ _ _ _ _
      refine AWP.seq ?_
      refine AWP.region (l := [0, 1, 2, 3, 4, 5, 6, 7, 8]) rfl ?_
      refine AOps.cons rfl rfl (AOp.load (.agg [.sl ((buildT v fs).ed).length (((buildT v fs).ed).flatMap eE), .sl ((buildT v fs).fan).length (((buildT v fs).fan).map eF), .sl ((buildT v fs).rnd).length (((buildT v fs).rnd).map eBo)]) rfl rfl ty_29 h26 rfl ?_)
      refine AOps.cons rfl rfl (AOp.move (.int .i64 a) rfl rfl ?_)
      refine AOps.cons rfl rfl (AOp.move (.int .i64 b) rfl rfl ?_)
      refine AOps.cons rfl rfl (AOp.pcall («as» := [.agg [.sl ((buildT v fs).ed).length (((buildT v fs).ed).flatMap eE), .sl ((buildT v fs).fan).length (((buildT v fs).fan).map eF), .sl ((buildT v fs).rnd).length (((buildT v fs).rnd).map eBo)], .int .i64 a, .int .i64 b]) rfl rfl (rfl) tf_20 (c20 _ _ _ (by omega)) ?_)
      intro H28 m29
      have h30 := m29 _ _ h26
      have m31 := m27.trans m29
      refine AOps.cons rfl rfl (AOp.move (.tup [.int .i64 (optI (findS (buildT v fs) a b)), .bool ((findS (buildT v fs) a b).isSome)]) rfl rfl ?_)
      refine AOps.cons rfl rfl (AOp.extract (.int .i64 (optI (findS (buildT v fs) a b))) rfl rfl rfl ?_)
      refine AOps.cons rfl rfl (AOp.extract (.bool ((findS (buildT v fs) a b).isSome)) rfl rfl rfl ?_)
      refine AOps.cons rfl rfl (AOp.assign (.int .i64 (optI (findS (buildT v fs) a b))) rfl rfl ?_)
      refine AOps.cons rfl rfl (AOp.assign (.bool ((findS (buildT v fs) a b).isSome)) rfl rfl ?_)
      refine AOps.nil ?_
      change AWP _ _ _ _ _ _
      refine AWP.seq ?_
      refine AWP.region (l := [0, 1, 2, 3, 4, 5, 6, 7, 8, 9, 10, 11, 12, 13, 14, 15, 16, 17, 18, 19, 20, 21, 22, 23, 24, 25, 26, 27]) rfl ?_
      refine AOps.cons rfl rfl (AOp.move (.int .i64 a) rfl rfl ?_)
      refine AOps.cons rfl rfl (AOp.bin (.bool (decide (a ≥ 0))) rfl rfl rfl rfl ?_)
      refine AOps.cons rfl rfl (AOp.move (.bool (decide (a ≥ 0))) rfl rfl ?_)
      by_cases b32 : a ≥ 0
      ·
        refine AOps.yes rfl rfl rfl rfl rfl rfl rfl (decide_eq_true b32) (AOp.move (.int .i64 a) rfl rfl ?_)
        refine AOps.yes rfl rfl rfl rfl rfl rfl rfl (decide_eq_true b32) (AOp.fieldAddr rfl rfl fl_29_0 ?_ (hid := ⟨_, h30⟩))
        refine AOps.yes rfl rfl rfl rfl rfl rfl rfl (decide_eq_true b32) (AOp.load (.sl ((buildT v fs).ed).length (((buildT v fs).ed).flatMap eE)) rfl rfl ty_26 h30 rfl ?_)
        refine AOps.yes rfl rfl rfl rfl rfl rfl rfl (decide_eq_true b32) (AOp.len (m := ((buildT v fs).ed).length) rfl rfl (.inr (.inl ⟨_, rfl⟩)) u_26 ?_)
        refine AOps.yes rfl rfl rfl rfl rfl rfl rfl (decide_eq_true b32) (AOp.bin (.bool (decide (a < ((((buildT v fs).ed).length) : Int)))) rfl rfl rfl rfl ?_)
        refine AOps.cons rfl rfl (AOp.pickT (.bool (decide (a < ((((buildT v fs).ed).length) : Int)))) rfl rfl (decide_eq_true b32) rfl ?_)
        refine AOps.cons rfl rfl (AOp.move (.bool (decide (a < ((((buildT v fs).ed).length) : Int)))) rfl rfl ?_)
        by_cases b33 : a < ((((buildT v fs).ed).length) : Int)
        ·
          refine AOps.yes rfl rfl rfl rfl rfl rfl rfl (decide_eq_true b33) (AOp.fieldAddr rfl rfl fl_29_0 ?_ (hid := ⟨_, h30⟩))
          refine AOps.yes rfl rfl rfl rfl rfl rfl rfl (decide_eq_true b33) (AOp.load (.sl ((buildT v fs).ed).length (((buildT v fs).ed).flatMap eE)) rfl rfl ty_26 h30 rfl ?_)
          refine AOps.yes rfl rfl rfl rfl rfl rfl rfl (decide_eq_true b33) (AOp.move (.int .i64 a) rfl rfl ?_)
          refine AOps.yes rfl rfl rfl rfl rfl rfl rfl (decide_eq_true b33) (AOp.indexAddrS rfl rfl rfl sl_26 (by omega) (by omega) ?_)
          refine AOps.yes rfl rfl rfl rfl rfl rfl rfl (decide_eq_true b33) (AOp.fieldAddrF rfl rfl fl_37_2 ?_)
          refine AOps.yes rfl rfl rfl rfl rfl rfl rfl (decide_eq_true b33) (AOp.loadF (.int .i64 ((at_ ((buildT v fs).ed) a).F)) rfl rfl ty_3 (ldF eE_len (by omega) (by omega) rfl (by decide)) ?_)
          refine AOps.yes rfl rfl rfl rfl rfl rfl rfl (decide_eq_true b33) (AOp.bin (.bool (decide ((at_ ((buildT v fs).ed) a).F < 0))) rfl rfl rfl rfl ?_)
          refine AOps.yes rfl rfl rfl rfl rfl rfl rfl (decide_eq_true b33) (AOp.move (.bool (decide ((at_ ((buildT v fs).ed) a).F < 0))) rfl rfl ?_)
          by_cases b34 : (at_ ((buildT v fs).ed) a).F < 0
          ·
            refine AOps.no rfl rfl rfl rfl rfl rfl rfl (ble_of (decide_eq_true b34) (by decide)) ?_
            refine AOps.no rfl rfl rfl rfl rfl rfl rfl (ble_of (decide_eq_true b34) (by decide)) ?_
            refine AOps.no rfl rfl rfl rfl rfl rfl rfl (ble_of (decide_eq_true b34) (by decide)) ?_
            refine AOps.no rfl rfl rfl rfl rfl rfl rfl (ble_of (decide_eq_true b34) (by decide)) ?_
            refine AOps.no rfl rfl rfl rfl rfl rfl rfl (ble_of (decide_eq_true b34) (by decide)) ?_
            refine AOps.no rfl rfl rfl rfl rfl rfl rfl (ble_of (decide_eq_true b34) (by decide)) ?_
            refine AOps.no rfl rfl rfl rfl rfl rfl rfl (ble_of (decide_eq_true b34) (by decide)) ?_
            refine AOps.yes rfl rfl rfl rfl rfl rfl rfl (decide_eq_true b33) (AOp.pickT (.bool true) rfl rfl (decide_eq_true b34) rfl ?_)
            refine AOps.cons rfl rfl (AOp.pickT (.bool true) rfl rfl (decide_eq_true b33) rfl ?_)
            refine AOps.cons rfl rfl (AOp.assign (.bool true) rfl rfl ?_)
            refine AOps.nil ?_
            change AWP _ _ _ _ _ _
            refine AWP.seq ?_
            refine AWP.region (l := [0, 1, 2, 3, 4, 5, 6, 7, 8, 9, 10, 11, 12, 13, 14, 15]) rfl ?_
            refine AOps.cons rfl rfl (AOp.move (.int .i64 (optI (findS (buildT v fs) a b))) rfl rfl ?_)
            refine AOps.cons rfl rfl (AOp.move (.int .i64 (optI (findS (buildT v fs) a b))) rfl rfl ?_)
            refine AOps.cons rfl rfl (AOp.bin (.bool (decide (optI (findS (buildT v fs) a b) = optI (findS (buildT v fs) a b)))) rfl rfl rfl ieq ?_)
            refine AOps.cons rfl rfl (AOp.move (.bool (decide (optI (findS (buildT v fs) a b) = optI (findS (buildT v fs) a b)))) rfl rfl ?_)
            refine AOps.yes rfl rfl rfl rfl rfl rfl rfl (decide_eq_true rfl) (AOp.move (.bool ((findS (buildT v fs) a b).isSome)) rfl rfl ?_)
            refine AOps.yes rfl rfl rfl rfl rfl rfl rfl (decide_eq_true rfl) (AOp.move (.bool ((findS (buildT v fs) a b).isSome)) rfl rfl ?_)
            refine AOps.yes rfl rfl rfl rfl rfl rfl rfl (decide_eq_true rfl) (AOp.beq rfl rfl rfl u_4 ?_)
            refine AOps.cons rfl rfl (AOp.pickT (.bool (((findS (buildT v fs) a b).isSome) == ((findS (buildT v fs) a b).isSome))) rfl rfl (decide_eq_true rfl) rfl ?_)
            refine AOps.cons rfl rfl (AOp.move (.bool (((findS (buildT v fs) a b).isSome) == ((findS (buildT v fs) a b).isSome))) rfl rfl ?_)
            refine AOps.yes rfl rfl rfl rfl rfl rfl rfl (beq_self_eq_true _) (AOp.load (.agg [.sl ((buildT v fs).ed).length (((buildT v fs).ed).flatMap eE), .sl ((buildT v fs).fan).length (((buildT v fs).fan).map eF), .sl ((buildT v fs).rnd).length (((buildT v fs).rnd).map eBo)]) rfl rfl ty_29 h30 rfl ?_)
            refine AOps.yes rfl rfl rfl rfl rfl rfl rfl (beq_self_eq_true _) (AOp.move (.int .i64 a) rfl rfl ?_)
            refine AOps.yes rfl rfl rfl rfl rfl rfl rfl (beq_self_eq_true _) (AOp.pcall («as» := [.agg [.sl ((buildT v fs).ed).length (((buildT v fs).ed).flatMap eE), .sl ((buildT v fs).fan).length (((buildT v fs).fan).map eF), .sl ((buildT v fs).rnd).length (((buildT v fs).rnd).map eBo)], .int .i64 a]) rfl rfl (rfl) tf_18 (c18 _ _ (by omega)) ?_)
            intro H35 m36
            have h37 := m36 _ _ h30
            have m38 := m31.trans m36
            refine AOps.yes rfl rfl rfl rfl rfl rfl rfl (beq_self_eq_true _) (AOp.move (.bool true) rfl rfl ?_)
            refine AOps.yes rfl rfl rfl rfl rfl rfl rfl (beq_self_eq_true _) (AOp.beq rfl rfl rfl u_4 ?_)
            refine AOps.cons rfl rfl (AOp.pickT (.bool ((edgedS (buildT v fs) a) == true)) rfl rfl (beq_self_eq_true _) rfl ?_)
            refine AOps.cons rfl rfl (AOp.assign (.bool ((edgedS (buildT v fs) a) == true)) rfl rfl ?_)
            refine AOps.nil ?_
            change AWP _ _ _ _ _ _
            refine AWP.ret ?_
            refine ⟨_, _, Ghost.refl, .inr rfl, _, Res.one rfl rfl, ?_, m38⟩
            exact (congrArg AV.bool (show ((edgedS (buildT v fs) a) == true : Bool) = true from by unfold edgedS; first | (simp; done) | (simp; omega) | (rw [beq_iff_eq]; first | exact decide_eq_decide.2 (by omega) | exact decide_eq_false (by omega) | exact decide_eq_true (by omega))))
          ·
            refine AOps.yes rfl rfl rfl rfl rfl rfl rfl (decide_eq_false b34) (AOp.fieldAddr rfl rfl fl_29_0 ?_ (hid := ⟨_, h30⟩))
            refine AOps.yes rfl rfl rfl rfl rfl rfl rfl (decide_eq_false b34) (AOp.load (.sl ((buildT v fs).ed).length (((buildT v fs).ed).flatMap eE)) rfl rfl ty_26 h30 rfl ?_)
            refine AOps.yes rfl rfl rfl rfl rfl rfl rfl (decide_eq_false b34) (AOp.move (.int .i64 a) rfl rfl ?_)
            refine AOps.yes rfl rfl rfl rfl rfl rfl rfl (decide_eq_false b34) (AOp.indexAddrS rfl rfl rfl sl_26 (by omega) (by omega) ?_)
            refine AOps.yes rfl rfl rfl rfl rfl rfl rfl (decide_eq_false b34) (AOp.fieldAddrF rfl rfl fl_37_3 ?_)
            refine AOps.yes rfl rfl rfl rfl rfl rfl rfl (decide_eq_false b34) (AOp.loadF (.int .i64 ((at_ ((buildT v fs).ed) a).G)) rfl rfl ty_3 (ldF eE_len (by omega) (by omega) rfl (by decide)) ?_)
            refine AOps.yes rfl rfl rfl rfl rfl rfl rfl (decide_eq_false b34) (AOp.bin (.bool (decide ((at_ ((buildT v fs).ed) a).G < 0))) rfl rfl rfl rfl ?_)
            refine AOps.yes rfl rfl rfl rfl rfl rfl rfl (decide_eq_true b33) (AOp.pickF (.bool (decide ((at_ ((buildT v fs).ed) a).G < 0))) rfl rfl (decide_eq_false b34) rfl ?_)
            refine AOps.cons rfl rfl (AOp.pickT (.bool (decide ((at_ ((buildT v fs).ed) a).G < 0))) rfl rfl (decide_eq_true b33) rfl ?_)
            refine AOps.cons rfl rfl (AOp.assign (.bool (decide ((at_ ((buildT v fs).ed) a).G < 0))) rfl rfl ?_)
            refine AOps.nil ?_
            change AWP _ _ _ _ _ _
            refine AWP.seq ?_
            refine AWP.region (l := [0, 1, 2, 3, 4, 5, 6, 7, 8, 9, 10, 11, 12, 13, 14, 15]) rfl ?_
            refine AOps.cons rfl rfl (AOp.move (.int .i64 (optI (findS (buildT v fs) a b))) rfl rfl ?_)
            refine AOps.cons rfl rfl (AOp.move (.int .i64 (optI (findS (buildT v fs) a b))) rfl rfl ?_)
            refine AOps.cons rfl rfl (AOp.bin (.bool (decide (optI (findS (buildT v fs) a b) = optI (findS (buildT v fs) a b)))) rfl rfl rfl ieq ?_)
            refine AOps.cons rfl rfl (AOp.move (.bool (decide (optI (findS (buildT v fs) a b) = optI (findS (buildT v fs) a b)))) rfl rfl ?_)
            refine AOps.yes rfl rfl rfl rfl rfl rfl rfl (decide_eq_true rfl) (AOp.move (.bool ((findS (buildT v fs) a b).isSome)) rfl rfl ?_)
            refine AOps.yes rfl rfl rfl rfl rfl rfl rfl (decide_eq_true rfl) (AOp.move (.bool ((findS (buildT v fs) a b).isSome)) rfl rfl ?_)
            refine AOps.yes rfl rfl rfl rfl rfl rfl rfl (decide_eq_true rfl) (AOp.beq rfl rfl rfl u_4 ?_)
            refine AOps.cons rfl rfl (AOp.pickT (.bool (((findS (buildT v fs) a b).isSome) == ((findS (buildT v fs) a b).isSome))) rfl rfl (decide_eq_true rfl) rfl ?_)
            refine AOps.cons rfl rfl (AOp.move (.bool (((findS (buildT v fs) a b).isSome) == ((findS (buildT v fs) a b).isSome))) rfl rfl ?_)
            refine AOps.yes rfl rfl rfl rfl rfl rfl rfl (beq_self_eq_true _) (AOp.load (.agg [.sl ((buildT v fs).ed).length (((buildT v fs).ed).flatMap eE), .sl ((buildT v fs).fan).length (((buildT v fs).fan).map eF), .sl ((buildT v fs).rnd).length (((buildT v fs).rnd).map eBo)]) rfl rfl ty_29 h30 rfl ?_)
            refine AOps.yes rfl rfl rfl rfl rfl rfl rfl (beq_self_eq_true _) (AOp.move (.int .i64 a) rfl rfl ?_)
            refine AOps.yes rfl rfl rfl rfl rfl rfl rfl (beq_self_eq_true _) (AOp.pcall («as» := [.agg [.sl ((buildT v fs).ed).length (((buildT v fs).ed).flatMap eE), .sl ((buildT v fs).fan).length (((buildT v fs).fan).map eF), .sl ((buildT v fs).rnd).length (((buildT v fs).rnd).map eBo)], .int .i64 a]) rfl rfl (rfl) tf_18 (c18 _ _ (by omega)) ?_)
            intro H39 m40
            have h41 := m40 _ _ h30
            have m42 := m31.trans m40
            refine AOps.yes rfl rfl rfl rfl rfl rfl rfl (beq_self_eq_true _) (AOp.move (.bool (decide ((at_ ((buildT v fs).ed) a).G < 0))) rfl rfl ?_)
            refine AOps.yes rfl rfl rfl rfl rfl rfl rfl (beq_self_eq_true _) (AOp.beq rfl rfl rfl u_4 ?_)
            refine AOps.cons rfl rfl (AOp.pickT (.bool ((edgedS (buildT v fs) a) == (decide ((at_ ((buildT v fs).ed) a).G < 0)))) rfl rfl (beq_self_eq_true _) rfl ?_)
            refine AOps.cons rfl rfl (AOp.assign (.bool ((edgedS (buildT v fs) a) == (decide ((at_ ((buildT v fs).ed) a).G < 0)))) rfl rfl ?_)
            refine AOps.nil ?_
            change AWP _ _ _ _ _ _
            refine AWP.ret ?_
            refine ⟨_, _, Ghost.refl, .inr rfl, _, Res.one rfl rfl, ?_, m42⟩
            exact (congrArg AV.bool (show ((edgedS (buildT v fs) a) == (decide ((at_ ((buildT v fs).ed) a).G < 0)) : Bool) = true from by unfold edgedS; first | (simp; done) | (simp; omega) | (rw [beq_iff_eq]; first | exact decide_eq_decide.2 (by omega) | exact decide_eq_false (by omega) | exact decide_eq_true (by omega))))
        ·
          refine AOps.no rfl rfl rfl rfl rfl rfl rfl (ble_of (decide_eq_false b33) (by decide)) ?_
          refine AOps.no rfl rfl rfl rfl rfl rfl rfl (ble_of (decide_eq_false b33) (by decide)) ?_
          refine AOps.no rfl rfl rfl rfl rfl rfl rfl (ble_of (decide_eq_false b33) (by decide)) ?_
          refine AOps.no rfl rfl rfl rfl rfl rfl rfl (ble_of (decide_eq_false b33) (by decide)) ?_
          refine AOps.no rfl rfl rfl rfl rfl rfl rfl (ble_of (decide_eq_false b33) (by decide)) ?_
          refine AOps.no rfl rfl rfl rfl rfl rfl rfl (ble_of (decide_eq_false b33) (by decide)) ?_
          refine AOps.no rfl rfl rfl rfl rfl rfl rfl (ble_of (decide_eq_false b33) (by decide)) ?_
          refine AOps.no rfl rfl rfl rfl rfl rfl rfl (ble_of (decide_eq_false b33) (by decide)) ?_
          refine AOps.un rfl rfl rfl rfl rfl rfl rfl ?_
          refine AOps.un rfl rfl rfl rfl rfl rfl rfl ?_
          refine AOps.un rfl rfl rfl rfl rfl rfl rfl ?_
          refine AOps.un rfl rfl rfl rfl rfl rfl rfl ?_
          refine AOps.un rfl rfl rfl rfl rfl rfl rfl ?_
          refine AOps.un rfl rfl rfl rfl rfl rfl rfl ?_
          refine AOps.un rfl rfl rfl rfl rfl rfl rfl ?_
          refine AOps.no rfl rfl rfl rfl rfl rfl rfl (ble_of (decide_eq_false b33) (by decide)) ?_
          refine AOps.cons rfl rfl (AOp.pickF (.bool false) rfl rfl (decide_eq_false b33) rfl ?_)
          refine AOps.cons rfl rfl (AOp.assign (.bool false) rfl rfl ?_)
          refine AOps.nil ?_
          change AWP _ _ _ _ _ _
          refine AWP.seq ?_
          refine AWP.region (l := [0, 1, 2, 3, 4, 5, 6, 7, 8, 9, 10, 11, 12, 13, 14, 15]) rfl ?_
          refine AOps.cons rfl rfl (AOp.move (.int .i64 (optI (findS (buildT v fs) a b))) rfl rfl ?_)
          refine AOps.cons rfl rfl (AOp.move (.int .i64 (optI (findS (buildT v fs) a b))) rfl rfl ?_)
          refine AOps.cons rfl rfl (AOp.bin (.bool (decide (optI (findS (buildT v fs) a b) = optI (findS (buildT v fs) a b)))) rfl rfl rfl ieq ?_)
          refine AOps.cons rfl rfl (AOp.move (.bool (decide (optI (findS (buildT v fs) a b) = optI (findS (buildT v fs) a b)))) rfl rfl ?_)
          refine AOps.yes rfl rfl rfl rfl rfl rfl rfl (decide_eq_true rfl) (AOp.move (.bool ((findS (buildT v fs) a b).isSome)) rfl rfl ?_)
          refine AOps.yes rfl rfl rfl rfl rfl rfl rfl (decide_eq_true rfl) (AOp.move (.bool ((findS (buildT v fs) a b).isSome)) rfl rfl ?_)
          refine AOps.yes rfl rfl rfl rfl rfl rfl rfl (decide_eq_true rfl) (AOp.beq rfl rfl rfl u_4 ?_)
          refine AOps.cons rfl rfl (AOp.pickT (.bool (((findS (buildT v fs) a b).isSome) == ((findS (buildT v fs) a b).isSome))) rfl rfl (decide_eq_true rfl) rfl ?_)
          refine AOps.cons rfl rfl (AOp.move (.bool (((findS (buildT v fs) a b).isSome) == ((findS (buildT v fs) a b).isSome))) rfl rfl ?_)
          refine AOps.yes rfl rfl rfl rfl rfl rfl rfl (beq_self_eq_true _) (AOp.load (.agg [.sl ((buildT v fs).ed).length (((buildT v fs).ed).flatMap eE), .sl ((buildT v fs).fan).length (((buildT v fs).fan).map eF), .sl ((buildT v fs).rnd).length (((buildT v fs).rnd).map eBo)]) rfl rfl ty_29 h30 rfl ?_)
          refine AOps.yes rfl rfl rfl rfl rfl rfl rfl (beq_self_eq_true _) (AOp.move (.int .i64 a) rfl rfl ?_)
          refine AOps.yes rfl rfl rfl rfl rfl rfl rfl (beq_self_eq_true _) (AOp.pcall («as» := [.agg [.sl ((buildT v fs).ed).length (((buildT v fs).ed).flatMap eE), .sl ((buildT v fs).fan).length (((buildT v fs).fan).map eF), .sl ((buildT v fs).rnd).length (((buildT v fs).rnd).map eBo)], .int .i64 a]) rfl rfl (rfl) tf_18 (c18 _ _ (by omega)) ?_)
          intro H43 m44
          have h45 := m44 _ _ h30
          have m46 := m31.trans m44
          refine AOps.yes rfl rfl rfl rfl rfl rfl rfl (beq_self_eq_true _) (AOp.move (.bool false) rfl rfl ?_)
          refine AOps.yes rfl rfl rfl rfl rfl rfl rfl (beq_self_eq_true _) (AOp.beq rfl rfl rfl u_4 ?_)
          refine AOps.cons rfl rfl (AOp.pickT (.bool ((edgedS (buildT v fs) a) == false)) rfl rfl (beq_self_eq_true _) rfl ?_)
          refine AOps.cons rfl rfl (AOp.assign (.bool ((edgedS (buildT v fs) a) == false)) rfl rfl ?_)
          refine AOps.nil ?_
          change AWP _ _ _ _ _ _
          refine AWP.ret ?_
          refine ⟨_, _, Ghost.refl, .inr rfl, _, Res.one rfl rfl, ?_, m46⟩
          exact (congrArg AV.bool (show ((edgedS (buildT v fs) a) == false : Bool) = true from by unfold edgedS; first | (simp; done) | (simp; omega) | (rw [beq_iff_eq]; first | exact decide_eq_decide.2 (by omega) | exact decide_eq_false (by omega) | exact decide_eq_true (by omega))))
      ·
        refine AOps.no rfl rfl rfl rfl rfl rfl rfl (ble_of (decide_eq_false b32) (by decide)) ?_
        refine AOps.no rfl rfl rfl rfl rfl rfl rfl (ble_of (decide_eq_false b32) (by decide)) ?_
        refine AOps.no rfl rfl rfl rfl rfl rfl rfl (ble_of (decide_eq_false b32) (by decide)) ?_
        refine AOps.no rfl rfl rfl rfl rfl rfl rfl (ble_of (decide_eq_false b32) (by decide)) ?_
        refine AOps.no rfl rfl rfl rfl rfl rfl rfl (ble_of (decide_eq_false b32) (by decide)) ?_
        refine AOps.cons rfl rfl (AOp.pickF (.bool false) rfl rfl (decide_eq_false b32) rfl ?_)
        refine AOps.cons rfl rfl (AOp.move (.bool false) rfl rfl ?_)
        refine AOps.no rfl rfl rfl rfl rfl rfl rfl (ble_of rfl (by decide)) ?_
        refine AOps.no rfl rfl rfl rfl rfl rfl rfl (ble_of rfl (by decide)) ?_
        refine AOps.no rfl rfl rfl rfl rfl rfl rfl (ble_of rfl (by decide)) ?_
        refine AOps.no rfl rfl rfl rfl rfl rfl rfl (ble_of rfl (by decide)) ?_
        refine AOps.no rfl rfl rfl rfl rfl rfl rfl (ble_of rfl (by decide)) ?_
        refine AOps.no rfl rfl rfl rfl rfl rfl rfl (ble_of rfl (by decide)) ?_
        refine AOps.no rfl rfl rfl rfl rfl rfl rfl (ble_of rfl (by decide)) ?_
        refine AOps.no rfl rfl rfl rfl rfl rfl rfl (ble_of rfl (by decide)) ?_
        refine AOps.un rfl rfl rfl rfl rfl rfl rfl ?_
        refine AOps.un rfl rfl rfl rfl rfl rfl rfl ?_
        refine AOps.un rfl rfl rfl rfl rfl rfl rfl ?_
        refine AOps.un rfl rfl rfl rfl rfl rfl rfl ?_
        refine AOps.un rfl rfl rfl rfl rfl rfl rfl ?_
        refine AOps.un rfl rfl rfl rfl rfl rfl rfl ?_
        refine AOps.un rfl rfl rfl rfl rfl rfl rfl ?_
        refine AOps.no rfl rfl rfl rfl rfl rfl rfl (ble_of rfl (by decide)) ?_
        refine AOps.cons rfl rfl (AOp.pickF (.bool false) rfl rfl rfl rfl ?_)
        refine AOps.cons rfl rfl (AOp.assign (.bool false) rfl rfl ?_)
        refine AOps.nil ?_
        change AWP _ _ _ _ _ _
        refine AWP.seq ?_
        refine AWP.region (l := [0, 1, 2, 3, 4, 5, 6, 7, 8, 9, 10, 11, 12, 13, 14, 15]) rfl ?_
        refine AOps.cons rfl rfl (AOp.move (.int .i64 (optI (findS (buildT v fs) a b))) rfl rfl ?_)
        refine AOps.cons rfl rfl (AOp.move (.int .i64 (optI (findS (buildT v fs) a b))) rfl rfl ?_)
        refine AOps.cons rfl rfl (AOp.bin (.bool (decide (optI (findS (buildT v fs) a b) = optI (findS (buildT v fs) a b)))) rfl rfl rfl ieq ?_)
        refine AOps.cons rfl rfl (AOp.move (.bool (decide (optI (findS (buildT v fs) a b) = optI (findS (buildT v fs) a b)))) rfl rfl ?_)
        refine AOps.yes rfl rfl rfl rfl rfl rfl rfl (decide_eq_true rfl) (AOp.move (.bool ((findS (buildT v fs) a b).isSome)) rfl rfl ?_)
        refine AOps.yes rfl rfl rfl rfl rfl rfl rfl (decide_eq_true rfl) (AOp.move (.bool ((findS (buildT v fs) a b).isSome)) rfl rfl ?_)
        refine AOps.yes rfl rfl rfl rfl rfl rfl rfl (decide_eq_true rfl) (AOp.beq rfl rfl rfl u_4 ?_)
        refine AOps.cons rfl rfl (AOp.pickT (.bool (((findS (buildT v fs) a b).isSome) == ((findS (buildT v fs) a b).isSome))) rfl rfl (decide_eq_true rfl) rfl ?_)
        refine AOps.cons rfl rfl (AOp.move (.bool (((findS (buildT v fs) a b).isSome) == ((findS (buildT v fs) a b).isSome))) rfl rfl ?_)
        refine AOps.yes rfl rfl rfl rfl rfl rfl rfl (beq_self_eq_true _) (AOp.load (.agg [.sl ((buildT v fs).ed).length (((buildT v fs).ed).flatMap eE), .sl ((buildT v fs).fan).length (((buildT v fs).fan).map eF), .sl ((buildT v fs).rnd).length (((buildT v fs).rnd).map eBo)]) rfl rfl ty_29 h30 rfl ?_)
        refine AOps.yes rfl rfl rfl rfl rfl rfl rfl (beq_self_eq_true _) (AOp.move (.int .i64 a) rfl rfl ?_)
        refine AOps.yes rfl rfl rfl rfl rfl rfl rfl (beq_self_eq_true _) (AOp.pcall («as» := [.agg [.sl ((buildT v fs).ed).length (((buildT v fs).ed).flatMap eE), .sl ((buildT v fs).fan).length (((buildT v fs).fan).map eF), .sl ((buildT v fs).rnd).length (((buildT v fs).rnd).map eBo)], .int .i64 a]) rfl rfl (rfl) tf_18 (c18 _ _ (by omega)) ?_)
        intro H47 m48
        have h49 := m48 _ _ h30
        have m50 := m31.trans m48
        refine AOps.yes rfl rfl rfl rfl rfl rfl rfl (beq_self_eq_true _) (AOp.move (.bool false) rfl rfl ?_)
        refine AOps.yes rfl rfl rfl rfl rfl rfl rfl (beq_self_eq_true _) (AOp.beq rfl rfl rfl u_4 ?_)
        refine AOps.cons rfl rfl (AOp.pickT (.bool ((edgedS (buildT v fs) a) == false)) rfl rfl (beq_self_eq_true _) rfl ?_)
        refine AOps.cons rfl rfl (AOp.assign (.bool ((edgedS (buildT v fs) a) == false)) rfl rfl ?_)
        refine AOps.nil ?_
        change AWP _ _ _ _ _ _
        refine AWP.ret ?_
        refine ⟨_, _, Ghost.refl, .inr rfl, _, Res.one rfl rfl, ?_, m50⟩
        exact (congrArg AV.bool (show ((edgedS (buildT v fs) a) == false : Bool) = true from by unfold edgedS; first | (simp; done) | (simp; omega) | (rw [beq_iff_eq]; first | exact decide_eq_decide.2 (by omega) | exact decide_eq_false (by omega) | exact decide_eq_true (by omega))))
    ·
      refine AWP.condT rfl (nb (decide_eq_false b23)) ?_
      refine AWP.seq ?_
      refine AWP.region (l := [0]) rfl ?_
      refine AOps.cons rfl rfl (AOp.assign (.bool true) rfl rfl ?_)
      refine AOps.nil ?_
      change AWP _ _ _ _ _ _
      refine AWP.ret ?_
      refine ⟨_, _, Ghost.refl, .inr rfl, _, Res.one rfl rfl, ?_, m22⟩
      exact rfl
end Go.Proofs.T
