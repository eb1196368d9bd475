/- A part of the proof that a law answers true for every input of its row: own work, by an AI agent. -/
import Derived.Test.YtfddnapdeihchaaDoorB03
set_option linter.unusedSimpArgs false
set_option linter.unusedVariables false
set_option linter.defProp false
namespace Go.Proofs.S
open Go Go.AH Go.Proofs.L
set_option maxRecDepth 4000
set_option maxHeartbeats 4000000
set_option linter.unusedSimpArgs false
set_option linter.unusedVariables false
set_option linter.unusedSectionVars false
variable [LexG]
theorem c_SceneBounds (s : ByteArray) : PC Tryd.prog 4 [.str s] (.bool true) := by
 intro H0
 refine ACalls.of_body' (n := 196) rfl rfl rfl rfl ?_
 have m0 := Mono.refl H0
 refine AWP.seq ?_
 refine AWP.region (l := [0]) rfl ?_
 refine AOps.cons rfl rfl (AOp.assign (.bool false) rfl rfl ?_)
 refine AOps.nil ?_
 change AWP _ _ _ _ _ _
 refine AWP.seq ?_
 refine AWP.seq ?_
 refine AWP.region (l := [0, 1]) rfl ?_
 refine AOps.cons rfl rfl (AOp.pcall («as» := []) rfl rfl (rfl) tf_7 (c_alive) ?_)
 intro H1 m2
 have m3 := m0.trans m2
 refine AOps.cons rfl rfl (AOp.not rfl rfl ?_)
 refine AOps.nil ?_
 change AWP _ _ _ _ _ _
 refine AWP.condF rfl rfl ?_
 refine AWP.skip ?_
 change AWP _ _ _ _ _ _
 refine AWP.seq ?_
 refine AWP.seq ?_
 refine AWP.region (l := [0, 1, 2]) rfl ?_
 refine AOps.cons rfl rfl (AOp.move (.str s) rfl rfl ?_)
 refine AOps.cons rfl rfl (AOp.lenStr rfl rfl u_9 ?_)
 refine AOps.cons rfl rfl (AOp.bin (.bool (decide ((s.size : Int) > 8000))) rfl rfl rfl rfl ?_)
 refine AOps.nil ?_
 change AWP _ _ _ _ _ _
 by_cases b4 : (s.size : Int) > 8000
 ·
  refine AWP.condT rfl (decide_eq_true b4) ?_
  refine AWP.seq ?_
  refine AWP.region (l := [0]) rfl ?_
  refine AOps.cons rfl rfl (AOp.assign (.bool true) rfl rfl ?_)
  refine AOps.nil ?_
  change AWP _ _ _ _ _ _
  refine AWP.ret ?_
  refine ⟨_, _, Ghost.refl, .inr rfl, _, Res.one rfl rfl, ?_, m3⟩
  exact rfl
 ·
  refine AWP.condF rfl (decide_eq_false b4) ?_
  refine AWP.skip ?_
  change AWP _ _ _ _ _ _
  refine AWP.seq ?_
  refine AWP.region (l := [0, 1, 2, 3, 4, 5, 6, 7, 8, 9]) rfl ?_
  refine AOps.cons rfl rfl (AOp.move (.str s) rfl rfl ?_)
  refine AOps.cons rfl rfl (AOp.pcall («as» := [.str s]) rfl rfl (rfl) tf_8 (c_Parse s) ?_)
  intro H5 m6
  have m7 := m3.trans m6
  refine AOps.cons rfl rfl (AOp.move (.tup [.agg [.int .i64 (((((parseR s).1).Camera).Eye).X), .int .i64 (((((parseR s).1).Camera).Eye).Y), .int .i64 (((((parseR s).1).Camera).Eye).Z), .int .i64 (((((parseR s).1).Camera).First).X), .int .i64 (((((parseR s).1).Camera).First).Y), .int .i64 (((((parseR s).1).Camera).First).Z), .int .i64 (((((parseR s).1).Camera).Right).X), .int .i64 (((((parseR s).1).Camera).Right).Y), .int .i64 (((((parseR s).1).Camera).Right).Z), .int .i64 (((((parseR s).1).Camera).Down).X), .int .i64 (((((parseR s).1).Camera).Down).Y), .int .i64 (((((parseR s).1).Camera).Down).Z), .int .i64 ((((parseR s).1).Camera).W), .int .i64 ((((parseR s).1).Camera).H), .int .i64 ((((parseR s).1).Camera).Grid), .int .i64 ((((parseR s).1).Camera).Depth), .int .i64 ((((parseR s).1).Sky).R), .int .i64 ((((parseR s).1).Sky).G), .int .i64 ((((parseR s).1).Sky).B), .sl (((parseR s).1).Lights).length ((((parseR s).1).Lights).flatMap eLight), .sl (((parseR s).1).Mats).length ((((parseR s).1).Mats).flatMap eMat), .sl (((parseR s).1).Texs).length ((((parseR s).1).Texs).flatMap eTex), .sl (((parseR s).1).Skins).length ((((parseR s).1).Skins).flatMap eSkin), .sl (((parseR s).1).Cages).length ((((parseR s).1).Cages).flatMap eCage)], .int .i64 ((parseR s).2.1), .int .i64 ((parseR s).2.2)]) rfl rfl ?_)
  refine AOps.cons rfl rfl (AOp.extract (.agg [.int .i64 (((((parseR s).1).Camera).Eye).X), .int .i64 (((((parseR s).1).Camera).Eye).Y), .int .i64 (((((parseR s).1).Camera).Eye).Z), .int .i64 (((((parseR s).1).Camera).First).X), .int .i64 (((((parseR s).1).Camera).First).Y), .int .i64 (((((parseR s).1).Camera).First).Z), .int .i64 (((((parseR s).1).Camera).Right).X), .int .i64 (((((parseR s).1).Camera).Right).Y), .int .i64 (((((parseR s).1).Camera).Right).Z), .int .i64 (((((parseR s).1).Camera).Down).X), .int .i64 (((((parseR s).1).Camera).Down).Y), .int .i64 (((((parseR s).1).Camera).Down).Z), .int .i64 ((((parseR s).1).Camera).W), .int .i64 ((((parseR s).1).Camera).H), .int .i64 ((((parseR s).1).Camera).Grid), .int .i64 ((((parseR s).1).Camera).Depth), .int .i64 ((((parseR s).1).Sky).R), .int .i64 ((((parseR s).1).Sky).G), .int .i64 ((((parseR s).1).Sky).B), .sl (((parseR s).1).Lights).length ((((parseR s).1).Lights).flatMap eLight), .sl (((parseR s).1).Mats).length ((((parseR s).1).Mats).flatMap eMat), .sl (((parseR s).1).Texs).length ((((parseR s).1).Texs).flatMap eTex), .sl (((parseR s).1).Skins).length ((((parseR s).1).Skins).flatMap eSkin), .sl (((parseR s).1).Cages).length ((((parseR s).1).Cages).flatMap eCage)]) rfl rfl rfl ?_)
  refine AOps.cons rfl rfl (AOp.extract (.int .i64 ((parseR s).2.1)) rfl rfl rfl ?_)
  refine AOps.cons rfl rfl (AOp.extract (.int .i64 ((parseR s).2.2)) rfl rfl rfl ?_)
  refine AOps.cons rfl rfl (AOp.alloc rfl tz_35 ?_)
  intro i8 H9 n10 h11 k12
  have z13 := Mono.free m7 n10
  have m14 := Mono.new m7 n10 k12
  refine AOps.cons rfl rfl (AOp.store' (cells' := [.int .i64 (((((parseR s).1).Camera).Eye).X), .int .i64 (((((parseR s).1).Camera).Eye).Y), .int .i64 (((((parseR s).1).Camera).Eye).Z), .int .i64 (((((parseR s).1).Camera).First).X), .int .i64 (((((parseR s).1).Camera).First).Y), .int .i64 (((((parseR s).1).Camera).First).Z), .int .i64 (((((parseR s).1).Camera).Right).X), .int .i64 (((((parseR s).1).Camera).Right).Y), .int .i64 (((((parseR s).1).Camera).Right).Z), .int .i64 (((((parseR s).1).Camera).Down).X), .int .i64 (((((parseR s).1).Camera).Down).Y), .int .i64 (((((parseR s).1).Camera).Down).Z), .int .i64 ((((parseR s).1).Camera).W), .int .i64 ((((parseR s).1).Camera).H), .int .i64 ((((parseR s).1).Camera).Grid), .int .i64 ((((parseR s).1).Camera).Depth), .int .i64 ((((parseR s).1).Sky).R), .int .i64 ((((parseR s).1).Sky).G), .int .i64 ((((parseR s).1).Sky).B), .sl (((parseR s).1).Lights).length ((((parseR s).1).Lights).flatMap eLight), .sl (((parseR s).1).Mats).length ((((parseR s).1).Mats).flatMap eMat), .sl (((parseR s).1).Texs).length ((((parseR s).1).Texs).flatMap eTex), .sl (((parseR s).1).Skins).length ((((parseR s).1).Skins).flatMap eSkin), .sl (((parseR s).1).Cages).length ((((parseR s).1).Cages).flatMap eCage)]) (.agg [.int .i64 (((((parseR s).1).Camera).Eye).X), .int .i64 (((((parseR s).1).Camera).Eye).Y), .int .i64 (((((parseR s).1).Camera).Eye).Z), .int .i64 (((((parseR s).1).Camera).First).X), .int .i64 (((((parseR s).1).Camera).First).Y), .int .i64 (((((parseR s).1).Camera).First).Z), .int .i64 (((((parseR s).1).Camera).Right).X), .int .i64 (((((parseR s).1).Camera).Right).Y), .int .i64 (((((parseR s).1).Camera).Right).Z), .int .i64 (((((parseR s).1).Camera).Down).X), .int .i64 (((((parseR s).1).Camera).Down).Y), .int .i64 (((((parseR s).1).Camera).Down).Z), .int .i64 ((((parseR s).1).Camera).W), .int .i64 ((((parseR s).1).Camera).H), .int .i64 ((((parseR s).1).Camera).Grid), .int .i64 ((((parseR s).1).Camera).Depth), .int .i64 ((((parseR s).1).Sky).R), .int .i64 ((((parseR s).1).Sky).G), .int .i64 ((((parseR s).1).Sky).B), .sl (((parseR s).1).Lights).length ((((parseR s).1).Lights).flatMap eLight), .sl (((parseR s).1).Mats).length ((((parseR s).1).Mats).flatMap eMat), .sl (((parseR s).1).Texs).length ((((parseR s).1).Texs).flatMap eTex), .sl (((parseR s).1).Skins).length ((((parseR s).1).Skins).flatMap eSkin), .sl (((parseR s).1).Cages).length ((((parseR s).1).Cages).flatMap eCage)]) rfl rfl ts_35 h11 rfl rfl rfl rfl ?_)
  intro H15 h16 k17
  have m19 := Mono.set m14 z13 k17
  refine AOps.cons rfl rfl (AOp.assign (.int .i64 ((parseR s).2.1)) rfl rfl ?_)
  refine AOps.cons rfl rfl (AOp.assign (.int .i64 ((parseR s).2.2)) rfl rfl ?_)
  refine AOps.nil ?_
  change AWP _ _ _ _ _ _
  refine AWP.seq ?_
  refine AWP.seq ?_
  refine AWP.frzP 3 h16 z13 rfl m19 fun H20 m21 k22 => ?_
  refine AWP.region (l := [0, 1]) rfl ?_
  refine AOps.cons rfl rfl (AOp.move (.int .i64 ((parseR s).2.2)) rfl rfl ?_)
  refine AOps.cons rfl rfl (AOp.bin (.bool (!decide ((parseR s).2.2 = 0))) rfl rfl rfl ine ?_)
  refine AOps.nil ?_
  change AWP _ _ _ _ _ _
  by_cases b23 : (parseR s).2.2 = 0
  ·
   refine AWP.condF rfl (nb (decide_eq_true b23)) ?_
   refine AWP.skip ?_
   change AWP _ _ _ _ _ _
   refine AWP.seq ?_
   have hB := parse_bd b23; have hB1 := hB.cam; have hB2 := hB.n
   have hnn := (parse_ran s).1.nk; have hnc := (parse_ran s).1.nc
   refine AWP.region (l := [0, 1, 2, 3]) rfl ?_
   refine AOps.cons rfl rfl (AOp.fieldAddrF rfl rfl fl_35_0 ?_)
   refine AOps.cons rfl rfl (AOp.loadF (.agg [.int .i64 (((((parseR s).1).Camera).Eye).X), .int .i64 (((((parseR s).1).Camera).Eye).Y), .int .i64 (((((parseR s).1).Camera).Eye).Z), .int .i64 (((((parseR s).1).Camera).First).X), .int .i64 (((((parseR s).1).Camera).First).Y), .int .i64 (((((parseR s).1).Camera).First).Z), .int .i64 (((((parseR s).1).Camera).Right).X), .int .i64 (((((parseR s).1).Camera).Right).Y), .int .i64 (((((parseR s).1).Camera).Right).Z), .int .i64 (((((parseR s).1).Camera).Down).X), .int .i64 (((((parseR s).1).Camera).Down).Y), .int .i64 (((((parseR s).1).Camera).Down).Z), .int .i64 ((((parseR s).1).Camera).W), .int .i64 ((((parseR s).1).Camera).H), .int .i64 ((((parseR s).1).Camera).Grid), .int .i64 ((((parseR s).1).Camera).Depth)]) rfl rfl ty_26 rfl ?_)
   refine AOps.cons rfl rfl (AOp.alloc rfl tz_26 ?_)
   intro i24 H25 n26 h27 k28
   have z29 := Mono.free m21 n26
   have m30 := Mono.new m21 n26 k28
   refine AOps.cons rfl rfl (AOp.store' (cells' := [.int .i64 (((((parseR s).1).Camera).Eye).X), .int .i64 (((((parseR s).1).Camera).Eye).Y), .int .i64 (((((parseR s).1).Camera).Eye).Z), .int .i64 (((((parseR s).1).Camera).First).X), .int .i64 (((((parseR s).1).Camera).First).Y), .int .i64 (((((parseR s).1).Camera).First).Z), .int .i64 (((((parseR s).1).Camera).Right).X), .int .i64 (((((parseR s).1).Camera).Right).Y), .int .i64 (((((parseR s).1).Camera).Right).Z), .int .i64 (((((parseR s).1).Camera).Down).X), .int .i64 (((((parseR s).1).Camera).Down).Y), .int .i64 (((((parseR s).1).Camera).Down).Z), .int .i64 ((((parseR s).1).Camera).W), .int .i64 ((((parseR s).1).Camera).H), .int .i64 ((((parseR s).1).Camera).Grid), .int .i64 ((((parseR s).1).Camera).Depth)]) (.agg [.int .i64 (((((parseR s).1).Camera).Eye).X), .int .i64 (((((parseR s).1).Camera).Eye).Y), .int .i64 (((((parseR s).1).Camera).Eye).Z), .int .i64 (((((parseR s).1).Camera).First).X), .int .i64 (((((parseR s).1).Camera).First).Y), .int .i64 (((((parseR s).1).Camera).First).Z), .int .i64 (((((parseR s).1).Camera).Right).X), .int .i64 (((((parseR s).1).Camera).Right).Y), .int .i64 (((((parseR s).1).Camera).Right).Z), .int .i64 (((((parseR s).1).Camera).Down).X), .int .i64 (((((parseR s).1).Camera).Down).Y), .int .i64 (((((parseR s).1).Camera).Down).Z), .int .i64 ((((parseR s).1).Camera).W), .int .i64 ((((parseR s).1).Camera).H), .int .i64 ((((parseR s).1).Camera).Grid), .int .i64 ((((parseR s).1).Camera).Depth)]) rfl rfl ts_26 h27 rfl rfl rfl rfl ?_)
   intro H31 h32 k33
   have m35 := Mono.set m30 z29 k33
   refine AOps.nil ?_
   change AWP _ _ _ _ _ _
   refine AWP.seq ?_
   refine AWP.seq ?_
   refine AWP.frzP 6 h32 z29 rfl m35 fun H36 m37 k38 => ?_
   refine AWP.region (l := [0, 1, 2, 3, 4, 5, 6, 7, 8, 9, 10, 11, 12, 13, 14, 15, 16, 17, 18, 19, 20, 21, 22, 23, 24, 25, 26, 27, 28, 29, 30, 31, 32, 33, 34, 35, 36, 37, 38, 39, 40, 41, 42, 43, 44, 45, 46, 47, 48, 49, 50, 51, 52]) rfl ?_
   refine AOps.cons rfl rfl (AOp.fieldAddrF rfl rfl fl_26_4 ?_)
   refine AOps.cons rfl rfl (AOp.loadF (.int .i64 ((((parseR s).1).Camera).W)) rfl rfl ty_3 rfl ?_)
   refine AOps.cons rfl rfl (AOp.bin (.bool (decide ((((parseR s).1).Camera).W < 1))) rfl rfl rfl rfl ?_)
   refine AOps.cons rfl rfl (AOp.move (.bool (decide ((((parseR s).1).Camera).W < 1))) rfl rfl ?_)
   refine AOps.yes rfl rfl rfl rfl rfl rfl rfl (decide_eq_false (by omega)) (AOp.fieldAddrF rfl rfl fl_26_4 ?_)
   refine AOps.yes rfl rfl rfl rfl rfl rfl rfl (decide_eq_false (by omega)) (AOp.loadF (.int .i64 ((((parseR s).1).Camera).W)) rfl rfl ty_3 rfl ?_)
   refine AOps.yes rfl rfl rfl rfl rfl rfl rfl (decide_eq_false (by omega)) (AOp.bin (.bool (decide ((((parseR s).1).Camera).W > 64))) rfl rfl rfl rfl ?_)
   refine AOps.cons rfl rfl (AOp.pickF (.bool (decide ((((parseR s).1).Camera).W > 64))) rfl rfl (decide_eq_false (by omega)) rfl ?_)
   refine AOps.cons rfl rfl (AOp.move (.bool (decide ((((parseR s).1).Camera).W > 64))) rfl rfl ?_)
   refine AOps.yes rfl rfl rfl rfl rfl rfl rfl (decide_eq_false (by omega)) (AOp.fieldAddrF rfl rfl fl_26_5 ?_)
   refine AOps.yes rfl rfl rfl rfl rfl rfl rfl (decide_eq_false (by omega)) (AOp.loadF (.int .i64 ((((parseR s).1).Camera).H)) rfl rfl ty_3 rfl ?_)
   refine AOps.yes rfl rfl rfl rfl rfl rfl rfl (decide_eq_false (by omega)) (AOp.bin (.bool (decide ((((parseR s).1).Camera).H < 1))) rfl rfl rfl rfl ?_)
   refine AOps.cons rfl rfl (AOp.pickF (.bool (decide ((((parseR s).1).Camera).H < 1))) rfl rfl (decide_eq_false (by omega)) rfl ?_)
   refine AOps.cons rfl rfl (AOp.move (.bool (decide ((((parseR s).1).Camera).H < 1))) rfl rfl ?_)
   refine AOps.yes rfl rfl rfl rfl rfl rfl rfl (decide_eq_false (by omega)) (AOp.fieldAddrF rfl rfl fl_26_5 ?_)
   refine AOps.yes rfl rfl rfl rfl rfl rfl rfl (decide_eq_false (by omega)) (AOp.loadF (.int .i64 ((((parseR s).1).Camera).H)) rfl rfl ty_3 rfl ?_)
   refine AOps.yes rfl rfl rfl rfl rfl rfl rfl (decide_eq_false (by omega)) (AOp.bin (.bool (decide ((((parseR s).1).Camera).H > 64))) rfl rfl rfl rfl ?_)
   refine AOps.cons rfl rfl (AOp.pickF (.bool (decide ((((parseR s).1).Camera).H > 64))) rfl rfl (decide_eq_false (by omega)) rfl ?_)
   refine AOps.cons rfl rfl (AOp.move (.bool (decide ((((parseR s).1).Camera).H > 64))) rfl rfl ?_)
   refine AOps.yes rfl rfl rfl rfl rfl rfl rfl (decide_eq_false (by omega)) (AOp.fieldAddrF rfl rfl fl_26_6 ?_)
   refine AOps.yes rfl rfl rfl rfl rfl rfl rfl (decide_eq_false (by omega)) (AOp.loadF (.int .i64 ((((parseR s).1).Camera).Grid)) rfl rfl ty_3 rfl ?_)
   refine AOps.yes rfl rfl rfl rfl rfl rfl rfl (decide_eq_false (by omega)) (AOp.bin (.bool (decide ((((parseR s).1).Camera).Grid < 1))) rfl rfl rfl rfl ?_)
   refine AOps.cons rfl rfl (AOp.pickF (.bool (decide ((((parseR s).1).Camera).Grid < 1))) rfl rfl (decide_eq_false (by omega)) rfl ?_)
   refine AOps.cons rfl rfl (AOp.move (.bool (decide ((((parseR s).1).Camera).Grid < 1))) rfl rfl ?_)
   refine AOps.yes rfl rfl rfl rfl rfl rfl rfl (decide_eq_false (by omega)) (AOp.fieldAddrF rfl rfl fl_26_6 ?_)
   refine AOps.yes rfl rfl rfl rfl rfl rfl rfl (decide_eq_false (by omega)) (AOp.loadF (.int .i64 ((((parseR s).1).Camera).Grid)) rfl rfl ty_3 rfl ?_)
   refine AOps.yes rfl rfl rfl rfl rfl rfl rfl (decide_eq_false (by omega)) (AOp.bin (.bool (decide ((((parseR s).1).Camera).Grid > 4))) rfl rfl rfl rfl ?_)
   refine AOps.cons rfl rfl (AOp.pickF (.bool (decide ((((parseR s).1).Camera).Grid > 4))) rfl rfl (decide_eq_false (by omega)) rfl ?_)
   refine AOps.cons rfl rfl (AOp.move (.bool (decide ((((parseR s).1).Camera).Grid > 4))) rfl rfl ?_)
   refine AOps.yes rfl rfl rfl rfl rfl rfl rfl (decide_eq_false (by omega)) (AOp.fieldAddrF rfl rfl fl_26_7 ?_)
   refine AOps.yes rfl rfl rfl rfl rfl rfl rfl (decide_eq_false (by omega)) (AOp.loadF (.int .i64 ((((parseR s).1).Camera).Depth)) rfl rfl ty_3 rfl ?_)
   refine AOps.yes rfl rfl rfl rfl rfl rfl rfl (decide_eq_false (by omega)) (AOp.bin (.bool (decide ((((parseR s).1).Camera).Depth < 0))) rfl rfl rfl rfl ?_)
   refine AOps.cons rfl rfl (AOp.pickF (.bool (decide ((((parseR s).1).Camera).Depth < 0))) rfl rfl (decide_eq_false (by omega)) rfl ?_)
   refine AOps.cons rfl rfl (AOp.move (.bool (decide ((((parseR s).1).Camera).Depth < 0))) rfl rfl ?_)
   refine AOps.yes rfl rfl rfl rfl rfl rfl rfl (decide_eq_false (by omega)) (AOp.fieldAddrF rfl rfl fl_26_7 ?_)
   refine AOps.yes rfl rfl rfl rfl rfl rfl rfl (decide_eq_false (by omega)) (AOp.loadF (.int .i64 ((((parseR s).1).Camera).Depth)) rfl rfl ty_3 rfl ?_)
   refine AOps.yes rfl rfl rfl rfl rfl rfl rfl (decide_eq_false (by omega)) (AOp.bin (.bool (decide ((((parseR s).1).Camera).Depth > 8))) rfl rfl rfl rfl ?_)
   refine AOps.cons rfl rfl (AOp.pickF (.bool (decide ((((parseR s).1).Camera).Depth > 8))) rfl rfl (decide_eq_false (by omega)) rfl ?_)
   refine AOps.cons rfl rfl (AOp.move (.bool (decide ((((parseR s).1).Camera).Depth > 8))) rfl rfl ?_)
   refine AOps.yes rfl rfl rfl rfl rfl rfl rfl (decide_eq_false (by omega)) (AOp.fieldAddrF rfl rfl fl_35_5 ?_)
   refine AOps.yes rfl rfl rfl rfl rfl rfl rfl (decide_eq_false (by omega)) (AOp.loadF (.sl (((parseR s).1).Skins).length ((((parseR s).1).Skins).flatMap eSkin)) rfl rfl ty_32 rfl ?_)
   refine AOps.yes rfl rfl rfl rfl rfl rfl rfl (decide_eq_false (by omega)) (AOp.len (m := (((parseR s).1).Skins).length) rfl rfl (.inr (.inl ⟨_, rfl⟩)) u_32 ?_)
   refine AOps.yes rfl rfl rfl rfl rfl rfl rfl (decide_eq_false (by omega)) (AOp.fieldAddrF rfl rfl fl_35_6 ?_)
   refine AOps.yes rfl rfl rfl rfl rfl rfl rfl (decide_eq_false (by omega)) (AOp.loadF (.sl (((parseR s).1).Cages).length ((((parseR s).1).Cages).flatMap eCage)) rfl rfl ty_33 rfl ?_)
   refine AOps.yes rfl rfl rfl rfl rfl rfl rfl (decide_eq_false (by omega)) (AOp.len (m := (((parseR s).1).Cages).length) rfl rfl (.inr (.inl ⟨_, rfl⟩)) u_33 ?_)
   refine AOps.yes rfl rfl rfl rfl rfl rfl rfl (decide_eq_false (by omega)) (AOp.bin (.bool (!decide ((((((parseR s).1).Skins).length) : Int) = (((((parseR s).1).Cages).length) : Int)))) rfl rfl rfl ine ?_)
   refine AOps.cons rfl rfl (AOp.pickF (.bool (!decide ((((((parseR s).1).Skins).length) : Int) = (((((parseR s).1).Cages).length) : Int)))) rfl rfl (decide_eq_false (by omega)) rfl ?_)
   refine AOps.cons rfl rfl (AOp.move (.bool (!decide ((((((parseR s).1).Skins).length) : Int) = (((((parseR s).1).Cages).length) : Int)))) rfl rfl ?_)
   refine AOps.yes rfl rfl rfl rfl rfl rfl rfl (nb (decide_eq_true (by omega))) (AOp.fieldAddrF rfl rfl fl_35_6 ?_)
   refine AOps.yes rfl rfl rfl rfl rfl rfl rfl (nb (decide_eq_true (by omega))) (AOp.loadF (.sl (((parseR s).1).Cages).length ((((parseR s).1).Cages).flatMap eCage)) rfl rfl ty_33 rfl ?_)
   refine AOps.yes rfl rfl rfl rfl rfl rfl rfl (nb (decide_eq_true (by omega))) (AOp.len (m := (((parseR s).1).Cages).length) rfl rfl (.inr (.inl ⟨_, rfl⟩)) u_33 ?_)
   refine AOps.yes rfl rfl rfl rfl rfl rfl rfl (nb (decide_eq_true (by omega))) (AOp.bin (.bool (decide ((((((parseR s).1).Cages).length) : Int) > 8))) rfl rfl rfl rfl ?_)
   refine AOps.cons rfl rfl (AOp.pickF (.bool (decide ((((((parseR s).1).Cages).length) : Int) > 8))) rfl rfl (nb (decide_eq_true (by omega))) rfl ?_)
   refine AOps.nil ?_
   change AWP _ _ _ _ _ _
   refine AWP.condF rfl (decide_eq_false (by omega)) ?_
   refine AWP.skip ?_
   change AWP _ _ _ _ _ _
   refine AWP.seq ?_
   refine AWP.seq ?_
   refine AWP.region (l := [0]) rfl ?_
   refine AOps.cons rfl rfl (AOp.assign (.int .i64 0) rfl rfl ?_)
   refine AOps.nil ?_
   change AWP _ _ _ _ _ _
   refine AWP.block ?_
   refine AWP.loop (fun q39 fq Hq => ∃ (i : Int), q39 = (((((parseR s).1.Skins).length : Int) : Int) - i).toNat ∧ fq 7 = .int .i64 i ∧ fq 3 = .fptr [.int .i64 (((((parseR s).1).Camera).Eye).X), .int .i64 (((((parseR s).1).Camera).Eye).Y), .int .i64 (((((parseR s).1).Camera).Eye).Z), .int .i64 (((((parseR s).1).Camera).First).X), .int .i64 (((((parseR s).1).Camera).First).Y), .int .i64 (((((parseR s).1).Camera).First).Z), .int .i64 (((((parseR s).1).Camera).Right).X), .int .i64 (((((parseR s).1).Camera).Right).Y), .int .i64 (((((parseR s).1).Camera).Right).Z), .int .i64 (((((parseR s).1).Camera).Down).X), .int .i64 (((((parseR s).1).Camera).Down).Y), .int .i64 (((((parseR s).1).Camera).Down).Z), .int .i64 ((((parseR s).1).Camera).W), .int .i64 ((((parseR s).1).Camera).H), .int .i64 ((((parseR s).1).Camera).Grid), .int .i64 ((((parseR s).1).Camera).Depth), .int .i64 ((((parseR s).1).Sky).R), .int .i64 ((((parseR s).1).Sky).G), .int .i64 ((((parseR s).1).Sky).B), .sl (((parseR s).1).Lights).length ((((parseR s).1).Lights).flatMap eLight), .sl (((parseR s).1).Mats).length ((((parseR s).1).Mats).flatMap eMat), .sl (((parseR s).1).Texs).length ((((parseR s).1).Texs).flatMap eTex), .sl (((parseR s).1).Skins).length ((((parseR s).1).Skins).flatMap eSkin), .sl (((parseR s).1).Cages).length ((((parseR s).1).Cages).flatMap eCage)] 0 ∧ Mono H0 Hq ∧ (0 ≤ i) ∧ (i ≤ (((parseR s).1.Skins).length : Int))) (k := (((((parseR s).1.Skins).length : Int) : Int) - 0).toNat) ?_ ?_
   ·
    exact ⟨0, rfl, rfl, rfl, m37, by omega, by omega⟩
   ·
    rintro _ f41 H40 ⟨i, rfl, s42, s43, m44, hi0, hi1⟩
    refine AWP.seq ?_
    refine AWP.seq ?_
    refine AWP.region (l := [0, 1, 2, 3, 4]) rfl ?_
    refine AOps.cons rfl rfl (AOp.move (.int .i64 i) rfl s42 ?_)
    refine AOps.cons rfl rfl (AOp.fieldAddrF rfl s43 fl_35_5 ?_)
    refine AOps.cons rfl rfl (AOp.loadF (.sl (((parseR s).1).Skins).length ((((parseR s).1).Skins).flatMap eSkin)) rfl rfl ty_32 rfl ?_)
    refine AOps.cons rfl rfl (AOp.len (m := (((parseR s).1).Skins).length) rfl rfl (.inr (.inl ⟨_, rfl⟩)) u_32 ?_)
    refine AOps.cons rfl rfl (AOp.bin (.bool (decide (i < (((((parseR s).1).Skins).length) : Int)))) rfl rfl rfl rfl ?_)
    refine AOps.nil ?_
    change AWP _ _ _ _ _ _
    by_cases b45 : i < (((((parseR s).1).Skins).length) : Int)
    ·
     refine AWP.condT rfl (decide_eq_true b45) ?_
     refine AWP.skip ?_
     change AWP _ _ _ _ _ _
     refine AWP.seq ?_
     refine AWP.block ?_
     refine AWP.seq ?_
     refine AWP.region (l := [0, 1, 2, 3, 4, 5, 6]) rfl ?_
     refine AOps.cons rfl rfl (AOp.fieldAddrF rfl s43 fl_35_5 ?_)
     refine AOps.cons rfl rfl (AOp.loadF (.sl (((parseR s).1).Skins).length ((((parseR s).1).Skins).flatMap eSkin)) rfl rfl ty_32 rfl ?_)
     refine AOps.cons rfl rfl (AOp.move (.int .i64 i) rfl s42 ?_)
     refine AOps.cons rfl rfl (AOp.indexAddrS rfl rfl rfl sl_32 (by omega) (by omega) ?_)
     refine AOps.cons rfl rfl (AOp.loadF (.agg [.str ((at_ (((parseR s).1).Skins) i).Name), .int .i64 ((at_ (((parseR s).1).Skins) i).Mat), .int .i64 ((at_ (((parseR s).1).Skins) i).Levels), .int .i64 ((at_ (((parseR s).1).Skins) i).Unit), .int .i64 ((at_ (((parseR s).1).Skins) i).Tex), .int .i64 ((at_ (((parseR s).1).Skins) i).Height)]) rfl rfl ty_41 (ldM eSkin_len (by omega) (by omega)) ?_)
     refine AOps.cons rfl rfl (AOp.alloc rfl tz_41 ?_)
     intro i46 H47 n48 h49 k50
     have z51 := Mono.free m44 n48
     have m52 := Mono.new m44 n48 k50
     refine AOps.cons rfl rfl (AOp.store' (cells' := [.str ((at_ (((parseR s).1).Skins) i).Name), .int .i64 ((at_ (((parseR s).1).Skins) i).Mat), .int .i64 ((at_ (((parseR s).1).Skins) i).Levels), .int .i64 ((at_ (((parseR s).1).Skins) i).Unit), .int .i64 ((at_ (((parseR s).1).Skins) i).Tex), .int .i64 ((at_ (((parseR s).1).Skins) i).Height)]) (.agg [.str ((at_ (((parseR s).1).Skins) i).Name), .int .i64 ((at_ (((parseR s).1).Skins) i).Mat), .int .i64 ((at_ (((parseR s).1).Skins) i).Levels), .int .i64 ((at_ (((parseR s).1).Skins) i).Unit), .int .i64 ((at_ (((parseR s).1).Skins) i).Tex), .int .i64 ((at_ (((parseR s).1).Skins) i).Height)]) rfl rfl ts_41 h49 rfl rfl rfl rfl ?_)
     intro H53 h54 k55
     have m57 := Mono.set m52 z51 k55
     refine AOps.nil ?_
     change AWP _ _ _ _ _ _
     refine AWP.seq ?_
     refine AWP.seq ?_
     refine AWP.frzP 8 h54 z51 rfl m57 fun H58 m59 k60 => ?_
     have hk_ := hB.k _ hi0 (by omega)
     refine AWP.region (l := [0, 1, 2, 3, 4, 5, 6, 7, 8, 9, 10, 11, 12, 13, 14, 15, 16, 17, 18, 19, 20, 21, 22, 23, 24, 25, 26, 27, 28, 29, 30, 31, 32, 33, 34, 35, 36, 37, 38]) rfl ?_
     refine AOps.cons rfl rfl (AOp.fieldAddrF rfl rfl fl_41_1 ?_)
     refine AOps.cons rfl rfl (AOp.loadF (.int .i64 ((at_ (((parseR s).1).Skins) i).Mat)) rfl rfl ty_3 rfl ?_)
     refine AOps.cons rfl rfl (AOp.bin (.bool (decide ((at_ (((parseR s).1).Skins) i).Mat < 0))) rfl rfl rfl rfl ?_)
     refine AOps.cons rfl rfl (AOp.move (.bool (decide ((at_ (((parseR s).1).Skins) i).Mat < 0))) rfl rfl ?_)
     refine AOps.yes rfl rfl rfl rfl rfl rfl rfl (decide_eq_false (by omega)) (AOp.fieldAddrF rfl rfl fl_41_1 ?_)
     refine AOps.yes rfl rfl rfl rfl rfl rfl rfl (decide_eq_false (by omega)) (AOp.loadF (.int .i64 ((at_ (((parseR s).1).Skins) i).Mat)) rfl rfl ty_3 rfl ?_)
     refine AOps.yes rfl rfl rfl rfl rfl rfl rfl (decide_eq_false (by omega)) (AOp.fieldAddrF rfl s43 fl_35_3 ?_)
     refine AOps.yes rfl rfl rfl rfl rfl rfl rfl (decide_eq_false (by omega)) (AOp.loadF (.sl (((parseR s).1).Mats).length ((((parseR s).1).Mats).flatMap eMat)) rfl rfl ty_30 rfl ?_)
     refine AOps.yes rfl rfl rfl rfl rfl rfl rfl (decide_eq_false (by omega)) (AOp.len (m := (((parseR s).1).Mats).length) rfl rfl (.inr (.inl ⟨_, rfl⟩)) u_30 ?_)
     refine AOps.yes rfl rfl rfl rfl rfl rfl rfl (decide_eq_false (by omega)) (AOp.bin (.bool (decide ((at_ (((parseR s).1).Skins) i).Mat ≥ (((((parseR s).1).Mats).length) : Int)))) rfl rfl rfl rfl ?_)
     refine AOps.cons rfl rfl (AOp.pickF (.bool (decide ((at_ (((parseR s).1).Skins) i).Mat ≥ (((((parseR s).1).Mats).length) : Int)))) rfl rfl (decide_eq_false (by omega)) rfl ?_)
     refine AOps.cons rfl rfl (AOp.move (.bool (decide ((at_ (((parseR s).1).Skins) i).Mat ≥ (((((parseR s).1).Mats).length) : Int)))) rfl rfl ?_)
     refine AOps.yes rfl rfl rfl rfl rfl rfl rfl (decide_eq_false (by omega)) (AOp.fieldAddrF rfl rfl fl_41_4 ?_)
     refine AOps.yes rfl rfl rfl rfl rfl rfl rfl (decide_eq_false (by omega)) (AOp.loadF (.int .i64 ((at_ (((parseR s).1).Skins) i).Tex)) rfl rfl ty_3 rfl ?_)
     refine AOps.yes rfl rfl rfl rfl rfl rfl rfl (decide_eq_false (by omega)) (AOp.bin (.bool (decide ((at_ (((parseR s).1).Skins) i).Tex < -1))) rfl rfl rfl rfl ?_)
     refine AOps.cons rfl rfl (AOp.pickF (.bool (decide ((at_ (((parseR s).1).Skins) i).Tex < -1))) rfl rfl (decide_eq_false (by omega)) rfl ?_)
     refine AOps.cons rfl rfl (AOp.move (.bool (decide ((at_ (((parseR s).1).Skins) i).Tex < -1))) rfl rfl ?_)
     refine AOps.yes rfl rfl rfl rfl rfl rfl rfl (decide_eq_false (by omega)) (AOp.fieldAddrF rfl rfl fl_41_4 ?_)
     refine AOps.yes rfl rfl rfl rfl rfl rfl rfl (decide_eq_false (by omega)) (AOp.loadF (.int .i64 ((at_ (((parseR s).1).Skins) i).Tex)) rfl rfl ty_3 rfl ?_)
     refine AOps.yes rfl rfl rfl rfl rfl rfl rfl (decide_eq_false (by omega)) (AOp.fieldAddrF rfl s43 fl_35_4 ?_)
     refine AOps.yes rfl rfl rfl rfl rfl rfl rfl (decide_eq_false (by omega)) (AOp.loadF (.sl (((parseR s).1).Texs).length ((((parseR s).1).Texs).flatMap eTex)) rfl rfl ty_31 rfl ?_)
     refine AOps.yes rfl rfl rfl rfl rfl rfl rfl (decide_eq_false (by omega)) (AOp.len (m := (((parseR s).1).Texs).length) rfl rfl (.inr (.inl ⟨_, rfl⟩)) u_31 ?_)
     refine AOps.yes rfl rfl rfl rfl rfl rfl rfl (decide_eq_false (by omega)) (AOp.bin (.bool (decide ((at_ (((parseR s).1).Skins) i).Tex ≥ (((((parseR s).1).Texs).length) : Int)))) rfl rfl rfl rfl ?_)
     refine AOps.cons rfl rfl (AOp.pickF (.bool (decide ((at_ (((parseR s).1).Skins) i).Tex ≥ (((((parseR s).1).Texs).length) : Int)))) rfl rfl (decide_eq_false (by omega)) rfl ?_)
     refine AOps.cons rfl rfl (AOp.move (.bool (decide ((at_ (((parseR s).1).Skins) i).Tex ≥ (((((parseR s).1).Texs).length) : Int)))) rfl rfl ?_)
     refine AOps.yes rfl rfl rfl rfl rfl rfl rfl (decide_eq_false (by omega)) (AOp.fieldAddrF rfl rfl fl_41_2 ?_)
     refine AOps.yes rfl rfl rfl rfl rfl rfl rfl (decide_eq_false (by omega)) (AOp.loadF (.int .i64 ((at_ (((parseR s).1).Skins) i).Levels)) rfl rfl ty_3 rfl ?_)
     refine AOps.yes rfl rfl rfl rfl rfl rfl rfl (decide_eq_false (by omega)) (AOp.bin (.bool (decide ((at_ (((parseR s).1).Skins) i).Levels < 0))) rfl rfl rfl rfl ?_)
     refine AOps.cons rfl rfl (AOp.pickF (.bool (decide ((at_ (((parseR s).1).Skins) i).Levels < 0))) rfl rfl (decide_eq_false (by omega)) rfl ?_)
     refine AOps.cons rfl rfl (AOp.move (.bool (decide ((at_ (((parseR s).1).Skins) i).Levels < 0))) rfl rfl ?_)
     refine AOps.yes rfl rfl rfl rfl rfl rfl rfl (decide_eq_false (by omega)) (AOp.fieldAddrF rfl rfl fl_41_2 ?_)
     refine AOps.yes rfl rfl rfl rfl rfl rfl rfl (decide_eq_false (by omega)) (AOp.loadF (.int .i64 ((at_ (((parseR s).1).Skins) i).Levels)) rfl rfl ty_3 rfl ?_)
     refine AOps.yes rfl rfl rfl rfl rfl rfl rfl (decide_eq_false (by omega)) (AOp.bin (.bool (decide ((at_ (((parseR s).1).Skins) i).Levels > 2))) rfl rfl rfl rfl ?_)
     refine AOps.cons rfl rfl (AOp.pickF (.bool (decide ((at_ (((parseR s).1).Skins) i).Levels > 2))) rfl rfl (decide_eq_false (by omega)) rfl ?_)
     refine AOps.cons rfl rfl (AOp.move (.bool (decide ((at_ (((parseR s).1).Skins) i).Levels > 2))) rfl rfl ?_)
     refine AOps.yes rfl rfl rfl rfl rfl rfl rfl (decide_eq_false (by omega)) (AOp.fieldAddrF rfl rfl fl_41_3 ?_)
     refine AOps.yes rfl rfl rfl rfl rfl rfl rfl (decide_eq_false (by omega)) (AOp.loadF (.int .i64 ((at_ (((parseR s).1).Skins) i).Unit)) rfl rfl ty_3 rfl ?_)
     refine AOps.yes rfl rfl rfl rfl rfl rfl rfl (decide_eq_false (by omega)) (AOp.bin (.bool (decide ((at_ (((parseR s).1).Skins) i).Unit < 1))) rfl rfl rfl rfl ?_)
     refine AOps.cons rfl rfl (AOp.pickF (.bool (decide ((at_ (((parseR s).1).Skins) i).Unit < 1))) rfl rfl (decide_eq_false (by omega)) rfl ?_)
     refine AOps.nil ?_
     change AWP _ _ _ _ _ _
     refine AWP.condF rfl (decide_eq_false (by omega)) ?_
     refine AWP.skip ?_
     change AWP _ _ _ _ _ _
     refine AWP.seq ?_
     refine AWP.region (l := [0, 1, 2, 3, 4, 5, 6]) rfl ?_
     refine AOps.cons rfl rfl (AOp.fieldAddrF rfl s43 fl_35_6 ?_)
     refine AOps.cons rfl rfl (AOp.loadF (.sl (((parseR s).1).Cages).length ((((parseR s).1).Cages).flatMap eCage)) rfl rfl ty_33 rfl ?_)
     refine AOps.cons rfl rfl (AOp.move (.int .i64 i) rfl s42 ?_)
     refine AOps.cons rfl rfl (AOp.indexAddrS rfl rfl rfl sl_33 (by omega) (by omega) ?_)
     refine AOps.cons rfl rfl (AOp.loadF (.agg [.sl ((at_ (((parseR s).1).Cages) i).Verts).length (((at_ (((parseR s).1).Cages) i).Verts).flatMap eV), .sl ((at_ (((parseR s).1).Cages) i).Faces).length (((at_ (((parseR s).1).Cages) i).Faces).map eF), .sl ((at_ (((parseR s).1).Cages) i).Creases).length (((at_ (((parseR s).1).Cages) i).Creases).flatMap eCr)]) rfl rfl ty_46 (ldM eCage_len (by omega) (by omega)) ?_)
     refine AOps.cons rfl rfl (AOp.alloc rfl tz_46 ?_)
     intro i61 H62 n63 h64 k65
     have z66 := Mono.free m59 n63
     have m67 := Mono.new m59 n63 k65
     refine AOps.cons rfl rfl (AOp.store' (cells' := [.sl ((at_ (((parseR s).1).Cages) i).Verts).length (((at_ (((parseR s).1).Cages) i).Verts).flatMap eV), .sl ((at_ (((parseR s).1).Cages) i).Faces).length (((at_ (((parseR s).1).Cages) i).Faces).map eF), .sl ((at_ (((parseR s).1).Cages) i).Creases).length (((at_ (((parseR s).1).Cages) i).Creases).flatMap eCr)]) (.agg [.sl ((at_ (((parseR s).1).Cages) i).Verts).length (((at_ (((parseR s).1).Cages) i).Verts).flatMap eV), .sl ((at_ (((parseR s).1).Cages) i).Faces).length (((at_ (((parseR s).1).Cages) i).Faces).map eF), .sl ((at_ (((parseR s).1).Cages) i).Creases).length (((at_ (((parseR s).1).Cages) i).Creases).flatMap eCr)]) rfl rfl ts_46 h64 rfl rfl rfl rfl ?_)
     intro H68 h69 k70
     have m72 := Mono.set m67 z66 k70
     refine AOps.nil ?_
     change AWP _ _ _ _ _ _
     refine AWP.seq ?_
     refine AWP.seq ?_
     refine AWP.frzP 9 h69 z66 rfl m72 fun H73 m74 k75 => ?_
     have hc_ := hB.c _ hi0 (by omega)
     refine AWP.region (l := [0, 1, 2, 3, 4, 5, 6, 7, 8, 9]) rfl ?_
     refine AOps.cons rfl rfl (AOp.fieldAddrF rfl rfl fl_46_0 ?_)
     refine AOps.cons rfl rfl (AOp.loadF (.sl ((at_ (((parseR s).1).Cages) i).Verts).length (((at_ (((parseR s).1).Cages) i).Verts).flatMap eV)) rfl rfl ty_42 rfl ?_)
     refine AOps.cons rfl rfl (AOp.len (m := ((at_ (((parseR s).1).Cages) i).Verts).length) rfl rfl (.inr (.inl ⟨_, rfl⟩)) u_42 ?_)
     refine AOps.cons rfl rfl (AOp.bin (.bool (decide (((((at_ (((parseR s).1).Cages) i).Verts).length) : Int) > 64))) rfl rfl rfl rfl ?_)
     refine AOps.cons rfl rfl (AOp.move (.bool (decide (((((at_ (((parseR s).1).Cages) i).Verts).length) : Int) > 64))) rfl rfl ?_)
     refine AOps.yes rfl rfl rfl rfl rfl rfl rfl (decide_eq_false (by omega)) (AOp.fieldAddrF rfl rfl fl_46_1 ?_)
     refine AOps.yes rfl rfl rfl rfl rfl rfl rfl (decide_eq_false (by omega)) (AOp.loadF (.sl ((at_ (((parseR s).1).Cages) i).Faces).length (((at_ (((parseR s).1).Cages) i).Faces).map eF)) rfl rfl ty_43 rfl ?_)
     refine AOps.yes rfl rfl rfl rfl rfl rfl rfl (decide_eq_false (by omega)) (AOp.len (m := ((at_ (((parseR s).1).Cages) i).Faces).length) rfl rfl (.inr (.inl ⟨_, rfl⟩)) u_43 ?_)
     refine AOps.yes rfl rfl rfl rfl rfl rfl rfl (decide_eq_false (by omega)) (AOp.bin (.bool (decide (((((at_ (((parseR s).1).Cages) i).Faces).length) : Int) > 64))) rfl rfl rfl rfl ?_)
     refine AOps.cons rfl rfl (AOp.pickF (.bool (decide (((((at_ (((parseR s).1).Cages) i).Faces).length) : Int) > 64))) rfl rfl (decide_eq_false (by omega)) rfl ?_)
     refine AOps.nil ?_
     change AWP _ _ _ _ _ _
     refine AWP.condF rfl (decide_eq_false (by omega)) ?_
     refine AWP.skip ?_
     change AWP _ _ _ _ _ _
     refine AWP.seq ?_
     refine AWP.region (l := [0]) rfl ?_
     refine AOps.cons rfl rfl (AOp.assign (.int .i64 0) rfl rfl ?_)
     refine AOps.nil ?_
     change AWP _ _ _ _ _ _
     refine AWP.block ?_
     refine AWP.loop (fun q76 fq Hq => ∃ (f : Int), q76 = (((((at_ (parseR s).1.Cages i).Faces).length : Int) : Int) - f).toNat ∧ fq 10 = .int .i64 f ∧ fq 7 = .int .i64 i ∧ fq 3 = .fptr [.int .i64 (((((parseR s).1).Camera).Eye).X), .int .i64 (((((parseR s).1).Camera).Eye).Y), .int .i64 (((((parseR s).1).Camera).Eye).Z), .int .i64 (((((parseR s).1).Camera).First).X), .int .i64 (((((parseR s).1).Camera).First).Y), .int .i64 (((((parseR s).1).Camera).First).Z), .int .i64 (((((parseR s).1).Camera).Right).X), .int .i64 (((((parseR s).1).Camera).Right).Y), .int .i64 (((((parseR s).1).Camera).Right).Z), .int .i64 (((((parseR s).1).Camera).Down).X), .int .i64 (((((parseR s).1).Camera).Down).Y), .int .i64 (((((parseR s).1).Camera).Down).Z), .int .i64 ((((parseR s).1).Camera).W), .int .i64 ((((parseR s).1).Camera).H), .int .i64 ((((parseR s).1).Camera).Grid), .int .i64 ((((parseR s).1).Camera).Depth), .int .i64 ((((parseR s).1).Sky).R), .int .i64 ((((parseR s).1).Sky).G), .int .i64 ((((parseR s).1).Sky).B), .sl (((parseR s).1).Lights).length ((((parseR s).1).Lights).flatMap eLight), .sl (((parseR s).1).Mats).length ((((parseR s).1).Mats).flatMap eMat), .sl (((parseR s).1).Texs).length ((((parseR s).1).Texs).flatMap eTex), .sl (((parseR s).1).Skins).length ((((parseR s).1).Skins).flatMap eSkin), .sl (((parseR s).1).Cages).length ((((parseR s).1).Cages).flatMap eCage)] 0 ∧ fq 9 = .fptr [.sl ((at_ (((parseR s).1).Cages) i).Verts).length (((at_ (((parseR s).1).Cages) i).Verts).flatMap eV), .sl ((at_ (((parseR s).1).Cages) i).Faces).length (((at_ (((parseR s).1).Cages) i).Faces).map eF), .sl ((at_ (((parseR s).1).Cages) i).Creases).length (((at_ (((parseR s).1).Cages) i).Creases).flatMap eCr)] 0 ∧ Mono H0 Hq ∧ (0 ≤ f) ∧ (f ≤ (((at_ (parseR s).1.Cages i).Faces).length : Int))) (k := (((((at_ (parseR s).1.Cages i).Faces).length : Int) : Int) - 0).toNat) ?_ ?_
     ·
      exact ⟨0, rfl, rfl, s42, s43, rfl, m74, by omega, by omega⟩
     ·
      rintro _ f78 H77 ⟨f, rfl, s79, s80, s81, s82, m83, hf0, hf1⟩
      refine AWP.seq ?_
      refine AWP.seq ?_
      refine AWP.region (l := [0, 1, 2, 3, 4]) rfl ?_
      refine AOps.cons rfl rfl (AOp.move (.int .i64 f) rfl s79 ?_)
      refine AOps.cons rfl rfl (AOp.fieldAddrF rfl s82 fl_46_1 ?_)
      refine AOps.cons rfl rfl (AOp.loadF (.sl ((at_ (((parseR s).1).Cages) i).Faces).length (((at_ (((parseR s).1).Cages) i).Faces).map eF)) rfl rfl ty_43 rfl ?_)
      refine AOps.cons rfl rfl (AOp.len (m := ((at_ (((parseR s).1).Cages) i).Faces).length) rfl rfl (.inr (.inl ⟨_, rfl⟩)) u_43 ?_)
      refine AOps.cons rfl rfl (AOp.bin (.bool (decide (f < ((((at_ (((parseR s).1).Cages) i).Faces).length) : Int)))) rfl rfl rfl rfl ?_)
      refine AOps.nil ?_
      change AWP _ _ _ _ _ _
      by_cases b84 : f < ((((at_ (((parseR s).1).Cages) i).Faces).length) : Int)
      ·
       refine AWP.condT rfl (decide_eq_true b84) ?_
       refine AWP.skip ?_
       change AWP _ _ _ _ _ _
       refine AWP.seq ?_
       refine AWP.block ?_
       refine AWP.seq ?_
       refine AWP.region (l := [0]) rfl ?_
       refine AOps.cons rfl rfl (AOp.assign (.int .i64 0) rfl rfl ?_)
       refine AOps.nil ?_
       change AWP _ _ _ _ _ _
       refine AWP.block ?_
       refine AWP.loop (fun q85 fq Hq => ∃ (j : Int), q85 = ((((at_ (at_ (parseR s).1.Cages i).Faces f).length : Int) : Int) - j).toNat ∧ fq 11 = .int .i64 j ∧ fq 10 = .int .i64 f ∧ fq 7 = .int .i64 i ∧ fq 3 = .fptr [.int .i64 (((((parseR s).1).Camera).Eye).X), .int .i64 (((((parseR s).1).Camera).Eye).Y), .int .i64 (((((parseR s).1).Camera).Eye).Z), .int .i64 (((((parseR s).1).Camera).First).X), .int .i64 (((((parseR s).1).Camera).First).Y), .int .i64 (((((parseR s).1).Camera).First).Z), .int .i64 (((((parseR s).1).Camera).Right).X), .int .i64 (((((parseR s).1).Camera).Right).Y), .int .i64 (((((parseR s).1).Camera).Right).Z), .int .i64 (((((parseR s).1).Camera).Down).X), .int .i64 (((((parseR s).1).Camera).Down).Y), .int .i64 (((((parseR s).1).Camera).Down).Z), .int .i64 ((((parseR s).1).Camera).W), .int .i64 ((((parseR s).1).Camera).H), .int .i64 ((((parseR s).1).Camera).Grid), .int .i64 ((((parseR s).1).Camera).Depth), .int .i64 ((((parseR s).1).Sky).R), .int .i64 ((((parseR s).1).Sky).G), .int .i64 ((((parseR s).1).Sky).B), .sl (((parseR s).1).Lights).length ((((parseR s).1).Lights).flatMap eLight), .sl (((parseR s).1).Mats).length ((((parseR s).1).Mats).flatMap eMat), .sl (((parseR s).1).Texs).length ((((parseR s).1).Texs).flatMap eTex), .sl (((parseR s).1).Skins).length ((((parseR s).1).Skins).flatMap eSkin), .sl (((parseR s).1).Cages).length ((((parseR s).1).Cages).flatMap eCage)] 0 ∧ fq 9 = .fptr [.sl ((at_ (((parseR s).1).Cages) i).Verts).length (((at_ (((parseR s).1).Cages) i).Verts).flatMap eV), .sl ((at_ (((parseR s).1).Cages) i).Faces).length (((at_ (((parseR s).1).Cages) i).Faces).map eF), .sl ((at_ (((parseR s).1).Cages) i).Creases).length (((at_ (((parseR s).1).Cages) i).Creases).flatMap eCr)] 0 ∧ Mono H0 Hq ∧ (0 ≤ j) ∧ (j ≤ ((at_ (at_ (parseR s).1.Cages i).Faces f).length : Int))) (k := ((((at_ (at_ (parseR s).1.Cages i).Faces f).length : Int) : Int) - 0).toNat) ?_ ?_
       ·
        exact ⟨0, rfl, rfl, s79, s80, s81, s82, m83, by omega, by omega⟩
       ·
        rintro _ f87 H86 ⟨j, rfl, s88, s89, s90, s91, s92, m93, hj0, hj1⟩
        have hl_ := hB.l _ hi0 (by omega) _ hf0 (by omega)
        refine AWP.seq ?_
        refine AWP.seq ?_
        refine AWP.region (l := [0, 1, 2, 3, 4, 5, 6, 7]) rfl ?_
        refine AOps.cons rfl rfl (AOp.move (.int .i64 j) rfl s88 ?_)
        refine AOps.cons rfl rfl (AOp.fieldAddrF rfl s92 fl_46_1 ?_)
        refine AOps.cons rfl rfl (AOp.loadF (.sl ((at_ (((parseR s).1).Cages) i).Faces).length (((at_ (((parseR s).1).Cages) i).Faces).map eF)) rfl rfl ty_43 rfl ?_)
        refine AOps.cons rfl rfl (AOp.move (.int .i64 f) rfl s89 ?_)
        refine AOps.cons rfl rfl (AOp.indexAddrS rfl rfl rfl sl_43 (by omega) (by omega) ?_)
        refine AOps.cons rfl rfl (AOp.loadF (.sl (at_ ((at_ (((parseR s).1).Cages) i).Faces) f).length ((at_ ((at_ (((parseR s).1).Cages) i).Faces) f).map eI)) rfl rfl ty_47 (ld1 (by omega) (by omega)) ?_)
        refine AOps.cons rfl rfl (AOp.len (m := (at_ ((at_ (((parseR s).1).Cages) i).Faces) f).length) rfl rfl (.inr (.inl ⟨_, rfl⟩)) u_47 ?_)
        refine AOps.cons rfl rfl (AOp.bin (.bool (decide (j < (((at_ ((at_ (((parseR s).1).Cages) i).Faces) f).length) : Int)))) rfl rfl rfl rfl ?_)
        refine AOps.nil ?_
        change AWP _ _ _ _ _ _
        by_cases b94 : j < (((at_ ((at_ (((parseR s).1).Cages) i).Faces) f).length) : Int)
        ·
         refine AWP.condT rfl (decide_eq_true b94) ?_
         refine AWP.skip ?_
         change AWP _ _ _ _ _ _
         refine AWP.seq ?_
         refine AWP.block ?_
         refine AWP.seq ?_
         have hf_ := hB.f _ hi0 (by omega) _ hf0 (by omega) _ hj0 (by omega)
         refine AWP.region_quiet mixed (by kernel_rfl) 23 [] rfl (by kernel_rfl) (Mono H86) (Mono.refl _) ?_
         refine QE.op rfl rfl (.inl ⟨rfl, fun f' H' hf hM => AOp.fieldAddrF rfl ((hf 9 rfl).trans s92) fl_46_1 ⟨rfl, hM⟩⟩) ?_
         refine QE.op rfl rfl (.inl ⟨rfl, fun f' H' hf hM => AOp.loadF (.sl ((at_ (((parseR s).1).Cages) i).Faces).length (((at_ (((parseR s).1).Cages) i).Faces).map eF)) rfl ((hf 173 rfl).trans rfl) ty_43 rfl ⟨rfl, hM⟩⟩) ?_
         refine QE.op rfl rfl (.inl ⟨rfl, fun f' H' hf hM => AOp.move (.int .i64 f) rfl ((hf 10 rfl).trans s89) ⟨rfl, hM⟩⟩) ?_
         refine QE.op rfl rfl (.inl ⟨rfl, fun f' H' hf hM => AOp.indexAddrS rfl ((hf 174 rfl).trans rfl) ((hf 175 rfl).trans rfl) sl_43 (by omega) (by omega) ⟨rfl, hM⟩⟩) ?_
         refine QE.op rfl rfl (.inl ⟨rfl, fun f' H' hf hM => AOp.loadF (.sl (at_ ((at_ (((parseR s).1).Cages) i).Faces) f).length ((at_ ((at_ (((parseR s).1).Cages) i).Faces) f).map eI)) rfl ((hf 176 rfl).trans rfl) ty_47 (ld1 (by omega) (by omega)) ⟨rfl, hM⟩⟩) ?_
         refine QE.op rfl rfl (.inl ⟨rfl, fun f' H' hf hM => AOp.move (.int .i64 j) rfl ((hf 11 rfl).trans s88) ⟨rfl, hM⟩⟩) ?_
         refine QE.op rfl rfl (.inl ⟨rfl, fun f' H' hf hM => AOp.indexAddrS rfl ((hf 177 rfl).trans rfl) ((hf 178 rfl).trans rfl) sl_47 (by omega) (by omega) ⟨rfl, hM⟩⟩) ?_
         refine QE.op rfl rfl (.inl ⟨rfl, fun f' H' hf hM => AOp.loadF (.int .i64 (at_ (at_ ((at_ (((parseR s).1).Cages) i).Faces) f) j)) rfl ((hf 179 rfl).trans rfl) ty_3 (ld1 (by omega) (by omega)) ⟨rfl, hM⟩⟩) ?_
         refine QE.op rfl rfl (.inl ⟨rfl, fun f' H' hf hM => AOp.bin (.bool (decide (at_ (at_ ((at_ (((parseR s).1).Cages) i).Faces) f) j < 0))) rfl ((hf 180 rfl).trans rfl) rfl rfl ⟨rfl, hM⟩⟩) ?_
         refine QE.op rfl rfl (.inl ⟨rfl, fun f' H' hf hM => AOp.move (.bool (decide (at_ (at_ ((at_ (((parseR s).1).Cages) i).Faces) f) j < 0))) rfl ((hf 181 rfl).trans rfl) ⟨rfl, hM⟩⟩) ?_
         refine QE.op rfl rfl (QOp.yes rfl rfl rfl rfl (decide_eq_false (by omega)) fun f' H' hf hM => AOp.fieldAddrF rfl ((hf 9 rfl).trans s92) fl_46_1 ⟨rfl, hM⟩) ?_
         refine QE.op rfl rfl (QOp.yes rfl rfl rfl rfl (decide_eq_false (by omega)) fun f' H' hf hM => AOp.loadF (.sl ((at_ (((parseR s).1).Cages) i).Faces).length (((at_ (((parseR s).1).Cages) i).Faces).map eF)) rfl ((hf 183 rfl).trans rfl) ty_43 rfl ⟨rfl, hM⟩) ?_
         refine QE.op rfl rfl (QOp.yes rfl rfl rfl rfl (decide_eq_false (by omega)) fun f' H' hf hM => AOp.move (.int .i64 f) rfl ((hf 10 rfl).trans s89) ⟨rfl, hM⟩) ?_
         refine QE.op rfl rfl (QOp.yes rfl rfl rfl rfl (decide_eq_false (by omega)) fun f' H' hf hM => AOp.indexAddrS rfl ((hf 184 rfl).trans rfl) ((hf 185 rfl).trans rfl) sl_43 (by omega) (by omega) ⟨rfl, hM⟩) ?_
         refine QE.op rfl rfl (QOp.yes rfl rfl rfl rfl (decide_eq_false (by omega)) fun f' H' hf hM => AOp.loadF (.sl (at_ ((at_ (((parseR s).1).Cages) i).Faces) f).length ((at_ ((at_ (((parseR s).1).Cages) i).Faces) f).map eI)) rfl ((hf 186 rfl).trans rfl) ty_47 (ld1 (by omega) (by omega)) ⟨rfl, hM⟩) ?_
         refine QE.op rfl rfl (QOp.yes rfl rfl rfl rfl (decide_eq_false (by omega)) fun f' H' hf hM => AOp.move (.int .i64 j) rfl ((hf 11 rfl).trans s88) ⟨rfl, hM⟩) ?_
         refine QE.op rfl rfl (QOp.yes rfl rfl rfl rfl (decide_eq_false (by omega)) fun f' H' hf hM => AOp.indexAddrS rfl ((hf 187 rfl).trans rfl) ((hf 188 rfl).trans rfl) sl_47 (by omega) (by omega) ⟨rfl, hM⟩) ?_
         refine QE.op rfl rfl (QOp.yes rfl rfl rfl rfl (decide_eq_false (by omega)) fun f' H' hf hM => AOp.loadF (.int .i64 (at_ (at_ ((at_ (((parseR s).1).Cages) i).Faces) f) j)) rfl ((hf 189 rfl).trans rfl) ty_3 (ld1 (by omega) (by omega)) ⟨rfl, hM⟩) ?_
         refine QE.op rfl rfl (QOp.yes rfl rfl rfl rfl (decide_eq_false (by omega)) fun f' H' hf hM => AOp.fieldAddrF rfl ((hf 9 rfl).trans s92) fl_46_0 ⟨rfl, hM⟩) ?_
         refine QE.op rfl rfl (QOp.yes rfl rfl rfl rfl (decide_eq_false (by omega)) fun f' H' hf hM => AOp.loadF (.sl ((at_ (((parseR s).1).Cages) i).Verts).length (((at_ (((parseR s).1).Cages) i).Verts).flatMap eV)) rfl ((hf 191 rfl).trans rfl) ty_42 rfl ⟨rfl, hM⟩) ?_
         refine QE.op rfl rfl (QOp.yes rfl rfl rfl rfl (decide_eq_false (by omega)) fun f' H' hf hM => AOp.len (m := ((at_ (((parseR s).1).Cages) i).Verts).length) rfl ((hf 192 rfl).trans rfl) (.inr (.inl ⟨_, rfl⟩)) u_42 ⟨rfl, hM⟩) ?_
         refine QE.op rfl rfl (QOp.yes rfl rfl rfl rfl (decide_eq_false (by omega)) fun f' H' hf hM => AOp.bin (.bool (decide (at_ (at_ ((at_ (((parseR s).1).Cages) i).Faces) f) j ≥ ((((at_ (((parseR s).1).Cages) i).Verts).length) : Int)))) rfl ((hf 190 rfl).trans rfl) ((hf 193 rfl).trans rfl) rfl ⟨rfl, hM⟩) ?_
         refine QE.op rfl rfl (.inl ⟨rfl, fun f' H' hf hM => AOp.pickF (.bool (decide (at_ (at_ ((at_ (((parseR s).1).Cages) i).Faces) f) j ≥ ((((at_ (((parseR s).1).Cages) i).Verts).length) : Int)))) rfl ((hf 182 rfl).trans rfl) (decide_eq_false (by omega)) ((hf 194 rfl).trans rfl) ⟨rfl, hM⟩⟩) ?_
         refine QE.done fun H95 m96 => ?_
         have m97 := m93.trans m96
         refine AOps.nil ?_
         change AWP _ _ _ _ _ _
         refine AWP.condF rfl (decide_eq_false (by omega)) ?_
         refine AWP.skip ?_
         change AWP _ _ _ _ _ _
         refine AWP.region (l := [0, 1, 2]) rfl ?_
         refine AOps.cons rfl rfl (AOp.move (.int .i64 j) rfl s88 ?_)
         refine AOps.cons rfl rfl (AOp.bin (.int .i64 (j + 1)) rfl rfl rfl (iadd (by omega)) ?_)
         refine AOps.cons rfl rfl (AOp.assign (.int .i64 (j + 1)) rfl rfl ?_)
         refine AOps.nil ?_
         exact ⟨_, by omega, j + 1, rfl, rfl, s89, s90, s91, s92, m97, by omega, by omega⟩
        ·
         refine AWP.condF rfl (decide_eq_false b94) ?_
         refine AWP.exit ?_
         change AWP _ _ _ _ _ _
         refine AWP.region (l := [0, 1, 2]) rfl ?_
         refine AOps.cons rfl rfl (AOp.move (.int .i64 f) rfl s89 ?_)
         refine AOps.cons rfl rfl (AOp.bin (.int .i64 (f + 1)) rfl rfl rfl (iadd (by omega)) ?_)
         refine AOps.cons rfl rfl (AOp.assign (.int .i64 (f + 1)) rfl rfl ?_)
         refine AOps.nil ?_
         exact ⟨_, by omega, f + 1, rfl, rfl, s90, s91, s92, m93, by omega, by omega⟩
      ·
       refine AWP.condF rfl (decide_eq_false b84) ?_
       refine AWP.exit ?_
       change AWP _ _ _ _ _ _
       refine AWP.region (l := [0, 1, 2]) rfl ?_
       refine AOps.cons rfl rfl (AOp.move (.int .i64 i) rfl s80 ?_)
       refine AOps.cons rfl rfl (AOp.bin (.int .i64 (i + 1)) rfl rfl rfl (iadd (by omega)) ?_)
       refine AOps.cons rfl rfl (AOp.assign (.int .i64 (i + 1)) rfl rfl ?_)
       refine AOps.nil ?_
       exact ⟨_, by omega, i + 1, rfl, rfl, s81, m83, by omega, by omega⟩
    ·
     refine AWP.condF rfl (decide_eq_false b45) ?_
     refine AWP.exit ?_
     change AWP _ _ _ _ _ _
     refine AWP.seq ?_
     refine AWP.region (l := [0]) rfl ?_
     refine AOps.cons rfl rfl (AOp.assign (.bool true) rfl rfl ?_)
     refine AOps.nil ?_
     change AWP _ _ _ _ _ _
     refine AWP.ret ?_
     refine ⟨_, _, Ghost.refl, .inr rfl, _, Res.one rfl rfl, ?_, m44⟩
     exact rfl
  ·
   refine AWP.condT rfl (nb (decide_eq_false b23)) ?_
   refine AWP.seq ?_
   have hX := parse_bad b23
   refine AWP.region (l := [0, 1, 2, 3, 4, 5, 6, 7, 8, 9, 10]) rfl ?_
   refine AOps.cons rfl rfl (AOp.fieldAddrF rfl rfl fl_35_6 ?_)
   refine AOps.cons rfl rfl (AOp.loadF (.sl (((parseR s).1).Cages).length ((((parseR s).1).Cages).flatMap eCage)) rfl rfl ty_33 rfl ?_)
   refine AOps.cons rfl rfl (AOp.len (m := (((parseR s).1).Cages).length) rfl rfl (.inr (.inl ⟨_, rfl⟩)) u_33 ?_)
   refine AOps.cons rfl rfl (AOp.bin (.bool (decide ((((((parseR s).1).Cages).length) : Int) = 0))) rfl rfl rfl ieq ?_)
   refine AOps.cons rfl rfl (AOp.move (.bool (decide ((((((parseR s).1).Cages).length) : Int) = 0))) rfl rfl ?_)
   refine AOps.yes rfl rfl rfl rfl rfl rfl rfl (decide_eq_true (by rw [hX]; rfl)) (AOp.fieldAddrF rfl rfl fl_35_0 ?_)
   refine AOps.yes rfl rfl rfl rfl rfl rfl rfl (decide_eq_true (by rw [hX]; rfl)) (AOp.loadF (.agg [.int .i64 (((((parseR s).1).Camera).Eye).X), .int .i64 (((((parseR s).1).Camera).Eye).Y), .int .i64 (((((parseR s).1).Camera).Eye).Z), .int .i64 (((((parseR s).1).Camera).First).X), .int .i64 (((((parseR s).1).Camera).First).Y), .int .i64 (((((parseR s).1).Camera).First).Z), .int .i64 (((((parseR s).1).Camera).Right).X), .int .i64 (((((parseR s).1).Camera).Right).Y), .int .i64 (((((parseR s).1).Camera).Right).Z), .int .i64 (((((parseR s).1).Camera).Down).X), .int .i64 (((((parseR s).1).Camera).Down).Y), .int .i64 (((((parseR s).1).Camera).Down).Z), .int .i64 ((((parseR s).1).Camera).W), .int .i64 ((((parseR s).1).Camera).H), .int .i64 ((((parseR s).1).Camera).Grid), .int .i64 ((((parseR s).1).Camera).Depth)]) rfl rfl ty_26 rfl ?_)
   refine AOps.yes rfl rfl rfl rfl rfl rfl rfl (decide_eq_true (by rw [hX]; rfl)) (AOp.build (cells := [.int .i64 0, .int .i64 0, .int .i64 0, .int .i64 0, .int .i64 0, .int .i64 0, .int .i64 0, .int .i64 0, .int .i64 0, .int .i64 0, .int .i64 0, .int .i64 0, .int .i64 0, .int .i64 0, .int .i64 0, .int .i64 0]) rfl tz_26 pl_26 rfl rfl ?_)
   refine AOps.yes rfl rfl rfl rfl rfl rfl rfl (decide_eq_true (by rw [hX]; rfl)) (AOp.eqAggD rfl rfl rfl teq26 (kokCam (v := (((parseR s).1).Camera)) (by first | assumption | exact (parse_ran s).1.cam)) (kokCam (v := (CamT.mk (VT.mk 0 0 0) (VT.mk 0 0 0) (VT.mk 0 0 0) (VT.mk 0 0 0) 0 0 0 0)) (by first | assumption | exact rd0_ran.cam)) (eCam_iff (((parseR s).1).Camera) (CamT.mk (VT.mk 0 0 0) (VT.mk 0 0 0) (VT.mk 0 0 0) (VT.mk 0 0 0) 0 0 0 0)) ?_)
   refine AOps.cons rfl rfl (AOp.pickT (.bool (decide ((((parseR s).1).Camera) = (CamT.mk (VT.mk 0 0 0) (VT.mk 0 0 0) (VT.mk 0 0 0) (VT.mk 0 0 0) 0 0 0 0)))) rfl rfl (decide_eq_true (by rw [hX]; rfl)) rfl ?_)
   refine AOps.cons rfl rfl (AOp.assign (.bool (decide ((((parseR s).1).Camera) = (CamT.mk (VT.mk 0 0 0) (VT.mk 0 0 0) (VT.mk 0 0 0) (VT.mk 0 0 0) 0 0 0 0)))) rfl rfl ?_)
   refine AOps.nil ?_
   change AWP _ _ _ _ _ _
   refine AWP.ret ?_
   refine ⟨_, _, Ghost.refl, .inr rfl, _, Res.one rfl rfl, ?_, m21⟩
   exact (congrArg AV.bool (show (decide ((((parseR s).1).Camera) = (CamT.mk (VT.mk 0 0 0) (VT.mk 0 0 0) (VT.mk 0 0 0) (VT.mk 0 0 0) 0 0 0 0)) : Bool) = true from by first | rfl | exact decide_eq_true (by rw [hX]; rfl) | decide | simp))
end Go.Proofs.S
