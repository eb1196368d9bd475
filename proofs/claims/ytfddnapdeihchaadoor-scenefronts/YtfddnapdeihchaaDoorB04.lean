/- A part of the proof that a law answers true for every input of its row: own work, by an AI agent. -/
import Derived.Test.YtfddnapdeihchaaDoorB03
set_option linter.unusedSimpArgs false
set_option linter.unusedVariables false
set_option linter.defProp false
namespace Go.Proofs.S
open Go Go.AH Go.Proofs.L
set_option maxRecDepth 4000
set_option maxHeartbeats 4000000
set_option linter.unusedSimpArgs false
set_option linter.unusedVariables false
set_option linter.unusedSectionVars false
variable [LexG]
theorem c_SceneFronts (s t : ByteArray) : PC Tryd.prog 3 [.str s, .str t] (.bool true) := by
 intro H0
 refine ACalls.of_body' (n := 118) rfl rfl rfl rfl ?_
 have m0 := Mono.refl H0
 refine AWP.seq ?_
 refine AWP.region (l := [0]) rfl ?_
 refine AOps.cons rfl rfl (AOp.assign (.bool false) rfl rfl ?_)
 refine AOps.nil ?_
 change AWP _ _ _ _ _ _
 refine AWP.seq ?_
 refine AWP.seq ?_
 refine AWP.region (l := [0, 1]) rfl ?_
 refine AOps.cons rfl rfl (AOp.pcall («as» := []) rfl rfl (rfl) tf_7 (c_alive) ?_)
 intro H1 m2
 have m3 := m0.trans m2
 refine AOps.cons rfl rfl (AOp.not rfl rfl ?_)
 refine AOps.nil ?_
 change AWP _ _ _ _ _ _
 refine AWP.condF rfl rfl ?_
 refine AWP.skip ?_
 change AWP _ _ _ _ _ _
 refine AWP.seq ?_
 refine AWP.seq ?_
 refine AWP.region (l := [0, 1, 2, 3, 4, 5, 6, 7]) rfl ?_
 refine AOps.cons rfl rfl (AOp.move (.str s) rfl rfl ?_)
 refine AOps.cons rfl rfl (AOp.lenStr rfl rfl u_9 ?_)
 refine AOps.cons rfl rfl (AOp.bin (.bool (decide ((s.size : Int) > 5000))) rfl rfl rfl rfl ?_)
 refine AOps.cons rfl rfl (AOp.move (.bool (decide ((s.size : Int) > 5000))) rfl rfl ?_)
 by_cases b4 : (s.size : Int) > 5000
 ·
  refine AOps.no rfl rfl rfl rfl rfl rfl rfl (ble_of (decide_eq_true b4) (by decide)) ?_
  refine AOps.no rfl rfl rfl rfl rfl rfl rfl (ble_of (decide_eq_true b4) (by decide)) ?_
  refine AOps.no rfl rfl rfl rfl rfl rfl rfl (ble_of (decide_eq_true b4) (by decide)) ?_
  refine AOps.cons rfl rfl (AOp.pickT (.bool true) rfl rfl (decide_eq_true b4) rfl ?_)
  refine AOps.nil ?_
  change AWP _ _ _ _ _ _
  refine AWP.condT rfl rfl ?_
  refine AWP.seq ?_
  refine AWP.region (l := [0]) rfl ?_
  refine AOps.cons rfl rfl (AOp.assign (.bool true) rfl rfl ?_)
  refine AOps.nil ?_
  change AWP _ _ _ _ _ _
  refine AWP.ret ?_
  refine ⟨_, _, Ghost.refl, .inr rfl, _, Res.one rfl rfl, ?_, m3⟩
  exact rfl
 ·
  refine AOps.yes rfl rfl rfl rfl rfl rfl rfl (decide_eq_false b4) (AOp.move (.str t) rfl rfl ?_)
  refine AOps.yes rfl rfl rfl rfl rfl rfl rfl (decide_eq_false b4) (AOp.lenStr rfl rfl u_9 ?_)
  refine AOps.yes rfl rfl rfl rfl rfl rfl rfl (decide_eq_false b4) (AOp.bin (.bool (decide ((t.size : Int) > 1000))) rfl rfl rfl rfl ?_)
  refine AOps.cons rfl rfl (AOp.pickF (.bool (decide ((t.size : Int) > 1000))) rfl rfl (decide_eq_false b4) rfl ?_)
  refine AOps.nil ?_
  change AWP _ _ _ _ _ _
  by_cases b5 : (t.size : Int) > 1000
  ·
   refine AWP.condT rfl (decide_eq_true b5) ?_
   refine AWP.seq ?_
   refine AWP.region (l := [0]) rfl ?_
   refine AOps.cons rfl rfl (AOp.assign (.bool true) rfl rfl ?_)
   refine AOps.nil ?_
   change AWP _ _ _ _ _ _
   refine AWP.ret ?_
   refine ⟨_, _, Ghost.refl, .inr rfl, _, Res.one rfl rfl, ?_, m3⟩
   exact rfl
  ·
   refine AWP.condF rfl (decide_eq_false b5) ?_
   refine AWP.skip ?_
   change AWP _ _ _ _ _ _
   refine AWP.seq ?_
   refine AWP.seq ?_
   refine AWP.region (l := [0]) rfl ?_
   refine AOps.cons rfl rfl (AOp.assign (.int .i64 0) rfl rfl ?_)
   refine AOps.nil ?_
   change AWP _ _ _ _ _ _
   refine AWP.block ?_
   refine AWP.loop (fun q6 fq Hq => ∃ (i : Int), q6 = (((t.size : Int) : Int) - i).toNat ∧ fq 5 = .int .i64 i ∧ fq 0 = .str s ∧ fq 1 = .str t ∧ Mono H0 Hq ∧ (0 ≤ i) ∧ (i ≤ (t.size : Int)) ∧ (∀ j : Int, 0 ≤ j → j < i → byt t j ≠ 10)) (k := (((t.size : Int) : Int) - 0).toNat) ?_ ?_
   ·
    exact ⟨0, rfl, rfl, rfl, rfl, m3, by omega, by omega, by intro j; omega⟩
   ·
    rintro _ f8 H7 ⟨i, rfl, s9, s10, s11, m12, hi0, hi1, pre⟩
    refine AWP.seq ?_
    refine AWP.seq ?_
    refine AWP.region (l := [0, 1, 2, 3]) rfl ?_
    refine AOps.cons rfl rfl (AOp.move (.int .i64 i) rfl s9 ?_)
    refine AOps.cons rfl rfl (AOp.move (.str t) rfl s11 ?_)
    refine AOps.cons rfl rfl (AOp.lenStr rfl rfl u_9 ?_)
    refine AOps.cons rfl rfl (AOp.bin (.bool (decide (i < (t.size : Int)))) rfl rfl rfl rfl ?_)
    refine AOps.nil ?_
    change AWP _ _ _ _ _ _
    by_cases b13 : i < (t.size : Int)
    ·
     refine AWP.condT rfl (decide_eq_true b13) ?_
     refine AWP.skip ?_
     change AWP _ _ _ _ _ _
     refine AWP.seq ?_
     refine AWP.block ?_
     refine AWP.seq ?_
     refine AWP.region (l := [0, 1, 2, 3]) rfl ?_
     refine AOps.cons rfl rfl (AOp.move (.str t) rfl s11 ?_)
     refine AOps.cons rfl rfl (AOp.move (.int .i64 i) rfl s9 ?_)
     have hb14 := byt_rng t i
     refine AOps.cons rfl rfl (AOp.indexB rfl rfl rfl u_9 (by omega) (by omega) ?_)
     refine AOps.cons rfl rfl (AOp.bin (.bool (decide (byt t i = 10))) rfl rfl rfl ieq ?_)
     refine AOps.nil ?_
     change AWP _ _ _ _ _ _
     by_cases b15 : byt t i = 10
     ·
      refine AWP.condT rfl (decide_eq_true b15) ?_
      refine AWP.seq ?_
      refine AWP.region (l := [0]) rfl ?_
      refine AOps.cons rfl rfl (AOp.assign (.bool true) rfl rfl ?_)
      refine AOps.nil ?_
      change AWP _ _ _ _ _ _
      refine AWP.ret ?_
      refine ⟨_, _, Ghost.refl, .inr rfl, _, Res.one rfl rfl, ?_, m12⟩
      exact rfl
     ·
      refine AWP.condF rfl (decide_eq_false b15) ?_
      refine AWP.skip ?_
      change AWP _ _ _ _ _ _
      refine AWP.region (l := [0, 1, 2]) rfl ?_
      refine AOps.cons rfl rfl (AOp.move (.int .i64 i) rfl s9 ?_)
      refine AOps.cons rfl rfl (AOp.bin (.int .i64 (i + 1)) rfl rfl rfl (iadd (by omega)) ?_)
      refine AOps.cons rfl rfl (AOp.assign (.int .i64 (i + 1)) rfl rfl ?_)
      refine AOps.nil ?_
      exact ⟨_, by omega, i + 1, rfl, rfl, s10, s11, m12, by omega, by omega, by exact nl_step pre b15⟩
    ·
     refine AWP.condF rfl (decide_eq_false b13) ?_
     refine AWP.exit ?_
     change AWP _ _ _ _ _ _
     refine AWP.seq ?_
     refine AWP.region (l := [0, 1, 2, 3, 4, 5, 6, 7, 8, 9]) rfl ?_
     refine AOps.cons rfl rfl (AOp.move (.str s) rfl s10 ?_)
     refine AOps.cons rfl rfl (AOp.pcall («as» := [.str s]) rfl rfl (rfl) tf_8 (c_Parse s) ?_)
     intro H16 m17
     have m18 := m12.trans m17
     refine AOps.cons rfl rfl (AOp.move (.tup [.agg [.int .i64 (((((parseR s).1).Camera).Eye).X), .int .i64 (((((parseR s).1).Camera).Eye).Y), .int .i64 (((((parseR s).1).Camera).Eye).Z), .int .i64 (((((parseR s).1).Camera).First).X), .int .i64 (((((parseR s).1).Camera).First).Y), .int .i64 (((((parseR s).1).Camera).First).Z), .int .i64 (((((parseR s).1).Camera).Right).X), .int .i64 (((((parseR s).1).Camera).Right).Y), .int .i64 (((((parseR s).1).Camera).Right).Z), .int .i64 (((((parseR s).1).Camera).Down).X), .int .i64 (((((parseR s).1).Camera).Down).Y), .int .i64 (((((parseR s).1).Camera).Down).Z), .int .i64 ((((parseR s).1).Camera).W), .int .i64 ((((parseR s).1).Camera).H), .int .i64 ((((parseR s).1).Camera).Grid), .int .i64 ((((parseR s).1).Camera).Depth), .int .i64 ((((parseR s).1).Sky).R), .int .i64 ((((parseR s).1).Sky).G), .int .i64 ((((parseR s).1).Sky).B), .sl (((parseR s).1).Lights).length ((((parseR s).1).Lights).flatMap eLight), .sl (((parseR s).1).Mats).length ((((parseR s).1).Mats).flatMap eMat), .sl (((parseR s).1).Texs).length ((((parseR s).1).Texs).flatMap eTex), .sl (((parseR s).1).Skins).length ((((parseR s).1).Skins).flatMap eSkin), .sl (((parseR s).1).Cages).length ((((parseR s).1).Cages).flatMap eCage)], .int .i64 ((parseR s).2.1), .int .i64 ((parseR s).2.2)]) rfl rfl ?_)
     refine AOps.cons rfl rfl (AOp.extract (.agg [.int .i64 (((((parseR s).1).Camera).Eye).X), .int .i64 (((((parseR s).1).Camera).Eye).Y), .int .i64 (((((parseR s).1).Camera).Eye).Z), .int .i64 (((((parseR s).1).Camera).First).X), .int .i64 (((((parseR s).1).Camera).First).Y), .int .i64 (((((parseR s).1).Camera).First).Z), .int .i64 (((((parseR s).1).Camera).Right).X), .int .i64 (((((parseR s).1).Camera).Right).Y), .int .i64 (((((parseR s).1).Camera).Right).Z), .int .i64 (((((parseR s).1).Camera).Down).X), .int .i64 (((((parseR s).1).Camera).Down).Y), .int .i64 (((((parseR s).1).Camera).Down).Z), .int .i64 ((((parseR s).1).Camera).W), .int .i64 ((((parseR s).1).Camera).H), .int .i64 ((((parseR s).1).Camera).Grid), .int .i64 ((((parseR s).1).Camera).Depth), .int .i64 ((((parseR s).1).Sky).R), .int .i64 ((((parseR s).1).Sky).G), .int .i64 ((((parseR s).1).Sky).B), .sl (((parseR s).1).Lights).length ((((parseR s).1).Lights).flatMap eLight), .sl (((parseR s).1).Mats).length ((((parseR s).1).Mats).flatMap eMat), .sl (((parseR s).1).Texs).length ((((parseR s).1).Texs).flatMap eTex), .sl (((parseR s).1).Skins).length ((((parseR s).1).Skins).flatMap eSkin), .sl (((parseR s).1).Cages).length ((((parseR s).1).Cages).flatMap eCage)]) rfl rfl rfl ?_)
     refine AOps.cons rfl rfl (AOp.extract (.int .i64 ((parseR s).2.1)) rfl rfl rfl ?_)
     refine AOps.cons rfl rfl (AOp.extract (.int .i64 ((parseR s).2.2)) rfl rfl rfl ?_)
     refine AOps.cons rfl rfl (AOp.alloc rfl tz_35 ?_)
     intro i19 H20 n21 h22 k23
     have z24 := Mono.free m18 n21
     have m25 := Mono.new m18 n21 k23
     refine AOps.cons rfl rfl (AOp.store' (cells' := [.int .i64 (((((parseR s).1).Camera).Eye).X), .int .i64 (((((parseR s).1).Camera).Eye).Y), .int .i64 (((((parseR s).1).Camera).Eye).Z), .int .i64 (((((parseR s).1).Camera).First).X), .int .i64 (((((parseR s).1).Camera).First).Y), .int .i64 (((((parseR s).1).Camera).First).Z), .int .i64 (((((parseR s).1).Camera).Right).X), .int .i64 (((((parseR s).1).Camera).Right).Y), .int .i64 (((((parseR s).1).Camera).Right).Z), .int .i64 (((((parseR s).1).Camera).Down).X), .int .i64 (((((parseR s).1).Camera).Down).Y), .int .i64 (((((parseR s).1).Camera).Down).Z), .int .i64 ((((parseR s).1).Camera).W), .int .i64 ((((parseR s).1).Camera).H), .int .i64 ((((parseR s).1).Camera).Grid), .int .i64 ((((parseR s).1).Camera).Depth), .int .i64 ((((parseR s).1).Sky).R), .int .i64 ((((parseR s).1).Sky).G), .int .i64 ((((parseR s).1).Sky).B), .sl (((parseR s).1).Lights).length ((((parseR s).1).Lights).flatMap eLight), .sl (((parseR s).1).Mats).length ((((parseR s).1).Mats).flatMap eMat), .sl (((parseR s).1).Texs).length ((((parseR s).1).Texs).flatMap eTex), .sl (((parseR s).1).Skins).length ((((parseR s).1).Skins).flatMap eSkin), .sl (((parseR s).1).Cages).length ((((parseR s).1).Cages).flatMap eCage)]) (.agg [.int .i64 (((((parseR s).1).Camera).Eye).X), .int .i64 (((((parseR s).1).Camera).Eye).Y), .int .i64 (((((parseR s).1).Camera).Eye).Z), .int .i64 (((((parseR s).1).Camera).First).X), .int .i64 (((((parseR s).1).Camera).First).Y), .int .i64 (((((parseR s).1).Camera).First).Z), .int .i64 (((((parseR s).1).Camera).Right).X), .int .i64 (((((parseR s).1).Camera).Right).Y), .int .i64 (((((parseR s).1).Camera).Right).Z), .int .i64 (((((parseR s).1).Camera).Down).X), .int .i64 (((((parseR s).1).Camera).Down).Y), .int .i64 (((((parseR s).1).Camera).Down).Z), .int .i64 ((((parseR s).1).Camera).W), .int .i64 ((((parseR s).1).Camera).H), .int .i64 ((((parseR s).1).Camera).Grid), .int .i64 ((((parseR s).1).Camera).Depth), .int .i64 ((((parseR s).1).Sky).R), .int .i64 ((((parseR s).1).Sky).G), .int .i64 ((((parseR s).1).Sky).B), .sl (((parseR s).1).Lights).length ((((parseR s).1).Lights).flatMap eLight), .sl (((parseR s).1).Mats).length ((((parseR s).1).Mats).flatMap eMat), .sl (((parseR s).1).Texs).length ((((parseR s).1).Texs).flatMap eTex), .sl (((parseR s).1).Skins).length ((((parseR s).1).Skins).flatMap eSkin), .sl (((parseR s).1).Cages).length ((((parseR s).1).Cages).flatMap eCage)]) rfl rfl ts_35 h22 rfl rfl rfl rfl ?_)
     intro H26 h27 k28
     have m30 := Mono.set m25 z24 k28
     refine AOps.cons rfl rfl (AOp.assign (.int .i64 ((parseR s).2.1)) rfl rfl ?_)
     refine AOps.cons rfl rfl (AOp.assign (.int .i64 ((parseR s).2.2)) rfl rfl ?_)
     refine AOps.nil ?_
     change AWP _ _ _ _ _ _
     refine AWP.seq ?_
     refine AWP.frzP 6 h27 z24 rfl m30 fun H31 m32 k33 => ?_
     have hz1 : (⟨#[10]⟩ : ByteArray).size = 1 := rfl
     have hz2 : (s ++ ⟨#[10]⟩).size = s.size + 1 := by rw [ByteArray.size_append]; rfl
     refine AWP.region (l := [0, 1, 2, 3, 4, 5, 6, 7, 8, 9, 10, 11, 12]) rfl ?_
     refine AOps.cons rfl rfl (AOp.move (.str s) rfl s10 ?_)
     refine AOps.cons rfl rfl (AOp.sadd rfl rfl rfl (by omega) ?_)
     refine AOps.cons rfl rfl (AOp.move (.str t) rfl s11 ?_)
     refine AOps.cons rfl rfl (AOp.sadd rfl rfl rfl (by omega) ?_)
     refine AOps.cons rfl rfl (AOp.pcall («as» := [.str ((s ++ ⟨#[10]⟩) ++ t)]) rfl rfl (rfl) tf_8 (c_Parse (joinB s t)) ?_)
     intro H34 m35
     have m36 := m32.trans m35
     refine AOps.cons rfl rfl (AOp.move (.tup [.agg [.int .i64 (((((parseR (joinB s t)).1).Camera).Eye).X), .int .i64 (((((parseR (joinB s t)).1).Camera).Eye).Y), .int .i64 (((((parseR (joinB s t)).1).Camera).Eye).Z), .int .i64 (((((parseR (joinB s t)).1).Camera).First).X), .int .i64 (((((parseR (joinB s t)).1).Camera).First).Y), .int .i64 (((((parseR (joinB s t)).1).Camera).First).Z), .int .i64 (((((parseR (joinB s t)).1).Camera).Right).X), .int .i64 (((((parseR (joinB s t)).1).Camera).Right).Y), .int .i64 (((((parseR (joinB s t)).1).Camera).Right).Z), .int .i64 (((((parseR (joinB s t)).1).Camera).Down).X), .int .i64 (((((parseR (joinB s t)).1).Camera).Down).Y), .int .i64 (((((parseR (joinB s t)).1).Camera).Down).Z), .int .i64 ((((parseR (joinB s t)).1).Camera).W), .int .i64 ((((parseR (joinB s t)).1).Camera).H), .int .i64 ((((parseR (joinB s t)).1).Camera).Grid), .int .i64 ((((parseR (joinB s t)).1).Camera).Depth), .int .i64 ((((parseR (joinB s t)).1).Sky).R), .int .i64 ((((parseR (joinB s t)).1).Sky).G), .int .i64 ((((parseR (joinB s t)).1).Sky).B), .sl (((parseR (joinB s t)).1).Lights).length ((((parseR (joinB s t)).1).Lights).flatMap eLight), .sl (((parseR (joinB s t)).1).Mats).length ((((parseR (joinB s t)).1).Mats).flatMap eMat), .sl (((parseR (joinB s t)).1).Texs).length ((((parseR (joinB s t)).1).Texs).flatMap eTex), .sl (((parseR (joinB s t)).1).Skins).length ((((parseR (joinB s t)).1).Skins).flatMap eSkin), .sl (((parseR (joinB s t)).1).Cages).length ((((parseR (joinB s t)).1).Cages).flatMap eCage)], .int .i64 ((parseR (joinB s t)).2.1), .int .i64 ((parseR (joinB s t)).2.2)]) rfl rfl ?_)
     refine AOps.cons rfl rfl (AOp.extract (.agg [.int .i64 (((((parseR (joinB s t)).1).Camera).Eye).X), .int .i64 (((((parseR (joinB s t)).1).Camera).Eye).Y), .int .i64 (((((parseR (joinB s t)).1).Camera).Eye).Z), .int .i64 (((((parseR (joinB s t)).1).Camera).First).X), .int .i64 (((((parseR (joinB s t)).1).Camera).First).Y), .int .i64 (((((parseR (joinB s t)).1).Camera).First).Z), .int .i64 (((((parseR (joinB s t)).1).Camera).Right).X), .int .i64 (((((parseR (joinB s t)).1).Camera).Right).Y), .int .i64 (((((parseR (joinB s t)).1).Camera).Right).Z), .int .i64 (((((parseR (joinB s t)).1).Camera).Down).X), .int .i64 (((((parseR (joinB s t)).1).Camera).Down).Y), .int .i64 (((((parseR (joinB s t)).1).Camera).Down).Z), .int .i64 ((((parseR (joinB s t)).1).Camera).W), .int .i64 ((((parseR (joinB s t)).1).Camera).H), .int .i64 ((((parseR (joinB s t)).1).Camera).Grid), .int .i64 ((((parseR (joinB s t)).1).Camera).Depth), .int .i64 ((((parseR (joinB s t)).1).Sky).R), .int .i64 ((((parseR (joinB s t)).1).Sky).G), .int .i64 ((((parseR (joinB s t)).1).Sky).B), .sl (((parseR (joinB s t)).1).Lights).length ((((parseR (joinB s t)).1).Lights).flatMap eLight), .sl (((parseR (joinB s t)).1).Mats).length ((((parseR (joinB s t)).1).Mats).flatMap eMat), .sl (((parseR (joinB s t)).1).Texs).length ((((parseR (joinB s t)).1).Texs).flatMap eTex), .sl (((parseR (joinB s t)).1).Skins).length ((((parseR (joinB s t)).1).Skins).flatMap eSkin), .sl (((parseR (joinB s t)).1).Cages).length ((((parseR (joinB s t)).1).Cages).flatMap eCage)]) rfl rfl rfl ?_)
     refine AOps.cons rfl rfl (AOp.extract (.int .i64 ((parseR (joinB s t)).2.1)) rfl rfl rfl ?_)
     refine AOps.cons rfl rfl (AOp.extract (.int .i64 ((parseR (joinB s t)).2.2)) rfl rfl rfl ?_)
     refine AOps.cons rfl rfl (AOp.alloc rfl tz_35 ?_)
     intro i37 H38 n39 h40 k41
     have z42 := Mono.free m36 n39
     have m43 := Mono.new m36 n39 k41
     refine AOps.cons rfl rfl (AOp.store' (cells' := [.int .i64 (((((parseR (joinB s t)).1).Camera).Eye).X), .int .i64 (((((parseR (joinB s t)).1).Camera).Eye).Y), .int .i64 (((((parseR (joinB s t)).1).Camera).Eye).Z), .int .i64 (((((parseR (joinB s t)).1).Camera).First).X), .int .i64 (((((parseR (joinB s t)).1).Camera).First).Y), .int .i64 (((((parseR (joinB s t)).1).Camera).First).Z), .int .i64 (((((parseR (joinB s t)).1).Camera).Right).X), .int .i64 (((((parseR (joinB s t)).1).Camera).Right).Y), .int .i64 (((((parseR (joinB s t)).1).Camera).Right).Z), .int .i64 (((((parseR (joinB s t)).1).Camera).Down).X), .int .i64 (((((parseR (joinB s t)).1).Camera).Down).Y), .int .i64 (((((parseR (joinB s t)).1).Camera).Down).Z), .int .i64 ((((parseR (joinB s t)).1).Camera).W), .int .i64 ((((parseR (joinB s t)).1).Camera).H), .int .i64 ((((parseR (joinB s t)).1).Camera).Grid), .int .i64 ((((parseR (joinB s t)).1).Camera).Depth), .int .i64 ((((parseR (joinB s t)).1).Sky).R), .int .i64 ((((parseR (joinB s t)).1).Sky).G), .int .i64 ((((parseR (joinB s t)).1).Sky).B), .sl (((parseR (joinB s t)).1).Lights).length ((((parseR (joinB s t)).1).Lights).flatMap eLight), .sl (((parseR (joinB s t)).1).Mats).length ((((parseR (joinB s t)).1).Mats).flatMap eMat), .sl (((parseR (joinB s t)).1).Texs).length ((((parseR (joinB s t)).1).Texs).flatMap eTex), .sl (((parseR (joinB s t)).1).Skins).length ((((parseR (joinB s t)).1).Skins).flatMap eSkin), .sl (((parseR (joinB s t)).1).Cages).length ((((parseR (joinB s t)).1).Cages).flatMap eCage)]) (.agg [.int .i64 (((((parseR (joinB s t)).1).Camera).Eye).X), .int .i64 (((((parseR (joinB s t)).1).Camera).Eye).Y), .int .i64 (((((parseR (joinB s t)).1).Camera).Eye).Z), .int .i64 (((((parseR (joinB s t)).1).Camera).First).X), .int .i64 (((((parseR (joinB s t)).1).Camera).First).Y), .int .i64 (((((parseR (joinB s t)).1).Camera).First).Z), .int .i64 (((((parseR (joinB s t)).1).Camera).Right).X), .int .i64 (((((parseR (joinB s t)).1).Camera).Right).Y), .int .i64 (((((parseR (joinB s t)).1).Camera).Right).Z), .int .i64 (((((parseR (joinB s t)).1).Camera).Down).X), .int .i64 (((((parseR (joinB s t)).1).Camera).Down).Y), .int .i64 (((((parseR (joinB s t)).1).Camera).Down).Z), .int .i64 ((((parseR (joinB s t)).1).Camera).W), .int .i64 ((((parseR (joinB s t)).1).Camera).H), .int .i64 ((((parseR (joinB s t)).1).Camera).Grid), .int .i64 ((((parseR (joinB s t)).1).Camera).Depth), .int .i64 ((((parseR (joinB s t)).1).Sky).R), .int .i64 ((((parseR (joinB s t)).1).Sky).G), .int .i64 ((((parseR (joinB s t)).1).Sky).B), .sl (((parseR (joinB s t)).1).Lights).length ((((parseR (joinB s t)).1).Lights).flatMap eLight), .sl (((parseR (joinB s t)).1).Mats).length ((((parseR (joinB s t)).1).Mats).flatMap eMat), .sl (((parseR (joinB s t)).1).Texs).length ((((parseR (joinB s t)).1).Texs).flatMap eTex), .sl (((parseR (joinB s t)).1).Skins).length ((((parseR (joinB s t)).1).Skins).flatMap eSkin), .sl (((parseR (joinB s t)).1).Cages).length ((((parseR (joinB s t)).1).Cages).flatMap eCage)]) rfl rfl ts_35 h40 rfl rfl rfl rfl ?_)
     intro H44 h45 k46
     have m48 := Mono.set m43 z42 k46
     refine AOps.cons rfl rfl (AOp.assign (.int .i64 ((parseR (joinB s t)).2.1)) rfl rfl ?_)
     refine AOps.cons rfl rfl (AOp.assign (.int .i64 ((parseR (joinB s t)).2.2)) rfl rfl ?_)
     refine AOps.nil ?_
     change AWP _ _ _ _ _ _
     refine AWP.seq ?_
     refine AWP.seq ?_
     refine AWP.frzP 9 h45 z42 rfl m48 fun H49 m50 k51 => ?_
     have hF := front_law (s := s) (t := t) (by omega) (by omega) (fun j h1 h2 => pre j h1 (by omega)); have hcn := cnt10_rng s
     refine AWP.region (l := [0, 1, 2, 3, 4, 5, 6, 7, 8, 9, 10]) rfl ?_
     refine AOps.cons rfl rfl (AOp.move (.int .i64 ((parseR s).2.2)) rfl rfl ?_)
     refine AOps.cons rfl rfl (AOp.bin (.bool (!decide ((parseR s).2.2 = 0))) rfl rfl rfl ine ?_)
     refine AOps.cons rfl rfl (AOp.move (.bool (!decide ((parseR s).2.2 = 0))) rfl rfl ?_)
     by_cases b52 : (parseR s).2.2 = 0
     ·
      refine AOps.no rfl rfl rfl rfl rfl rfl rfl (ble_of (nb (decide_eq_true b52)) (by decide)) ?_
      refine AOps.no rfl rfl rfl rfl rfl rfl rfl (ble_of (nb (decide_eq_true b52)) (by decide)) ?_
      refine AOps.no rfl rfl rfl rfl rfl rfl rfl (ble_of (nb (decide_eq_true b52)) (by decide)) ?_
      refine AOps.un rfl rfl rfl rfl rfl rfl rfl ?_
      refine AOps.un rfl rfl rfl rfl rfl rfl rfl ?_
      refine AOps.no rfl rfl rfl rfl rfl rfl rfl (ble_of (nb (decide_eq_true b52)) (by decide)) ?_
      refine AOps.no rfl rfl rfl rfl rfl rfl rfl (ble_of (nb (decide_eq_true b52)) (by decide)) ?_
      refine AOps.cons rfl rfl (AOp.pickF (.bool false) rfl rfl (nb (decide_eq_true b52)) rfl ?_)
      refine AOps.nil ?_
      change AWP _ _ _ _ _ _
      refine AWP.condF rfl rfl ?_
      refine AWP.skip ?_
      change AWP _ _ _ _ _ _
      refine AWP.seq ?_
      refine AWP.region (l := [0]) rfl ?_
      refine AOps.cons rfl rfl (AOp.assign (.int .i64 2) rfl rfl ?_)
      refine AOps.nil ?_
      change AWP _ _ _ _ _ _
      refine AWP.seq ?_
      refine AWP.seq ?_
      refine AWP.region (l := [0]) rfl ?_
      refine AOps.cons rfl rfl (AOp.assign (.int .i64 0) rfl rfl ?_)
      refine AOps.nil ?_
      change AWP _ _ _ _ _ _
      refine AWP.block ?_
      refine AWP.loop (fun q53 fq Hq => ∃ (k : Int), q53 = (((s.size : Int) : Int) - k).toNat ∧ fq 13 = .int .i64 k ∧ fq 12 = .int .i64 (cnt10 s k.toNat + 1) ∧ fq 0 = .str s ∧ fq 6 = .fptr [.int .i64 (((((parseR s).1).Camera).Eye).X), .int .i64 (((((parseR s).1).Camera).Eye).Y), .int .i64 (((((parseR s).1).Camera).Eye).Z), .int .i64 (((((parseR s).1).Camera).First).X), .int .i64 (((((parseR s).1).Camera).First).Y), .int .i64 (((((parseR s).1).Camera).First).Z), .int .i64 (((((parseR s).1).Camera).Right).X), .int .i64 (((((parseR s).1).Camera).Right).Y), .int .i64 (((((parseR s).1).Camera).Right).Z), .int .i64 (((((parseR s).1).Camera).Down).X), .int .i64 (((((parseR s).1).Camera).Down).Y), .int .i64 (((((parseR s).1).Camera).Down).Z), .int .i64 ((((parseR s).1).Camera).W), .int .i64 ((((parseR s).1).Camera).H), .int .i64 ((((parseR s).1).Camera).Grid), .int .i64 ((((parseR s).1).Camera).Depth), .int .i64 ((((parseR s).1).Sky).R), .int .i64 ((((parseR s).1).Sky).G), .int .i64 ((((parseR s).1).Sky).B), .sl (((parseR s).1).Lights).length ((((parseR s).1).Lights).flatMap eLight), .sl (((parseR s).1).Mats).length ((((parseR s).1).Mats).flatMap eMat), .sl (((parseR s).1).Texs).length ((((parseR s).1).Texs).flatMap eTex), .sl (((parseR s).1).Skins).length ((((parseR s).1).Skins).flatMap eSkin), .sl (((parseR s).1).Cages).length ((((parseR s).1).Cages).flatMap eCage)] 0 ∧ fq 8 = .int .i64 ((parseR s).2.2) ∧ fq 10 = .int .i64 ((parseR (joinB s t)).2.1) ∧ fq 11 = .int .i64 ((parseR (joinB s t)).2.2) ∧ Mono H0 Hq ∧ (0 ≤ k) ∧ (k ≤ (s.size : Int))) (k := (((s.size : Int) : Int) - 0).toNat) ?_ ?_
      ·
       exact ⟨0, rfl, rfl, (congrArg (AV.int .i64) (show (2 : Int) = cnt10 s (0 : Int).toNat + 1 from by rfl)), s10, rfl, rfl, rfl, rfl, m50, by omega, by omega⟩
      ·
       rintro _ f55 H54 ⟨k, rfl, s56, s57, s58, s59, s60, s61, s62, m63, hk0, hk1⟩
       have hcr := cnt10_rng2 (s := s) hk0 hk1
       refine AWP.seq ?_
       refine AWP.seq ?_
       refine AWP.region (l := [0, 1, 2, 3]) rfl ?_
       refine AOps.cons rfl rfl (AOp.move (.int .i64 k) rfl s56 ?_)
       refine AOps.cons rfl rfl (AOp.move (.str s) rfl s58 ?_)
       refine AOps.cons rfl rfl (AOp.lenStr rfl rfl u_9 ?_)
       refine AOps.cons rfl rfl (AOp.bin (.bool (decide (k < (s.size : Int)))) rfl rfl rfl rfl ?_)
       refine AOps.nil ?_
       change AWP _ _ _ _ _ _
       by_cases b64 : k < (s.size : Int)
       ·
        refine AWP.condT rfl (decide_eq_true b64) ?_
        refine AWP.skip ?_
        change AWP _ _ _ _ _ _
        refine AWP.seq ?_
        refine AWP.block ?_
        refine AWP.seq ?_
        refine AWP.region (l := [0, 1, 2, 3]) rfl ?_
        refine AOps.cons rfl rfl (AOp.move (.str s) rfl s58 ?_)
        refine AOps.cons rfl rfl (AOp.move (.int .i64 k) rfl s56 ?_)
        have hb65 := byt_rng s k
        refine AOps.cons rfl rfl (AOp.indexB rfl rfl rfl u_9 (by omega) (by omega) ?_)
        refine AOps.cons rfl rfl (AOp.bin (.bool (decide (byt s k = 10))) rfl rfl rfl ieq ?_)
        refine AOps.nil ?_
        change AWP _ _ _ _ _ _
        by_cases b66 : byt s k = 10
        ·
         refine AWP.condT rfl (decide_eq_true b66) ?_
         refine AWP.region (l := [0, 1, 2]) rfl ?_
         refine AOps.cons rfl rfl (AOp.move (.int .i64 (cnt10 s k.toNat + 1)) rfl s57 ?_)
         refine AOps.cons rfl rfl (AOp.bin (.int .i64 (cnt10 s k.toNat + 1 + 1)) rfl rfl rfl (iadd (by omega)) ?_)
         refine AOps.cons rfl rfl (AOp.assign (.int .i64 (cnt10 s k.toNat + 1 + 1)) rfl rfl ?_)
         refine AOps.nil ?_
         change AWP _ _ _ _ _ _
         refine AWP.region (l := [0, 1, 2]) rfl ?_
         refine AOps.cons rfl rfl (AOp.move (.int .i64 k) rfl s56 ?_)
         refine AOps.cons rfl rfl (AOp.bin (.int .i64 (k + 1)) rfl rfl rfl (iadd (by omega)) ?_)
         refine AOps.cons rfl rfl (AOp.assign (.int .i64 (k + 1)) rfl rfl ?_)
         refine AOps.nil ?_
         exact ⟨_, by omega, k + 1, rfl, rfl, (congrArg (AV.int .i64) (show (cnt10 s k.toNat + 1 + 1 : Int) = cnt10 s (k + 1).toNat + 1 from by have := cnt10_T hk0 (by omega) b66; omega)), s58, s59, s60, s61, s62, m63, by omega, by omega⟩
        ·
         refine AWP.condF rfl (decide_eq_false b66) ?_
         refine AWP.skip ?_
         change AWP _ _ _ _ _ _
         refine AWP.region (l := [0, 1, 2]) rfl ?_
         refine AOps.cons rfl rfl (AOp.move (.int .i64 k) rfl s56 ?_)
         refine AOps.cons rfl rfl (AOp.bin (.int .i64 (k + 1)) rfl rfl rfl (iadd (by omega)) ?_)
         refine AOps.cons rfl rfl (AOp.assign (.int .i64 (k + 1)) rfl rfl ?_)
         refine AOps.nil ?_
         exact ⟨_, by omega, k + 1, rfl, rfl, (s57.trans (congrArg (AV.int .i64) (show (cnt10 s k.toNat + 1 : Int) = cnt10 s (k + 1).toNat + 1 from by have := cnt10_F hk0 (by omega) b66; omega))), s58, s59, s60, s61, s62, m63, by omega, by omega⟩
       ·
        refine AWP.condF rfl (decide_eq_false b64) ?_
        refine AWP.exit ?_
        change AWP _ _ _ _ _ _
        refine AWP.seq ?_
        refine AWP.seq ?_
        have hkk : cnt10 s k.toNat = cnt10 s s.size := by rw [show k.toNat = s.size by omega]
        refine AWP.region (l := [0, 1]) rfl ?_
        refine AOps.cons rfl rfl (AOp.move (.int .i64 ((parseR (joinB s t)).2.2)) rfl s62 ?_)
        refine AOps.cons rfl rfl (AOp.bin (.bool (!decide ((parseR (joinB s t)).2.2 = 0))) rfl rfl rfl ine ?_)
        refine AOps.nil ?_
        change AWP _ _ _ _ _ _
        by_cases b67 : (parseR (joinB s t)).2.2 = 0
        ·
         refine AWP.condF rfl (nb (decide_eq_true b67)) ?_
         refine AWP.skip ?_
         change AWP _ _ _ _ _ _
         refine AWP.seq ?_
         refine AWP.region (l := [0, 1, 2, 3, 4, 5, 6, 7, 8, 9, 10, 11, 12]) rfl ?_
         refine AOps.cons rfl rfl (AOp.move (.int .i64 ((parseR s).2.2)) rfl s60 ?_)
         refine AOps.cons rfl rfl (AOp.bin (.bool (decide ((parseR s).2.2 = 0))) rfl rfl rfl ieq ?_)
         refine AOps.cons rfl rfl (AOp.move (.bool (decide ((parseR s).2.2 = 0))) rfl rfl ?_)
         refine AOps.yes rfl rfl rfl rfl rfl rfl rfl (decide_eq_true b52) (AOp.fieldAddrF rfl s59 fl_35_0 ?_)
         refine AOps.yes rfl rfl rfl rfl rfl rfl rfl (decide_eq_true b52) (AOp.fieldAddrF rfl rfl fl_26_4 ?_)
         refine AOps.yes rfl rfl rfl rfl rfl rfl rfl (decide_eq_true b52) (AOp.loadF (.int .i64 ((((parseR s).1).Camera).W)) rfl rfl ty_3 rfl ?_)
         refine AOps.yes rfl rfl rfl rfl rfl rfl rfl (decide_eq_true b52) (AOp.bin (.bool (decide ((((parseR s).1).Camera).W > 0))) rfl rfl rfl rfl ?_)
         refine AOps.cons rfl rfl (AOp.pickT (.bool (decide ((((parseR s).1).Camera).W > 0))) rfl rfl (decide_eq_true b52) rfl ?_)
         refine AOps.cons rfl rfl (AOp.move (.bool (decide ((((parseR s).1).Camera).W > 0))) rfl rfl ?_)
         by_cases b68 : (((parseR s).1).Camera).W > 0
         ·
          refine AOps.no rfl rfl rfl rfl rfl rfl rfl (ble_of (decide_eq_true b68) (by decide)) ?_
          refine AOps.no rfl rfl rfl rfl rfl rfl rfl (ble_of (decide_eq_true b68) (by decide)) ?_
          refine AOps.cons rfl rfl (AOp.pickT (.bool true) rfl rfl (decide_eq_true b68) rfl ?_)
          refine AOps.cons rfl rfl (AOp.assign (.bool true) rfl rfl ?_)
          refine AOps.nil ?_
          change AWP _ _ _ _ _ _
          refine AWP.ret ?_
          refine ⟨_, _, Ghost.refl, .inr rfl, _, Res.one rfl rfl, ?_, m63⟩
          exact rfl
         ·
          refine AOps.yes rfl rfl rfl rfl rfl rfl rfl (decide_eq_false b68) (AOp.move (.int .i64 ((parseR s).2.2)) rfl s60 ?_)
          refine AOps.yes rfl rfl rfl rfl rfl rfl rfl (decide_eq_false b68) (AOp.bin (.bool (decide ((parseR s).2.2 = 15))) rfl rfl rfl ieq ?_)
          refine AOps.cons rfl rfl (AOp.pickF (.bool (decide ((parseR s).2.2 = 15))) rfl rfl (decide_eq_false b68) rfl ?_)
          refine AOps.cons rfl rfl (AOp.assign (.bool (decide ((parseR s).2.2 = 15))) rfl rfl ?_)
          refine AOps.nil ?_
          change AWP _ _ _ _ _ _
          refine AWP.ret ?_
          refine ⟨_, _, Ghost.refl, .inr rfl, _, Res.one rfl rfl, ?_, m63⟩
          exact (congrArg AV.bool (show (decide ((parseR s).2.2 = 15) : Bool) = true from by first | rfl | exact decide_eq_true (by omega) | (exfalso; omega)))
        ·
         refine AWP.condT rfl (nb (decide_eq_false b67)) ?_
         refine AWP.seq ?_
         refine AWP.region (l := [0, 1, 2, 3, 4, 5, 6, 7, 8, 9, 10, 11, 12, 13, 14, 15, 16]) rfl ?_
         refine AOps.cons rfl rfl (AOp.move (.int .i64 ((parseR (joinB s t)).2.1)) rfl s61 ?_)
         refine AOps.cons rfl rfl (AOp.move (.int .i64 (cnt10 s k.toNat + 1)) rfl s57 ?_)
         refine AOps.cons rfl rfl (AOp.bin (.bool (decide ((parseR (joinB s t)).2.1 = cnt10 s k.toNat + 1))) rfl rfl rfl ieq ?_)
         refine AOps.cons rfl rfl (AOp.move (.bool (decide ((parseR (joinB s t)).2.1 = cnt10 s k.toNat + 1))) rfl rfl ?_)
         by_cases b69 : (parseR (joinB s t)).2.1 = cnt10 s k.toNat + 1
         ·
          refine AOps.no rfl rfl rfl rfl rfl rfl rfl (ble_of (decide_eq_true b69) (by decide)) ?_
          refine AOps.no rfl rfl rfl rfl rfl rfl rfl (ble_of (decide_eq_true b69) (by decide)) ?_
          refine AOps.no rfl rfl rfl rfl rfl rfl rfl (ble_of (decide_eq_true b69) (by decide)) ?_
          refine AOps.un rfl rfl rfl rfl rfl rfl rfl ?_
          refine AOps.un rfl rfl rfl rfl rfl rfl rfl ?_
          refine AOps.no rfl rfl rfl rfl rfl rfl rfl (ble_of (decide_eq_true b69) (by decide)) ?_
          refine AOps.no rfl rfl rfl rfl rfl rfl rfl (ble_of (decide_eq_true b69) (by decide)) ?_
          refine AOps.un rfl rfl rfl rfl rfl rfl rfl ?_
          refine AOps.un rfl rfl rfl rfl rfl rfl rfl ?_
          refine AOps.un rfl rfl rfl rfl rfl rfl rfl ?_
          refine AOps.no rfl rfl rfl rfl rfl rfl rfl (ble_of (decide_eq_true b69) (by decide)) ?_
          refine AOps.cons rfl rfl (AOp.pickT (.bool true) rfl rfl (decide_eq_true b69) rfl ?_)
          refine AOps.cons rfl rfl (AOp.assign (.bool true) rfl rfl ?_)
          refine AOps.nil ?_
          change AWP _ _ _ _ _ _
          refine AWP.ret ?_
          refine ⟨_, _, Ghost.refl, .inr rfl, _, Res.one rfl rfl, ?_, m63⟩
          exact rfl
         ·
          refine AOps.yes rfl rfl rfl rfl rfl rfl rfl (decide_eq_false b69) (AOp.move (.int .i64 ((parseR (joinB s t)).2.2)) rfl s62 ?_)
          refine AOps.yes rfl rfl rfl rfl rfl rfl rfl (decide_eq_false b69) (AOp.bin (.bool (decide ((parseR (joinB s t)).2.2 = 15))) rfl rfl rfl ieq ?_)
          refine AOps.yes rfl rfl rfl rfl rfl rfl rfl (decide_eq_false b69) (AOp.move (.bool (decide ((parseR (joinB s t)).2.2 = 15))) rfl rfl ?_)
          by_cases b70 : (parseR (joinB s t)).2.2 = 15
          ·
           refine AOps.yes rfl rfl rfl rfl rfl rfl rfl (decide_eq_true b70) (AOp.move (.int .i64 ((parseR (joinB s t)).2.1)) rfl s61 ?_)
           refine AOps.yes rfl rfl rfl rfl rfl rfl rfl (decide_eq_true b70) (AOp.bin (.bool (decide ((parseR (joinB s t)).2.1 = 0))) rfl rfl rfl ieq ?_)
           refine AOps.yes rfl rfl rfl rfl rfl rfl rfl (decide_eq_false b69) (AOp.pickT (.bool (decide ((parseR (joinB s t)).2.1 = 0))) rfl rfl (decide_eq_true b70) rfl ?_)
           refine AOps.yes rfl rfl rfl rfl rfl rfl rfl (decide_eq_false b69) (AOp.move (.bool (decide ((parseR (joinB s t)).2.1 = 0))) rfl rfl ?_)
           by_cases b71 : (parseR (joinB s t)).2.1 = 0
           ·
            refine AOps.yes rfl rfl rfl rfl rfl rfl rfl (decide_eq_true b71) (AOp.move (.int .i64 ((parseR s).2.2)) rfl s60 ?_)
            refine AOps.yes rfl rfl rfl rfl rfl rfl rfl (decide_eq_true b71) (AOp.move (.int .i64 ((parseR (joinB s t)).2.2)) rfl s62 ?_)
            refine AOps.yes rfl rfl rfl rfl rfl rfl rfl (decide_eq_true b71) (AOp.bin (.bool (decide ((parseR s).2.2 = (parseR (joinB s t)).2.2))) rfl rfl rfl ieq ?_)
            refine AOps.yes rfl rfl rfl rfl rfl rfl rfl (decide_eq_false b69) (AOp.pickT (.bool (decide ((parseR s).2.2 = (parseR (joinB s t)).2.2))) rfl rfl (decide_eq_true b71) rfl ?_)
            refine AOps.cons rfl rfl (AOp.pickF (.bool (decide ((parseR s).2.2 = (parseR (joinB s t)).2.2))) rfl rfl (decide_eq_false b69) rfl ?_)
            refine AOps.cons rfl rfl (AOp.assign (.bool (decide ((parseR s).2.2 = (parseR (joinB s t)).2.2))) rfl rfl ?_)
            refine AOps.nil ?_
            change AWP _ _ _ _ _ _
            refine AWP.ret ?_
            refine ⟨_, _, Ghost.refl, .inr rfl, _, Res.one rfl rfl, ?_, m63⟩
            exact (congrArg AV.bool (show (decide ((parseR s).2.2 = (parseR (joinB s t)).2.2) : Bool) = true from by first | rfl | exact decide_eq_true (by omega) | (exfalso; omega)))
           ·
            refine AOps.no rfl rfl rfl rfl rfl rfl rfl (ble_of (decide_eq_false b71) (by decide)) ?_
            refine AOps.no rfl rfl rfl rfl rfl rfl rfl (ble_of (decide_eq_false b71) (by decide)) ?_
            refine AOps.no rfl rfl rfl rfl rfl rfl rfl (ble_of (decide_eq_false b71) (by decide)) ?_
            refine AOps.yes rfl rfl rfl rfl rfl rfl rfl (decide_eq_false b69) (AOp.pickF (.bool false) rfl rfl (decide_eq_false b71) rfl ?_)
            refine AOps.cons rfl rfl (AOp.pickF (.bool false) rfl rfl (decide_eq_false b69) rfl ?_)
            refine AOps.cons rfl rfl (AOp.assign (.bool false) rfl rfl ?_)
            refine AOps.nil ?_
            change AWP _ _ _ _ _ _
            refine AWP.ret ?_
            refine ⟨_, _, Ghost.refl, .inr rfl, _, Res.one rfl rfl, ?_, m63⟩
            exact (congrArg AV.bool (show (false : Bool) = true from by first | rfl | exact decide_eq_true (by omega) | (exfalso; omega)))
          ·
           refine AOps.no rfl rfl rfl rfl rfl rfl rfl (ble_of (decide_eq_false b70) (by decide)) ?_
           refine AOps.no rfl rfl rfl rfl rfl rfl rfl (ble_of (decide_eq_false b70) (by decide)) ?_
           refine AOps.yes rfl rfl rfl rfl rfl rfl rfl (decide_eq_false b69) (AOp.pickF (.bool false) rfl rfl (decide_eq_false b70) rfl ?_)
           refine AOps.yes rfl rfl rfl rfl rfl rfl rfl (decide_eq_false b69) (AOp.move (.bool false) rfl rfl ?_)
           refine AOps.no rfl rfl rfl rfl rfl rfl rfl (ble_of rfl (by decide)) ?_
           refine AOps.no rfl rfl rfl rfl rfl rfl rfl (ble_of rfl (by decide)) ?_
           refine AOps.no rfl rfl rfl rfl rfl rfl rfl (ble_of rfl (by decide)) ?_
           refine AOps.yes rfl rfl rfl rfl rfl rfl rfl (decide_eq_false b69) (AOp.pickF (.bool false) rfl rfl rfl rfl ?_)
           refine AOps.cons rfl rfl (AOp.pickF (.bool false) rfl rfl (decide_eq_false b69) rfl ?_)
           refine AOps.cons rfl rfl (AOp.assign (.bool false) rfl rfl ?_)
           refine AOps.nil ?_
           change AWP _ _ _ _ _ _
           refine AWP.ret ?_
           refine ⟨_, _, Ghost.refl, .inr rfl, _, Res.one rfl rfl, ?_, m63⟩
           exact (congrArg AV.bool (show (false : Bool) = true from by first | rfl | exact decide_eq_true (by omega) | (exfalso; omega)))
     ·
      refine AOps.yes rfl rfl rfl rfl rfl rfl rfl (nb (decide_eq_false b52)) (AOp.move (.int .i64 ((parseR s).2.2)) rfl rfl ?_)
      refine AOps.yes rfl rfl rfl rfl rfl rfl rfl (nb (decide_eq_false b52)) (AOp.bin (.bool (decide ((parseR s).2.2 = 15))) rfl rfl rfl ieq ?_)
      refine AOps.yes rfl rfl rfl rfl rfl rfl rfl (nb (decide_eq_false b52)) (AOp.move (.bool (decide ((parseR s).2.2 = 15))) rfl rfl ?_)
      by_cases b72 : (parseR s).2.2 = 15
      ·
       refine AOps.yes rfl rfl rfl rfl rfl rfl rfl (decide_eq_true b72) (AOp.move (.int .i64 ((parseR s).2.1)) rfl rfl ?_)
       refine AOps.yes rfl rfl rfl rfl rfl rfl rfl (decide_eq_true b72) (AOp.bin (.bool (decide ((parseR s).2.1 = 0))) rfl rfl rfl ieq ?_)
       refine AOps.yes rfl rfl rfl rfl rfl rfl rfl (nb (decide_eq_false b52)) (AOp.pickT (.bool (decide ((parseR s).2.1 = 0))) rfl rfl (decide_eq_true b72) rfl ?_)
       refine AOps.yes rfl rfl rfl rfl rfl rfl rfl (nb (decide_eq_false b52)) (AOp.not rfl rfl ?_)
       refine AOps.cons rfl rfl (AOp.pickT (.bool (!(decide ((parseR s).2.1 = 0)))) rfl rfl (nb (decide_eq_false b52)) rfl ?_)
       refine AOps.nil ?_
       change AWP _ _ _ _ _ _
       by_cases b73 : (parseR s).2.1 = 0
       ·
        refine AWP.condF rfl (nb (decide_eq_true b73)) ?_
        refine AWP.skip ?_
        change AWP _ _ _ _ _ _
        refine AWP.seq ?_
        refine AWP.region (l := [0]) rfl ?_
        refine AOps.cons rfl rfl (AOp.assign (.int .i64 2) rfl rfl ?_)
        refine AOps.nil ?_
        change AWP _ _ _ _ _ _
        refine AWP.seq ?_
        refine AWP.seq ?_
        refine AWP.region (l := [0]) rfl ?_
        refine AOps.cons rfl rfl (AOp.assign (.int .i64 0) rfl rfl ?_)
        refine AOps.nil ?_
        change AWP _ _ _ _ _ _
        refine AWP.block ?_
        refine AWP.loop (fun q74 fq Hq => ∃ (k : Int), q74 = (((s.size : Int) : Int) - k).toNat ∧ fq 13 = .int .i64 k ∧ fq 12 = .int .i64 (cnt10 s k.toNat + 1) ∧ fq 0 = .str s ∧ fq 6 = .fptr [.int .i64 (((((parseR s).1).Camera).Eye).X), .int .i64 (((((parseR s).1).Camera).Eye).Y), .int .i64 (((((parseR s).1).Camera).Eye).Z), .int .i64 (((((parseR s).1).Camera).First).X), .int .i64 (((((parseR s).1).Camera).First).Y), .int .i64 (((((parseR s).1).Camera).First).Z), .int .i64 (((((parseR s).1).Camera).Right).X), .int .i64 (((((parseR s).1).Camera).Right).Y), .int .i64 (((((parseR s).1).Camera).Right).Z), .int .i64 (((((parseR s).1).Camera).Down).X), .int .i64 (((((parseR s).1).Camera).Down).Y), .int .i64 (((((parseR s).1).Camera).Down).Z), .int .i64 ((((parseR s).1).Camera).W), .int .i64 ((((parseR s).1).Camera).H), .int .i64 ((((parseR s).1).Camera).Grid), .int .i64 ((((parseR s).1).Camera).Depth), .int .i64 ((((parseR s).1).Sky).R), .int .i64 ((((parseR s).1).Sky).G), .int .i64 ((((parseR s).1).Sky).B), .sl (((parseR s).1).Lights).length ((((parseR s).1).Lights).flatMap eLight), .sl (((parseR s).1).Mats).length ((((parseR s).1).Mats).flatMap eMat), .sl (((parseR s).1).Texs).length ((((parseR s).1).Texs).flatMap eTex), .sl (((parseR s).1).Skins).length ((((parseR s).1).Skins).flatMap eSkin), .sl (((parseR s).1).Cages).length ((((parseR s).1).Cages).flatMap eCage)] 0 ∧ fq 8 = .int .i64 ((parseR s).2.2) ∧ fq 10 = .int .i64 ((parseR (joinB s t)).2.1) ∧ fq 11 = .int .i64 ((parseR (joinB s t)).2.2) ∧ Mono H0 Hq ∧ (0 ≤ k) ∧ (k ≤ (s.size : Int))) (k := (((s.size : Int) : Int) - 0).toNat) ?_ ?_
        ·
         exact ⟨0, rfl, rfl, (congrArg (AV.int .i64) (show (2 : Int) = cnt10 s (0 : Int).toNat + 1 from by rfl)), s10, rfl, rfl, rfl, rfl, m50, by omega, by omega⟩
        ·
         rintro _ f76 H75 ⟨k, rfl, s77, s78, s79, s80, s81, s82, s83, m84, hk0, hk1⟩
         have hcr := cnt10_rng2 (s := s) hk0 hk1
         refine AWP.seq ?_
         refine AWP.seq ?_
         refine AWP.region (l := [0, 1, 2, 3]) rfl ?_
         refine AOps.cons rfl rfl (AOp.move (.int .i64 k) rfl s77 ?_)
         refine AOps.cons rfl rfl (AOp.move (.str s) rfl s79 ?_)
         refine AOps.cons rfl rfl (AOp.lenStr rfl rfl u_9 ?_)
         refine AOps.cons rfl rfl (AOp.bin (.bool (decide (k < (s.size : Int)))) rfl rfl rfl rfl ?_)
         refine AOps.nil ?_
         change AWP _ _ _ _ _ _
         by_cases b85 : k < (s.size : Int)
         ·
          refine AWP.condT rfl (decide_eq_true b85) ?_
          refine AWP.skip ?_
          change AWP _ _ _ _ _ _
          refine AWP.seq ?_
          refine AWP.block ?_
          refine AWP.seq ?_
          refine AWP.region (l := [0, 1, 2, 3]) rfl ?_
          refine AOps.cons rfl rfl (AOp.move (.str s) rfl s79 ?_)
          refine AOps.cons rfl rfl (AOp.move (.int .i64 k) rfl s77 ?_)
          have hb86 := byt_rng s k
          refine AOps.cons rfl rfl (AOp.indexB rfl rfl rfl u_9 (by omega) (by omega) ?_)
          refine AOps.cons rfl rfl (AOp.bin (.bool (decide (byt s k = 10))) rfl rfl rfl ieq ?_)
          refine AOps.nil ?_
          change AWP _ _ _ _ _ _
          by_cases b87 : byt s k = 10
          ·
           refine AWP.condT rfl (decide_eq_true b87) ?_
           refine AWP.region (l := [0, 1, 2]) rfl ?_
           refine AOps.cons rfl rfl (AOp.move (.int .i64 (cnt10 s k.toNat + 1)) rfl s78 ?_)
           refine AOps.cons rfl rfl (AOp.bin (.int .i64 (cnt10 s k.toNat + 1 + 1)) rfl rfl rfl (iadd (by omega)) ?_)
           refine AOps.cons rfl rfl (AOp.assign (.int .i64 (cnt10 s k.toNat + 1 + 1)) rfl rfl ?_)
           refine AOps.nil ?_
           change AWP _ _ _ _ _ _
           refine AWP.region (l := [0, 1, 2]) rfl ?_
           refine AOps.cons rfl rfl (AOp.move (.int .i64 k) rfl s77 ?_)
           refine AOps.cons rfl rfl (AOp.bin (.int .i64 (k + 1)) rfl rfl rfl (iadd (by omega)) ?_)
           refine AOps.cons rfl rfl (AOp.assign (.int .i64 (k + 1)) rfl rfl ?_)
           refine AOps.nil ?_
           exact ⟨_, by omega, k + 1, rfl, rfl, (congrArg (AV.int .i64) (show (cnt10 s k.toNat + 1 + 1 : Int) = cnt10 s (k + 1).toNat + 1 from by have := cnt10_T hk0 (by omega) b87; omega)), s79, s80, s81, s82, s83, m84, by omega, by omega⟩
          ·
           refine AWP.condF rfl (decide_eq_false b87) ?_
           refine AWP.skip ?_
           change AWP _ _ _ _ _ _
           refine AWP.region (l := [0, 1, 2]) rfl ?_
           refine AOps.cons rfl rfl (AOp.move (.int .i64 k) rfl s77 ?_)
           refine AOps.cons rfl rfl (AOp.bin (.int .i64 (k + 1)) rfl rfl rfl (iadd (by omega)) ?_)
           refine AOps.cons rfl rfl (AOp.assign (.int .i64 (k + 1)) rfl rfl ?_)
           refine AOps.nil ?_
           exact ⟨_, by omega, k + 1, rfl, rfl, (s78.trans (congrArg (AV.int .i64) (show (cnt10 s k.toNat + 1 : Int) = cnt10 s (k + 1).toNat + 1 from by have := cnt10_F hk0 (by omega) b87; omega))), s79, s80, s81, s82, s83, m84, by omega, by omega⟩
         ·
          refine AWP.condF rfl (decide_eq_false b85) ?_
          refine AWP.exit ?_
          change AWP _ _ _ _ _ _
          refine AWP.seq ?_
          refine AWP.seq ?_
          have hkk : cnt10 s k.toNat = cnt10 s s.size := by rw [show k.toNat = s.size by omega]
          refine AWP.region (l := [0, 1]) rfl ?_
          refine AOps.cons rfl rfl (AOp.move (.int .i64 ((parseR (joinB s t)).2.2)) rfl s83 ?_)
          refine AOps.cons rfl rfl (AOp.bin (.bool (!decide ((parseR (joinB s t)).2.2 = 0))) rfl rfl rfl ine ?_)
          refine AOps.nil ?_
          change AWP _ _ _ _ _ _
          by_cases b88 : (parseR (joinB s t)).2.2 = 0
          ·
           refine AWP.condF rfl (nb (decide_eq_true b88)) ?_
           refine AWP.skip ?_
           change AWP _ _ _ _ _ _
           refine AWP.seq ?_
           refine AWP.region (l := [0, 1, 2, 3, 4, 5, 6, 7, 8, 9, 10, 11, 12]) rfl ?_
           refine AOps.cons rfl rfl (AOp.move (.int .i64 ((parseR s).2.2)) rfl s81 ?_)
           refine AOps.cons rfl rfl (AOp.bin (.bool (decide ((parseR s).2.2 = 0))) rfl rfl rfl ieq ?_)
           refine AOps.cons rfl rfl (AOp.move (.bool (decide ((parseR s).2.2 = 0))) rfl rfl ?_)
           refine AOps.no rfl rfl rfl rfl rfl rfl rfl (ble_of (decide_eq_false b52) (by decide)) ?_
           refine AOps.no rfl rfl rfl rfl rfl rfl rfl (ble_of (decide_eq_false b52) (by decide)) ?_
           refine AOps.no rfl rfl rfl rfl rfl rfl rfl (ble_of (decide_eq_false b52) (by decide)) ?_
           refine AOps.no rfl rfl rfl rfl rfl rfl rfl (ble_of (decide_eq_false b52) (by decide)) ?_
           refine AOps.cons rfl rfl (AOp.pickF (.bool false) rfl rfl (decide_eq_false b52) rfl ?_)
           refine AOps.cons rfl rfl (AOp.move (.bool false) rfl rfl ?_)
           refine AOps.yes rfl rfl rfl rfl rfl rfl rfl rfl (AOp.move (.int .i64 ((parseR s).2.2)) rfl s81 ?_)
           refine AOps.yes rfl rfl rfl rfl rfl rfl rfl rfl (AOp.bin (.bool (decide ((parseR s).2.2 = 15))) rfl rfl rfl ieq ?_)
           refine AOps.cons rfl rfl (AOp.pickF (.bool (decide ((parseR s).2.2 = 15))) rfl rfl rfl rfl ?_)
           refine AOps.cons rfl rfl (AOp.assign (.bool (decide ((parseR s).2.2 = 15))) rfl rfl ?_)
           refine AOps.nil ?_
           change AWP _ _ _ _ _ _
           refine AWP.ret ?_
           refine ⟨_, _, Ghost.refl, .inr rfl, _, Res.one rfl rfl, ?_, m84⟩
           exact (congrArg AV.bool (show (decide ((parseR s).2.2 = 15) : Bool) = true from by first | rfl | exact decide_eq_true (by omega) | (exfalso; omega)))
          ·
           refine AWP.condT rfl (nb (decide_eq_false b88)) ?_
           refine AWP.seq ?_
           refine AWP.region (l := [0, 1, 2, 3, 4, 5, 6, 7, 8, 9, 10, 11, 12, 13, 14, 15, 16]) rfl ?_
           refine AOps.cons rfl rfl (AOp.move (.int .i64 ((parseR (joinB s t)).2.1)) rfl s82 ?_)
           refine AOps.cons rfl rfl (AOp.move (.int .i64 (cnt10 s k.toNat + 1)) rfl s78 ?_)
           refine AOps.cons rfl rfl (AOp.bin (.bool (decide ((parseR (joinB s t)).2.1 = cnt10 s k.toNat + 1))) rfl rfl rfl ieq ?_)
           refine AOps.cons rfl rfl (AOp.move (.bool (decide ((parseR (joinB s t)).2.1 = cnt10 s k.toNat + 1))) rfl rfl ?_)
           by_cases b89 : (parseR (joinB s t)).2.1 = cnt10 s k.toNat + 1
           ·
            refine AOps.no rfl rfl rfl rfl rfl rfl rfl (ble_of (decide_eq_true b89) (by decide)) ?_
            refine AOps.no rfl rfl rfl rfl rfl rfl rfl (ble_of (decide_eq_true b89) (by decide)) ?_
            refine AOps.no rfl rfl rfl rfl rfl rfl rfl (ble_of (decide_eq_true b89) (by decide)) ?_
            refine AOps.un rfl rfl rfl rfl rfl rfl rfl ?_
            refine AOps.un rfl rfl rfl rfl rfl rfl rfl ?_
            refine AOps.no rfl rfl rfl rfl rfl rfl rfl (ble_of (decide_eq_true b89) (by decide)) ?_
            refine AOps.no rfl rfl rfl rfl rfl rfl rfl (ble_of (decide_eq_true b89) (by decide)) ?_
            refine AOps.un rfl rfl rfl rfl rfl rfl rfl ?_
            refine AOps.un rfl rfl rfl rfl rfl rfl rfl ?_
            refine AOps.un rfl rfl rfl rfl rfl rfl rfl ?_
            refine AOps.no rfl rfl rfl rfl rfl rfl rfl (ble_of (decide_eq_true b89) (by decide)) ?_
            refine AOps.cons rfl rfl (AOp.pickT (.bool true) rfl rfl (decide_eq_true b89) rfl ?_)
            refine AOps.cons rfl rfl (AOp.assign (.bool true) rfl rfl ?_)
            refine AOps.nil ?_
            change AWP _ _ _ _ _ _
            refine AWP.ret ?_
            refine ⟨_, _, Ghost.refl, .inr rfl, _, Res.one rfl rfl, ?_, m84⟩
            exact rfl
           ·
            refine AOps.yes rfl rfl rfl rfl rfl rfl rfl (decide_eq_false b89) (AOp.move (.int .i64 ((parseR (joinB s t)).2.2)) rfl s83 ?_)
            refine AOps.yes rfl rfl rfl rfl rfl rfl rfl (decide_eq_false b89) (AOp.bin (.bool (decide ((parseR (joinB s t)).2.2 = 15))) rfl rfl rfl ieq ?_)
            refine AOps.yes rfl rfl rfl rfl rfl rfl rfl (decide_eq_false b89) (AOp.move (.bool (decide ((parseR (joinB s t)).2.2 = 15))) rfl rfl ?_)
            by_cases b90 : (parseR (joinB s t)).2.2 = 15
            ·
             refine AOps.yes rfl rfl rfl rfl rfl rfl rfl (decide_eq_true b90) (AOp.move (.int .i64 ((parseR (joinB s t)).2.1)) rfl s82 ?_)
             refine AOps.yes rfl rfl rfl rfl rfl rfl rfl (decide_eq_true b90) (AOp.bin (.bool (decide ((parseR (joinB s t)).2.1 = 0))) rfl rfl rfl ieq ?_)
             refine AOps.yes rfl rfl rfl rfl rfl rfl rfl (decide_eq_false b89) (AOp.pickT (.bool (decide ((parseR (joinB s t)).2.1 = 0))) rfl rfl (decide_eq_true b90) rfl ?_)
             refine AOps.yes rfl rfl rfl rfl rfl rfl rfl (decide_eq_false b89) (AOp.move (.bool (decide ((parseR (joinB s t)).2.1 = 0))) rfl rfl ?_)
             by_cases b91 : (parseR (joinB s t)).2.1 = 0
             ·
              refine AOps.yes rfl rfl rfl rfl rfl rfl rfl (decide_eq_true b91) (AOp.move (.int .i64 ((parseR s).2.2)) rfl s81 ?_)
              refine AOps.yes rfl rfl rfl rfl rfl rfl rfl (decide_eq_true b91) (AOp.move (.int .i64 ((parseR (joinB s t)).2.2)) rfl s83 ?_)
              refine AOps.yes rfl rfl rfl rfl rfl rfl rfl (decide_eq_true b91) (AOp.bin (.bool (decide ((parseR s).2.2 = (parseR (joinB s t)).2.2))) rfl rfl rfl ieq ?_)
              refine AOps.yes rfl rfl rfl rfl rfl rfl rfl (decide_eq_false b89) (AOp.pickT (.bool (decide ((parseR s).2.2 = (parseR (joinB s t)).2.2))) rfl rfl (decide_eq_true b91) rfl ?_)
              refine AOps.cons rfl rfl (AOp.pickF (.bool (decide ((parseR s).2.2 = (parseR (joinB s t)).2.2))) rfl rfl (decide_eq_false b89) rfl ?_)
              refine AOps.cons rfl rfl (AOp.assign (.bool (decide ((parseR s).2.2 = (parseR (joinB s t)).2.2))) rfl rfl ?_)
              refine AOps.nil ?_
              change AWP _ _ _ _ _ _
              refine AWP.ret ?_
              refine ⟨_, _, Ghost.refl, .inr rfl, _, Res.one rfl rfl, ?_, m84⟩
              exact (congrArg AV.bool (show (decide ((parseR s).2.2 = (parseR (joinB s t)).2.2) : Bool) = true from by first | rfl | exact decide_eq_true (by omega) | (exfalso; omega)))
             ·
              refine AOps.no rfl rfl rfl rfl rfl rfl rfl (ble_of (decide_eq_false b91) (by decide)) ?_
              refine AOps.no rfl rfl rfl rfl rfl rfl rfl (ble_of (decide_eq_false b91) (by decide)) ?_
              refine AOps.no rfl rfl rfl rfl rfl rfl rfl (ble_of (decide_eq_false b91) (by decide)) ?_
              refine AOps.yes rfl rfl rfl rfl rfl rfl rfl (decide_eq_false b89) (AOp.pickF (.bool false) rfl rfl (decide_eq_false b91) rfl ?_)
              refine AOps.cons rfl rfl (AOp.pickF (.bool false) rfl rfl (decide_eq_false b89) rfl ?_)
              refine AOps.cons rfl rfl (AOp.assign (.bool false) rfl rfl ?_)
              refine AOps.nil ?_
              change AWP _ _ _ _ _ _
              refine AWP.ret ?_
              refine ⟨_, _, Ghost.refl, .inr rfl, _, Res.one rfl rfl, ?_, m84⟩
              exact (congrArg AV.bool (show (false : Bool) = true from by first | rfl | exact decide_eq_true (by omega) | (exfalso; omega)))
            ·
             refine AOps.no rfl rfl rfl rfl rfl rfl rfl (ble_of (decide_eq_false b90) (by decide)) ?_
             refine AOps.no rfl rfl rfl rfl rfl rfl rfl (ble_of (decide_eq_false b90) (by decide)) ?_
             refine AOps.yes rfl rfl rfl rfl rfl rfl rfl (decide_eq_false b89) (AOp.pickF (.bool false) rfl rfl (decide_eq_false b90) rfl ?_)
             refine AOps.yes rfl rfl rfl rfl rfl rfl rfl (decide_eq_false b89) (AOp.move (.bool false) rfl rfl ?_)
             refine AOps.no rfl rfl rfl rfl rfl rfl rfl (ble_of rfl (by decide)) ?_
             refine AOps.no rfl rfl rfl rfl rfl rfl rfl (ble_of rfl (by decide)) ?_
             refine AOps.no rfl rfl rfl rfl rfl rfl rfl (ble_of rfl (by decide)) ?_
             refine AOps.yes rfl rfl rfl rfl rfl rfl rfl (decide_eq_false b89) (AOp.pickF (.bool false) rfl rfl rfl rfl ?_)
             refine AOps.cons rfl rfl (AOp.pickF (.bool false) rfl rfl (decide_eq_false b89) rfl ?_)
             refine AOps.cons rfl rfl (AOp.assign (.bool false) rfl rfl ?_)
             refine AOps.nil ?_
             change AWP _ _ _ _ _ _
             refine AWP.ret ?_
             refine ⟨_, _, Ghost.refl, .inr rfl, _, Res.one rfl rfl, ?_, m84⟩
             exact (congrArg AV.bool (show (false : Bool) = true from by first | rfl | exact decide_eq_true (by omega) | (exfalso; omega)))
       ·
        refine AWP.condT rfl (nb (decide_eq_false b73)) ?_
        refine AWP.seq ?_
        refine AWP.region (l := [0, 1, 2, 3, 4, 5, 6, 7, 8, 9, 10, 11, 12, 13, 14, 15, 16]) rfl ?_
        refine AOps.cons rfl rfl (AOp.move (.int .i64 ((parseR (joinB s t)).2.2)) rfl rfl ?_)
        refine AOps.cons rfl rfl (AOp.move (.int .i64 ((parseR s).2.2)) rfl rfl ?_)
        refine AOps.cons rfl rfl (AOp.bin (.bool (decide ((parseR (joinB s t)).2.2 = (parseR s).2.2))) rfl rfl rfl ieq ?_)
        refine AOps.cons rfl rfl (AOp.move (.bool (decide ((parseR (joinB s t)).2.2 = (parseR s).2.2))) rfl rfl ?_)
        by_cases b92 : (parseR (joinB s t)).2.2 = (parseR s).2.2
        ·
         refine AOps.yes rfl rfl rfl rfl rfl rfl rfl (decide_eq_true b92) (AOp.move (.int .i64 ((parseR (joinB s t)).2.1)) rfl rfl ?_)
         refine AOps.yes rfl rfl rfl rfl rfl rfl rfl (decide_eq_true b92) (AOp.move (.int .i64 ((parseR s).2.1)) rfl rfl ?_)
         refine AOps.yes rfl rfl rfl rfl rfl rfl rfl (decide_eq_true b92) (AOp.bin (.bool (decide ((parseR (joinB s t)).2.1 = (parseR s).2.1))) rfl rfl rfl ieq ?_)
         refine AOps.cons rfl rfl (AOp.pickT (.bool (decide ((parseR (joinB s t)).2.1 = (parseR s).2.1))) rfl rfl (decide_eq_true b92) rfl ?_)
         refine AOps.cons rfl rfl (AOp.move (.bool (decide ((parseR (joinB s t)).2.1 = (parseR s).2.1))) rfl rfl ?_)
         by_cases b93 : (parseR (joinB s t)).2.1 = (parseR s).2.1
         ·
          refine AOps.no rfl rfl rfl rfl rfl rfl rfl (ble_of (decide_eq_true b93) (by decide)) ?_
          refine AOps.no rfl rfl rfl rfl rfl rfl rfl (ble_of (decide_eq_true b93) (by decide)) ?_
          refine AOps.cons rfl rfl (AOp.pickT (.bool true) rfl rfl (decide_eq_true b93) rfl ?_)
          refine AOps.cons rfl rfl (AOp.move (.bool true) rfl rfl ?_)
          refine AOps.no rfl rfl rfl rfl rfl rfl rfl (ble_of rfl (by decide)) ?_
          refine AOps.no rfl rfl rfl rfl rfl rfl rfl (ble_of rfl (by decide)) ?_
          refine AOps.cons rfl rfl (AOp.pickT (.bool true) rfl rfl rfl rfl ?_)
          refine AOps.cons rfl rfl (AOp.assign (.bool true) rfl rfl ?_)
          refine AOps.nil ?_
          change AWP _ _ _ _ _ _
          refine AWP.ret ?_
          refine ⟨_, _, Ghost.refl, .inr rfl, _, Res.one rfl rfl, ?_, m50⟩
          exact rfl
         ·
          refine AOps.yes rfl rfl rfl rfl rfl rfl rfl (decide_eq_false b93) (AOp.move (.int .i64 ((parseR (joinB s t)).2.2)) rfl rfl ?_)
          refine AOps.yes rfl rfl rfl rfl rfl rfl rfl (decide_eq_false b93) (AOp.bin (.bool (decide ((parseR (joinB s t)).2.2 = 10))) rfl rfl rfl ieq ?_)
          refine AOps.cons rfl rfl (AOp.pickF (.bool (decide ((parseR (joinB s t)).2.2 = 10))) rfl rfl (decide_eq_false b93) rfl ?_)
          refine AOps.cons rfl rfl (AOp.move (.bool (decide ((parseR (joinB s t)).2.2 = 10))) rfl rfl ?_)
          by_cases b94 : (parseR (joinB s t)).2.2 = 10
          ·
           refine AOps.no rfl rfl rfl rfl rfl rfl rfl (ble_of (decide_eq_true b94) (by decide)) ?_
           refine AOps.no rfl rfl rfl rfl rfl rfl rfl (ble_of (decide_eq_true b94) (by decide)) ?_
           refine AOps.cons rfl rfl (AOp.pickT (.bool true) rfl rfl (decide_eq_true b94) rfl ?_)
           refine AOps.cons rfl rfl (AOp.assign (.bool true) rfl rfl ?_)
           refine AOps.nil ?_
           change AWP _ _ _ _ _ _
           refine AWP.ret ?_
           refine ⟨_, _, Ghost.refl, .inr rfl, _, Res.one rfl rfl, ?_, m50⟩
           exact rfl
          ·
           refine AOps.yes rfl rfl rfl rfl rfl rfl rfl (decide_eq_false b94) (AOp.move (.int .i64 ((parseR (joinB s t)).2.2)) rfl rfl ?_)
           refine AOps.yes rfl rfl rfl rfl rfl rfl rfl (decide_eq_false b94) (AOp.bin (.bool (decide ((parseR (joinB s t)).2.2 = 13))) rfl rfl rfl ieq ?_)
           refine AOps.cons rfl rfl (AOp.pickF (.bool (decide ((parseR (joinB s t)).2.2 = 13))) rfl rfl (decide_eq_false b94) rfl ?_)
           refine AOps.cons rfl rfl (AOp.assign (.bool (decide ((parseR (joinB s t)).2.2 = 13))) rfl rfl ?_)
           refine AOps.nil ?_
           change AWP _ _ _ _ _ _
           refine AWP.ret ?_
           refine ⟨_, _, Ghost.refl, .inr rfl, _, Res.one rfl rfl, ?_, m50⟩
           exact (congrArg AV.bool (show (decide ((parseR (joinB s t)).2.2 = 13) : Bool) = true from by first | rfl | exact decide_eq_true (by omega) | (exfalso; omega)))
        ·
         refine AOps.no rfl rfl rfl rfl rfl rfl rfl (ble_of (decide_eq_false b92) (by decide)) ?_
         refine AOps.no rfl rfl rfl rfl rfl rfl rfl (ble_of (decide_eq_false b92) (by decide)) ?_
         refine AOps.no rfl rfl rfl rfl rfl rfl rfl (ble_of (decide_eq_false b92) (by decide)) ?_
         refine AOps.cons rfl rfl (AOp.pickF (.bool false) rfl rfl (decide_eq_false b92) rfl ?_)
         refine AOps.cons rfl rfl (AOp.move (.bool false) rfl rfl ?_)
         refine AOps.yes rfl rfl rfl rfl rfl rfl rfl rfl (AOp.move (.int .i64 ((parseR (joinB s t)).2.2)) rfl rfl ?_)
         refine AOps.yes rfl rfl rfl rfl rfl rfl rfl rfl (AOp.bin (.bool (decide ((parseR (joinB s t)).2.2 = 10))) rfl rfl rfl ieq ?_)
         refine AOps.cons rfl rfl (AOp.pickF (.bool (decide ((parseR (joinB s t)).2.2 = 10))) rfl rfl rfl rfl ?_)
         refine AOps.cons rfl rfl (AOp.move (.bool (decide ((parseR (joinB s t)).2.2 = 10))) rfl rfl ?_)
         by_cases b95 : (parseR (joinB s t)).2.2 = 10
         ·
          refine AOps.no rfl rfl rfl rfl rfl rfl rfl (ble_of (decide_eq_true b95) (by decide)) ?_
          refine AOps.no rfl rfl rfl rfl rfl rfl rfl (ble_of (decide_eq_true b95) (by decide)) ?_
          refine AOps.cons rfl rfl (AOp.pickT (.bool true) rfl rfl (decide_eq_true b95) rfl ?_)
          refine AOps.cons rfl rfl (AOp.assign (.bool true) rfl rfl ?_)
          refine AOps.nil ?_
          change AWP _ _ _ _ _ _
          refine AWP.ret ?_
          refine ⟨_, _, Ghost.refl, .inr rfl, _, Res.one rfl rfl, ?_, m50⟩
          exact rfl
         ·
          refine AOps.yes rfl rfl rfl rfl rfl rfl rfl (decide_eq_false b95) (AOp.move (.int .i64 ((parseR (joinB s t)).2.2)) rfl rfl ?_)
          refine AOps.yes rfl rfl rfl rfl rfl rfl rfl (decide_eq_false b95) (AOp.bin (.bool (decide ((parseR (joinB s t)).2.2 = 13))) rfl rfl rfl ieq ?_)
          refine AOps.cons rfl rfl (AOp.pickF (.bool (decide ((parseR (joinB s t)).2.2 = 13))) rfl rfl (decide_eq_false b95) rfl ?_)
          refine AOps.cons rfl rfl (AOp.assign (.bool (decide ((parseR (joinB s t)).2.2 = 13))) rfl rfl ?_)
          refine AOps.nil ?_
          change AWP _ _ _ _ _ _
          refine AWP.ret ?_
          refine ⟨_, _, Ghost.refl, .inr rfl, _, Res.one rfl rfl, ?_, m50⟩
          exact (congrArg AV.bool (show (decide ((parseR (joinB s t)).2.2 = 13) : Bool) = true from by first | rfl | exact decide_eq_true (by omega) | (exfalso; omega)))
      ·
       refine AOps.no rfl rfl rfl rfl rfl rfl rfl (ble_of (decide_eq_false b72) (by decide)) ?_
       refine AOps.no rfl rfl rfl rfl rfl rfl rfl (ble_of (decide_eq_false b72) (by decide)) ?_
       refine AOps.yes rfl rfl rfl rfl rfl rfl rfl (nb (decide_eq_false b52)) (AOp.pickF (.bool false) rfl rfl (decide_eq_false b72) rfl ?_)
       refine AOps.yes rfl rfl rfl rfl rfl rfl rfl (nb (decide_eq_false b52)) (AOp.not rfl rfl ?_)
       refine AOps.cons rfl rfl (AOp.pickT (.bool (!false)) rfl rfl (nb (decide_eq_false b52)) rfl ?_)
       refine AOps.nil ?_
       change AWP _ _ _ _ _ _
       refine AWP.condT rfl rfl ?_
       refine AWP.seq ?_
       refine AWP.region (l := [0, 1, 2, 3, 4, 5, 6, 7, 8, 9, 10, 11, 12, 13, 14, 15, 16]) rfl ?_
       refine AOps.cons rfl rfl (AOp.move (.int .i64 ((parseR (joinB s t)).2.2)) rfl rfl ?_)
       refine AOps.cons rfl rfl (AOp.move (.int .i64 ((parseR s).2.2)) rfl rfl ?_)
       refine AOps.cons rfl rfl (AOp.bin (.bool (decide ((parseR (joinB s t)).2.2 = (parseR s).2.2))) rfl rfl rfl ieq ?_)
       refine AOps.cons rfl rfl (AOp.move (.bool (decide ((parseR (joinB s t)).2.2 = (parseR s).2.2))) rfl rfl ?_)
       by_cases b96 : (parseR (joinB s t)).2.2 = (parseR s).2.2
       ·
        refine AOps.yes rfl rfl rfl rfl rfl rfl rfl (decide_eq_true b96) (AOp.move (.int .i64 ((parseR (joinB s t)).2.1)) rfl rfl ?_)
        refine AOps.yes rfl rfl rfl rfl rfl rfl rfl (decide_eq_true b96) (AOp.move (.int .i64 ((parseR s).2.1)) rfl rfl ?_)
        refine AOps.yes rfl rfl rfl rfl rfl rfl rfl (decide_eq_true b96) (AOp.bin (.bool (decide ((parseR (joinB s t)).2.1 = (parseR s).2.1))) rfl rfl rfl ieq ?_)
        refine AOps.cons rfl rfl (AOp.pickT (.bool (decide ((parseR (joinB s t)).2.1 = (parseR s).2.1))) rfl rfl (decide_eq_true b96) rfl ?_)
        refine AOps.cons rfl rfl (AOp.move (.bool (decide ((parseR (joinB s t)).2.1 = (parseR s).2.1))) rfl rfl ?_)
        by_cases b97 : (parseR (joinB s t)).2.1 = (parseR s).2.1
        ·
         refine AOps.no rfl rfl rfl rfl rfl rfl rfl (ble_of (decide_eq_true b97) (by decide)) ?_
         refine AOps.no rfl rfl rfl rfl rfl rfl rfl (ble_of (decide_eq_true b97) (by decide)) ?_
         refine AOps.cons rfl rfl (AOp.pickT (.bool true) rfl rfl (decide_eq_true b97) rfl ?_)
         refine AOps.cons rfl rfl (AOp.move (.bool true) rfl rfl ?_)
         refine AOps.no rfl rfl rfl rfl rfl rfl rfl (ble_of rfl (by decide)) ?_
         refine AOps.no rfl rfl rfl rfl rfl rfl rfl (ble_of rfl (by decide)) ?_
         refine AOps.cons rfl rfl (AOp.pickT (.bool true) rfl rfl rfl rfl ?_)
         refine AOps.cons rfl rfl (AOp.assign (.bool true) rfl rfl ?_)
         refine AOps.nil ?_
         change AWP _ _ _ _ _ _
         refine AWP.ret ?_
         refine ⟨_, _, Ghost.refl, .inr rfl, _, Res.one rfl rfl, ?_, m50⟩
         exact rfl
        ·
         refine AOps.yes rfl rfl rfl rfl rfl rfl rfl (decide_eq_false b97) (AOp.move (.int .i64 ((parseR (joinB s t)).2.2)) rfl rfl ?_)
         refine AOps.yes rfl rfl rfl rfl rfl rfl rfl (decide_eq_false b97) (AOp.bin (.bool (decide ((parseR (joinB s t)).2.2 = 10))) rfl rfl rfl ieq ?_)
         refine AOps.cons rfl rfl (AOp.pickF (.bool (decide ((parseR (joinB s t)).2.2 = 10))) rfl rfl (decide_eq_false b97) rfl ?_)
         refine AOps.cons rfl rfl (AOp.move (.bool (decide ((parseR (joinB s t)).2.2 = 10))) rfl rfl ?_)
         by_cases b98 : (parseR (joinB s t)).2.2 = 10
         ·
          refine AOps.no rfl rfl rfl rfl rfl rfl rfl (ble_of (decide_eq_true b98) (by decide)) ?_
          refine AOps.no rfl rfl rfl rfl rfl rfl rfl (ble_of (decide_eq_true b98) (by decide)) ?_
          refine AOps.cons rfl rfl (AOp.pickT (.bool true) rfl rfl (decide_eq_true b98) rfl ?_)
          refine AOps.cons rfl rfl (AOp.assign (.bool true) rfl rfl ?_)
          refine AOps.nil ?_
          change AWP _ _ _ _ _ _
          refine AWP.ret ?_
          refine ⟨_, _, Ghost.refl, .inr rfl, _, Res.one rfl rfl, ?_, m50⟩
          exact rfl
         ·
          refine AOps.yes rfl rfl rfl rfl rfl rfl rfl (decide_eq_false b98) (AOp.move (.int .i64 ((parseR (joinB s t)).2.2)) rfl rfl ?_)
          refine AOps.yes rfl rfl rfl rfl rfl rfl rfl (decide_eq_false b98) (AOp.bin (.bool (decide ((parseR (joinB s t)).2.2 = 13))) rfl rfl rfl ieq ?_)
          refine AOps.cons rfl rfl (AOp.pickF (.bool (decide ((parseR (joinB s t)).2.2 = 13))) rfl rfl (decide_eq_false b98) rfl ?_)
          refine AOps.cons rfl rfl (AOp.assign (.bool (decide ((parseR (joinB s t)).2.2 = 13))) rfl rfl ?_)
          refine AOps.nil ?_
          change AWP _ _ _ _ _ _
          refine AWP.ret ?_
          refine ⟨_, _, Ghost.refl, .inr rfl, _, Res.one rfl rfl, ?_, m50⟩
          exact (congrArg AV.bool (show (decide ((parseR (joinB s t)).2.2 = 13) : Bool) = true from by first | rfl | exact decide_eq_true (by omega) | (exfalso; omega)))
       ·
        refine AOps.no rfl rfl rfl rfl rfl rfl rfl (ble_of (decide_eq_false b96) (by decide)) ?_
        refine AOps.no rfl rfl rfl rfl rfl rfl rfl (ble_of (decide_eq_false b96) (by decide)) ?_
        refine AOps.no rfl rfl rfl rfl rfl rfl rfl (ble_of (decide_eq_false b96) (by decide)) ?_
        refine AOps.cons rfl rfl (AOp.pickF (.bool false) rfl rfl (decide_eq_false b96) rfl ?_)
        refine AOps.cons rfl rfl (AOp.move (.bool false) rfl rfl ?_)
        refine AOps.yes rfl rfl rfl rfl rfl rfl rfl rfl (AOp.move (.int .i64 ((parseR (joinB s t)).2.2)) rfl rfl ?_)
        refine AOps.yes rfl rfl rfl rfl rfl rfl rfl rfl (AOp.bin (.bool (decide ((parseR (joinB s t)).2.2 = 10))) rfl rfl rfl ieq ?_)
        refine AOps.cons rfl rfl (AOp.pickF (.bool (decide ((parseR (joinB s t)).2.2 = 10))) rfl rfl rfl rfl ?_)
        refine AOps.cons rfl rfl (AOp.move (.bool (decide ((parseR (joinB s t)).2.2 = 10))) rfl rfl ?_)
        by_cases b99 : (parseR (joinB s t)).2.2 = 10
        ·
         refine AOps.no rfl rfl rfl rfl rfl rfl rfl (ble_of (decide_eq_true b99) (by decide)) ?_
         refine AOps.no rfl rfl rfl rfl rfl rfl rfl (ble_of (decide_eq_true b99) (by decide)) ?_
         refine AOps.cons rfl rfl (AOp.pickT (.bool true) rfl rfl (decide_eq_true b99) rfl ?_)
         refine AOps.cons rfl rfl (AOp.assign (.bool true) rfl rfl ?_)
         refine AOps.nil ?_
         change AWP _ _ _ _ _ _
         refine AWP.ret ?_
         refine ⟨_, _, Ghost.refl, .inr rfl, _, Res.one rfl rfl, ?_, m50⟩
         exact rfl
        ·
         refine AOps.yes rfl rfl rfl rfl rfl rfl rfl (decide_eq_false b99) (AOp.move (.int .i64 ((parseR (joinB s t)).2.2)) rfl rfl ?_)
         refine AOps.yes rfl rfl rfl rfl rfl rfl rfl (decide_eq_false b99) (AOp.bin (.bool (decide ((parseR (joinB s t)).2.2 = 13))) rfl rfl rfl ieq ?_)
         refine AOps.cons rfl rfl (AOp.pickF (.bool (decide ((parseR (joinB s t)).2.2 = 13))) rfl rfl (decide_eq_false b99) rfl ?_)
         refine AOps.cons rfl rfl (AOp.assign (.bool (decide ((parseR (joinB s t)).2.2 = 13))) rfl rfl ?_)
         refine AOps.nil ?_
         change AWP _ _ _ _ _ _
         refine AWP.ret ?_
         refine ⟨_, _, Ghost.refl, .inr rfl, _, Res.one rfl rfl, ?_, m50⟩
         exact (congrArg AV.bool (show (decide ((parseR (joinB s t)).2.2 = 13) : Bool) = true from by first | rfl | exact decide_eq_true (by omega) | (exfalso; omega)))
end Go.Proofs.S
