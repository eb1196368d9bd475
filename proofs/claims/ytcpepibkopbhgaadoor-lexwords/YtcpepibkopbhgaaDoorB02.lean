/- A part of the proof that a law answers true for every input of its row: own work, by an AI agent. -/
import Derived.Test.YtcpepibkopbhgaaDoorB01
import Derived.Lib.SplitLaws
import Derived.KernelRfl
set_option linter.unusedSimpArgs false
set_option linter.unusedVariables false
namespace Go.Proofs.L
open Go Go.AH
set_option maxRecDepth 4000
set_option linter.unusedSimpArgs false
set_option linter.unusedVariables false
variable [LexG]
theorem c_lex_Name (s : ByteArray) : PC Tryd.prog 15 [.str s] (.bool (nameB s)) := by
 intro H0
 refine ACalls.of_body' (n := 45) rfl rfl rfl rfl ?_
 have m0 := Mono.refl H0
 refine AWP.seq ?_
 refine AWP.region (l := [0]) rfl ?_
 refine AOps.cons rfl rfl (AOp.assign (.bool false) rfl rfl ?_)
 refine AOps.nil ?_
 change AWP _ _ _ _ _ _
 refine AWP.seq ?_
 refine AWP.seq ?_
 refine AWP.region (l := [0, 1, 2, 3, 4, 5, 6, 7]) rfl ?_
 refine AOps.cons rfl rfl (AOp.move (.str s) rfl rfl ?_)
 refine AOps.cons rfl rfl (AOp.lenStr rfl rfl u_9 ?_)
 refine AOps.cons rfl rfl (AOp.bin (.bool (decide ((s.size : Int) = 0))) rfl rfl rfl ieq ?_)
 refine AOps.cons rfl rfl (AOp.move (.bool (decide ((s.size : Int) = 0))) rfl rfl ?_)
 by_cases b1 : (s.size : Int) = 0
 ·
  refine AOps.no rfl rfl rfl rfl rfl rfl rfl (ble_of (decide_eq_true b1) (by decide)) ?_
  refine AOps.no rfl rfl rfl rfl rfl rfl rfl (ble_of (decide_eq_true b1) (by decide)) ?_
  refine AOps.no rfl rfl rfl rfl rfl rfl rfl (ble_of (decide_eq_true b1) (by decide)) ?_
  refine AOps.cons rfl rfl (AOp.pickT (.bool true) rfl rfl (decide_eq_true b1) rfl ?_)
  refine AOps.nil ?_
  change AWP _ _ _ _ _ _
  refine AWP.condT rfl rfl ?_
  refine AWP.seq ?_
  refine AWP.region (l := [0]) rfl ?_
  refine AOps.cons rfl rfl (AOp.assign (.bool false) rfl rfl ?_)
  refine AOps.nil ?_
  change AWP _ _ _ _ _ _
  refine AWP.ret ?_
  refine ⟨_, _, Ghost.refl, .inr rfl, _, Res.one rfl rfl, ?_, m0⟩
  exact (congrArg AV.bool (show (false : Bool) = nameB s from by first | exact (nameB_size (by omega)).symm | exact (nameB_of (by omega) (by omega) (fun j h1 h2 => pre j h1 (by omega))).symm))
 ·
  refine AOps.yes rfl rfl rfl rfl rfl rfl rfl (decide_eq_false b1) (AOp.move (.str s) rfl rfl ?_)
  refine AOps.yes rfl rfl rfl rfl rfl rfl rfl (decide_eq_false b1) (AOp.lenStr rfl rfl u_9 ?_)
  refine AOps.yes rfl rfl rfl rfl rfl rfl rfl (decide_eq_false b1) (AOp.bin (.bool (decide ((s.size : Int) > 16))) rfl rfl rfl rfl ?_)
  refine AOps.cons rfl rfl (AOp.pickF (.bool (decide ((s.size : Int) > 16))) rfl rfl (decide_eq_false b1) rfl ?_)
  refine AOps.nil ?_
  change AWP _ _ _ _ _ _
  by_cases b2 : (s.size : Int) > 16
  ·
   refine AWP.condT rfl (decide_eq_true b2) ?_
   refine AWP.seq ?_
   refine AWP.region (l := [0]) rfl ?_
   refine AOps.cons rfl rfl (AOp.assign (.bool false) rfl rfl ?_)
   refine AOps.nil ?_
   change AWP _ _ _ _ _ _
   refine AWP.ret ?_
   refine ⟨_, _, Ghost.refl, .inr rfl, _, Res.one rfl rfl, ?_, m0⟩
   exact (congrArg AV.bool (show (false : Bool) = nameB s from by first | exact (nameB_size (by omega)).symm | exact (nameB_of (by omega) (by omega) (fun j h1 h2 => pre j h1 (by omega))).symm))
  ·
   refine AWP.condF rfl (decide_eq_false b2) ?_
   refine AWP.skip ?_
   change AWP _ _ _ _ _ _
   refine AWP.seq ?_
   refine AWP.seq ?_
   refine AWP.region (l := [0, 1]) rfl ?_
   refine AOps.cons rfl rfl (AOp.move (.str s) rfl rfl ?_)
   refine AOps.cons rfl rfl (AOp.rangeS rfl rfl u_9 ?_)
   intro i3 H4 n5 h6 k7
   have z8 := Mono.free m0 n5
   have m9 := Mono.new m0 n5 k7
   refine AOps.nil ?_
   change AWP _ _ _ _ _ _
   refine AWP.block ?_
   refine AWP.loop (fun q10 fq Hq => ∃ (p : Nat), q10 = s.size - p ∧ fq 14 = .it i3 ∧ Hq i3 = some (.iter (.str s p)) ∧ Mono H0 Hq ∧ (∀ j : Int, 0 ≤ j → j < p → okN s j)) (k := s.size - 0) ?_ ?_
   ·
    exact ⟨0, rfl, rfl, h6, m9, by intro j; omega⟩
   ·
    rintro _ f12 H11 ⟨p, rfl, s13, h14, m15, pre⟩
    refine AWP.seq ?_
    refine AWP.region (l := [0, 1]) rfl ?_
    refine AOps.cons rfl rfl (AOp.nextS rfl s13 h14 ?_ ?_)
    ·
     intro hle16
     refine AOps.cons rfl rfl (AOp.extract (.bool false) rfl rfl rfl ?_)
     refine AOps.nil ?_
     change AWP _ _ _ _ _ _
     refine AWP.seq ?_
     refine AWP.condF rfl rfl ?_
     refine AWP.exit ?_
     change AWP _ _ _ _ _ _
     refine AWP.seq ?_
     refine AWP.region (l := [0]) rfl ?_
     refine AOps.cons rfl rfl (AOp.assign (.bool true) rfl rfl ?_)
     refine AOps.nil ?_
     change AWP _ _ _ _ _ _
     refine AWP.ret ?_
     refine ⟨_, _, Ghost.refl, .inr rfl, _, Res.one rfl rfl, ?_, m15⟩
     exact (congrArg AV.bool (show (true : Bool) = nameB s from by first | exact (nameB_size (by omega)).symm | exact (nameB_of (by omega) (by omega) (fun j h1 h2 => pre j h1 (by omega))).symm))
    ·
     intro H17 hlt18 h19 k20
     have m22 := Mono.set m15 z8 k20
     refine AOps.cons rfl rfl (AOp.extract (.bool true) rfl rfl rfl ?_)
     refine AOps.nil ?_
     change AWP _ _ _ _ _ _
     refine AWP.seq ?_
     refine AWP.condT rfl rfl ?_
     refine AWP.skip ?_
     change AWP _ _ _ _ _ _
     refine AWP.block ?_
     refine AWP.seq ?_
     have hw := dec_pos s p
     refine AWP.region (l := [0, 1, 2, 3]) rfl ?_
     refine AOps.cons rfl rfl (AOp.extract (.int .i64 (p : Int)) rfl rfl rfl ?_)
     refine AOps.cons rfl rfl (AOp.extract (.int .i32 ((Utf8.decode s p).1 : Int)) rfl rfl rfl ?_)
     refine AOps.cons rfl rfl (AOp.assign (.int .i64 (p : Int)) rfl rfl ?_)
     refine AOps.cons rfl rfl (AOp.assign (.int .i32 ((Utf8.decode s p).1 : Int)) rfl rfl ?_)
     refine AOps.nil ?_
     change AWP _ _ _ _ _ _
     refine AWP.block ?_
     refine AWP.seq ?_
     refine AWP.region (l := [0, 1, 2, 3, 4, 5, 6]) rfl ?_
     refine AOps.cons rfl rfl (AOp.move (.int .i32 ((Utf8.decode s p).1 : Int)) rfl rfl ?_)
     refine AOps.cons rfl rfl (AOp.bin (.bool (decide (97 ≤ ((Utf8.decode s p).1 : Int)))) rfl rfl rfl rfl ?_)
     refine AOps.cons rfl rfl (AOp.move (.bool (decide (97 ≤ ((Utf8.decode s p).1 : Int)))) rfl rfl ?_)
     by_cases b23 : 97 ≤ ((Utf8.decode s p).1 : Int)
     ·
      refine AOps.yes rfl rfl rfl rfl rfl rfl rfl (decide_eq_true b23) (AOp.move (.int .i32 ((Utf8.decode s p).1 : Int)) rfl rfl ?_)
      refine AOps.yes rfl rfl rfl rfl rfl rfl rfl (decide_eq_true b23) (AOp.bin (.bool (decide (((Utf8.decode s p).1 : Int) ≤ 122))) rfl rfl rfl rfl ?_)
      refine AOps.cons rfl rfl (AOp.pickT (.bool (decide (((Utf8.decode s p).1 : Int) ≤ 122))) rfl rfl (decide_eq_true b23) rfl ?_)
      refine AOps.cons rfl rfl (AOp.assign (.bool (decide (((Utf8.decode s p).1 : Int) ≤ 122))) rfl rfl ?_)
      refine AOps.nil ?_
      change AWP _ _ _ _ _ _
      by_cases b24 : ((Utf8.decode s p).1 : Int) ≤ 122
      ·
       refine AWP.condT rfl (decide_eq_true b24) ?_
       refine AWP.skip ?_
       exact ⟨_, by omega, (p + (Utf8.decode s p).2), rfl, s13, h19, m22, by exact name_step hlt18 pre (by omega)⟩
      ·
       refine AWP.condF rfl (decide_eq_false b24) ?_
       refine AWP.seq ?_
       refine AWP.region (l := [0, 1, 2, 3, 4, 5, 6, 7, 8, 9, 10, 11, 12, 13, 14, 15, 16, 17, 18]) rfl ?_
       refine AOps.cons rfl rfl (AOp.move (.int .i64 (p : Int)) rfl rfl ?_)
       refine AOps.cons rfl rfl (AOp.bin (.bool (decide ((p : Int) > 0))) rfl rfl rfl rfl ?_)
       refine AOps.cons rfl rfl (AOp.move (.bool (decide ((p : Int) > 0))) rfl rfl ?_)
       by_cases b25 : (p : Int) > 0
       ·
        refine AOps.yes rfl rfl rfl rfl rfl rfl rfl (decide_eq_true b25) (AOp.move (.int .i32 ((Utf8.decode s p).1 : Int)) rfl rfl ?_)
        refine AOps.yes rfl rfl rfl rfl rfl rfl rfl (decide_eq_true b25) (AOp.bin (.bool (decide (48 ≤ ((Utf8.decode s p).1 : Int)))) rfl rfl rfl rfl ?_)
        refine AOps.yes rfl rfl rfl rfl rfl rfl rfl (decide_eq_true b25) (AOp.move (.bool (decide (48 ≤ ((Utf8.decode s p).1 : Int)))) rfl rfl ?_)
        by_cases b26 : 48 ≤ ((Utf8.decode s p).1 : Int)
        ·
         refine AOps.yes rfl rfl rfl rfl rfl rfl rfl (decide_eq_true b26) (AOp.move (.int .i32 ((Utf8.decode s p).1 : Int)) rfl rfl ?_)
         refine AOps.yes rfl rfl rfl rfl rfl rfl rfl (decide_eq_true b26) (AOp.bin (.bool (decide (((Utf8.decode s p).1 : Int) ≤ 57))) rfl rfl rfl rfl ?_)
         refine AOps.yes rfl rfl rfl rfl rfl rfl rfl (decide_eq_true b25) (AOp.pickT (.bool (decide (((Utf8.decode s p).1 : Int) ≤ 57))) rfl rfl (decide_eq_true b26) rfl ?_)
         refine AOps.yes rfl rfl rfl rfl rfl rfl rfl (decide_eq_true b25) (AOp.move (.bool (decide (((Utf8.decode s p).1 : Int) ≤ 57))) rfl rfl ?_)
         by_cases b27 : ((Utf8.decode s p).1 : Int) ≤ 57
         ·
          refine AOps.no rfl rfl rfl rfl rfl rfl rfl (ble_of (decide_eq_true b27) (by decide)) ?_
          refine AOps.no rfl rfl rfl rfl rfl rfl rfl (ble_of (decide_eq_true b27) (by decide)) ?_
          refine AOps.yes rfl rfl rfl rfl rfl rfl rfl (decide_eq_true b25) (AOp.pickT (.bool true) rfl rfl (decide_eq_true b27) rfl ?_)
          refine AOps.yes rfl rfl rfl rfl rfl rfl rfl (decide_eq_true b25) (AOp.move (.bool true) rfl rfl ?_)
          refine AOps.no rfl rfl rfl rfl rfl rfl rfl (ble_of rfl (by decide)) ?_
          refine AOps.no rfl rfl rfl rfl rfl rfl rfl (ble_of rfl (by decide)) ?_
          refine AOps.yes rfl rfl rfl rfl rfl rfl rfl (decide_eq_true b25) (AOp.pickT (.bool true) rfl rfl rfl rfl ?_)
          refine AOps.cons rfl rfl (AOp.pickT (.bool true) rfl rfl (decide_eq_true b25) rfl ?_)
          refine AOps.cons rfl rfl (AOp.assign (.bool true) rfl rfl ?_)
          refine AOps.nil ?_
          change AWP _ _ _ _ _ _
          refine AWP.condT rfl rfl ?_
          refine AWP.skip ?_
          exact ⟨_, by omega, (p + (Utf8.decode s p).2), rfl, s13, h19, m22, by exact name_step hlt18 pre (by omega)⟩
         ·
          refine AOps.yes rfl rfl rfl rfl rfl rfl rfl (decide_eq_false b27) (AOp.move (.int .i32 ((Utf8.decode s p).1 : Int)) rfl rfl ?_)
          refine AOps.yes rfl rfl rfl rfl rfl rfl rfl (decide_eq_false b27) (AOp.bin (.bool (decide (((Utf8.decode s p).1 : Int) = 95))) rfl rfl rfl ieq ?_)
          refine AOps.yes rfl rfl rfl rfl rfl rfl rfl (decide_eq_true b25) (AOp.pickF (.bool (decide (((Utf8.decode s p).1 : Int) = 95))) rfl rfl (decide_eq_false b27) rfl ?_)
          refine AOps.yes rfl rfl rfl rfl rfl rfl rfl (decide_eq_true b25) (AOp.move (.bool (decide (((Utf8.decode s p).1 : Int) = 95))) rfl rfl ?_)
          by_cases b28 : ((Utf8.decode s p).1 : Int) = 95
          ·
           refine AOps.no rfl rfl rfl rfl rfl rfl rfl (ble_of (decide_eq_true b28) (by decide)) ?_
           refine AOps.no rfl rfl rfl rfl rfl rfl rfl (ble_of (decide_eq_true b28) (by decide)) ?_
           refine AOps.yes rfl rfl rfl rfl rfl rfl rfl (decide_eq_true b25) (AOp.pickT (.bool true) rfl rfl (decide_eq_true b28) rfl ?_)
           refine AOps.cons rfl rfl (AOp.pickT (.bool true) rfl rfl (decide_eq_true b25) rfl ?_)
           refine AOps.cons rfl rfl (AOp.assign (.bool true) rfl rfl ?_)
           refine AOps.nil ?_
           change AWP _ _ _ _ _ _
           refine AWP.condT rfl rfl ?_
           refine AWP.skip ?_
           exact ⟨_, by omega, (p + (Utf8.decode s p).2), rfl, s13, h19, m22, by exact name_step hlt18 pre (by omega)⟩
          ·
           refine AOps.yes rfl rfl rfl rfl rfl rfl rfl (decide_eq_false b28) (AOp.move (.int .i32 ((Utf8.decode s p).1 : Int)) rfl rfl ?_)
           refine AOps.yes rfl rfl rfl rfl rfl rfl rfl (decide_eq_false b28) (AOp.bin (.bool (decide (((Utf8.decode s p).1 : Int) = 46))) rfl rfl rfl ieq ?_)
           refine AOps.yes rfl rfl rfl rfl rfl rfl rfl (decide_eq_true b25) (AOp.pickF (.bool (decide (((Utf8.decode s p).1 : Int) = 46))) rfl rfl (decide_eq_false b28) rfl ?_)
           refine AOps.cons rfl rfl (AOp.pickT (.bool (decide (((Utf8.decode s p).1 : Int) = 46))) rfl rfl (decide_eq_true b25) rfl ?_)
           refine AOps.cons rfl rfl (AOp.assign (.bool (decide (((Utf8.decode s p).1 : Int) = 46))) rfl rfl ?_)
           refine AOps.nil ?_
           change AWP _ _ _ _ _ _
           by_cases b29 : ((Utf8.decode s p).1 : Int) = 46
           ·
            refine AWP.condT rfl (decide_eq_true b29) ?_
            refine AWP.skip ?_
            exact ⟨_, by omega, (p + (Utf8.decode s p).2), rfl, s13, h19, m22, by exact name_step hlt18 pre (by omega)⟩
           ·
            refine AWP.condF rfl (decide_eq_false b29) ?_
            refine AWP.seq ?_
            refine AWP.region (l := [0]) rfl ?_
            refine AOps.cons rfl rfl (AOp.assign (.bool false) rfl rfl ?_)
            refine AOps.nil ?_
            change AWP _ _ _ _ _ _
            refine AWP.ret ?_
            refine ⟨_, _, Ghost.refl, .inr rfl, _, Res.one rfl rfl, ?_, m22⟩
            exact (congrArg AV.bool (show (false : Bool) = nameB s from by exact (name_no hlt18 (by omega)).symm))
        ·
         refine AOps.no rfl rfl rfl rfl rfl rfl rfl (ble_of (decide_eq_false b26) (by decide)) ?_
         refine AOps.no rfl rfl rfl rfl rfl rfl rfl (ble_of (decide_eq_false b26) (by decide)) ?_
         refine AOps.yes rfl rfl rfl rfl rfl rfl rfl (decide_eq_true b25) (AOp.pickF (.bool false) rfl rfl (decide_eq_false b26) rfl ?_)
         refine AOps.yes rfl rfl rfl rfl rfl rfl rfl (decide_eq_true b25) (AOp.move (.bool false) rfl rfl ?_)
         refine AOps.yes rfl rfl rfl rfl rfl rfl rfl rfl (AOp.move (.int .i32 ((Utf8.decode s p).1 : Int)) rfl rfl ?_)
         refine AOps.yes rfl rfl rfl rfl rfl rfl rfl rfl (AOp.bin (.bool (decide (((Utf8.decode s p).1 : Int) = 95))) rfl rfl rfl ieq ?_)
         refine AOps.yes rfl rfl rfl rfl rfl rfl rfl (decide_eq_true b25) (AOp.pickF (.bool (decide (((Utf8.decode s p).1 : Int) = 95))) rfl rfl rfl rfl ?_)
         refine AOps.yes rfl rfl rfl rfl rfl rfl rfl (decide_eq_true b25) (AOp.move (.bool (decide (((Utf8.decode s p).1 : Int) = 95))) rfl rfl ?_)
         by_cases b30 : ((Utf8.decode s p).1 : Int) = 95
         ·
          refine AOps.no rfl rfl rfl rfl rfl rfl rfl (ble_of (decide_eq_true b30) (by decide)) ?_
          refine AOps.no rfl rfl rfl rfl rfl rfl rfl (ble_of (decide_eq_true b30) (by decide)) ?_
          refine AOps.yes rfl rfl rfl rfl rfl rfl rfl (decide_eq_true b25) (AOp.pickT (.bool true) rfl rfl (decide_eq_true b30) rfl ?_)
          refine AOps.cons rfl rfl (AOp.pickT (.bool true) rfl rfl (decide_eq_true b25) rfl ?_)
          refine AOps.cons rfl rfl (AOp.assign (.bool true) rfl rfl ?_)
          refine AOps.nil ?_
          change AWP _ _ _ _ _ _
          refine AWP.condT rfl rfl ?_
          refine AWP.skip ?_
          exact ⟨_, by omega, (p + (Utf8.decode s p).2), rfl, s13, h19, m22, by exact name_step hlt18 pre (by omega)⟩
         ·
          refine AOps.yes rfl rfl rfl rfl rfl rfl rfl (decide_eq_false b30) (AOp.move (.int .i32 ((Utf8.decode s p).1 : Int)) rfl rfl ?_)
          refine AOps.yes rfl rfl rfl rfl rfl rfl rfl (decide_eq_false b30) (AOp.bin (.bool (decide (((Utf8.decode s p).1 : Int) = 46))) rfl rfl rfl ieq ?_)
          refine AOps.yes rfl rfl rfl rfl rfl rfl rfl (decide_eq_true b25) (AOp.pickF (.bool (decide (((Utf8.decode s p).1 : Int) = 46))) rfl rfl (decide_eq_false b30) rfl ?_)
          refine AOps.cons rfl rfl (AOp.pickT (.bool (decide (((Utf8.decode s p).1 : Int) = 46))) rfl rfl (decide_eq_true b25) rfl ?_)
          refine AOps.cons rfl rfl (AOp.assign (.bool (decide (((Utf8.decode s p).1 : Int) = 46))) rfl rfl ?_)
          refine AOps.nil ?_
          change AWP _ _ _ _ _ _
          by_cases b31 : ((Utf8.decode s p).1 : Int) = 46
          ·
           refine AWP.condT rfl (decide_eq_true b31) ?_
           refine AWP.skip ?_
           exact ⟨_, by omega, (p + (Utf8.decode s p).2), rfl, s13, h19, m22, by exact name_step hlt18 pre (by omega)⟩
          ·
           refine AWP.condF rfl (decide_eq_false b31) ?_
           refine AWP.seq ?_
           refine AWP.region (l := [0]) rfl ?_
           refine AOps.cons rfl rfl (AOp.assign (.bool false) rfl rfl ?_)
           refine AOps.nil ?_
           change AWP _ _ _ _ _ _
           refine AWP.ret ?_
           refine ⟨_, _, Ghost.refl, .inr rfl, _, Res.one rfl rfl, ?_, m22⟩
           exact (congrArg AV.bool (show (false : Bool) = nameB s from by exact (name_no hlt18 (by omega)).symm))
       ·
        refine AOps.no rfl rfl rfl rfl rfl rfl rfl (ble_of (decide_eq_false b25) (by decide)) ?_
        refine AOps.no rfl rfl rfl rfl rfl rfl rfl (ble_of (decide_eq_false b25) (by decide)) ?_
        refine AOps.no rfl rfl rfl rfl rfl rfl rfl (ble_of (decide_eq_false b25) (by decide)) ?_
        refine AOps.un rfl rfl rfl rfl rfl rfl rfl ?_
        refine AOps.un rfl rfl rfl rfl rfl rfl rfl ?_
        refine AOps.no rfl rfl rfl rfl rfl rfl rfl (ble_of (decide_eq_false b25) (by decide)) ?_
        refine AOps.no rfl rfl rfl rfl rfl rfl rfl (ble_of (decide_eq_false b25) (by decide)) ?_
        refine AOps.un rfl rfl rfl rfl rfl rfl rfl ?_
        refine AOps.un rfl rfl rfl rfl rfl rfl rfl ?_
        refine AOps.no rfl rfl rfl rfl rfl rfl rfl (ble_of (decide_eq_false b25) (by decide)) ?_
        refine AOps.no rfl rfl rfl rfl rfl rfl rfl (ble_of (decide_eq_false b25) (by decide)) ?_
        refine AOps.un rfl rfl rfl rfl rfl rfl rfl ?_
        refine AOps.un rfl rfl rfl rfl rfl rfl rfl ?_
        refine AOps.no rfl rfl rfl rfl rfl rfl rfl (ble_of (decide_eq_false b25) (by decide)) ?_
        refine AOps.cons rfl rfl (AOp.pickF (.bool false) rfl rfl (decide_eq_false b25) rfl ?_)
        refine AOps.cons rfl rfl (AOp.assign (.bool false) rfl rfl ?_)
        refine AOps.nil ?_
        change AWP _ _ _ _ _ _
        refine AWP.condF rfl rfl ?_
        refine AWP.seq ?_
        refine AWP.region (l := [0]) rfl ?_
        refine AOps.cons rfl rfl (AOp.assign (.bool false) rfl rfl ?_)
        refine AOps.nil ?_
        change AWP _ _ _ _ _ _
        refine AWP.ret ?_
        refine ⟨_, _, Ghost.refl, .inr rfl, _, Res.one rfl rfl, ?_, m22⟩
        exact (congrArg AV.bool (show (false : Bool) = nameB s from by exact (name_no hlt18 (by omega)).symm))
     ·
      refine AOps.no rfl rfl rfl rfl rfl rfl rfl (ble_of (decide_eq_false b23) (by decide)) ?_
      refine AOps.no rfl rfl rfl rfl rfl rfl rfl (ble_of (decide_eq_false b23) (by decide)) ?_
      refine AOps.cons rfl rfl (AOp.pickF (.bool false) rfl rfl (decide_eq_false b23) rfl ?_)
      refine AOps.cons rfl rfl (AOp.assign (.bool false) rfl rfl ?_)
      refine AOps.nil ?_
      change AWP _ _ _ _ _ _
      refine AWP.condF rfl rfl ?_
      refine AWP.seq ?_
      refine AWP.region (l := [0, 1, 2, 3, 4, 5, 6, 7, 8, 9, 10, 11, 12, 13, 14, 15, 16, 17, 18]) rfl ?_
      refine AOps.cons rfl rfl (AOp.move (.int .i64 (p : Int)) rfl rfl ?_)
      refine AOps.cons rfl rfl (AOp.bin (.bool (decide ((p : Int) > 0))) rfl rfl rfl rfl ?_)
      refine AOps.cons rfl rfl (AOp.move (.bool (decide ((p : Int) > 0))) rfl rfl ?_)
      by_cases b32 : (p : Int) > 0
      ·
       refine AOps.yes rfl rfl rfl rfl rfl rfl rfl (decide_eq_true b32) (AOp.move (.int .i32 ((Utf8.decode s p).1 : Int)) rfl rfl ?_)
       refine AOps.yes rfl rfl rfl rfl rfl rfl rfl (decide_eq_true b32) (AOp.bin (.bool (decide (48 ≤ ((Utf8.decode s p).1 : Int)))) rfl rfl rfl rfl ?_)
       refine AOps.yes rfl rfl rfl rfl rfl rfl rfl (decide_eq_true b32) (AOp.move (.bool (decide (48 ≤ ((Utf8.decode s p).1 : Int)))) rfl rfl ?_)
       by_cases b33 : 48 ≤ ((Utf8.decode s p).1 : Int)
       ·
        refine AOps.yes rfl rfl rfl rfl rfl rfl rfl (decide_eq_true b33) (AOp.move (.int .i32 ((Utf8.decode s p).1 : Int)) rfl rfl ?_)
        refine AOps.yes rfl rfl rfl rfl rfl rfl rfl (decide_eq_true b33) (AOp.bin (.bool (decide (((Utf8.decode s p).1 : Int) ≤ 57))) rfl rfl rfl rfl ?_)
        refine AOps.yes rfl rfl rfl rfl rfl rfl rfl (decide_eq_true b32) (AOp.pickT (.bool (decide (((Utf8.decode s p).1 : Int) ≤ 57))) rfl rfl (decide_eq_true b33) rfl ?_)
        refine AOps.yes rfl rfl rfl rfl rfl rfl rfl (decide_eq_true b32) (AOp.move (.bool (decide (((Utf8.decode s p).1 : Int) ≤ 57))) rfl rfl ?_)
        by_cases b34 : ((Utf8.decode s p).1 : Int) ≤ 57
        ·
         refine AOps.no rfl rfl rfl rfl rfl rfl rfl (ble_of (decide_eq_true b34) (by decide)) ?_
         refine AOps.no rfl rfl rfl rfl rfl rfl rfl (ble_of (decide_eq_true b34) (by decide)) ?_
         refine AOps.yes rfl rfl rfl rfl rfl rfl rfl (decide_eq_true b32) (AOp.pickT (.bool true) rfl rfl (decide_eq_true b34) rfl ?_)
         refine AOps.yes rfl rfl rfl rfl rfl rfl rfl (decide_eq_true b32) (AOp.move (.bool true) rfl rfl ?_)
         refine AOps.no rfl rfl rfl rfl rfl rfl rfl (ble_of rfl (by decide)) ?_
         refine AOps.no rfl rfl rfl rfl rfl rfl rfl (ble_of rfl (by decide)) ?_
         refine AOps.yes rfl rfl rfl rfl rfl rfl rfl (decide_eq_true b32) (AOp.pickT (.bool true) rfl rfl rfl rfl ?_)
         refine AOps.cons rfl rfl (AOp.pickT (.bool true) rfl rfl (decide_eq_true b32) rfl ?_)
         refine AOps.cons rfl rfl (AOp.assign (.bool true) rfl rfl ?_)
         refine AOps.nil ?_
         change AWP _ _ _ _ _ _
         refine AWP.condT rfl rfl ?_
         refine AWP.skip ?_
         exact ⟨_, by omega, (p + (Utf8.decode s p).2), rfl, s13, h19, m22, by exact name_step hlt18 pre (by omega)⟩
        ·
         refine AOps.yes rfl rfl rfl rfl rfl rfl rfl (decide_eq_false b34) (AOp.move (.int .i32 ((Utf8.decode s p).1 : Int)) rfl rfl ?_)
         refine AOps.yes rfl rfl rfl rfl rfl rfl rfl (decide_eq_false b34) (AOp.bin (.bool (decide (((Utf8.decode s p).1 : Int) = 95))) rfl rfl rfl ieq ?_)
         refine AOps.yes rfl rfl rfl rfl rfl rfl rfl (decide_eq_true b32) (AOp.pickF (.bool (decide (((Utf8.decode s p).1 : Int) = 95))) rfl rfl (decide_eq_false b34) rfl ?_)
         refine AOps.yes rfl rfl rfl rfl rfl rfl rfl (decide_eq_true b32) (AOp.move (.bool (decide (((Utf8.decode s p).1 : Int) = 95))) rfl rfl ?_)
         by_cases b35 : ((Utf8.decode s p).1 : Int) = 95
         ·
          refine AOps.no rfl rfl rfl rfl rfl rfl rfl (ble_of (decide_eq_true b35) (by decide)) ?_
          refine AOps.no rfl rfl rfl rfl rfl rfl rfl (ble_of (decide_eq_true b35) (by decide)) ?_
          refine AOps.yes rfl rfl rfl rfl rfl rfl rfl (decide_eq_true b32) (AOp.pickT (.bool true) rfl rfl (decide_eq_true b35) rfl ?_)
          refine AOps.cons rfl rfl (AOp.pickT (.bool true) rfl rfl (decide_eq_true b32) rfl ?_)
          refine AOps.cons rfl rfl (AOp.assign (.bool true) rfl rfl ?_)
          refine AOps.nil ?_
          change AWP _ _ _ _ _ _
          refine AWP.condT rfl rfl ?_
          refine AWP.skip ?_
          exact ⟨_, by omega, (p + (Utf8.decode s p).2), rfl, s13, h19, m22, by exact name_step hlt18 pre (by omega)⟩
         ·
          refine AOps.yes rfl rfl rfl rfl rfl rfl rfl (decide_eq_false b35) (AOp.move (.int .i32 ((Utf8.decode s p).1 : Int)) rfl rfl ?_)
          refine AOps.yes rfl rfl rfl rfl rfl rfl rfl (decide_eq_false b35) (AOp.bin (.bool (decide (((Utf8.decode s p).1 : Int) = 46))) rfl rfl rfl ieq ?_)
          refine AOps.yes rfl rfl rfl rfl rfl rfl rfl (decide_eq_true b32) (AOp.pickF (.bool (decide (((Utf8.decode s p).1 : Int) = 46))) rfl rfl (decide_eq_false b35) rfl ?_)
          refine AOps.cons rfl rfl (AOp.pickT (.bool (decide (((Utf8.decode s p).1 : Int) = 46))) rfl rfl (decide_eq_true b32) rfl ?_)
          refine AOps.cons rfl rfl (AOp.assign (.bool (decide (((Utf8.decode s p).1 : Int) = 46))) rfl rfl ?_)
          refine AOps.nil ?_
          change AWP _ _ _ _ _ _
          by_cases b36 : ((Utf8.decode s p).1 : Int) = 46
          ·
           refine AWP.condT rfl (decide_eq_true b36) ?_
           refine AWP.skip ?_
           exact ⟨_, by omega, (p + (Utf8.decode s p).2), rfl, s13, h19, m22, by exact name_step hlt18 pre (by omega)⟩
          ·
           refine AWP.condF rfl (decide_eq_false b36) ?_
           refine AWP.seq ?_
           refine AWP.region (l := [0]) rfl ?_
           refine AOps.cons rfl rfl (AOp.assign (.bool false) rfl rfl ?_)
           refine AOps.nil ?_
           change AWP _ _ _ _ _ _
           refine AWP.ret ?_
           refine ⟨_, _, Ghost.refl, .inr rfl, _, Res.one rfl rfl, ?_, m22⟩
           exact (congrArg AV.bool (show (false : Bool) = nameB s from by exact (name_no hlt18 (by omega)).symm))
       ·
        refine AOps.no rfl rfl rfl rfl rfl rfl rfl (ble_of (decide_eq_false b33) (by decide)) ?_
        refine AOps.no rfl rfl rfl rfl rfl rfl rfl (ble_of (decide_eq_false b33) (by decide)) ?_
        refine AOps.yes rfl rfl rfl rfl rfl rfl rfl (decide_eq_true b32) (AOp.pickF (.bool false) rfl rfl (decide_eq_false b33) rfl ?_)
        refine AOps.yes rfl rfl rfl rfl rfl rfl rfl (decide_eq_true b32) (AOp.move (.bool false) rfl rfl ?_)
        refine AOps.yes rfl rfl rfl rfl rfl rfl rfl rfl (AOp.move (.int .i32 ((Utf8.decode s p).1 : Int)) rfl rfl ?_)
        refine AOps.yes rfl rfl rfl rfl rfl rfl rfl rfl (AOp.bin (.bool (decide (((Utf8.decode s p).1 : Int) = 95))) rfl rfl rfl ieq ?_)
        refine AOps.yes rfl rfl rfl rfl rfl rfl rfl (decide_eq_true b32) (AOp.pickF (.bool (decide (((Utf8.decode s p).1 : Int) = 95))) rfl rfl rfl rfl ?_)
        refine AOps.yes rfl rfl rfl rfl rfl rfl rfl (decide_eq_true b32) (AOp.move (.bool (decide (((Utf8.decode s p).1 : Int) = 95))) rfl rfl ?_)
        by_cases b37 : ((Utf8.decode s p).1 : Int) = 95
        ·
         refine AOps.no rfl rfl rfl rfl rfl rfl rfl (ble_of (decide_eq_true b37) (by decide)) ?_
         refine AOps.no rfl rfl rfl rfl rfl rfl rfl (ble_of (decide_eq_true b37) (by decide)) ?_
         refine AOps.yes rfl rfl rfl rfl rfl rfl rfl (decide_eq_true b32) (AOp.pickT (.bool true) rfl rfl (decide_eq_true b37) rfl ?_)
         refine AOps.cons rfl rfl (AOp.pickT (.bool true) rfl rfl (decide_eq_true b32) rfl ?_)
         refine AOps.cons rfl rfl (AOp.assign (.bool true) rfl rfl ?_)
         refine AOps.nil ?_
         change AWP _ _ _ _ _ _
         refine AWP.condT rfl rfl ?_
         refine AWP.skip ?_
         exact ⟨_, by omega, (p + (Utf8.decode s p).2), rfl, s13, h19, m22, by exact name_step hlt18 pre (by omega)⟩
        ·
         refine AOps.yes rfl rfl rfl rfl rfl rfl rfl (decide_eq_false b37) (AOp.move (.int .i32 ((Utf8.decode s p).1 : Int)) rfl rfl ?_)
         refine AOps.yes rfl rfl rfl rfl rfl rfl rfl (decide_eq_false b37) (AOp.bin (.bool (decide (((Utf8.decode s p).1 : Int) = 46))) rfl rfl rfl ieq ?_)
         refine AOps.yes rfl rfl rfl rfl rfl rfl rfl (decide_eq_true b32) (AOp.pickF (.bool (decide (((Utf8.decode s p).1 : Int) = 46))) rfl rfl (decide_eq_false b37) rfl ?_)
         refine AOps.cons rfl rfl (AOp.pickT (.bool (decide (((Utf8.decode s p).1 : Int) = 46))) rfl rfl (decide_eq_true b32) rfl ?_)
         refine AOps.cons rfl rfl (AOp.assign (.bool (decide (((Utf8.decode s p).1 : Int) = 46))) rfl rfl ?_)
         refine AOps.nil ?_
         change AWP _ _ _ _ _ _
         by_cases b38 : ((Utf8.decode s p).1 : Int) = 46
         ·
          refine AWP.condT rfl (decide_eq_true b38) ?_
          refine AWP.skip ?_
          exact ⟨_, by omega, (p + (Utf8.decode s p).2), rfl, s13, h19, m22, by exact name_step hlt18 pre (by omega)⟩
         ·
          refine AWP.condF rfl (decide_eq_false b38) ?_
          refine AWP.seq ?_
          refine AWP.region (l := [0]) rfl ?_
          refine AOps.cons rfl rfl (AOp.assign (.bool false) rfl rfl ?_)
          refine AOps.nil ?_
          change AWP _ _ _ _ _ _
          refine AWP.ret ?_
          refine ⟨_, _, Ghost.refl, .inr rfl, _, Res.one rfl rfl, ?_, m22⟩
          exact (congrArg AV.bool (show (false : Bool) = nameB s from by exact (name_no hlt18 (by omega)).symm))
      ·
       refine AOps.no rfl rfl rfl rfl rfl rfl rfl (ble_of (decide_eq_false b32) (by decide)) ?_
       refine AOps.no rfl rfl rfl rfl rfl rfl rfl (ble_of (decide_eq_false b32) (by decide)) ?_
       refine AOps.no rfl rfl rfl rfl rfl rfl rfl (ble_of (decide_eq_false b32) (by decide)) ?_
       refine AOps.un rfl rfl rfl rfl rfl rfl rfl ?_
       refine AOps.un rfl rfl rfl rfl rfl rfl rfl ?_
       refine AOps.no rfl rfl rfl rfl rfl rfl rfl (ble_of (decide_eq_false b32) (by decide)) ?_
       refine AOps.no rfl rfl rfl rfl rfl rfl rfl (ble_of (decide_eq_false b32) (by decide)) ?_
       refine AOps.un rfl rfl rfl rfl rfl rfl rfl ?_
       refine AOps.un rfl rfl rfl rfl rfl rfl rfl ?_
       refine AOps.no rfl rfl rfl rfl rfl rfl rfl (ble_of (decide_eq_false b32) (by decide)) ?_
       refine AOps.no rfl rfl rfl rfl rfl rfl rfl (ble_of (decide_eq_false b32) (by decide)) ?_
       refine AOps.un rfl rfl rfl rfl rfl rfl rfl ?_
       refine AOps.un rfl rfl rfl rfl rfl rfl rfl ?_
       refine AOps.no rfl rfl rfl rfl rfl rfl rfl (ble_of (decide_eq_false b32) (by decide)) ?_
       refine AOps.cons rfl rfl (AOp.pickF (.bool false) rfl rfl (decide_eq_false b32) rfl ?_)
       refine AOps.cons rfl rfl (AOp.assign (.bool false) rfl rfl ?_)
       refine AOps.nil ?_
       change AWP _ _ _ _ _ _
       refine AWP.condF rfl rfl ?_
       refine AWP.seq ?_
       refine AWP.region (l := [0]) rfl ?_
       refine AOps.cons rfl rfl (AOp.assign (.bool false) rfl rfl ?_)
       refine AOps.nil ?_
       change AWP _ _ _ _ _ _
       refine AWP.ret ?_
       refine ⟨_, _, Ghost.refl, .inr rfl, _, Res.one rfl rfl, ?_, m22⟩
       exact (congrArg AV.bool (show (false : Bool) = nameB s from by exact (name_no hlt18 (by omega)).symm))
theorem c_ref_Name (s : ByteArray) : PC Tryd.prog 16 [.str s] (.bool (nameB s)) := by
 intro H0
 refine ACalls.of_body' (n := 54) rfl rfl rfl rfl ?_
 have m0 := Mono.refl H0
 refine AWP.seq ?_
 refine AWP.region (l := [0]) rfl ?_
 refine AOps.cons rfl rfl (AOp.assign (.bool false) rfl rfl ?_)
 refine AOps.nil ?_
 change AWP _ _ _ _ _ _
 refine AWP.seq ?_
 refine AWP.seq ?_
 refine AWP.region (l := [0, 1, 2, 3, 4, 5, 6, 7]) rfl ?_
 refine AOps.cons rfl rfl (AOp.move (.str s) rfl rfl ?_)
 refine AOps.cons rfl rfl (AOp.lenStr rfl rfl u_9 ?_)
 refine AOps.cons rfl rfl (AOp.bin (.bool (decide ((s.size : Int) < 1))) rfl rfl rfl rfl ?_)
 refine AOps.cons rfl rfl (AOp.move (.bool (decide ((s.size : Int) < 1))) rfl rfl ?_)
 by_cases b1 : (s.size : Int) < 1
 ·
  refine AOps.no rfl rfl rfl rfl rfl rfl rfl (ble_of (decide_eq_true b1) (by decide)) ?_
  refine AOps.no rfl rfl rfl rfl rfl rfl rfl (ble_of (decide_eq_true b1) (by decide)) ?_
  refine AOps.no rfl rfl rfl rfl rfl rfl rfl (ble_of (decide_eq_true b1) (by decide)) ?_
  refine AOps.cons rfl rfl (AOp.pickT (.bool true) rfl rfl (decide_eq_true b1) rfl ?_)
  refine AOps.nil ?_
  change AWP _ _ _ _ _ _
  refine AWP.condT rfl rfl ?_
  refine AWP.seq ?_
  refine AWP.region (l := [0]) rfl ?_
  refine AOps.cons rfl rfl (AOp.assign (.bool false) rfl rfl ?_)
  refine AOps.nil ?_
  change AWP _ _ _ _ _ _
  refine AWP.ret ?_
  refine ⟨_, _, Ghost.refl, .inr rfl, _, Res.one rfl rfl, ?_, m0⟩
  exact (congrArg AV.bool (show (false : Bool) = nameB s from by first | exact (nameB_size (by omega)).symm | exact (nameB_of (by omega) (by omega) (fun j h1 h2 => pre j h1 (by omega))).symm))
 ·
  refine AOps.yes rfl rfl rfl rfl rfl rfl rfl (decide_eq_false b1) (AOp.move (.str s) rfl rfl ?_)
  refine AOps.yes rfl rfl rfl rfl rfl rfl rfl (decide_eq_false b1) (AOp.lenStr rfl rfl u_9 ?_)
  refine AOps.yes rfl rfl rfl rfl rfl rfl rfl (decide_eq_false b1) (AOp.bin (.bool (decide ((s.size : Int) > 16))) rfl rfl rfl rfl ?_)
  refine AOps.cons rfl rfl (AOp.pickF (.bool (decide ((s.size : Int) > 16))) rfl rfl (decide_eq_false b1) rfl ?_)
  refine AOps.nil ?_
  change AWP _ _ _ _ _ _
  by_cases b2 : (s.size : Int) > 16
  ·
   refine AWP.condT rfl (decide_eq_true b2) ?_
   refine AWP.seq ?_
   refine AWP.region (l := [0]) rfl ?_
   refine AOps.cons rfl rfl (AOp.assign (.bool false) rfl rfl ?_)
   refine AOps.nil ?_
   change AWP _ _ _ _ _ _
   refine AWP.ret ?_
   refine ⟨_, _, Ghost.refl, .inr rfl, _, Res.one rfl rfl, ?_, m0⟩
   exact (congrArg AV.bool (show (false : Bool) = nameB s from by first | exact (nameB_size (by omega)).symm | exact (nameB_of (by omega) (by omega) (fun j h1 h2 => pre j h1 (by omega))).symm))
  ·
   refine AWP.condF rfl (decide_eq_false b2) ?_
   refine AWP.skip ?_
   change AWP _ _ _ _ _ _
   refine AWP.seq ?_
   refine AWP.seq ?_
   refine AWP.region (l := [0]) rfl ?_
   refine AOps.cons rfl rfl (AOp.assign (.int .i64 0) rfl rfl ?_)
   refine AOps.nil ?_
   change AWP _ _ _ _ _ _
   refine AWP.block ?_
   refine AWP.loop (fun q3 fq Hq => ∃ (i : Int), q3 = ((s.size : Int) - i).toNat ∧ fq 3 = .int .i64 i ∧ fq 0 = .str s ∧ Mono H0 Hq ∧ (0 ≤ i) ∧ (i ≤ s.size) ∧ (∀ j : Int, 0 ≤ j → j < i → okN s j)) (k := ((s.size : Int) - 0).toNat) ?_ ?_
   ·
    exact ⟨0, rfl, rfl, rfl, m0, by omega, by omega, by intro j; omega⟩
   ·
    rintro _ f5 H4 ⟨i, rfl, s6, s7, m8, hi0, hi1, pre⟩
    refine AWP.seq ?_
    refine AWP.seq ?_
    refine AWP.region (l := [0, 1, 2, 3]) rfl ?_
    refine AOps.cons rfl rfl (AOp.move (.int .i64 i) rfl s6 ?_)
    refine AOps.cons rfl rfl (AOp.move (.str s) rfl s7 ?_)
    refine AOps.cons rfl rfl (AOp.lenStr rfl rfl u_9 ?_)
    refine AOps.cons rfl rfl (AOp.bin (.bool (decide (i < (s.size : Int)))) rfl rfl rfl rfl ?_)
    refine AOps.nil ?_
    change AWP _ _ _ _ _ _
    by_cases b9 : i < (s.size : Int)
    ·
     refine AWP.condT rfl (decide_eq_true b9) ?_
     refine AWP.skip ?_
     change AWP _ _ _ _ _ _
     refine AWP.seq ?_
     refine AWP.block ?_
     refine AWP.seq ?_
     refine AWP.region (l := [0, 1, 2, 3]) rfl ?_
     refine AOps.cons rfl rfl (AOp.move (.str s) rfl s7 ?_)
     refine AOps.cons rfl rfl (AOp.move (.int .i64 i) rfl s6 ?_)
     have hb10 := byt_rng s i
     refine AOps.cons rfl rfl (AOp.indexB rfl rfl rfl u_9 (by omega) (by omega) ?_)
     refine AOps.cons rfl rfl (AOp.assign (.int .u8 (byt s i)) rfl rfl ?_)
     refine AOps.nil ?_
     change AWP _ _ _ _ _ _
     refine AWP.seq ?_
     refine AWP.region (l := [0, 1, 2, 3, 4, 5, 6]) rfl ?_
     refine AOps.cons rfl rfl (AOp.move (.int .u8 (byt s i)) rfl rfl ?_)
     refine AOps.cons rfl rfl (AOp.bin (.bool (decide (byt s i ≥ 97))) rfl rfl rfl rfl ?_)
     refine AOps.cons rfl rfl (AOp.move (.bool (decide (byt s i ≥ 97))) rfl rfl ?_)
     by_cases b11 : byt s i ≥ 97
     ·
      refine AOps.yes rfl rfl rfl rfl rfl rfl rfl (decide_eq_true b11) (AOp.move (.int .u8 (byt s i)) rfl rfl ?_)
      refine AOps.yes rfl rfl rfl rfl rfl rfl rfl (decide_eq_true b11) (AOp.bin (.bool (decide (byt s i ≤ 122))) rfl rfl rfl rfl ?_)
      refine AOps.cons rfl rfl (AOp.pickT (.bool (decide (byt s i ≤ 122))) rfl rfl (decide_eq_true b11) rfl ?_)
      refine AOps.cons rfl rfl (AOp.assign (.bool (decide (byt s i ≤ 122))) rfl rfl ?_)
      refine AOps.nil ?_
      change AWP _ _ _ _ _ _
      refine AWP.seq ?_
      refine AWP.region (l := [0, 1, 2, 3, 4, 5, 6, 7, 8, 9, 10, 11, 12, 13, 14]) rfl ?_
      refine AOps.cons rfl rfl (AOp.move (.int .u8 (byt s i)) rfl rfl ?_)
      refine AOps.cons rfl rfl (AOp.bin (.bool (decide (byt s i ≥ 48))) rfl rfl rfl rfl ?_)
      refine AOps.cons rfl rfl (AOp.move (.bool (decide (byt s i ≥ 48))) rfl rfl ?_)
      by_cases b12 : byt s i ≥ 48
      ·
       refine AOps.yes rfl rfl rfl rfl rfl rfl rfl (decide_eq_true b12) (AOp.move (.int .u8 (byt s i)) rfl rfl ?_)
       refine AOps.yes rfl rfl rfl rfl rfl rfl rfl (decide_eq_true b12) (AOp.bin (.bool (decide (byt s i ≤ 57))) rfl rfl rfl rfl ?_)
       refine AOps.cons rfl rfl (AOp.pickT (.bool (decide (byt s i ≤ 57))) rfl rfl (decide_eq_true b12) rfl ?_)
       refine AOps.cons rfl rfl (AOp.move (.bool (decide (byt s i ≤ 57))) rfl rfl ?_)
       by_cases b13 : byt s i ≤ 57
       ·
        refine AOps.no rfl rfl rfl rfl rfl rfl rfl (ble_of (decide_eq_true b13) (by decide)) ?_
        refine AOps.no rfl rfl rfl rfl rfl rfl rfl (ble_of (decide_eq_true b13) (by decide)) ?_
        refine AOps.cons rfl rfl (AOp.pickT (.bool true) rfl rfl (decide_eq_true b13) rfl ?_)
        refine AOps.cons rfl rfl (AOp.move (.bool true) rfl rfl ?_)
        refine AOps.no rfl rfl rfl rfl rfl rfl rfl (ble_of rfl (by decide)) ?_
        refine AOps.no rfl rfl rfl rfl rfl rfl rfl (ble_of rfl (by decide)) ?_
        refine AOps.cons rfl rfl (AOp.pickT (.bool true) rfl rfl rfl rfl ?_)
        refine AOps.cons rfl rfl (AOp.assign (.bool true) rfl rfl ?_)
        refine AOps.nil ?_
        change AWP _ _ _ _ _ _
        refine AWP.seq ?_
        refine AWP.region (l := [0, 1, 2, 3, 4, 5, 6, 7, 8, 9]) rfl ?_
        refine AOps.cons rfl rfl (AOp.move (.bool (decide (byt s i ≤ 122))) rfl rfl ?_)
        refine AOps.cons rfl rfl (AOp.not rfl rfl ?_)
        refine AOps.cons rfl rfl (AOp.move (.bool (!(decide (byt s i ≤ 122)))) rfl rfl ?_)
        by_cases b14 : byt s i ≤ 122
        ·
         refine AOps.no rfl rfl rfl rfl rfl rfl rfl (ble_of (nb (decide_eq_true b14)) (by decide)) ?_
         refine AOps.no rfl rfl rfl rfl rfl rfl rfl (ble_of (nb (decide_eq_true b14)) (by decide)) ?_
         refine AOps.no rfl rfl rfl rfl rfl rfl rfl (ble_of (nb (decide_eq_true b14)) (by decide)) ?_
         refine AOps.un rfl rfl rfl rfl rfl rfl rfl ?_
         refine AOps.un rfl rfl rfl rfl rfl rfl rfl ?_
         refine AOps.no rfl rfl rfl rfl rfl rfl rfl (ble_of (nb (decide_eq_true b14)) (by decide)) ?_
         refine AOps.cons rfl rfl (AOp.pickF (.bool false) rfl rfl (nb (decide_eq_true b14)) rfl ?_)
         refine AOps.nil ?_
         change AWP _ _ _ _ _ _
         refine AWP.condF rfl rfl ?_
         refine AWP.skip ?_
         change AWP _ _ _ _ _ _
         refine AWP.region (l := [0, 1, 2]) rfl ?_
         refine AOps.cons rfl rfl (AOp.move (.int .i64 i) rfl s6 ?_)
         refine AOps.cons rfl rfl (AOp.bin (.int .i64 (i + 1)) rfl rfl rfl (iadd (by omega)) ?_)
         refine AOps.cons rfl rfl (AOp.assign (.int .i64 (i + 1)) rfl rfl ?_)
         refine AOps.nil ?_
         exact ⟨_, by omega, i + 1, rfl, rfl, s7, m8, by omega, by omega, by exact okN_step pre (by unfold okN; omega)⟩
        ·
         refine AOps.yes rfl rfl rfl rfl rfl rfl rfl (nb (decide_eq_false b14)) (AOp.move (.bool true) rfl rfl ?_)
         refine AOps.yes rfl rfl rfl rfl rfl rfl rfl (nb (decide_eq_false b14)) (AOp.not rfl rfl ?_)
         refine AOps.yes rfl rfl rfl rfl rfl rfl rfl (nb (decide_eq_false b14)) (AOp.move (.bool (!true)) rfl rfl ?_)
         refine AOps.yes rfl rfl rfl rfl rfl rfl rfl rfl (AOp.move (.int .i64 i) rfl s6 ?_)
         refine AOps.yes rfl rfl rfl rfl rfl rfl rfl rfl (AOp.bin (.bool (decide (i = 0))) rfl rfl rfl ieq ?_)
         refine AOps.yes rfl rfl rfl rfl rfl rfl rfl (nb (decide_eq_false b14)) (AOp.pickF (.bool (decide (i = 0))) rfl rfl rfl rfl ?_)
         refine AOps.cons rfl rfl (AOp.pickT (.bool (decide (i = 0))) rfl rfl (nb (decide_eq_false b14)) rfl ?_)
         refine AOps.nil ?_
         change AWP _ _ _ _ _ _
         by_cases b15 : i = 0
         ·
          refine AWP.condT rfl (decide_eq_true b15) ?_
          refine AWP.seq ?_
          refine AWP.region (l := [0]) rfl ?_
          refine AOps.cons rfl rfl (AOp.assign (.bool false) rfl rfl ?_)
          refine AOps.nil ?_
          change AWP _ _ _ _ _ _
          refine AWP.ret ?_
          refine ⟨_, _, Ghost.refl, .inr rfl, _, Res.one rfl rfl, ?_, m8⟩
          exact (congrArg AV.bool (show (false : Bool) = nameB s from by first | exact (nameB_at hi0 (by omega) (by unfold okN; omega)).symm))
         ·
          refine AWP.condF rfl (decide_eq_false b15) ?_
          refine AWP.skip ?_
          change AWP _ _ _ _ _ _
          refine AWP.region (l := [0, 1, 2]) rfl ?_
          refine AOps.cons rfl rfl (AOp.move (.int .i64 i) rfl s6 ?_)
          refine AOps.cons rfl rfl (AOp.bin (.int .i64 (i + 1)) rfl rfl rfl (iadd (by omega)) ?_)
          refine AOps.cons rfl rfl (AOp.assign (.int .i64 (i + 1)) rfl rfl ?_)
          refine AOps.nil ?_
          exact ⟨_, by omega, i + 1, rfl, rfl, s7, m8, by omega, by omega, by exact okN_step pre (by unfold okN; omega)⟩
       ·
        refine AOps.yes rfl rfl rfl rfl rfl rfl rfl (decide_eq_false b13) (AOp.move (.int .u8 (byt s i)) rfl rfl ?_)
        refine AOps.yes rfl rfl rfl rfl rfl rfl rfl (decide_eq_false b13) (AOp.bin (.bool (decide (byt s i = 95))) rfl rfl rfl ieq ?_)
        refine AOps.cons rfl rfl (AOp.pickF (.bool (decide (byt s i = 95))) rfl rfl (decide_eq_false b13) rfl ?_)
        refine AOps.cons rfl rfl (AOp.move (.bool (decide (byt s i = 95))) rfl rfl ?_)
        by_cases b16 : byt s i = 95
        ·
         refine AOps.no rfl rfl rfl rfl rfl rfl rfl (ble_of (decide_eq_true b16) (by decide)) ?_
         refine AOps.no rfl rfl rfl rfl rfl rfl rfl (ble_of (decide_eq_true b16) (by decide)) ?_
         refine AOps.cons rfl rfl (AOp.pickT (.bool true) rfl rfl (decide_eq_true b16) rfl ?_)
         refine AOps.cons rfl rfl (AOp.assign (.bool true) rfl rfl ?_)
         refine AOps.nil ?_
         change AWP _ _ _ _ _ _
         refine AWP.seq ?_
         refine AWP.region (l := [0, 1, 2, 3, 4, 5, 6, 7, 8, 9]) rfl ?_
         refine AOps.cons rfl rfl (AOp.move (.bool (decide (byt s i ≤ 122))) rfl rfl ?_)
         refine AOps.cons rfl rfl (AOp.not rfl rfl ?_)
         refine AOps.cons rfl rfl (AOp.move (.bool (!(decide (byt s i ≤ 122)))) rfl rfl ?_)
         by_cases b17 : byt s i ≤ 122
         ·
          refine AOps.no rfl rfl rfl rfl rfl rfl rfl (ble_of (nb (decide_eq_true b17)) (by decide)) ?_
          refine AOps.no rfl rfl rfl rfl rfl rfl rfl (ble_of (nb (decide_eq_true b17)) (by decide)) ?_
          refine AOps.no rfl rfl rfl rfl rfl rfl rfl (ble_of (nb (decide_eq_true b17)) (by decide)) ?_
          refine AOps.un rfl rfl rfl rfl rfl rfl rfl ?_
          refine AOps.un rfl rfl rfl rfl rfl rfl rfl ?_
          refine AOps.no rfl rfl rfl rfl rfl rfl rfl (ble_of (nb (decide_eq_true b17)) (by decide)) ?_
          refine AOps.cons rfl rfl (AOp.pickF (.bool false) rfl rfl (nb (decide_eq_true b17)) rfl ?_)
          refine AOps.nil ?_
          change AWP _ _ _ _ _ _
          refine AWP.condF rfl rfl ?_
          refine AWP.skip ?_
          change AWP _ _ _ _ _ _
          refine AWP.region (l := [0, 1, 2]) rfl ?_
          refine AOps.cons rfl rfl (AOp.move (.int .i64 i) rfl s6 ?_)
          refine AOps.cons rfl rfl (AOp.bin (.int .i64 (i + 1)) rfl rfl rfl (iadd (by omega)) ?_)
          refine AOps.cons rfl rfl (AOp.assign (.int .i64 (i + 1)) rfl rfl ?_)
          refine AOps.nil ?_
          exact ⟨_, by omega, i + 1, rfl, rfl, s7, m8, by omega, by omega, by exact okN_step pre (by unfold okN; omega)⟩
         ·
          refine AOps.yes rfl rfl rfl rfl rfl rfl rfl (nb (decide_eq_false b17)) (AOp.move (.bool true) rfl rfl ?_)
          refine AOps.yes rfl rfl rfl rfl rfl rfl rfl (nb (decide_eq_false b17)) (AOp.not rfl rfl ?_)
          refine AOps.yes rfl rfl rfl rfl rfl rfl rfl (nb (decide_eq_false b17)) (AOp.move (.bool (!true)) rfl rfl ?_)
          refine AOps.yes rfl rfl rfl rfl rfl rfl rfl rfl (AOp.move (.int .i64 i) rfl s6 ?_)
          refine AOps.yes rfl rfl rfl rfl rfl rfl rfl rfl (AOp.bin (.bool (decide (i = 0))) rfl rfl rfl ieq ?_)
          refine AOps.yes rfl rfl rfl rfl rfl rfl rfl (nb (decide_eq_false b17)) (AOp.pickF (.bool (decide (i = 0))) rfl rfl rfl rfl ?_)
          refine AOps.cons rfl rfl (AOp.pickT (.bool (decide (i = 0))) rfl rfl (nb (decide_eq_false b17)) rfl ?_)
          refine AOps.nil ?_
          change AWP _ _ _ _ _ _
          by_cases b18 : i = 0
          ·
           refine AWP.condT rfl (decide_eq_true b18) ?_
           refine AWP.seq ?_
           refine AWP.region (l := [0]) rfl ?_
           refine AOps.cons rfl rfl (AOp.assign (.bool false) rfl rfl ?_)
           refine AOps.nil ?_
           change AWP _ _ _ _ _ _
           refine AWP.ret ?_
           refine ⟨_, _, Ghost.refl, .inr rfl, _, Res.one rfl rfl, ?_, m8⟩
           exact (congrArg AV.bool (show (false : Bool) = nameB s from by first | exact (nameB_at hi0 (by omega) (by unfold okN; omega)).symm))
          ·
           refine AWP.condF rfl (decide_eq_false b18) ?_
           refine AWP.skip ?_
           change AWP _ _ _ _ _ _
           refine AWP.region (l := [0, 1, 2]) rfl ?_
           refine AOps.cons rfl rfl (AOp.move (.int .i64 i) rfl s6 ?_)
           refine AOps.cons rfl rfl (AOp.bin (.int .i64 (i + 1)) rfl rfl rfl (iadd (by omega)) ?_)
           refine AOps.cons rfl rfl (AOp.assign (.int .i64 (i + 1)) rfl rfl ?_)
           refine AOps.nil ?_
           exact ⟨_, by omega, i + 1, rfl, rfl, s7, m8, by omega, by omega, by exact okN_step pre (by unfold okN; omega)⟩
        ·
         refine AOps.yes rfl rfl rfl rfl rfl rfl rfl (decide_eq_false b16) (AOp.move (.int .u8 (byt s i)) rfl rfl ?_)
         refine AOps.yes rfl rfl rfl rfl rfl rfl rfl (decide_eq_false b16) (AOp.bin (.bool (decide (byt s i = 46))) rfl rfl rfl ieq ?_)
         refine AOps.cons rfl rfl (AOp.pickF (.bool (decide (byt s i = 46))) rfl rfl (decide_eq_false b16) rfl ?_)
         refine AOps.cons rfl rfl (AOp.assign (.bool (decide (byt s i = 46))) rfl rfl ?_)
         refine AOps.nil ?_
         change AWP _ _ _ _ _ _
         refine AWP.seq ?_
         refine AWP.region (l := [0, 1, 2, 3, 4, 5, 6, 7, 8, 9]) rfl ?_
         refine AOps.cons rfl rfl (AOp.move (.bool (decide (byt s i ≤ 122))) rfl rfl ?_)
         refine AOps.cons rfl rfl (AOp.not rfl rfl ?_)
         refine AOps.cons rfl rfl (AOp.move (.bool (!(decide (byt s i ≤ 122)))) rfl rfl ?_)
         by_cases b19 : byt s i ≤ 122
         ·
          refine AOps.no rfl rfl rfl rfl rfl rfl rfl (ble_of (nb (decide_eq_true b19)) (by decide)) ?_
          refine AOps.no rfl rfl rfl rfl rfl rfl rfl (ble_of (nb (decide_eq_true b19)) (by decide)) ?_
          refine AOps.no rfl rfl rfl rfl rfl rfl rfl (ble_of (nb (decide_eq_true b19)) (by decide)) ?_
          refine AOps.un rfl rfl rfl rfl rfl rfl rfl ?_
          refine AOps.un rfl rfl rfl rfl rfl rfl rfl ?_
          refine AOps.no rfl rfl rfl rfl rfl rfl rfl (ble_of (nb (decide_eq_true b19)) (by decide)) ?_
          refine AOps.cons rfl rfl (AOp.pickF (.bool false) rfl rfl (nb (decide_eq_true b19)) rfl ?_)
          refine AOps.nil ?_
          change AWP _ _ _ _ _ _
          refine AWP.condF rfl rfl ?_
          refine AWP.skip ?_
          change AWP _ _ _ _ _ _
          refine AWP.region (l := [0, 1, 2]) rfl ?_
          refine AOps.cons rfl rfl (AOp.move (.int .i64 i) rfl s6 ?_)
          refine AOps.cons rfl rfl (AOp.bin (.int .i64 (i + 1)) rfl rfl rfl (iadd (by omega)) ?_)
          refine AOps.cons rfl rfl (AOp.assign (.int .i64 (i + 1)) rfl rfl ?_)
          refine AOps.nil ?_
          exact ⟨_, by omega, i + 1, rfl, rfl, s7, m8, by omega, by omega, by exact okN_step pre (by unfold okN; omega)⟩
         ·
          refine AOps.yes rfl rfl rfl rfl rfl rfl rfl (nb (decide_eq_false b19)) (AOp.move (.bool (decide (byt s i = 46))) rfl rfl ?_)
          refine AOps.yes rfl rfl rfl rfl rfl rfl rfl (nb (decide_eq_false b19)) (AOp.not rfl rfl ?_)
          refine AOps.yes rfl rfl rfl rfl rfl rfl rfl (nb (decide_eq_false b19)) (AOp.move (.bool (!(decide (byt s i = 46)))) rfl rfl ?_)
          by_cases b20 : byt s i = 46
          ·
           refine AOps.yes rfl rfl rfl rfl rfl rfl rfl (nb (decide_eq_true b20)) (AOp.move (.int .i64 i) rfl s6 ?_)
           refine AOps.yes rfl rfl rfl rfl rfl rfl rfl (nb (decide_eq_true b20)) (AOp.bin (.bool (decide (i = 0))) rfl rfl rfl ieq ?_)
           refine AOps.yes rfl rfl rfl rfl rfl rfl rfl (nb (decide_eq_false b19)) (AOp.pickF (.bool (decide (i = 0))) rfl rfl (nb (decide_eq_true b20)) rfl ?_)
           refine AOps.cons rfl rfl (AOp.pickT (.bool (decide (i = 0))) rfl rfl (nb (decide_eq_false b19)) rfl ?_)
           refine AOps.nil ?_
           change AWP _ _ _ _ _ _
           by_cases b21 : i = 0
           ·
            refine AWP.condT rfl (decide_eq_true b21) ?_
            refine AWP.seq ?_
            refine AWP.region (l := [0]) rfl ?_
            refine AOps.cons rfl rfl (AOp.assign (.bool false) rfl rfl ?_)
            refine AOps.nil ?_
            change AWP _ _ _ _ _ _
            refine AWP.ret ?_
            refine ⟨_, _, Ghost.refl, .inr rfl, _, Res.one rfl rfl, ?_, m8⟩
            exact (congrArg AV.bool (show (false : Bool) = nameB s from by first | exact (nameB_at hi0 (by omega) (by unfold okN; omega)).symm))
           ·
            refine AWP.condF rfl (decide_eq_false b21) ?_
            refine AWP.skip ?_
            change AWP _ _ _ _ _ _
            refine AWP.region (l := [0, 1, 2]) rfl ?_
            refine AOps.cons rfl rfl (AOp.move (.int .i64 i) rfl s6 ?_)
            refine AOps.cons rfl rfl (AOp.bin (.int .i64 (i + 1)) rfl rfl rfl (iadd (by omega)) ?_)
            refine AOps.cons rfl rfl (AOp.assign (.int .i64 (i + 1)) rfl rfl ?_)
            refine AOps.nil ?_
            exact ⟨_, by omega, i + 1, rfl, rfl, s7, m8, by omega, by omega, by exact okN_step pre (by unfold okN; omega)⟩
          ·
           refine AOps.no rfl rfl rfl rfl rfl rfl rfl (ble_of (nb (decide_eq_false b20)) (by decide)) ?_
           refine AOps.no rfl rfl rfl rfl rfl rfl rfl (ble_of (nb (decide_eq_false b20)) (by decide)) ?_
           refine AOps.yes rfl rfl rfl rfl rfl rfl rfl (nb (decide_eq_false b19)) (AOp.pickT (.bool true) rfl rfl (nb (decide_eq_false b20)) rfl ?_)
           refine AOps.cons rfl rfl (AOp.pickT (.bool true) rfl rfl (nb (decide_eq_false b19)) rfl ?_)
           refine AOps.nil ?_
           change AWP _ _ _ _ _ _
           refine AWP.condT rfl rfl ?_
           refine AWP.seq ?_
           refine AWP.region (l := [0]) rfl ?_
           refine AOps.cons rfl rfl (AOp.assign (.bool false) rfl rfl ?_)
           refine AOps.nil ?_
           change AWP _ _ _ _ _ _
           refine AWP.ret ?_
           refine ⟨_, _, Ghost.refl, .inr rfl, _, Res.one rfl rfl, ?_, m8⟩
           exact (congrArg AV.bool (show (false : Bool) = nameB s from by first | exact (nameB_at hi0 (by omega) (by unfold okN; omega)).symm))
      ·
       refine AOps.no rfl rfl rfl rfl rfl rfl rfl (ble_of (decide_eq_false b12) (by decide)) ?_
       refine AOps.no rfl rfl rfl rfl rfl rfl rfl (ble_of (decide_eq_false b12) (by decide)) ?_
       refine AOps.cons rfl rfl (AOp.pickF (.bool false) rfl rfl (decide_eq_false b12) rfl ?_)
       refine AOps.cons rfl rfl (AOp.move (.bool false) rfl rfl ?_)
       refine AOps.yes rfl rfl rfl rfl rfl rfl rfl rfl (AOp.move (.int .u8 (byt s i)) rfl rfl ?_)
       refine AOps.yes rfl rfl rfl rfl rfl rfl rfl rfl (AOp.bin (.bool (decide (byt s i = 95))) rfl rfl rfl ieq ?_)
       refine AOps.cons rfl rfl (AOp.pickF (.bool (decide (byt s i = 95))) rfl rfl rfl rfl ?_)
       refine AOps.cons rfl rfl (AOp.move (.bool (decide (byt s i = 95))) rfl rfl ?_)
       by_cases b22 : byt s i = 95
       ·
        refine AOps.no rfl rfl rfl rfl rfl rfl rfl (ble_of (decide_eq_true b22) (by decide)) ?_
        refine AOps.no rfl rfl rfl rfl rfl rfl rfl (ble_of (decide_eq_true b22) (by decide)) ?_
        refine AOps.cons rfl rfl (AOp.pickT (.bool true) rfl rfl (decide_eq_true b22) rfl ?_)
        refine AOps.cons rfl rfl (AOp.assign (.bool true) rfl rfl ?_)
        refine AOps.nil ?_
        change AWP _ _ _ _ _ _
        refine AWP.seq ?_
        refine AWP.region (l := [0, 1, 2, 3, 4, 5, 6, 7, 8, 9]) rfl ?_
        refine AOps.cons rfl rfl (AOp.move (.bool (decide (byt s i ≤ 122))) rfl rfl ?_)
        refine AOps.cons rfl rfl (AOp.not rfl rfl ?_)
        refine AOps.cons rfl rfl (AOp.move (.bool (!(decide (byt s i ≤ 122)))) rfl rfl ?_)
        by_cases b23 : byt s i ≤ 122
        ·
         refine AOps.no rfl rfl rfl rfl rfl rfl rfl (ble_of (nb (decide_eq_true b23)) (by decide)) ?_
         refine AOps.no rfl rfl rfl rfl rfl rfl rfl (ble_of (nb (decide_eq_true b23)) (by decide)) ?_
         refine AOps.no rfl rfl rfl rfl rfl rfl rfl (ble_of (nb (decide_eq_true b23)) (by decide)) ?_
         refine AOps.un rfl rfl rfl rfl rfl rfl rfl ?_
         refine AOps.un rfl rfl rfl rfl rfl rfl rfl ?_
         refine AOps.no rfl rfl rfl rfl rfl rfl rfl (ble_of (nb (decide_eq_true b23)) (by decide)) ?_
         refine AOps.cons rfl rfl (AOp.pickF (.bool false) rfl rfl (nb (decide_eq_true b23)) rfl ?_)
         refine AOps.nil ?_
         change AWP _ _ _ _ _ _
         refine AWP.condF rfl rfl ?_
         refine AWP.skip ?_
         change AWP _ _ _ _ _ _
         refine AWP.region (l := [0, 1, 2]) rfl ?_
         refine AOps.cons rfl rfl (AOp.move (.int .i64 i) rfl s6 ?_)
         refine AOps.cons rfl rfl (AOp.bin (.int .i64 (i + 1)) rfl rfl rfl (iadd (by omega)) ?_)
         refine AOps.cons rfl rfl (AOp.assign (.int .i64 (i + 1)) rfl rfl ?_)
         refine AOps.nil ?_
         exact ⟨_, by omega, i + 1, rfl, rfl, s7, m8, by omega, by omega, by exact okN_step pre (by unfold okN; omega)⟩
        ·
         refine AOps.yes rfl rfl rfl rfl rfl rfl rfl (nb (decide_eq_false b23)) (AOp.move (.bool true) rfl rfl ?_)
         refine AOps.yes rfl rfl rfl rfl rfl rfl rfl (nb (decide_eq_false b23)) (AOp.not rfl rfl ?_)
         refine AOps.yes rfl rfl rfl rfl rfl rfl rfl (nb (decide_eq_false b23)) (AOp.move (.bool (!true)) rfl rfl ?_)
         refine AOps.yes rfl rfl rfl rfl rfl rfl rfl rfl (AOp.move (.int .i64 i) rfl s6 ?_)
         refine AOps.yes rfl rfl rfl rfl rfl rfl rfl rfl (AOp.bin (.bool (decide (i = 0))) rfl rfl rfl ieq ?_)
         refine AOps.yes rfl rfl rfl rfl rfl rfl rfl (nb (decide_eq_false b23)) (AOp.pickF (.bool (decide (i = 0))) rfl rfl rfl rfl ?_)
         refine AOps.cons rfl rfl (AOp.pickT (.bool (decide (i = 0))) rfl rfl (nb (decide_eq_false b23)) rfl ?_)
         refine AOps.nil ?_
         change AWP _ _ _ _ _ _
         by_cases b24 : i = 0
         ·
          refine AWP.condT rfl (decide_eq_true b24) ?_
          refine AWP.seq ?_
          refine AWP.region (l := [0]) rfl ?_
          refine AOps.cons rfl rfl (AOp.assign (.bool false) rfl rfl ?_)
          refine AOps.nil ?_
          change AWP _ _ _ _ _ _
          refine AWP.ret ?_
          refine ⟨_, _, Ghost.refl, .inr rfl, _, Res.one rfl rfl, ?_, m8⟩
          exact (congrArg AV.bool (show (false : Bool) = nameB s from by first | exact (nameB_at hi0 (by omega) (by unfold okN; omega)).symm))
         ·
          refine AWP.condF rfl (decide_eq_false b24) ?_
          refine AWP.skip ?_
          change AWP _ _ _ _ _ _
          refine AWP.region (l := [0, 1, 2]) rfl ?_
          refine AOps.cons rfl rfl (AOp.move (.int .i64 i) rfl s6 ?_)
          refine AOps.cons rfl rfl (AOp.bin (.int .i64 (i + 1)) rfl rfl rfl (iadd (by omega)) ?_)
          refine AOps.cons rfl rfl (AOp.assign (.int .i64 (i + 1)) rfl rfl ?_)
          refine AOps.nil ?_
          exact ⟨_, by omega, i + 1, rfl, rfl, s7, m8, by omega, by omega, by exact okN_step pre (by unfold okN; omega)⟩
       ·
        refine AOps.yes rfl rfl rfl rfl rfl rfl rfl (decide_eq_false b22) (AOp.move (.int .u8 (byt s i)) rfl rfl ?_)
        refine AOps.yes rfl rfl rfl rfl rfl rfl rfl (decide_eq_false b22) (AOp.bin (.bool (decide (byt s i = 46))) rfl rfl rfl ieq ?_)
        refine AOps.cons rfl rfl (AOp.pickF (.bool (decide (byt s i = 46))) rfl rfl (decide_eq_false b22) rfl ?_)
        refine AOps.cons rfl rfl (AOp.assign (.bool (decide (byt s i = 46))) rfl rfl ?_)
        refine AOps.nil ?_
        change AWP _ _ _ _ _ _
        refine AWP.seq ?_
        refine AWP.region (l := [0, 1, 2, 3, 4, 5, 6, 7, 8, 9]) rfl ?_
        refine AOps.cons rfl rfl (AOp.move (.bool (decide (byt s i ≤ 122))) rfl rfl ?_)
        refine AOps.cons rfl rfl (AOp.not rfl rfl ?_)
        refine AOps.cons rfl rfl (AOp.move (.bool (!(decide (byt s i ≤ 122)))) rfl rfl ?_)
        by_cases b25 : byt s i ≤ 122
        ·
         refine AOps.no rfl rfl rfl rfl rfl rfl rfl (ble_of (nb (decide_eq_true b25)) (by decide)) ?_
         refine AOps.no rfl rfl rfl rfl rfl rfl rfl (ble_of (nb (decide_eq_true b25)) (by decide)) ?_
         refine AOps.no rfl rfl rfl rfl rfl rfl rfl (ble_of (nb (decide_eq_true b25)) (by decide)) ?_
         refine AOps.un rfl rfl rfl rfl rfl rfl rfl ?_
         refine AOps.un rfl rfl rfl rfl rfl rfl rfl ?_
         refine AOps.no rfl rfl rfl rfl rfl rfl rfl (ble_of (nb (decide_eq_true b25)) (by decide)) ?_
         refine AOps.cons rfl rfl (AOp.pickF (.bool false) rfl rfl (nb (decide_eq_true b25)) rfl ?_)
         refine AOps.nil ?_
         change AWP _ _ _ _ _ _
         refine AWP.condF rfl rfl ?_
         refine AWP.skip ?_
         change AWP _ _ _ _ _ _
         refine AWP.region (l := [0, 1, 2]) rfl ?_
         refine AOps.cons rfl rfl (AOp.move (.int .i64 i) rfl s6 ?_)
         refine AOps.cons rfl rfl (AOp.bin (.int .i64 (i + 1)) rfl rfl rfl (iadd (by omega)) ?_)
         refine AOps.cons rfl rfl (AOp.assign (.int .i64 (i + 1)) rfl rfl ?_)
         refine AOps.nil ?_
         exact ⟨_, by omega, i + 1, rfl, rfl, s7, m8, by omega, by omega, by exact okN_step pre (by unfold okN; omega)⟩
        ·
         refine AOps.yes rfl rfl rfl rfl rfl rfl rfl (nb (decide_eq_false b25)) (AOp.move (.bool (decide (byt s i = 46))) rfl rfl ?_)
         refine AOps.yes rfl rfl rfl rfl rfl rfl rfl (nb (decide_eq_false b25)) (AOp.not rfl rfl ?_)
         refine AOps.yes rfl rfl rfl rfl rfl rfl rfl (nb (decide_eq_false b25)) (AOp.move (.bool (!(decide (byt s i = 46)))) rfl rfl ?_)
         by_cases b26 : byt s i = 46
         ·
          refine AOps.yes rfl rfl rfl rfl rfl rfl rfl (nb (decide_eq_true b26)) (AOp.move (.int .i64 i) rfl s6 ?_)
          refine AOps.yes rfl rfl rfl rfl rfl rfl rfl (nb (decide_eq_true b26)) (AOp.bin (.bool (decide (i = 0))) rfl rfl rfl ieq ?_)
          refine AOps.yes rfl rfl rfl rfl rfl rfl rfl (nb (decide_eq_false b25)) (AOp.pickF (.bool (decide (i = 0))) rfl rfl (nb (decide_eq_true b26)) rfl ?_)
          refine AOps.cons rfl rfl (AOp.pickT (.bool (decide (i = 0))) rfl rfl (nb (decide_eq_false b25)) rfl ?_)
          refine AOps.nil ?_
          change AWP _ _ _ _ _ _
          by_cases b27 : i = 0
          ·
           refine AWP.condT rfl (decide_eq_true b27) ?_
           refine AWP.seq ?_
           refine AWP.region (l := [0]) rfl ?_
           refine AOps.cons rfl rfl (AOp.assign (.bool false) rfl rfl ?_)
           refine AOps.nil ?_
           change AWP _ _ _ _ _ _
           refine AWP.ret ?_
           refine ⟨_, _, Ghost.refl, .inr rfl, _, Res.one rfl rfl, ?_, m8⟩
           exact (congrArg AV.bool (show (false : Bool) = nameB s from by first | exact (nameB_at hi0 (by omega) (by unfold okN; omega)).symm))
          ·
           refine AWP.condF rfl (decide_eq_false b27) ?_
           refine AWP.skip ?_
           change AWP _ _ _ _ _ _
           refine AWP.region (l := [0, 1, 2]) rfl ?_
           refine AOps.cons rfl rfl (AOp.move (.int .i64 i) rfl s6 ?_)
           refine AOps.cons rfl rfl (AOp.bin (.int .i64 (i + 1)) rfl rfl rfl (iadd (by omega)) ?_)
           refine AOps.cons rfl rfl (AOp.assign (.int .i64 (i + 1)) rfl rfl ?_)
           refine AOps.nil ?_
           exact ⟨_, by omega, i + 1, rfl, rfl, s7, m8, by omega, by omega, by exact okN_step pre (by unfold okN; omega)⟩
         ·
          refine AOps.no rfl rfl rfl rfl rfl rfl rfl (ble_of (nb (decide_eq_false b26)) (by decide)) ?_
          refine AOps.no rfl rfl rfl rfl rfl rfl rfl (ble_of (nb (decide_eq_false b26)) (by decide)) ?_
          refine AOps.yes rfl rfl rfl rfl rfl rfl rfl (nb (decide_eq_false b25)) (AOp.pickT (.bool true) rfl rfl (nb (decide_eq_false b26)) rfl ?_)
          refine AOps.cons rfl rfl (AOp.pickT (.bool true) rfl rfl (nb (decide_eq_false b25)) rfl ?_)
          refine AOps.nil ?_
          change AWP _ _ _ _ _ _
          refine AWP.condT rfl rfl ?_
          refine AWP.seq ?_
          refine AWP.region (l := [0]) rfl ?_
          refine AOps.cons rfl rfl (AOp.assign (.bool false) rfl rfl ?_)
          refine AOps.nil ?_
          change AWP _ _ _ _ _ _
          refine AWP.ret ?_
          refine ⟨_, _, Ghost.refl, .inr rfl, _, Res.one rfl rfl, ?_, m8⟩
          exact (congrArg AV.bool (show (false : Bool) = nameB s from by first | exact (nameB_at hi0 (by omega) (by unfold okN; omega)).symm))
     ·
      refine AOps.no rfl rfl rfl rfl rfl rfl rfl (ble_of (decide_eq_false b11) (by decide)) ?_
      refine AOps.no rfl rfl rfl rfl rfl rfl rfl (ble_of (decide_eq_false b11) (by decide)) ?_
      refine AOps.cons rfl rfl (AOp.pickF (.bool false) rfl rfl (decide_eq_false b11) rfl ?_)
      refine AOps.cons rfl rfl (AOp.assign (.bool false) rfl rfl ?_)
      refine AOps.nil ?_
      change AWP _ _ _ _ _ _
      refine AWP.seq ?_
      refine AWP.region (l := [0, 1, 2, 3, 4, 5, 6, 7, 8, 9, 10, 11, 12, 13, 14]) rfl ?_
      refine AOps.cons rfl rfl (AOp.move (.int .u8 (byt s i)) rfl rfl ?_)
      refine AOps.cons rfl rfl (AOp.bin (.bool (decide (byt s i ≥ 48))) rfl rfl rfl rfl ?_)
      refine AOps.cons rfl rfl (AOp.move (.bool (decide (byt s i ≥ 48))) rfl rfl ?_)
      by_cases b28 : byt s i ≥ 48
      ·
       refine AOps.yes rfl rfl rfl rfl rfl rfl rfl (decide_eq_true b28) (AOp.move (.int .u8 (byt s i)) rfl rfl ?_)
       refine AOps.yes rfl rfl rfl rfl rfl rfl rfl (decide_eq_true b28) (AOp.bin (.bool (decide (byt s i ≤ 57))) rfl rfl rfl rfl ?_)
       refine AOps.cons rfl rfl (AOp.pickT (.bool (decide (byt s i ≤ 57))) rfl rfl (decide_eq_true b28) rfl ?_)
       refine AOps.cons rfl rfl (AOp.move (.bool (decide (byt s i ≤ 57))) rfl rfl ?_)
       by_cases b29 : byt s i ≤ 57
       ·
        refine AOps.no rfl rfl rfl rfl rfl rfl rfl (ble_of (decide_eq_true b29) (by decide)) ?_
        refine AOps.no rfl rfl rfl rfl rfl rfl rfl (ble_of (decide_eq_true b29) (by decide)) ?_
        refine AOps.cons rfl rfl (AOp.pickT (.bool true) rfl rfl (decide_eq_true b29) rfl ?_)
        refine AOps.cons rfl rfl (AOp.move (.bool true) rfl rfl ?_)
        refine AOps.no rfl rfl rfl rfl rfl rfl rfl (ble_of rfl (by decide)) ?_
        refine AOps.no rfl rfl rfl rfl rfl rfl rfl (ble_of rfl (by decide)) ?_
        refine AOps.cons rfl rfl (AOp.pickT (.bool true) rfl rfl rfl rfl ?_)
        refine AOps.cons rfl rfl (AOp.assign (.bool true) rfl rfl ?_)
        refine AOps.nil ?_
        change AWP _ _ _ _ _ _
        refine AWP.seq ?_
        refine AWP.region (l := [0, 1, 2, 3, 4, 5, 6, 7, 8, 9]) rfl ?_
        refine AOps.cons rfl rfl (AOp.move (.bool false) rfl rfl ?_)
        refine AOps.cons rfl rfl (AOp.not rfl rfl ?_)
        refine AOps.cons rfl rfl (AOp.move (.bool (!false)) rfl rfl ?_)
        refine AOps.yes rfl rfl rfl rfl rfl rfl rfl rfl (AOp.move (.bool true) rfl rfl ?_)
        refine AOps.yes rfl rfl rfl rfl rfl rfl rfl rfl (AOp.not rfl rfl ?_)
        refine AOps.yes rfl rfl rfl rfl rfl rfl rfl rfl (AOp.move (.bool (!true)) rfl rfl ?_)
        refine AOps.yes rfl rfl rfl rfl rfl rfl rfl rfl (AOp.move (.int .i64 i) rfl s6 ?_)
        refine AOps.yes rfl rfl rfl rfl rfl rfl rfl rfl (AOp.bin (.bool (decide (i = 0))) rfl rfl rfl ieq ?_)
        refine AOps.yes rfl rfl rfl rfl rfl rfl rfl rfl (AOp.pickF (.bool (decide (i = 0))) rfl rfl rfl rfl ?_)
        refine AOps.cons rfl rfl (AOp.pickT (.bool (decide (i = 0))) rfl rfl rfl rfl ?_)
        refine AOps.nil ?_
        change AWP _ _ _ _ _ _
        by_cases b30 : i = 0
        ·
         refine AWP.condT rfl (decide_eq_true b30) ?_
         refine AWP.seq ?_
         refine AWP.region (l := [0]) rfl ?_
         refine AOps.cons rfl rfl (AOp.assign (.bool false) rfl rfl ?_)
         refine AOps.nil ?_
         change AWP _ _ _ _ _ _
         refine AWP.ret ?_
         refine ⟨_, _, Ghost.refl, .inr rfl, _, Res.one rfl rfl, ?_, m8⟩
         exact (congrArg AV.bool (show (false : Bool) = nameB s from by first | exact (nameB_at hi0 (by omega) (by unfold okN; omega)).symm))
        ·
         refine AWP.condF rfl (decide_eq_false b30) ?_
         refine AWP.skip ?_
         change AWP _ _ _ _ _ _
         refine AWP.region (l := [0, 1, 2]) rfl ?_
         refine AOps.cons rfl rfl (AOp.move (.int .i64 i) rfl s6 ?_)
         refine AOps.cons rfl rfl (AOp.bin (.int .i64 (i + 1)) rfl rfl rfl (iadd (by omega)) ?_)
         refine AOps.cons rfl rfl (AOp.assign (.int .i64 (i + 1)) rfl rfl ?_)
         refine AOps.nil ?_
         exact ⟨_, by omega, i + 1, rfl, rfl, s7, m8, by omega, by omega, by exact okN_step pre (by unfold okN; omega)⟩
       ·
        refine AOps.yes rfl rfl rfl rfl rfl rfl rfl (decide_eq_false b29) (AOp.move (.int .u8 (byt s i)) rfl rfl ?_)
        refine AOps.yes rfl rfl rfl rfl rfl rfl rfl (decide_eq_false b29) (AOp.bin (.bool (decide (byt s i = 95))) rfl rfl rfl ieq ?_)
        refine AOps.cons rfl rfl (AOp.pickF (.bool (decide (byt s i = 95))) rfl rfl (decide_eq_false b29) rfl ?_)
        refine AOps.cons rfl rfl (AOp.move (.bool (decide (byt s i = 95))) rfl rfl ?_)
        by_cases b31 : byt s i = 95
        ·
         refine AOps.no rfl rfl rfl rfl rfl rfl rfl (ble_of (decide_eq_true b31) (by decide)) ?_
         refine AOps.no rfl rfl rfl rfl rfl rfl rfl (ble_of (decide_eq_true b31) (by decide)) ?_
         refine AOps.cons rfl rfl (AOp.pickT (.bool true) rfl rfl (decide_eq_true b31) rfl ?_)
         refine AOps.cons rfl rfl (AOp.assign (.bool true) rfl rfl ?_)
         refine AOps.nil ?_
         change AWP _ _ _ _ _ _
         refine AWP.seq ?_
         refine AWP.region (l := [0, 1, 2, 3, 4, 5, 6, 7, 8, 9]) rfl ?_
         refine AOps.cons rfl rfl (AOp.move (.bool false) rfl rfl ?_)
         refine AOps.cons rfl rfl (AOp.not rfl rfl ?_)
         refine AOps.cons rfl rfl (AOp.move (.bool (!false)) rfl rfl ?_)
         refine AOps.yes rfl rfl rfl rfl rfl rfl rfl rfl (AOp.move (.bool true) rfl rfl ?_)
         refine AOps.yes rfl rfl rfl rfl rfl rfl rfl rfl (AOp.not rfl rfl ?_)
         refine AOps.yes rfl rfl rfl rfl rfl rfl rfl rfl (AOp.move (.bool (!true)) rfl rfl ?_)
         refine AOps.yes rfl rfl rfl rfl rfl rfl rfl rfl (AOp.move (.int .i64 i) rfl s6 ?_)
         refine AOps.yes rfl rfl rfl rfl rfl rfl rfl rfl (AOp.bin (.bool (decide (i = 0))) rfl rfl rfl ieq ?_)
         refine AOps.yes rfl rfl rfl rfl rfl rfl rfl rfl (AOp.pickF (.bool (decide (i = 0))) rfl rfl rfl rfl ?_)
         refine AOps.cons rfl rfl (AOp.pickT (.bool (decide (i = 0))) rfl rfl rfl rfl ?_)
         refine AOps.nil ?_
         change AWP _ _ _ _ _ _
         by_cases b32 : i = 0
         ·
          refine AWP.condT rfl (decide_eq_true b32) ?_
          refine AWP.seq ?_
          refine AWP.region (l := [0]) rfl ?_
          refine AOps.cons rfl rfl (AOp.assign (.bool false) rfl rfl ?_)
          refine AOps.nil ?_
          change AWP _ _ _ _ _ _
          refine AWP.ret ?_
          refine ⟨_, _, Ghost.refl, .inr rfl, _, Res.one rfl rfl, ?_, m8⟩
          exact (congrArg AV.bool (show (false : Bool) = nameB s from by first | exact (nameB_at hi0 (by omega) (by unfold okN; omega)).symm))
         ·
          refine AWP.condF rfl (decide_eq_false b32) ?_
          refine AWP.skip ?_
          change AWP _ _ _ _ _ _
          refine AWP.region (l := [0, 1, 2]) rfl ?_
          refine AOps.cons rfl rfl (AOp.move (.int .i64 i) rfl s6 ?_)
          refine AOps.cons rfl rfl (AOp.bin (.int .i64 (i + 1)) rfl rfl rfl (iadd (by omega)) ?_)
          refine AOps.cons rfl rfl (AOp.assign (.int .i64 (i + 1)) rfl rfl ?_)
          refine AOps.nil ?_
          exact ⟨_, by omega, i + 1, rfl, rfl, s7, m8, by omega, by omega, by exact okN_step pre (by unfold okN; omega)⟩
        ·
         refine AOps.yes rfl rfl rfl rfl rfl rfl rfl (decide_eq_false b31) (AOp.move (.int .u8 (byt s i)) rfl rfl ?_)
         refine AOps.yes rfl rfl rfl rfl rfl rfl rfl (decide_eq_false b31) (AOp.bin (.bool (decide (byt s i = 46))) rfl rfl rfl ieq ?_)
         refine AOps.cons rfl rfl (AOp.pickF (.bool (decide (byt s i = 46))) rfl rfl (decide_eq_false b31) rfl ?_)
         refine AOps.cons rfl rfl (AOp.assign (.bool (decide (byt s i = 46))) rfl rfl ?_)
         refine AOps.nil ?_
         change AWP _ _ _ _ _ _
         refine AWP.seq ?_
         refine AWP.region (l := [0, 1, 2, 3, 4, 5, 6, 7, 8, 9]) rfl ?_
         refine AOps.cons rfl rfl (AOp.move (.bool false) rfl rfl ?_)
         refine AOps.cons rfl rfl (AOp.not rfl rfl ?_)
         refine AOps.cons rfl rfl (AOp.move (.bool (!false)) rfl rfl ?_)
         refine AOps.yes rfl rfl rfl rfl rfl rfl rfl rfl (AOp.move (.bool (decide (byt s i = 46))) rfl rfl ?_)
         refine AOps.yes rfl rfl rfl rfl rfl rfl rfl rfl (AOp.not rfl rfl ?_)
         refine AOps.yes rfl rfl rfl rfl rfl rfl rfl rfl (AOp.move (.bool (!(decide (byt s i = 46)))) rfl rfl ?_)
         by_cases b33 : byt s i = 46
         ·
          refine AOps.yes rfl rfl rfl rfl rfl rfl rfl (nb (decide_eq_true b33)) (AOp.move (.int .i64 i) rfl s6 ?_)
          refine AOps.yes rfl rfl rfl rfl rfl rfl rfl (nb (decide_eq_true b33)) (AOp.bin (.bool (decide (i = 0))) rfl rfl rfl ieq ?_)
          refine AOps.yes rfl rfl rfl rfl rfl rfl rfl rfl (AOp.pickF (.bool (decide (i = 0))) rfl rfl (nb (decide_eq_true b33)) rfl ?_)
          refine AOps.cons rfl rfl (AOp.pickT (.bool (decide (i = 0))) rfl rfl rfl rfl ?_)
          refine AOps.nil ?_
          change AWP _ _ _ _ _ _
          by_cases b34 : i = 0
          ·
           refine AWP.condT rfl (decide_eq_true b34) ?_
           refine AWP.seq ?_
           refine AWP.region (l := [0]) rfl ?_
           refine AOps.cons rfl rfl (AOp.assign (.bool false) rfl rfl ?_)
           refine AOps.nil ?_
           change AWP _ _ _ _ _ _
           refine AWP.ret ?_
           refine ⟨_, _, Ghost.refl, .inr rfl, _, Res.one rfl rfl, ?_, m8⟩
           exact (congrArg AV.bool (show (false : Bool) = nameB s from by first | exact (nameB_at hi0 (by omega) (by unfold okN; omega)).symm))
          ·
           refine AWP.condF rfl (decide_eq_false b34) ?_
           refine AWP.skip ?_
           change AWP _ _ _ _ _ _
           refine AWP.region (l := [0, 1, 2]) rfl ?_
           refine AOps.cons rfl rfl (AOp.move (.int .i64 i) rfl s6 ?_)
           refine AOps.cons rfl rfl (AOp.bin (.int .i64 (i + 1)) rfl rfl rfl (iadd (by omega)) ?_)
           refine AOps.cons rfl rfl (AOp.assign (.int .i64 (i + 1)) rfl rfl ?_)
           refine AOps.nil ?_
           exact ⟨_, by omega, i + 1, rfl, rfl, s7, m8, by omega, by omega, by exact okN_step pre (by unfold okN; omega)⟩
         ·
          refine AOps.no rfl rfl rfl rfl rfl rfl rfl (ble_of (nb (decide_eq_false b33)) (by decide)) ?_
          refine AOps.no rfl rfl rfl rfl rfl rfl rfl (ble_of (nb (decide_eq_false b33)) (by decide)) ?_
          refine AOps.yes rfl rfl rfl rfl rfl rfl rfl rfl (AOp.pickT (.bool true) rfl rfl (nb (decide_eq_false b33)) rfl ?_)
          refine AOps.cons rfl rfl (AOp.pickT (.bool true) rfl rfl rfl rfl ?_)
          refine AOps.nil ?_
          change AWP _ _ _ _ _ _
          refine AWP.condT rfl rfl ?_
          refine AWP.seq ?_
          refine AWP.region (l := [0]) rfl ?_
          refine AOps.cons rfl rfl (AOp.assign (.bool false) rfl rfl ?_)
          refine AOps.nil ?_
          change AWP _ _ _ _ _ _
          refine AWP.ret ?_
          refine ⟨_, _, Ghost.refl, .inr rfl, _, Res.one rfl rfl, ?_, m8⟩
          exact (congrArg AV.bool (show (false : Bool) = nameB s from by first | exact (nameB_at hi0 (by omega) (by unfold okN; omega)).symm))
      ·
       refine AOps.no rfl rfl rfl rfl rfl rfl rfl (ble_of (decide_eq_false b28) (by decide)) ?_
       refine AOps.no rfl rfl rfl rfl rfl rfl rfl (ble_of (decide_eq_false b28) (by decide)) ?_
       refine AOps.cons rfl rfl (AOp.pickF (.bool false) rfl rfl (decide_eq_false b28) rfl ?_)
       refine AOps.cons rfl rfl (AOp.move (.bool false) rfl rfl ?_)
       refine AOps.yes rfl rfl rfl rfl rfl rfl rfl rfl (AOp.move (.int .u8 (byt s i)) rfl rfl ?_)
       refine AOps.yes rfl rfl rfl rfl rfl rfl rfl rfl (AOp.bin (.bool (decide (byt s i = 95))) rfl rfl rfl ieq ?_)
       refine AOps.cons rfl rfl (AOp.pickF (.bool (decide (byt s i = 95))) rfl rfl rfl rfl ?_)
       refine AOps.cons rfl rfl (AOp.move (.bool (decide (byt s i = 95))) rfl rfl ?_)
       by_cases b35 : byt s i = 95
       ·
        refine AOps.no rfl rfl rfl rfl rfl rfl rfl (ble_of (decide_eq_true b35) (by decide)) ?_
        refine AOps.no rfl rfl rfl rfl rfl rfl rfl (ble_of (decide_eq_true b35) (by decide)) ?_
        refine AOps.cons rfl rfl (AOp.pickT (.bool true) rfl rfl (decide_eq_true b35) rfl ?_)
        refine AOps.cons rfl rfl (AOp.assign (.bool true) rfl rfl ?_)
        refine AOps.nil ?_
        change AWP _ _ _ _ _ _
        refine AWP.seq ?_
        refine AWP.region (l := [0, 1, 2, 3, 4, 5, 6, 7, 8, 9]) rfl ?_
        refine AOps.cons rfl rfl (AOp.move (.bool false) rfl rfl ?_)
        refine AOps.cons rfl rfl (AOp.not rfl rfl ?_)
        refine AOps.cons rfl rfl (AOp.move (.bool (!false)) rfl rfl ?_)
        refine AOps.yes rfl rfl rfl rfl rfl rfl rfl rfl (AOp.move (.bool true) rfl rfl ?_)
        refine AOps.yes rfl rfl rfl rfl rfl rfl rfl rfl (AOp.not rfl rfl ?_)
        refine AOps.yes rfl rfl rfl rfl rfl rfl rfl rfl (AOp.move (.bool (!true)) rfl rfl ?_)
        refine AOps.yes rfl rfl rfl rfl rfl rfl rfl rfl (AOp.move (.int .i64 i) rfl s6 ?_)
        refine AOps.yes rfl rfl rfl rfl rfl rfl rfl rfl (AOp.bin (.bool (decide (i = 0))) rfl rfl rfl ieq ?_)
        refine AOps.yes rfl rfl rfl rfl rfl rfl rfl rfl (AOp.pickF (.bool (decide (i = 0))) rfl rfl rfl rfl ?_)
        refine AOps.cons rfl rfl (AOp.pickT (.bool (decide (i = 0))) rfl rfl rfl rfl ?_)
        refine AOps.nil ?_
        change AWP _ _ _ _ _ _
        by_cases b36 : i = 0
        ·
         refine AWP.condT rfl (decide_eq_true b36) ?_
         refine AWP.seq ?_
         refine AWP.region (l := [0]) rfl ?_
         refine AOps.cons rfl rfl (AOp.assign (.bool false) rfl rfl ?_)
         refine AOps.nil ?_
         change AWP _ _ _ _ _ _
         refine AWP.ret ?_
         refine ⟨_, _, Ghost.refl, .inr rfl, _, Res.one rfl rfl, ?_, m8⟩
         exact (congrArg AV.bool (show (false : Bool) = nameB s from by first | exact (nameB_at hi0 (by omega) (by unfold okN; omega)).symm))
        ·
         refine AWP.condF rfl (decide_eq_false b36) ?_
         refine AWP.skip ?_
         change AWP _ _ _ _ _ _
         refine AWP.region (l := [0, 1, 2]) rfl ?_
         refine AOps.cons rfl rfl (AOp.move (.int .i64 i) rfl s6 ?_)
         refine AOps.cons rfl rfl (AOp.bin (.int .i64 (i + 1)) rfl rfl rfl (iadd (by omega)) ?_)
         refine AOps.cons rfl rfl (AOp.assign (.int .i64 (i + 1)) rfl rfl ?_)
         refine AOps.nil ?_
         exact ⟨_, by omega, i + 1, rfl, rfl, s7, m8, by omega, by omega, by exact okN_step pre (by unfold okN; omega)⟩
       ·
        refine AOps.yes rfl rfl rfl rfl rfl rfl rfl (decide_eq_false b35) (AOp.move (.int .u8 (byt s i)) rfl rfl ?_)
        refine AOps.yes rfl rfl rfl rfl rfl rfl rfl (decide_eq_false b35) (AOp.bin (.bool (decide (byt s i = 46))) rfl rfl rfl ieq ?_)
        refine AOps.cons rfl rfl (AOp.pickF (.bool (decide (byt s i = 46))) rfl rfl (decide_eq_false b35) rfl ?_)
        refine AOps.cons rfl rfl (AOp.assign (.bool (decide (byt s i = 46))) rfl rfl ?_)
        refine AOps.nil ?_
        change AWP _ _ _ _ _ _
        refine AWP.seq ?_
        refine AWP.region (l := [0, 1, 2, 3, 4, 5, 6, 7, 8, 9]) rfl ?_
        refine AOps.cons rfl rfl (AOp.move (.bool false) rfl rfl ?_)
        refine AOps.cons rfl rfl (AOp.not rfl rfl ?_)
        refine AOps.cons rfl rfl (AOp.move (.bool (!false)) rfl rfl ?_)
        refine AOps.yes rfl rfl rfl rfl rfl rfl rfl rfl (AOp.move (.bool (decide (byt s i = 46))) rfl rfl ?_)
        refine AOps.yes rfl rfl rfl rfl rfl rfl rfl rfl (AOp.not rfl rfl ?_)
        refine AOps.yes rfl rfl rfl rfl rfl rfl rfl rfl (AOp.move (.bool (!(decide (byt s i = 46)))) rfl rfl ?_)
        by_cases b37 : byt s i = 46
        ·
         refine AOps.yes rfl rfl rfl rfl rfl rfl rfl (nb (decide_eq_true b37)) (AOp.move (.int .i64 i) rfl s6 ?_)
         refine AOps.yes rfl rfl rfl rfl rfl rfl rfl (nb (decide_eq_true b37)) (AOp.bin (.bool (decide (i = 0))) rfl rfl rfl ieq ?_)
         refine AOps.yes rfl rfl rfl rfl rfl rfl rfl rfl (AOp.pickF (.bool (decide (i = 0))) rfl rfl (nb (decide_eq_true b37)) rfl ?_)
         refine AOps.cons rfl rfl (AOp.pickT (.bool (decide (i = 0))) rfl rfl rfl rfl ?_)
         refine AOps.nil ?_
         change AWP _ _ _ _ _ _
         by_cases b38 : i = 0
         ·
          refine AWP.condT rfl (decide_eq_true b38) ?_
          refine AWP.seq ?_
          refine AWP.region (l := [0]) rfl ?_
          refine AOps.cons rfl rfl (AOp.assign (.bool false) rfl rfl ?_)
          refine AOps.nil ?_
          change AWP _ _ _ _ _ _
          refine AWP.ret ?_
          refine ⟨_, _, Ghost.refl, .inr rfl, _, Res.one rfl rfl, ?_, m8⟩
          exact (congrArg AV.bool (show (false : Bool) = nameB s from by first | exact (nameB_at hi0 (by omega) (by unfold okN; omega)).symm))
         ·
          refine AWP.condF rfl (decide_eq_false b38) ?_
          refine AWP.skip ?_
          change AWP _ _ _ _ _ _
          refine AWP.region (l := [0, 1, 2]) rfl ?_
          refine AOps.cons rfl rfl (AOp.move (.int .i64 i) rfl s6 ?_)
          refine AOps.cons rfl rfl (AOp.bin (.int .i64 (i + 1)) rfl rfl rfl (iadd (by omega)) ?_)
          refine AOps.cons rfl rfl (AOp.assign (.int .i64 (i + 1)) rfl rfl ?_)
          refine AOps.nil ?_
          exact ⟨_, by omega, i + 1, rfl, rfl, s7, m8, by omega, by omega, by exact okN_step pre (by unfold okN; omega)⟩
        ·
         refine AOps.no rfl rfl rfl rfl rfl rfl rfl (ble_of (nb (decide_eq_false b37)) (by decide)) ?_
         refine AOps.no rfl rfl rfl rfl rfl rfl rfl (ble_of (nb (decide_eq_false b37)) (by decide)) ?_
         refine AOps.yes rfl rfl rfl rfl rfl rfl rfl rfl (AOp.pickT (.bool true) rfl rfl (nb (decide_eq_false b37)) rfl ?_)
         refine AOps.cons rfl rfl (AOp.pickT (.bool true) rfl rfl rfl rfl ?_)
         refine AOps.nil ?_
         change AWP _ _ _ _ _ _
         refine AWP.condT rfl rfl ?_
         refine AWP.seq ?_
         refine AWP.region (l := [0]) rfl ?_
         refine AOps.cons rfl rfl (AOp.assign (.bool false) rfl rfl ?_)
         refine AOps.nil ?_
         change AWP _ _ _ _ _ _
         refine AWP.ret ?_
         refine ⟨_, _, Ghost.refl, .inr rfl, _, Res.one rfl rfl, ?_, m8⟩
         exact (congrArg AV.bool (show (false : Bool) = nameB s from by first | exact (nameB_at hi0 (by omega) (by unfold okN; omega)).symm))
    ·
     refine AWP.condF rfl (decide_eq_false b9) ?_
     refine AWP.exit ?_
     change AWP _ _ _ _ _ _
     refine AWP.seq ?_
     refine AWP.region (l := [0]) rfl ?_
     refine AOps.cons rfl rfl (AOp.assign (.bool true) rfl rfl ?_)
     refine AOps.nil ?_
     change AWP _ _ _ _ _ _
     refine AWP.ret ?_
     refine ⟨_, _, Ghost.refl, .inr rfl, _, Res.one rfl rfl, ?_, m8⟩
     exact (congrArg AV.bool (show (true : Bool) = nameB s from by first | exact (nameB_size (by omega)).symm | exact (nameB_of (by omega) (by omega) (fun j h1 h2 => pre j h1 (by omega))).symm))
theorem c_ref_Number (s : ByteArray) : PC Tryd.prog 14 [.str s] (.tup [.int .i64 ((num14 s).1), .bool ((num14 s).2)]) := by
 intro H0
 refine ACalls.of_body' (n := 65) rfl rfl rfl rfl ?_
 have m0 := Mono.refl H0
 refine AWP.seq ?_
 refine AWP.region (l := [0, 1]) rfl ?_
 refine AOps.cons rfl rfl (AOp.assign (.int .i64 0) rfl rfl ?_)
 refine AOps.cons rfl rfl (AOp.assign (.bool false) rfl rfl ?_)
 refine AOps.nil ?_
 change AWP _ _ _ _ _ _
 refine AWP.seq ?_
 refine AWP.region (l := [0, 1, 2, 3, 4, 5, 6, 7, 8]) rfl ?_
 refine AOps.cons rfl rfl (AOp.move (.str s) rfl rfl ?_)
 refine AOps.cons rfl rfl (AOp.lenStr rfl rfl u_9 ?_)
 refine AOps.cons rfl rfl (AOp.bin (.bool (decide ((s.size : Int) > 0))) rfl rfl rfl rfl ?_)
 refine AOps.cons rfl rfl (AOp.move (.bool (decide ((s.size : Int) > 0))) rfl rfl ?_)
 by_cases b1 : (s.size : Int) > 0
 ·
  refine AOps.yes rfl rfl rfl rfl rfl rfl rfl (decide_eq_true b1) (AOp.move (.str s) rfl rfl ?_)
  have hb2 := byt_rng s 0
  refine AOps.yes rfl rfl rfl rfl rfl rfl rfl (decide_eq_true b1) (AOp.indexB rfl rfl rfl u_9 (by omega) (by omega) ?_)
  refine AOps.yes rfl rfl rfl rfl rfl rfl rfl (decide_eq_true b1) (AOp.bin (.bool (decide (byt s 0 = 45))) rfl rfl rfl ieq ?_)
  refine AOps.cons rfl rfl (AOp.pickT (.bool (decide (byt s 0 = 45))) rfl rfl (decide_eq_true b1) rfl ?_)
  refine AOps.cons rfl rfl (AOp.assign (.bool (decide (byt s 0 = 45))) rfl rfl ?_)
  refine AOps.nil ?_
  change AWP _ _ _ _ _ _
  refine AWP.seq ?_
  refine AWP.seq ?_
  refine AWP.region (l := [0]) rfl ?_
  refine AOps.cons rfl rfl (AOp.move (.bool (decide (byt s 0 = 45))) rfl rfl ?_)
  refine AOps.nil ?_
  change AWP _ _ _ _ _ _
  by_cases b3 : byt s 0 = 45
  ·
   refine AWP.condT rfl (decide_eq_true b3) ?_
   refine AWP.region (l := [0, 1, 2]) rfl ?_
   refine AOps.cons rfl rfl (AOp.move (.str s) rfl rfl ?_)
   refine AOps.cons rfl rfl (AOp.sliceStr (l := 1) (h := (s.size : Int)) rfl rfl u_9 (lo_of rfl) rfl (by omega) (by omega) (by omega) ?_)
   refine AOps.cons rfl rfl (AOp.assign (.str (s.extract (1 : Int).toNat (s.size : Int).toNat)) rfl rfl ?_)
   refine AOps.nil ?_
   change AWP _ _ _ _ _ _
   refine AWP.seq ?_
   refine AWP.seq ?_
   refine AWP.region (l := [0, 1, 2, 3, 4, 5]) rfl ?_
   refine AOps.cons rfl rfl (AOp.move (.str (s.extract (1 : Int).toNat (s.size : Int).toNat)) rfl rfl ?_)
   refine AOps.cons rfl rfl (AOp.seqD rfl rfl rfl ?_)
   refine AOps.cons rfl rfl (AOp.move (.bool (decide (s.extract (1 : Int).toNat (s.size : Int).toNat = ⟨#[48]⟩))) rfl rfl ?_)
   by_cases b4 : s.extract (1 : Int).toNat (s.size : Int).toNat = ⟨#[48]⟩
   ·
    refine AOps.yes rfl rfl rfl rfl rfl rfl rfl (decide_eq_true b4) (AOp.move (.bool (decide (byt s 0 = 45))) rfl rfl ?_)
    refine AOps.yes rfl rfl rfl rfl rfl rfl rfl (decide_eq_true b4) (AOp.not rfl rfl ?_)
    refine AOps.cons rfl rfl (AOp.pickT (.bool (!(decide (byt s 0 = 45)))) rfl rfl (decide_eq_true b4) rfl ?_)
    refine AOps.nil ?_
    change AWP _ _ _ _ _ _
    refine AWP.condF rfl (nb (decide_eq_true b3)) ?_
    refine AWP.skip ?_
    change AWP _ _ _ _ _ _
    refine AWP.seq ?_
    refine AWP.seq ?_
    refine AWP.region (l := [0, 1, 2, 3, 4, 5, 6, 7, 8, 9, 10, 11, 12]) rfl ?_
    refine AOps.cons rfl rfl (AOp.move (.str (s.extract (1 : Int).toNat (s.size : Int).toNat)) rfl rfl ?_)
    refine AOps.cons rfl rfl (AOp.lenStr rfl rfl u_9 ?_)
    refine AOps.cons rfl rfl (AOp.bin (.bool (decide (((s.extract (1 : Int).toNat (s.size : Int).toNat).size : Int) < 1))) rfl rfl rfl rfl ?_)
    refine AOps.cons rfl rfl (AOp.move (.bool (decide (((s.extract (1 : Int).toNat (s.size : Int).toNat).size : Int) < 1))) rfl rfl ?_)
    by_cases b5 : ((s.extract (1 : Int).toNat (s.size : Int).toNat).size : Int) < 1
    ·
     refine AOps.no rfl rfl rfl rfl rfl rfl rfl (ble_of (decide_eq_true b5) (by decide)) ?_
     refine AOps.no rfl rfl rfl rfl rfl rfl rfl (ble_of (decide_eq_true b5) (by decide)) ?_
     refine AOps.no rfl rfl rfl rfl rfl rfl rfl (ble_of (decide_eq_true b5) (by decide)) ?_
     refine AOps.cons rfl rfl (AOp.pickT (.bool true) rfl rfl (decide_eq_true b5) rfl ?_)
     refine AOps.cons rfl rfl (AOp.move (.bool true) rfl rfl ?_)
     refine AOps.no rfl rfl rfl rfl rfl rfl rfl (ble_of rfl (by decide)) ?_
     refine AOps.no rfl rfl rfl rfl rfl rfl rfl (ble_of rfl (by decide)) ?_
     refine AOps.no rfl rfl rfl rfl rfl rfl rfl (ble_of rfl (by decide)) ?_
     refine AOps.cons rfl rfl (AOp.pickT (.bool true) rfl rfl rfl rfl ?_)
     refine AOps.nil ?_
     change AWP _ _ _ _ _ _
     refine AWP.condT rfl rfl ?_
     refine AWP.seq ?_
     refine AWP.region (l := [0, 1]) rfl ?_
     refine AOps.cons rfl rfl (AOp.assign (.int .i64 0) rfl rfl ?_)
     refine AOps.cons rfl rfl (AOp.assign (.bool false) rfl rfl ?_)
     refine AOps.nil ?_
     change AWP _ _ _ _ _ _
     refine AWP.ret ?_
     refine ⟨_, _, Ghost.refl, .inr rfl, _, Res.two rfl rfl rfl, ?_, m0⟩
     exact congrArg AV.tup (lc (congrArg (AV.int .i64) (show (0 : Int) = (num14 s).1 from by rw [num14_T (by omega), w_bad (fun e => by first | (exact absurd e.2 (by decide)) | (have := e.1; first | contradiction | exact absurd this (by assumption))) (by omega)] <;> first | rfl | (simp only [if_true, if_false, Bool.false_eq_true]; congr 1; omega) | (simp; congr 1; omega))) (lc (congrArg AV.bool (show (false : Bool) = (num14 s).2 from by rw [num14_T (by omega), w_bad (fun e => by first | (exact absurd e.2 (by decide)) | (have := e.1; first | contradiction | exact absurd this (by assumption))) (by omega)] <;> first | rfl | (simp only [if_true, if_false, Bool.false_eq_true]; congr 1; omega) | (simp; congr 1; omega))) rfl))
    ·
     refine AOps.yes rfl rfl rfl rfl rfl rfl rfl (decide_eq_false b5) (AOp.move (.str (s.extract (1 : Int).toNat (s.size : Int).toNat)) rfl rfl ?_)
     refine AOps.yes rfl rfl rfl rfl rfl rfl rfl (decide_eq_false b5) (AOp.lenStr rfl rfl u_9 ?_)
     refine AOps.yes rfl rfl rfl rfl rfl rfl rfl (decide_eq_false b5) (AOp.bin (.bool (decide (((s.extract (1 : Int).toNat (s.size : Int).toNat).size : Int) > 6))) rfl rfl rfl rfl ?_)
     refine AOps.cons rfl rfl (AOp.pickF (.bool (decide (((s.extract (1 : Int).toNat (s.size : Int).toNat).size : Int) > 6))) rfl rfl (decide_eq_false b5) rfl ?_)
     refine AOps.cons rfl rfl (AOp.move (.bool (decide (((s.extract (1 : Int).toNat (s.size : Int).toNat).size : Int) > 6))) rfl rfl ?_)
     by_cases b6 : ((s.extract (1 : Int).toNat (s.size : Int).toNat).size : Int) > 6
     ·
      refine AOps.no rfl rfl rfl rfl rfl rfl rfl (ble_of (decide_eq_true b6) (by decide)) ?_
      refine AOps.no rfl rfl rfl rfl rfl rfl rfl (ble_of (decide_eq_true b6) (by decide)) ?_
      refine AOps.no rfl rfl rfl rfl rfl rfl rfl (ble_of (decide_eq_true b6) (by decide)) ?_
      refine AOps.cons rfl rfl (AOp.pickT (.bool true) rfl rfl (decide_eq_true b6) rfl ?_)
      refine AOps.nil ?_
      change AWP _ _ _ _ _ _
      refine AWP.condT rfl rfl ?_
      refine AWP.seq ?_
      refine AWP.region (l := [0, 1]) rfl ?_
      refine AOps.cons rfl rfl (AOp.assign (.int .i64 0) rfl rfl ?_)
      refine AOps.cons rfl rfl (AOp.assign (.bool false) rfl rfl ?_)
      refine AOps.nil ?_
      change AWP _ _ _ _ _ _
      refine AWP.ret ?_
      refine ⟨_, _, Ghost.refl, .inr rfl, _, Res.two rfl rfl rfl, ?_, m0⟩
      exact congrArg AV.tup (lc (congrArg (AV.int .i64) (show (0 : Int) = (num14 s).1 from by rw [num14_T (by omega), w_bad (fun e => by first | (exact absurd e.2 (by decide)) | (have := e.1; first | contradiction | exact absurd this (by assumption))) (by omega)] <;> first | rfl | (simp only [if_true, if_false, Bool.false_eq_true]; congr 1; omega) | (simp; congr 1; omega))) (lc (congrArg AV.bool (show (false : Bool) = (num14 s).2 from by rw [num14_T (by omega), w_bad (fun e => by first | (exact absurd e.2 (by decide)) | (have := e.1; first | contradiction | exact absurd this (by assumption))) (by omega)] <;> first | rfl | (simp only [if_true, if_false, Bool.false_eq_true]; congr 1; omega) | (simp; congr 1; omega))) rfl))
     ·
      refine AOps.yes rfl rfl rfl rfl rfl rfl rfl (decide_eq_false b6) (AOp.move (.str (s.extract (1 : Int).toNat (s.size : Int).toNat)) rfl rfl ?_)
      have hb7 := byt_rng (s.extract (1 : Int).toNat (s.size : Int).toNat) 0
      refine AOps.yes rfl rfl rfl rfl rfl rfl rfl (decide_eq_false b6) (AOp.indexB rfl rfl rfl u_9 (by omega) (by omega) ?_)
      refine AOps.yes rfl rfl rfl rfl rfl rfl rfl (decide_eq_false b6) (AOp.bin (.bool (decide (byt (s.extract (1 : Int).toNat (s.size : Int).toNat) 0 = 48))) rfl rfl rfl ieq ?_)
      refine AOps.cons rfl rfl (AOp.pickF (.bool (decide (byt (s.extract (1 : Int).toNat (s.size : Int).toNat) 0 = 48))) rfl rfl (decide_eq_false b6) rfl ?_)
      refine AOps.nil ?_
      change AWP _ _ _ _ _ _
      by_cases b8 : byt (s.extract (1 : Int).toNat (s.size : Int).toNat) 0 = 48
      ·
       refine AWP.condT rfl (decide_eq_true b8) ?_
       refine AWP.seq ?_
       refine AWP.region (l := [0, 1]) rfl ?_
       refine AOps.cons rfl rfl (AOp.assign (.int .i64 0) rfl rfl ?_)
       refine AOps.cons rfl rfl (AOp.assign (.bool false) rfl rfl ?_)
       refine AOps.nil ?_
       change AWP _ _ _ _ _ _
       refine AWP.ret ?_
       refine ⟨_, _, Ghost.refl, .inr rfl, _, Res.two rfl rfl rfl, ?_, m0⟩
       exact congrArg AV.tup (lc (congrArg (AV.int .i64) (show (0 : Int) = (num14 s).1 from by rw [num14_T (by omega), w_bad (fun e => by first | (exact absurd e.2 (by decide)) | (have := e.1; first | contradiction | exact absurd this (by assumption))) (by omega)] <;> first | rfl | (simp only [if_true, if_false, Bool.false_eq_true]; congr 1; omega) | (simp; congr 1; omega))) (lc (congrArg AV.bool (show (false : Bool) = (num14 s).2 from by rw [num14_T (by omega), w_bad (fun e => by first | (exact absurd e.2 (by decide)) | (have := e.1; first | contradiction | exact absurd this (by assumption))) (by omega)] <;> first | rfl | (simp only [if_true, if_false, Bool.false_eq_true]; congr 1; omega) | (simp; congr 1; omega))) rfl))
      ·
       refine AWP.condF rfl (decide_eq_false b8) ?_
       refine AWP.skip ?_
       change AWP _ _ _ _ _ _
       refine AWP.seq ?_
       refine AWP.region (l := [0]) rfl ?_
       refine AOps.cons rfl rfl (AOp.assign (.int .i64 0) rfl rfl ?_)
       refine AOps.nil ?_
       change AWP _ _ _ _ _ _
       refine AWP.seq ?_
       refine AWP.seq ?_
       refine AWP.region (l := [0]) rfl ?_
       refine AOps.cons rfl rfl (AOp.assign (.int .i64 0) rfl rfl ?_)
       refine AOps.nil ?_
       change AWP _ _ _ _ _ _
       refine AWP.block ?_
       refine AWP.loop (fun q9 fq Hq => ∃ (i : Int), q9 = (((s.extract (1 : Int).toNat (s.size : Int).toNat).size : Int) - i).toNat ∧ fq 6 = .int .i64 i ∧ fq 5 = .int .i64 (val10 (s.extract (1 : Int).toNat (s.size : Int).toNat) i.toNat) ∧ fq 0 = .str (s.extract (1 : Int).toNat (s.size : Int).toNat) ∧ fq 4 = .bool (decide (byt s 0 = 45)) ∧ Mono H0 Hq ∧ (0 ≤ i) ∧ (i ≤ (s.extract (1 : Int).toNat (s.size : Int).toNat).size) ∧ (∀ j : Int, 0 ≤ j → j < i → 48 ≤ byt (s.extract (1 : Int).toNat (s.size : Int).toNat) j ∧ byt (s.extract (1 : Int).toNat (s.size : Int).toNat) j ≤ 57)) (k := (((s.extract (1 : Int).toNat (s.size : Int).toNat).size : Int) - 0).toNat) ?_ ?_
       ·
        exact ⟨0, rfl, rfl, (congrArg (AV.int .i64) (show (0 : Int) = val10 (s.extract (1 : Int).toNat (s.size : Int).toNat) (0 : Int).toNat from by rfl)), rfl, rfl, m0, by omega, by omega, by intro j; omega⟩
       ·
        rintro _ f11 H10 ⟨i, rfl, s12, s13, s14, s15, m16, hi0, hi1, pre⟩
        refine AWP.seq ?_
        refine AWP.seq ?_
        refine AWP.region (l := [0, 1, 2, 3]) rfl ?_
        refine AOps.cons rfl rfl (AOp.move (.int .i64 i) rfl s12 ?_)
        refine AOps.cons rfl rfl (AOp.move (.str (s.extract (1 : Int).toNat (s.size : Int).toNat)) rfl s14 ?_)
        refine AOps.cons rfl rfl (AOp.lenStr rfl rfl u_9 ?_)
        refine AOps.cons rfl rfl (AOp.bin (.bool (decide (i < ((s.extract (1 : Int).toNat (s.size : Int).toNat).size : Int)))) rfl rfl rfl rfl ?_)
        refine AOps.nil ?_
        change AWP _ _ _ _ _ _
        by_cases b17 : i < ((s.extract (1 : Int).toNat (s.size : Int).toNat).size : Int)
        ·
         refine AWP.condT rfl (decide_eq_true b17) ?_
         refine AWP.skip ?_
         change AWP _ _ _ _ _ _
         refine AWP.seq ?_
         refine AWP.block ?_
         refine AWP.seq ?_
         refine AWP.seq ?_
         refine AWP.region (l := [0, 1, 2, 3, 4, 5, 6, 7, 8, 9]) rfl ?_
         refine AOps.cons rfl rfl (AOp.move (.str (s.extract (1 : Int).toNat (s.size : Int).toNat)) rfl s14 ?_)
         refine AOps.cons rfl rfl (AOp.move (.int .i64 i) rfl s12 ?_)
         have hb18 := byt_rng (s.extract (1 : Int).toNat (s.size : Int).toNat) i
         refine AOps.cons rfl rfl (AOp.indexB rfl rfl rfl u_9 (by omega) (by omega) ?_)
         refine AOps.cons rfl rfl (AOp.bin (.bool (decide (byt (s.extract (1 : Int).toNat (s.size : Int).toNat) i < 48))) rfl rfl rfl rfl ?_)
         refine AOps.cons rfl rfl (AOp.move (.bool (decide (byt (s.extract (1 : Int).toNat (s.size : Int).toNat) i < 48))) rfl rfl ?_)
         by_cases b19 : byt (s.extract (1 : Int).toNat (s.size : Int).toNat) i < 48
         ·
          refine AOps.no rfl rfl rfl rfl rfl rfl rfl (ble_of (decide_eq_true b19) (by decide)) ?_
          refine AOps.no rfl rfl rfl rfl rfl rfl rfl (ble_of (decide_eq_true b19) (by decide)) ?_
          refine AOps.no rfl rfl rfl rfl rfl rfl rfl (ble_of (decide_eq_true b19) (by decide)) ?_
          refine AOps.no rfl rfl rfl rfl rfl rfl rfl (ble_of (decide_eq_true b19) (by decide)) ?_
          refine AOps.cons rfl rfl (AOp.pickT (.bool true) rfl rfl (decide_eq_true b19) rfl ?_)
          refine AOps.nil ?_
          change AWP _ _ _ _ _ _
          refine AWP.condT rfl rfl ?_
          refine AWP.seq ?_
          refine AWP.region (l := [0, 1]) rfl ?_
          refine AOps.cons rfl rfl (AOp.assign (.int .i64 0) rfl rfl ?_)
          refine AOps.cons rfl rfl (AOp.assign (.bool false) rfl rfl ?_)
          refine AOps.nil ?_
          change AWP _ _ _ _ _ _
          refine AWP.ret ?_
          refine ⟨_, _, Ghost.refl, .inr rfl, _, Res.two rfl rfl rfl, ?_, m16⟩
          exact congrArg AV.tup (lc (congrArg (AV.int .i64) (show (0 : Int) = (num14 s).1 from by rw [num14_T (by omega), w_nodig (fun e => by first | (exact absurd e.2 (by decide)) | (have := e.1; first | contradiction | exact absurd this (by assumption))) (by omega) hi0 (by omega) (by omega)] <;> first | rfl | (simp only [if_true, if_false, Bool.false_eq_true]; congr 1; omega) | (simp; congr 1; omega))) (lc (congrArg AV.bool (show (false : Bool) = (num14 s).2 from by rw [num14_T (by omega), w_nodig (fun e => by first | (exact absurd e.2 (by decide)) | (have := e.1; first | contradiction | exact absurd this (by assumption))) (by omega) hi0 (by omega) (by omega)] <;> first | rfl | (simp only [if_true, if_false, Bool.false_eq_true]; congr 1; omega) | (simp; congr 1; omega))) rfl))
         ·
          refine AOps.yes rfl rfl rfl rfl rfl rfl rfl (decide_eq_false b19) (AOp.move (.str (s.extract (1 : Int).toNat (s.size : Int).toNat)) rfl s14 ?_)
          refine AOps.yes rfl rfl rfl rfl rfl rfl rfl (decide_eq_false b19) (AOp.move (.int .i64 i) rfl s12 ?_)
          refine AOps.yes rfl rfl rfl rfl rfl rfl rfl (decide_eq_false b19) (AOp.indexB rfl rfl rfl u_9 (by omega) (by omega) ?_)
          refine AOps.yes rfl rfl rfl rfl rfl rfl rfl (decide_eq_false b19) (AOp.bin (.bool (decide (byt (s.extract (1 : Int).toNat (s.size : Int).toNat) i > 57))) rfl rfl rfl rfl ?_)
          refine AOps.cons rfl rfl (AOp.pickF (.bool (decide (byt (s.extract (1 : Int).toNat (s.size : Int).toNat) i > 57))) rfl rfl (decide_eq_false b19) rfl ?_)
          refine AOps.nil ?_
          change AWP _ _ _ _ _ _
          by_cases b20 : byt (s.extract (1 : Int).toNat (s.size : Int).toNat) i > 57
          ·
           refine AWP.condT rfl (decide_eq_true b20) ?_
           refine AWP.seq ?_
           refine AWP.region (l := [0, 1]) rfl ?_
           refine AOps.cons rfl rfl (AOp.assign (.int .i64 0) rfl rfl ?_)
           refine AOps.cons rfl rfl (AOp.assign (.bool false) rfl rfl ?_)
           refine AOps.nil ?_
           change AWP _ _ _ _ _ _
           refine AWP.ret ?_
           refine ⟨_, _, Ghost.refl, .inr rfl, _, Res.two rfl rfl rfl, ?_, m16⟩
           exact congrArg AV.tup (lc (congrArg (AV.int .i64) (show (0 : Int) = (num14 s).1 from by rw [num14_T (by omega), w_nodig (fun e => by first | (exact absurd e.2 (by decide)) | (have := e.1; first | contradiction | exact absurd this (by assumption))) (by omega) hi0 (by omega) (by omega)] <;> first | rfl | (simp only [if_true, if_false, Bool.false_eq_true]; congr 1; omega) | (simp; congr 1; omega))) (lc (congrArg AV.bool (show (false : Bool) = (num14 s).2 from by rw [num14_T (by omega), w_nodig (fun e => by first | (exact absurd e.2 (by decide)) | (have := e.1; first | contradiction | exact absurd this (by assumption))) (by omega) hi0 (by omega) (by omega)] <;> first | rfl | (simp only [if_true, if_false, Bool.false_eq_true]; congr 1; omega) | (simp; congr 1; omega))) rfl))
          ·
           refine AWP.condF rfl (decide_eq_false b20) ?_
           refine AWP.skip ?_
           change AWP _ _ _ _ _ _
           have hv := val10_rng (w := s.extract (1 : Int).toNat (s.size : Int).toNat) (i := i) hi0 (by omega) pre
           refine AWP.region (l := [0, 1, 2, 3, 4, 5, 6, 7, 8]) rfl ?_
           refine AOps.cons rfl rfl (AOp.move (.int .i64 (val10 (s.extract (1 : Int).toNat (s.size : Int).toNat) i.toNat)) rfl s13 ?_)
           refine AOps.cons rfl rfl (AOp.bin (.int .i64 ((val10 (s.extract (1 : Int).toNat (s.size : Int).toNat) i.toNat) * 10)) rfl rfl rfl (imul (by omega)) ?_)
           refine AOps.cons rfl rfl (AOp.move (.str (s.extract (1 : Int).toNat (s.size : Int).toNat)) rfl s14 ?_)
           refine AOps.cons rfl rfl (AOp.move (.int .i64 i) rfl s12 ?_)
           refine AOps.cons rfl rfl (AOp.indexB rfl rfl rfl u_9 (by omega) (by omega) ?_)
           refine AOps.cons rfl rfl (AOp.bin (.int .u8 (byt (s.extract (1 : Int).toNat (s.size : Int).toNat) i - 48)) rfl rfl rfl (isub8 (by omega)) ?_)
           refine AOps.cons rfl rfl (AOp.convIntP rfl rfl u_5 u_3 (wrap64 (by omega)) ?_)
           refine AOps.cons rfl rfl (AOp.bin (.int .i64 ((val10 (s.extract (1 : Int).toNat (s.size : Int).toNat) i.toNat) * 10 + (byt (s.extract (1 : Int).toNat (s.size : Int).toNat) i - 48))) rfl rfl rfl (iadd (by omega)) ?_)
           refine AOps.cons rfl rfl (AOp.assign (.int .i64 ((val10 (s.extract (1 : Int).toNat (s.size : Int).toNat) i.toNat) * 10 + (byt (s.extract (1 : Int).toNat (s.size : Int).toNat) i - 48))) rfl rfl ?_)
           refine AOps.nil ?_
           change AWP _ _ _ _ _ _
           refine AWP.region (l := [0, 1, 2]) rfl ?_
           refine AOps.cons rfl rfl (AOp.move (.int .i64 i) rfl s12 ?_)
           refine AOps.cons rfl rfl (AOp.bin (.int .i64 (i + 1)) rfl rfl rfl (iadd (by omega)) ?_)
           refine AOps.cons rfl rfl (AOp.assign (.int .i64 (i + 1)) rfl rfl ?_)
           refine AOps.nil ?_
           exact ⟨_, by omega, i + 1, rfl, rfl, (congrArg (AV.int .i64) (show ((val10 (s.extract (1 : Int).toNat (s.size : Int).toNat) i.toNat) * 10 + (byt (s.extract (1 : Int).toNat (s.size : Int).toNat) i - 48) : Int) = val10 (s.extract (1 : Int).toNat (s.size : Int).toNat) (i + 1).toNat from by exact val10_step hi0)), s14, s15, m16, by omega, by omega, by exact dig_step pre (by omega)⟩
        ·
         refine AWP.condF rfl (decide_eq_false b17) ?_
         refine AWP.exit ?_
         change AWP _ _ _ _ _ _
         refine AWP.seq ?_
         refine AWP.seq ?_
         have hv := val10_rng6 (w := s.extract (1 : Int).toNat (s.size : Int).toNat) (i := i) hi0 (by omega) pre
         refine AWP.region (l := [0]) rfl ?_
         refine AOps.cons rfl rfl (AOp.move (.bool (decide (byt s 0 = 45))) rfl s15 ?_)
         refine AOps.nil ?_
         change AWP _ _ _ _ _ _
         refine AWP.condT rfl (decide_eq_true b3) ?_
         refine AWP.region (l := [0, 1, 2]) rfl ?_
         refine AOps.cons rfl rfl (AOp.move (.int .i64 (val10 (s.extract (1 : Int).toNat (s.size : Int).toNat) i.toNat)) rfl s13 ?_)
         refine AOps.cons rfl rfl (AOp.negP rfl rfl (by omega) ?_)
         refine AOps.cons rfl rfl (AOp.assign (.int .i64 (-(val10 (s.extract (1 : Int).toNat (s.size : Int).toNat) i.toNat))) rfl rfl ?_)
         refine AOps.nil ?_
         change AWP _ _ _ _ _ _
         refine AWP.seq ?_
         refine AWP.region (l := [0, 1, 2]) rfl ?_
         refine AOps.cons rfl rfl (AOp.move (.int .i64 (-(val10 (s.extract (1 : Int).toNat (s.size : Int).toNat) i.toNat))) rfl rfl ?_)
         refine AOps.cons rfl rfl (AOp.assign (.int .i64 (-(val10 (s.extract (1 : Int).toNat (s.size : Int).toNat) i.toNat))) rfl rfl ?_)
         refine AOps.cons rfl rfl (AOp.assign (.bool true) rfl rfl ?_)
         refine AOps.nil ?_
         change AWP _ _ _ _ _ _
         refine AWP.ret ?_
         refine ⟨_, _, Ghost.refl, .inr rfl, _, Res.two rfl rfl rfl, ?_, m16⟩
         exact congrArg AV.tup (lc (congrArg (AV.int .i64) (show (-(val10 (s.extract (1 : Int).toNat (s.size : Int).toNat) i.toNat) : Int) = (num14 s).1 from by rw [num14_T (by omega), w_ok (i := i) (fun e => by first | (exact absurd e.2 (by decide)) | (have := e.1; first | contradiction | exact absurd this (by assumption))) (by omega) (by omega) (by omega) pre] <;> first | rfl | (simp only [if_true, if_false, Bool.false_eq_true]; congr 1; omega) | (simp; congr 1; omega))) (lc (congrArg AV.bool (show (true : Bool) = (num14 s).2 from by rw [num14_T (by omega), w_ok (i := i) (fun e => by first | (exact absurd e.2 (by decide)) | (have := e.1; first | contradiction | exact absurd this (by assumption))) (by omega) (by omega) (by omega) pre] <;> first | rfl | (simp only [if_true, if_false, Bool.false_eq_true]; congr 1; omega) | (simp; congr 1; omega))) rfl))
   ·
    refine AOps.no rfl rfl rfl rfl rfl rfl rfl (ble_of (decide_eq_false b4) (by decide)) ?_
    refine AOps.no rfl rfl rfl rfl rfl rfl rfl (ble_of (decide_eq_false b4) (by decide)) ?_
    refine AOps.cons rfl rfl (AOp.pickF (.bool false) rfl rfl (decide_eq_false b4) rfl ?_)
    refine AOps.nil ?_
    change AWP _ _ _ _ _ _
    refine AWP.condF rfl rfl ?_
    refine AWP.skip ?_
    change AWP _ _ _ _ _ _
    refine AWP.seq ?_
    refine AWP.seq ?_
    refine AWP.region (l := [0, 1, 2, 3, 4, 5, 6, 7, 8, 9, 10, 11, 12]) rfl ?_
    refine AOps.cons rfl rfl (AOp.move (.str (s.extract (1 : Int).toNat (s.size : Int).toNat)) rfl rfl ?_)
    refine AOps.cons rfl rfl (AOp.lenStr rfl rfl u_9 ?_)
    refine AOps.cons rfl rfl (AOp.bin (.bool (decide (((s.extract (1 : Int).toNat (s.size : Int).toNat).size : Int) < 1))) rfl rfl rfl rfl ?_)
    refine AOps.cons rfl rfl (AOp.move (.bool (decide (((s.extract (1 : Int).toNat (s.size : Int).toNat).size : Int) < 1))) rfl rfl ?_)
    by_cases b21 : ((s.extract (1 : Int).toNat (s.size : Int).toNat).size : Int) < 1
    ·
     refine AOps.no rfl rfl rfl rfl rfl rfl rfl (ble_of (decide_eq_true b21) (by decide)) ?_
     refine AOps.no rfl rfl rfl rfl rfl rfl rfl (ble_of (decide_eq_true b21) (by decide)) ?_
     refine AOps.no rfl rfl rfl rfl rfl rfl rfl (ble_of (decide_eq_true b21) (by decide)) ?_
     refine AOps.cons rfl rfl (AOp.pickT (.bool true) rfl rfl (decide_eq_true b21) rfl ?_)
     refine AOps.cons rfl rfl (AOp.move (.bool true) rfl rfl ?_)
     refine AOps.no rfl rfl rfl rfl rfl rfl rfl (ble_of rfl (by decide)) ?_
     refine AOps.no rfl rfl rfl rfl rfl rfl rfl (ble_of rfl (by decide)) ?_
     refine AOps.no rfl rfl rfl rfl rfl rfl rfl (ble_of rfl (by decide)) ?_
     refine AOps.cons rfl rfl (AOp.pickT (.bool true) rfl rfl rfl rfl ?_)
     refine AOps.nil ?_
     change AWP _ _ _ _ _ _
     refine AWP.condT rfl rfl ?_
     refine AWP.seq ?_
     refine AWP.region (l := [0, 1]) rfl ?_
     refine AOps.cons rfl rfl (AOp.assign (.int .i64 0) rfl rfl ?_)
     refine AOps.cons rfl rfl (AOp.assign (.bool false) rfl rfl ?_)
     refine AOps.nil ?_
     change AWP _ _ _ _ _ _
     refine AWP.ret ?_
     refine ⟨_, _, Ghost.refl, .inr rfl, _, Res.two rfl rfl rfl, ?_, m0⟩
     exact congrArg AV.tup (lc (congrArg (AV.int .i64) (show (0 : Int) = (num14 s).1 from by rw [num14_T (by omega), w_bad (fun e => by first | (exact absurd e.2 (by decide)) | (have := e.1; first | contradiction | exact absurd this (by assumption))) (by omega)] <;> first | rfl | (simp only [if_true, if_false, Bool.false_eq_true]; congr 1; omega) | (simp; congr 1; omega))) (lc (congrArg AV.bool (show (false : Bool) = (num14 s).2 from by rw [num14_T (by omega), w_bad (fun e => by first | (exact absurd e.2 (by decide)) | (have := e.1; first | contradiction | exact absurd this (by assumption))) (by omega)] <;> first | rfl | (simp only [if_true, if_false, Bool.false_eq_true]; congr 1; omega) | (simp; congr 1; omega))) rfl))
    ·
     refine AOps.yes rfl rfl rfl rfl rfl rfl rfl (decide_eq_false b21) (AOp.move (.str (s.extract (1 : Int).toNat (s.size : Int).toNat)) rfl rfl ?_)
     refine AOps.yes rfl rfl rfl rfl rfl rfl rfl (decide_eq_false b21) (AOp.lenStr rfl rfl u_9 ?_)
     refine AOps.yes rfl rfl rfl rfl rfl rfl rfl (decide_eq_false b21) (AOp.bin (.bool (decide (((s.extract (1 : Int).toNat (s.size : Int).toNat).size : Int) > 6))) rfl rfl rfl rfl ?_)
     refine AOps.cons rfl rfl (AOp.pickF (.bool (decide (((s.extract (1 : Int).toNat (s.size : Int).toNat).size : Int) > 6))) rfl rfl (decide_eq_false b21) rfl ?_)
     refine AOps.cons rfl rfl (AOp.move (.bool (decide (((s.extract (1 : Int).toNat (s.size : Int).toNat).size : Int) > 6))) rfl rfl ?_)
     by_cases b22 : ((s.extract (1 : Int).toNat (s.size : Int).toNat).size : Int) > 6
     ·
      refine AOps.no rfl rfl rfl rfl rfl rfl rfl (ble_of (decide_eq_true b22) (by decide)) ?_
      refine AOps.no rfl rfl rfl rfl rfl rfl rfl (ble_of (decide_eq_true b22) (by decide)) ?_
      refine AOps.no rfl rfl rfl rfl rfl rfl rfl (ble_of (decide_eq_true b22) (by decide)) ?_
      refine AOps.cons rfl rfl (AOp.pickT (.bool true) rfl rfl (decide_eq_true b22) rfl ?_)
      refine AOps.nil ?_
      change AWP _ _ _ _ _ _
      refine AWP.condT rfl rfl ?_
      refine AWP.seq ?_
      refine AWP.region (l := [0, 1]) rfl ?_
      refine AOps.cons rfl rfl (AOp.assign (.int .i64 0) rfl rfl ?_)
      refine AOps.cons rfl rfl (AOp.assign (.bool false) rfl rfl ?_)
      refine AOps.nil ?_
      change AWP _ _ _ _ _ _
      refine AWP.ret ?_
      refine ⟨_, _, Ghost.refl, .inr rfl, _, Res.two rfl rfl rfl, ?_, m0⟩
      exact congrArg AV.tup (lc (congrArg (AV.int .i64) (show (0 : Int) = (num14 s).1 from by rw [num14_T (by omega), w_bad (fun e => by first | (exact absurd e.2 (by decide)) | (have := e.1; first | contradiction | exact absurd this (by assumption))) (by omega)] <;> first | rfl | (simp only [if_true, if_false, Bool.false_eq_true]; congr 1; omega) | (simp; congr 1; omega))) (lc (congrArg AV.bool (show (false : Bool) = (num14 s).2 from by rw [num14_T (by omega), w_bad (fun e => by first | (exact absurd e.2 (by decide)) | (have := e.1; first | contradiction | exact absurd this (by assumption))) (by omega)] <;> first | rfl | (simp only [if_true, if_false, Bool.false_eq_true]; congr 1; omega) | (simp; congr 1; omega))) rfl))
     ·
      refine AOps.yes rfl rfl rfl rfl rfl rfl rfl (decide_eq_false b22) (AOp.move (.str (s.extract (1 : Int).toNat (s.size : Int).toNat)) rfl rfl ?_)
      have hb23 := byt_rng (s.extract (1 : Int).toNat (s.size : Int).toNat) 0
      refine AOps.yes rfl rfl rfl rfl rfl rfl rfl (decide_eq_false b22) (AOp.indexB rfl rfl rfl u_9 (by omega) (by omega) ?_)
      refine AOps.yes rfl rfl rfl rfl rfl rfl rfl (decide_eq_false b22) (AOp.bin (.bool (decide (byt (s.extract (1 : Int).toNat (s.size : Int).toNat) 0 = 48))) rfl rfl rfl ieq ?_)
      refine AOps.cons rfl rfl (AOp.pickF (.bool (decide (byt (s.extract (1 : Int).toNat (s.size : Int).toNat) 0 = 48))) rfl rfl (decide_eq_false b22) rfl ?_)
      refine AOps.nil ?_
      change AWP _ _ _ _ _ _
      by_cases b24 : byt (s.extract (1 : Int).toNat (s.size : Int).toNat) 0 = 48
      ·
       refine AWP.condT rfl (decide_eq_true b24) ?_
       refine AWP.seq ?_
       refine AWP.region (l := [0, 1]) rfl ?_
       refine AOps.cons rfl rfl (AOp.assign (.int .i64 0) rfl rfl ?_)
       refine AOps.cons rfl rfl (AOp.assign (.bool false) rfl rfl ?_)
       refine AOps.nil ?_
       change AWP _ _ _ _ _ _
       refine AWP.ret ?_
       refine ⟨_, _, Ghost.refl, .inr rfl, _, Res.two rfl rfl rfl, ?_, m0⟩
       exact congrArg AV.tup (lc (congrArg (AV.int .i64) (show (0 : Int) = (num14 s).1 from by rw [num14_T (by omega), w_bad (fun e => by first | (exact absurd e.2 (by decide)) | (have := e.1; first | contradiction | exact absurd this (by assumption))) (by omega)] <;> first | rfl | (simp only [if_true, if_false, Bool.false_eq_true]; congr 1; omega) | (simp; congr 1; omega))) (lc (congrArg AV.bool (show (false : Bool) = (num14 s).2 from by rw [num14_T (by omega), w_bad (fun e => by first | (exact absurd e.2 (by decide)) | (have := e.1; first | contradiction | exact absurd this (by assumption))) (by omega)] <;> first | rfl | (simp only [if_true, if_false, Bool.false_eq_true]; congr 1; omega) | (simp; congr 1; omega))) rfl))
      ·
       refine AWP.condF rfl (decide_eq_false b24) ?_
       refine AWP.skip ?_
       change AWP _ _ _ _ _ _
       refine AWP.seq ?_
       refine AWP.region (l := [0]) rfl ?_
       refine AOps.cons rfl rfl (AOp.assign (.int .i64 0) rfl rfl ?_)
       refine AOps.nil ?_
       change AWP _ _ _ _ _ _
       refine AWP.seq ?_
       refine AWP.seq ?_
       refine AWP.region (l := [0]) rfl ?_
       refine AOps.cons rfl rfl (AOp.assign (.int .i64 0) rfl rfl ?_)
       refine AOps.nil ?_
       change AWP _ _ _ _ _ _
       refine AWP.block ?_
       refine AWP.loop (fun q25 fq Hq => ∃ (i : Int), q25 = (((s.extract (1 : Int).toNat (s.size : Int).toNat).size : Int) - i).toNat ∧ fq 6 = .int .i64 i ∧ fq 5 = .int .i64 (val10 (s.extract (1 : Int).toNat (s.size : Int).toNat) i.toNat) ∧ fq 0 = .str (s.extract (1 : Int).toNat (s.size : Int).toNat) ∧ fq 4 = .bool (decide (byt s 0 = 45)) ∧ Mono H0 Hq ∧ (0 ≤ i) ∧ (i ≤ (s.extract (1 : Int).toNat (s.size : Int).toNat).size) ∧ (∀ j : Int, 0 ≤ j → j < i → 48 ≤ byt (s.extract (1 : Int).toNat (s.size : Int).toNat) j ∧ byt (s.extract (1 : Int).toNat (s.size : Int).toNat) j ≤ 57)) (k := (((s.extract (1 : Int).toNat (s.size : Int).toNat).size : Int) - 0).toNat) ?_ ?_
       ·
        exact ⟨0, rfl, rfl, (congrArg (AV.int .i64) (show (0 : Int) = val10 (s.extract (1 : Int).toNat (s.size : Int).toNat) (0 : Int).toNat from by rfl)), rfl, rfl, m0, by omega, by omega, by intro j; omega⟩
       ·
        rintro _ f27 H26 ⟨i, rfl, s28, s29, s30, s31, m32, hi0, hi1, pre⟩
        refine AWP.seq ?_
        refine AWP.seq ?_
        refine AWP.region (l := [0, 1, 2, 3]) rfl ?_
        refine AOps.cons rfl rfl (AOp.move (.int .i64 i) rfl s28 ?_)
        refine AOps.cons rfl rfl (AOp.move (.str (s.extract (1 : Int).toNat (s.size : Int).toNat)) rfl s30 ?_)
        refine AOps.cons rfl rfl (AOp.lenStr rfl rfl u_9 ?_)
        refine AOps.cons rfl rfl (AOp.bin (.bool (decide (i < ((s.extract (1 : Int).toNat (s.size : Int).toNat).size : Int)))) rfl rfl rfl rfl ?_)
        refine AOps.nil ?_
        change AWP _ _ _ _ _ _
        by_cases b33 : i < ((s.extract (1 : Int).toNat (s.size : Int).toNat).size : Int)
        ·
         refine AWP.condT rfl (decide_eq_true b33) ?_
         refine AWP.skip ?_
         change AWP _ _ _ _ _ _
         refine AWP.seq ?_
         refine AWP.block ?_
         refine AWP.seq ?_
         refine AWP.seq ?_
         refine AWP.region (l := [0, 1, 2, 3, 4, 5, 6, 7, 8, 9]) rfl ?_
         refine AOps.cons rfl rfl (AOp.move (.str (s.extract (1 : Int).toNat (s.size : Int).toNat)) rfl s30 ?_)
         refine AOps.cons rfl rfl (AOp.move (.int .i64 i) rfl s28 ?_)
         have hb34 := byt_rng (s.extract (1 : Int).toNat (s.size : Int).toNat) i
         refine AOps.cons rfl rfl (AOp.indexB rfl rfl rfl u_9 (by omega) (by omega) ?_)
         refine AOps.cons rfl rfl (AOp.bin (.bool (decide (byt (s.extract (1 : Int).toNat (s.size : Int).toNat) i < 48))) rfl rfl rfl rfl ?_)
         refine AOps.cons rfl rfl (AOp.move (.bool (decide (byt (s.extract (1 : Int).toNat (s.size : Int).toNat) i < 48))) rfl rfl ?_)
         by_cases b35 : byt (s.extract (1 : Int).toNat (s.size : Int).toNat) i < 48
         ·
          refine AOps.no rfl rfl rfl rfl rfl rfl rfl (ble_of (decide_eq_true b35) (by decide)) ?_
          refine AOps.no rfl rfl rfl rfl rfl rfl rfl (ble_of (decide_eq_true b35) (by decide)) ?_
          refine AOps.no rfl rfl rfl rfl rfl rfl rfl (ble_of (decide_eq_true b35) (by decide)) ?_
          refine AOps.no rfl rfl rfl rfl rfl rfl rfl (ble_of (decide_eq_true b35) (by decide)) ?_
          refine AOps.cons rfl rfl (AOp.pickT (.bool true) rfl rfl (decide_eq_true b35) rfl ?_)
          refine AOps.nil ?_
          change AWP _ _ _ _ _ _
          refine AWP.condT rfl rfl ?_
          refine AWP.seq ?_
          refine AWP.region (l := [0, 1]) rfl ?_
          refine AOps.cons rfl rfl (AOp.assign (.int .i64 0) rfl rfl ?_)
          refine AOps.cons rfl rfl (AOp.assign (.bool false) rfl rfl ?_)
          refine AOps.nil ?_
          change AWP _ _ _ _ _ _
          refine AWP.ret ?_
          refine ⟨_, _, Ghost.refl, .inr rfl, _, Res.two rfl rfl rfl, ?_, m32⟩
          exact congrArg AV.tup (lc (congrArg (AV.int .i64) (show (0 : Int) = (num14 s).1 from by rw [num14_T (by omega), w_nodig (fun e => by first | (exact absurd e.2 (by decide)) | (have := e.1; first | contradiction | exact absurd this (by assumption))) (by omega) hi0 (by omega) (by omega)] <;> first | rfl | (simp only [if_true, if_false, Bool.false_eq_true]; congr 1; omega) | (simp; congr 1; omega))) (lc (congrArg AV.bool (show (false : Bool) = (num14 s).2 from by rw [num14_T (by omega), w_nodig (fun e => by first | (exact absurd e.2 (by decide)) | (have := e.1; first | contradiction | exact absurd this (by assumption))) (by omega) hi0 (by omega) (by omega)] <;> first | rfl | (simp only [if_true, if_false, Bool.false_eq_true]; congr 1; omega) | (simp; congr 1; omega))) rfl))
         ·
          refine AOps.yes rfl rfl rfl rfl rfl rfl rfl (decide_eq_false b35) (AOp.move (.str (s.extract (1 : Int).toNat (s.size : Int).toNat)) rfl s30 ?_)
          refine AOps.yes rfl rfl rfl rfl rfl rfl rfl (decide_eq_false b35) (AOp.move (.int .i64 i) rfl s28 ?_)
          refine AOps.yes rfl rfl rfl rfl rfl rfl rfl (decide_eq_false b35) (AOp.indexB rfl rfl rfl u_9 (by omega) (by omega) ?_)
          refine AOps.yes rfl rfl rfl rfl rfl rfl rfl (decide_eq_false b35) (AOp.bin (.bool (decide (byt (s.extract (1 : Int).toNat (s.size : Int).toNat) i > 57))) rfl rfl rfl rfl ?_)
          refine AOps.cons rfl rfl (AOp.pickF (.bool (decide (byt (s.extract (1 : Int).toNat (s.size : Int).toNat) i > 57))) rfl rfl (decide_eq_false b35) rfl ?_)
          refine AOps.nil ?_
          change AWP _ _ _ _ _ _
          by_cases b36 : byt (s.extract (1 : Int).toNat (s.size : Int).toNat) i > 57
          ·
           refine AWP.condT rfl (decide_eq_true b36) ?_
           refine AWP.seq ?_
           refine AWP.region (l := [0, 1]) rfl ?_
           refine AOps.cons rfl rfl (AOp.assign (.int .i64 0) rfl rfl ?_)
           refine AOps.cons rfl rfl (AOp.assign (.bool false) rfl rfl ?_)
           refine AOps.nil ?_
           change AWP _ _ _ _ _ _
           refine AWP.ret ?_
           refine ⟨_, _, Ghost.refl, .inr rfl, _, Res.two rfl rfl rfl, ?_, m32⟩
           exact congrArg AV.tup (lc (congrArg (AV.int .i64) (show (0 : Int) = (num14 s).1 from by rw [num14_T (by omega), w_nodig (fun e => by first | (exact absurd e.2 (by decide)) | (have := e.1; first | contradiction | exact absurd this (by assumption))) (by omega) hi0 (by omega) (by omega)] <;> first | rfl | (simp only [if_true, if_false, Bool.false_eq_true]; congr 1; omega) | (simp; congr 1; omega))) (lc (congrArg AV.bool (show (false : Bool) = (num14 s).2 from by rw [num14_T (by omega), w_nodig (fun e => by first | (exact absurd e.2 (by decide)) | (have := e.1; first | contradiction | exact absurd this (by assumption))) (by omega) hi0 (by omega) (by omega)] <;> first | rfl | (simp only [if_true, if_false, Bool.false_eq_true]; congr 1; omega) | (simp; congr 1; omega))) rfl))
          ·
           refine AWP.condF rfl (decide_eq_false b36) ?_
           refine AWP.skip ?_
           change AWP _ _ _ _ _ _
           have hv := val10_rng (w := s.extract (1 : Int).toNat (s.size : Int).toNat) (i := i) hi0 (by omega) pre
           refine AWP.region (l := [0, 1, 2, 3, 4, 5, 6, 7, 8]) rfl ?_
           refine AOps.cons rfl rfl (AOp.move (.int .i64 (val10 (s.extract (1 : Int).toNat (s.size : Int).toNat) i.toNat)) rfl s29 ?_)
           refine AOps.cons rfl rfl (AOp.bin (.int .i64 ((val10 (s.extract (1 : Int).toNat (s.size : Int).toNat) i.toNat) * 10)) rfl rfl rfl (imul (by omega)) ?_)
           refine AOps.cons rfl rfl (AOp.move (.str (s.extract (1 : Int).toNat (s.size : Int).toNat)) rfl s30 ?_)
           refine AOps.cons rfl rfl (AOp.move (.int .i64 i) rfl s28 ?_)
           refine AOps.cons rfl rfl (AOp.indexB rfl rfl rfl u_9 (by omega) (by omega) ?_)
           refine AOps.cons rfl rfl (AOp.bin (.int .u8 (byt (s.extract (1 : Int).toNat (s.size : Int).toNat) i - 48)) rfl rfl rfl (isub8 (by omega)) ?_)
           refine AOps.cons rfl rfl (AOp.convIntP rfl rfl u_5 u_3 (wrap64 (by omega)) ?_)
           refine AOps.cons rfl rfl (AOp.bin (.int .i64 ((val10 (s.extract (1 : Int).toNat (s.size : Int).toNat) i.toNat) * 10 + (byt (s.extract (1 : Int).toNat (s.size : Int).toNat) i - 48))) rfl rfl rfl (iadd (by omega)) ?_)
           refine AOps.cons rfl rfl (AOp.assign (.int .i64 ((val10 (s.extract (1 : Int).toNat (s.size : Int).toNat) i.toNat) * 10 + (byt (s.extract (1 : Int).toNat (s.size : Int).toNat) i - 48))) rfl rfl ?_)
           refine AOps.nil ?_
           change AWP _ _ _ _ _ _
           refine AWP.region (l := [0, 1, 2]) rfl ?_
           refine AOps.cons rfl rfl (AOp.move (.int .i64 i) rfl s28 ?_)
           refine AOps.cons rfl rfl (AOp.bin (.int .i64 (i + 1)) rfl rfl rfl (iadd (by omega)) ?_)
           refine AOps.cons rfl rfl (AOp.assign (.int .i64 (i + 1)) rfl rfl ?_)
           refine AOps.nil ?_
           exact ⟨_, by omega, i + 1, rfl, rfl, (congrArg (AV.int .i64) (show ((val10 (s.extract (1 : Int).toNat (s.size : Int).toNat) i.toNat) * 10 + (byt (s.extract (1 : Int).toNat (s.size : Int).toNat) i - 48) : Int) = val10 (s.extract (1 : Int).toNat (s.size : Int).toNat) (i + 1).toNat from by exact val10_step hi0)), s30, s31, m32, by omega, by omega, by exact dig_step pre (by omega)⟩
        ·
         refine AWP.condF rfl (decide_eq_false b33) ?_
         refine AWP.exit ?_
         change AWP _ _ _ _ _ _
         refine AWP.seq ?_
         refine AWP.seq ?_
         have hv := val10_rng6 (w := s.extract (1 : Int).toNat (s.size : Int).toNat) (i := i) hi0 (by omega) pre
         refine AWP.region (l := [0]) rfl ?_
         refine AOps.cons rfl rfl (AOp.move (.bool (decide (byt s 0 = 45))) rfl s31 ?_)
         refine AOps.nil ?_
         change AWP _ _ _ _ _ _
         refine AWP.condT rfl (decide_eq_true b3) ?_
         refine AWP.region (l := [0, 1, 2]) rfl ?_
         refine AOps.cons rfl rfl (AOp.move (.int .i64 (val10 (s.extract (1 : Int).toNat (s.size : Int).toNat) i.toNat)) rfl s29 ?_)
         refine AOps.cons rfl rfl (AOp.negP rfl rfl (by omega) ?_)
         refine AOps.cons rfl rfl (AOp.assign (.int .i64 (-(val10 (s.extract (1 : Int).toNat (s.size : Int).toNat) i.toNat))) rfl rfl ?_)
         refine AOps.nil ?_
         change AWP _ _ _ _ _ _
         refine AWP.seq ?_
         refine AWP.region (l := [0, 1, 2]) rfl ?_
         refine AOps.cons rfl rfl (AOp.move (.int .i64 (-(val10 (s.extract (1 : Int).toNat (s.size : Int).toNat) i.toNat))) rfl rfl ?_)
         refine AOps.cons rfl rfl (AOp.assign (.int .i64 (-(val10 (s.extract (1 : Int).toNat (s.size : Int).toNat) i.toNat))) rfl rfl ?_)
         refine AOps.cons rfl rfl (AOp.assign (.bool true) rfl rfl ?_)
         refine AOps.nil ?_
         change AWP _ _ _ _ _ _
         refine AWP.ret ?_
         refine ⟨_, _, Ghost.refl, .inr rfl, _, Res.two rfl rfl rfl, ?_, m32⟩
         exact congrArg AV.tup (lc (congrArg (AV.int .i64) (show (-(val10 (s.extract (1 : Int).toNat (s.size : Int).toNat) i.toNat) : Int) = (num14 s).1 from by rw [num14_T (by omega), w_ok (i := i) (fun e => by first | (exact absurd e.2 (by decide)) | (have := e.1; first | contradiction | exact absurd this (by assumption))) (by omega) (by omega) (by omega) pre] <;> first | rfl | (simp only [if_true, if_false, Bool.false_eq_true]; congr 1; omega) | (simp; congr 1; omega))) (lc (congrArg AV.bool (show (true : Bool) = (num14 s).2 from by rw [num14_T (by omega), w_ok (i := i) (fun e => by first | (exact absurd e.2 (by decide)) | (have := e.1; first | contradiction | exact absurd this (by assumption))) (by omega) (by omega) (by omega) pre] <;> first | rfl | (simp only [if_true, if_false, Bool.false_eq_true]; congr 1; omega) | (simp; congr 1; omega))) rfl))
  ·
   refine AWP.condF rfl (decide_eq_false b3) ?_
   refine AWP.skip ?_
   change AWP _ _ _ _ _ _
   refine AWP.seq ?_
   refine AWP.seq ?_
   refine AWP.region (l := [0, 1, 2, 3, 4, 5]) rfl ?_
   refine AOps.cons rfl rfl (AOp.move (.str s) rfl rfl ?_)
   refine AOps.cons rfl rfl (AOp.seqD rfl rfl rfl ?_)
   refine AOps.cons rfl rfl (AOp.move (.bool (decide (s = ⟨#[48]⟩))) rfl rfl ?_)
   by_cases b37 : s = ⟨#[48]⟩
   ·
    refine AOps.yes rfl rfl rfl rfl rfl rfl rfl (decide_eq_true b37) (AOp.move (.bool (decide (byt s 0 = 45))) rfl rfl ?_)
    refine AOps.yes rfl rfl rfl rfl rfl rfl rfl (decide_eq_true b37) (AOp.not rfl rfl ?_)
    refine AOps.cons rfl rfl (AOp.pickT (.bool (!(decide (byt s 0 = 45)))) rfl rfl (decide_eq_true b37) rfl ?_)
    refine AOps.nil ?_
    change AWP _ _ _ _ _ _
    refine AWP.condT rfl (nb (decide_eq_false b3)) ?_
    refine AWP.seq ?_
    refine AWP.region (l := [0, 1]) rfl ?_
    refine AOps.cons rfl rfl (AOp.assign (.int .i64 0) rfl rfl ?_)
    refine AOps.cons rfl rfl (AOp.assign (.bool true) rfl rfl ?_)
    refine AOps.nil ?_
    change AWP _ _ _ _ _ _
    refine AWP.ret ?_
    refine ⟨_, _, Ghost.refl, .inr rfl, _, Res.two rfl rfl rfl, ?_, m0⟩
    exact congrArg AV.tup (lc (congrArg (AV.int .i64) (show (0 : Int) = (num14 s).1 from by rw [num14_F (by omega), w_zero b37] <;> first | rfl | (simp only [if_true, if_false, Bool.false_eq_true]; congr 1; omega) | (simp; congr 1; omega))) (lc (congrArg AV.bool (show (true : Bool) = (num14 s).2 from by rw [num14_F (by omega), w_zero b37] <;> first | rfl | (simp only [if_true, if_false, Bool.false_eq_true]; congr 1; omega) | (simp; congr 1; omega))) rfl))
   ·
    refine AOps.no rfl rfl rfl rfl rfl rfl rfl (ble_of (decide_eq_false b37) (by decide)) ?_
    refine AOps.no rfl rfl rfl rfl rfl rfl rfl (ble_of (decide_eq_false b37) (by decide)) ?_
    refine AOps.cons rfl rfl (AOp.pickF (.bool false) rfl rfl (decide_eq_false b37) rfl ?_)
    refine AOps.nil ?_
    change AWP _ _ _ _ _ _
    refine AWP.condF rfl rfl ?_
    refine AWP.skip ?_
    change AWP _ _ _ _ _ _
    refine AWP.seq ?_
    refine AWP.seq ?_
    refine AWP.region (l := [0, 1, 2, 3, 4, 5, 6, 7, 8, 9, 10, 11, 12]) rfl ?_
    refine AOps.cons rfl rfl (AOp.move (.str s) rfl rfl ?_)
    refine AOps.cons rfl rfl (AOp.lenStr rfl rfl u_9 ?_)
    refine AOps.cons rfl rfl (AOp.bin (.bool (decide ((s.size : Int) < 1))) rfl rfl rfl rfl ?_)
    refine AOps.cons rfl rfl (AOp.move (.bool (decide ((s.size : Int) < 1))) rfl rfl ?_)
    by_cases b38 : (s.size : Int) < 1
    ·
     refine AOps.no rfl rfl rfl rfl rfl rfl rfl (ble_of (decide_eq_true b38) (by decide)) ?_
     refine AOps.no rfl rfl rfl rfl rfl rfl rfl (ble_of (decide_eq_true b38) (by decide)) ?_
     refine AOps.no rfl rfl rfl rfl rfl rfl rfl (ble_of (decide_eq_true b38) (by decide)) ?_
     refine AOps.cons rfl rfl (AOp.pickT (.bool true) rfl rfl (decide_eq_true b38) rfl ?_)
     refine AOps.cons rfl rfl (AOp.move (.bool true) rfl rfl ?_)
     refine AOps.no rfl rfl rfl rfl rfl rfl rfl (ble_of rfl (by decide)) ?_
     refine AOps.no rfl rfl rfl rfl rfl rfl rfl (ble_of rfl (by decide)) ?_
     refine AOps.no rfl rfl rfl rfl rfl rfl rfl (ble_of rfl (by decide)) ?_
     refine AOps.cons rfl rfl (AOp.pickT (.bool true) rfl rfl rfl rfl ?_)
     refine AOps.nil ?_
     change AWP _ _ _ _ _ _
     refine AWP.condT rfl rfl ?_
     refine AWP.seq ?_
     refine AWP.region (l := [0, 1]) rfl ?_
     refine AOps.cons rfl rfl (AOp.assign (.int .i64 0) rfl rfl ?_)
     refine AOps.cons rfl rfl (AOp.assign (.bool false) rfl rfl ?_)
     refine AOps.nil ?_
     change AWP _ _ _ _ _ _
     refine AWP.ret ?_
     refine ⟨_, _, Ghost.refl, .inr rfl, _, Res.two rfl rfl rfl, ?_, m0⟩
     exact congrArg AV.tup (lc (congrArg (AV.int .i64) (show (0 : Int) = (num14 s).1 from by rw [num14_F (by omega), w_bad (fun e => by first | (exact absurd e.2 (by decide)) | (have := e.1; first | contradiction | exact absurd this (by assumption))) (by omega)] <;> first | rfl | (simp only [if_true, if_false, Bool.false_eq_true]; congr 1; omega) | (simp; congr 1; omega))) (lc (congrArg AV.bool (show (false : Bool) = (num14 s).2 from by rw [num14_F (by omega), w_bad (fun e => by first | (exact absurd e.2 (by decide)) | (have := e.1; first | contradiction | exact absurd this (by assumption))) (by omega)] <;> first | rfl | (simp only [if_true, if_false, Bool.false_eq_true]; congr 1; omega) | (simp; congr 1; omega))) rfl))
    ·
     refine AOps.yes rfl rfl rfl rfl rfl rfl rfl (decide_eq_false b38) (AOp.move (.str s) rfl rfl ?_)
     refine AOps.yes rfl rfl rfl rfl rfl rfl rfl (decide_eq_false b38) (AOp.lenStr rfl rfl u_9 ?_)
     refine AOps.yes rfl rfl rfl rfl rfl rfl rfl (decide_eq_false b38) (AOp.bin (.bool (decide ((s.size : Int) > 6))) rfl rfl rfl rfl ?_)
     refine AOps.cons rfl rfl (AOp.pickF (.bool (decide ((s.size : Int) > 6))) rfl rfl (decide_eq_false b38) rfl ?_)
     refine AOps.cons rfl rfl (AOp.move (.bool (decide ((s.size : Int) > 6))) rfl rfl ?_)
     by_cases b39 : (s.size : Int) > 6
     ·
      refine AOps.no rfl rfl rfl rfl rfl rfl rfl (ble_of (decide_eq_true b39) (by decide)) ?_
      refine AOps.no rfl rfl rfl rfl rfl rfl rfl (ble_of (decide_eq_true b39) (by decide)) ?_
      refine AOps.no rfl rfl rfl rfl rfl rfl rfl (ble_of (decide_eq_true b39) (by decide)) ?_
      refine AOps.cons rfl rfl (AOp.pickT (.bool true) rfl rfl (decide_eq_true b39) rfl ?_)
      refine AOps.nil ?_
      change AWP _ _ _ _ _ _
      refine AWP.condT rfl rfl ?_
      refine AWP.seq ?_
      refine AWP.region (l := [0, 1]) rfl ?_
      refine AOps.cons rfl rfl (AOp.assign (.int .i64 0) rfl rfl ?_)
      refine AOps.cons rfl rfl (AOp.assign (.bool false) rfl rfl ?_)
      refine AOps.nil ?_
      change AWP _ _ _ _ _ _
      refine AWP.ret ?_
      refine ⟨_, _, Ghost.refl, .inr rfl, _, Res.two rfl rfl rfl, ?_, m0⟩
      exact congrArg AV.tup (lc (congrArg (AV.int .i64) (show (0 : Int) = (num14 s).1 from by rw [num14_F (by omega), w_bad (fun e => by first | (exact absurd e.2 (by decide)) | (have := e.1; first | contradiction | exact absurd this (by assumption))) (by omega)] <;> first | rfl | (simp only [if_true, if_false, Bool.false_eq_true]; congr 1; omega) | (simp; congr 1; omega))) (lc (congrArg AV.bool (show (false : Bool) = (num14 s).2 from by rw [num14_F (by omega), w_bad (fun e => by first | (exact absurd e.2 (by decide)) | (have := e.1; first | contradiction | exact absurd this (by assumption))) (by omega)] <;> first | rfl | (simp only [if_true, if_false, Bool.false_eq_true]; congr 1; omega) | (simp; congr 1; omega))) rfl))
     ·
      refine AOps.yes rfl rfl rfl rfl rfl rfl rfl (decide_eq_false b39) (AOp.move (.str s) rfl rfl ?_)
      refine AOps.yes rfl rfl rfl rfl rfl rfl rfl (decide_eq_false b39) (AOp.indexB rfl rfl rfl u_9 (by omega) (by omega) ?_)
      refine AOps.yes rfl rfl rfl rfl rfl rfl rfl (decide_eq_false b39) (AOp.bin (.bool (decide (byt s 0 = 48))) rfl rfl rfl ieq ?_)
      refine AOps.cons rfl rfl (AOp.pickF (.bool (decide (byt s 0 = 48))) rfl rfl (decide_eq_false b39) rfl ?_)
      refine AOps.nil ?_
      change AWP _ _ _ _ _ _
      by_cases b40 : byt s 0 = 48
      ·
       refine AWP.condT rfl (decide_eq_true b40) ?_
       refine AWP.seq ?_
       refine AWP.region (l := [0, 1]) rfl ?_
       refine AOps.cons rfl rfl (AOp.assign (.int .i64 0) rfl rfl ?_)
       refine AOps.cons rfl rfl (AOp.assign (.bool false) rfl rfl ?_)
       refine AOps.nil ?_
       change AWP _ _ _ _ _ _
       refine AWP.ret ?_
       refine ⟨_, _, Ghost.refl, .inr rfl, _, Res.two rfl rfl rfl, ?_, m0⟩
       exact congrArg AV.tup (lc (congrArg (AV.int .i64) (show (0 : Int) = (num14 s).1 from by rw [num14_F (by omega), w_bad (fun e => by first | (exact absurd e.2 (by decide)) | (have := e.1; first | contradiction | exact absurd this (by assumption))) (by omega)] <;> first | rfl | (simp only [if_true, if_false, Bool.false_eq_true]; congr 1; omega) | (simp; congr 1; omega))) (lc (congrArg AV.bool (show (false : Bool) = (num14 s).2 from by rw [num14_F (by omega), w_bad (fun e => by first | (exact absurd e.2 (by decide)) | (have := e.1; first | contradiction | exact absurd this (by assumption))) (by omega)] <;> first | rfl | (simp only [if_true, if_false, Bool.false_eq_true]; congr 1; omega) | (simp; congr 1; omega))) rfl))
      ·
       refine AWP.condF rfl (decide_eq_false b40) ?_
       refine AWP.skip ?_
       change AWP _ _ _ _ _ _
       refine AWP.seq ?_
       refine AWP.region (l := [0]) rfl ?_
       refine AOps.cons rfl rfl (AOp.assign (.int .i64 0) rfl rfl ?_)
       refine AOps.nil ?_
       change AWP _ _ _ _ _ _
       refine AWP.seq ?_
       refine AWP.seq ?_
       refine AWP.region (l := [0]) rfl ?_
       refine AOps.cons rfl rfl (AOp.assign (.int .i64 0) rfl rfl ?_)
       refine AOps.nil ?_
       change AWP _ _ _ _ _ _
       refine AWP.block ?_
       refine AWP.loop (fun q41 fq Hq => ∃ (i : Int), q41 = ((s.size : Int) - i).toNat ∧ fq 6 = .int .i64 i ∧ fq 5 = .int .i64 (val10 s i.toNat) ∧ fq 0 = .str s ∧ fq 4 = .bool (decide (byt s 0 = 45)) ∧ Mono H0 Hq ∧ (0 ≤ i) ∧ (i ≤ s.size) ∧ (∀ j : Int, 0 ≤ j → j < i → 48 ≤ byt s j ∧ byt s j ≤ 57)) (k := ((s.size : Int) - 0).toNat) ?_ ?_
       ·
        exact ⟨0, rfl, rfl, (congrArg (AV.int .i64) (show (0 : Int) = val10 s (0 : Int).toNat from by rfl)), rfl, rfl, m0, by omega, by omega, by intro j; omega⟩
       ·
        rintro _ f43 H42 ⟨i, rfl, s44, s45, s46, s47, m48, hi0, hi1, pre⟩
        refine AWP.seq ?_
        refine AWP.seq ?_
        refine AWP.region (l := [0, 1, 2, 3]) rfl ?_
        refine AOps.cons rfl rfl (AOp.move (.int .i64 i) rfl s44 ?_)
        refine AOps.cons rfl rfl (AOp.move (.str s) rfl s46 ?_)
        refine AOps.cons rfl rfl (AOp.lenStr rfl rfl u_9 ?_)
        refine AOps.cons rfl rfl (AOp.bin (.bool (decide (i < (s.size : Int)))) rfl rfl rfl rfl ?_)
        refine AOps.nil ?_
        change AWP _ _ _ _ _ _
        by_cases b49 : i < (s.size : Int)
        ·
         refine AWP.condT rfl (decide_eq_true b49) ?_
         refine AWP.skip ?_
         change AWP _ _ _ _ _ _
         refine AWP.seq ?_
         refine AWP.block ?_
         refine AWP.seq ?_
         refine AWP.seq ?_
         refine AWP.region (l := [0, 1, 2, 3, 4, 5, 6, 7, 8, 9]) rfl ?_
         refine AOps.cons rfl rfl (AOp.move (.str s) rfl s46 ?_)
         refine AOps.cons rfl rfl (AOp.move (.int .i64 i) rfl s44 ?_)
         have hb50 := byt_rng s i
         refine AOps.cons rfl rfl (AOp.indexB rfl rfl rfl u_9 (by omega) (by omega) ?_)
         refine AOps.cons rfl rfl (AOp.bin (.bool (decide (byt s i < 48))) rfl rfl rfl rfl ?_)
         refine AOps.cons rfl rfl (AOp.move (.bool (decide (byt s i < 48))) rfl rfl ?_)
         by_cases b51 : byt s i < 48
         ·
          refine AOps.no rfl rfl rfl rfl rfl rfl rfl (ble_of (decide_eq_true b51) (by decide)) ?_
          refine AOps.no rfl rfl rfl rfl rfl rfl rfl (ble_of (decide_eq_true b51) (by decide)) ?_
          refine AOps.no rfl rfl rfl rfl rfl rfl rfl (ble_of (decide_eq_true b51) (by decide)) ?_
          refine AOps.no rfl rfl rfl rfl rfl rfl rfl (ble_of (decide_eq_true b51) (by decide)) ?_
          refine AOps.cons rfl rfl (AOp.pickT (.bool true) rfl rfl (decide_eq_true b51) rfl ?_)
          refine AOps.nil ?_
          change AWP _ _ _ _ _ _
          refine AWP.condT rfl rfl ?_
          refine AWP.seq ?_
          refine AWP.region (l := [0, 1]) rfl ?_
          refine AOps.cons rfl rfl (AOp.assign (.int .i64 0) rfl rfl ?_)
          refine AOps.cons rfl rfl (AOp.assign (.bool false) rfl rfl ?_)
          refine AOps.nil ?_
          change AWP _ _ _ _ _ _
          refine AWP.ret ?_
          refine ⟨_, _, Ghost.refl, .inr rfl, _, Res.two rfl rfl rfl, ?_, m48⟩
          exact congrArg AV.tup (lc (congrArg (AV.int .i64) (show (0 : Int) = (num14 s).1 from by rw [num14_F (by omega), w_nodig (fun e => by first | (exact absurd e.2 (by decide)) | (have := e.1; first | contradiction | exact absurd this (by assumption))) (by omega) hi0 (by omega) (by omega)] <;> first | rfl | (simp only [if_true, if_false, Bool.false_eq_true]; congr 1; omega) | (simp; congr 1; omega))) (lc (congrArg AV.bool (show (false : Bool) = (num14 s).2 from by rw [num14_F (by omega), w_nodig (fun e => by first | (exact absurd e.2 (by decide)) | (have := e.1; first | contradiction | exact absurd this (by assumption))) (by omega) hi0 (by omega) (by omega)] <;> first | rfl | (simp only [if_true, if_false, Bool.false_eq_true]; congr 1; omega) | (simp; congr 1; omega))) rfl))
         ·
          refine AOps.yes rfl rfl rfl rfl rfl rfl rfl (decide_eq_false b51) (AOp.move (.str s) rfl s46 ?_)
          refine AOps.yes rfl rfl rfl rfl rfl rfl rfl (decide_eq_false b51) (AOp.move (.int .i64 i) rfl s44 ?_)
          refine AOps.yes rfl rfl rfl rfl rfl rfl rfl (decide_eq_false b51) (AOp.indexB rfl rfl rfl u_9 (by omega) (by omega) ?_)
          refine AOps.yes rfl rfl rfl rfl rfl rfl rfl (decide_eq_false b51) (AOp.bin (.bool (decide (byt s i > 57))) rfl rfl rfl rfl ?_)
          refine AOps.cons rfl rfl (AOp.pickF (.bool (decide (byt s i > 57))) rfl rfl (decide_eq_false b51) rfl ?_)
          refine AOps.nil ?_
          change AWP _ _ _ _ _ _
          by_cases b52 : byt s i > 57
          ·
           refine AWP.condT rfl (decide_eq_true b52) ?_
           refine AWP.seq ?_
           refine AWP.region (l := [0, 1]) rfl ?_
           refine AOps.cons rfl rfl (AOp.assign (.int .i64 0) rfl rfl ?_)
           refine AOps.cons rfl rfl (AOp.assign (.bool false) rfl rfl ?_)
           refine AOps.nil ?_
           change AWP _ _ _ _ _ _
           refine AWP.ret ?_
           refine ⟨_, _, Ghost.refl, .inr rfl, _, Res.two rfl rfl rfl, ?_, m48⟩
           exact congrArg AV.tup (lc (congrArg (AV.int .i64) (show (0 : Int) = (num14 s).1 from by rw [num14_F (by omega), w_nodig (fun e => by first | (exact absurd e.2 (by decide)) | (have := e.1; first | contradiction | exact absurd this (by assumption))) (by omega) hi0 (by omega) (by omega)] <;> first | rfl | (simp only [if_true, if_false, Bool.false_eq_true]; congr 1; omega) | (simp; congr 1; omega))) (lc (congrArg AV.bool (show (false : Bool) = (num14 s).2 from by rw [num14_F (by omega), w_nodig (fun e => by first | (exact absurd e.2 (by decide)) | (have := e.1; first | contradiction | exact absurd this (by assumption))) (by omega) hi0 (by omega) (by omega)] <;> first | rfl | (simp only [if_true, if_false, Bool.false_eq_true]; congr 1; omega) | (simp; congr 1; omega))) rfl))
          ·
           refine AWP.condF rfl (decide_eq_false b52) ?_
           refine AWP.skip ?_
           change AWP _ _ _ _ _ _
           have hv := val10_rng (w := s) (i := i) hi0 (by omega) pre
           refine AWP.region (l := [0, 1, 2, 3, 4, 5, 6, 7, 8]) rfl ?_
           refine AOps.cons rfl rfl (AOp.move (.int .i64 (val10 s i.toNat)) rfl s45 ?_)
           refine AOps.cons rfl rfl (AOp.bin (.int .i64 ((val10 s i.toNat) * 10)) rfl rfl rfl (imul (by omega)) ?_)
           refine AOps.cons rfl rfl (AOp.move (.str s) rfl s46 ?_)
           refine AOps.cons rfl rfl (AOp.move (.int .i64 i) rfl s44 ?_)
           refine AOps.cons rfl rfl (AOp.indexB rfl rfl rfl u_9 (by omega) (by omega) ?_)
           refine AOps.cons rfl rfl (AOp.bin (.int .u8 (byt s i - 48)) rfl rfl rfl (isub8 (by omega)) ?_)
           refine AOps.cons rfl rfl (AOp.convIntP rfl rfl u_5 u_3 (wrap64 (by omega)) ?_)
           refine AOps.cons rfl rfl (AOp.bin (.int .i64 ((val10 s i.toNat) * 10 + (byt s i - 48))) rfl rfl rfl (iadd (by omega)) ?_)
           refine AOps.cons rfl rfl (AOp.assign (.int .i64 ((val10 s i.toNat) * 10 + (byt s i - 48))) rfl rfl ?_)
           refine AOps.nil ?_
           change AWP _ _ _ _ _ _
           refine AWP.region (l := [0, 1, 2]) rfl ?_
           refine AOps.cons rfl rfl (AOp.move (.int .i64 i) rfl s44 ?_)
           refine AOps.cons rfl rfl (AOp.bin (.int .i64 (i + 1)) rfl rfl rfl (iadd (by omega)) ?_)
           refine AOps.cons rfl rfl (AOp.assign (.int .i64 (i + 1)) rfl rfl ?_)
           refine AOps.nil ?_
           exact ⟨_, by omega, i + 1, rfl, rfl, (congrArg (AV.int .i64) (show ((val10 s i.toNat) * 10 + (byt s i - 48) : Int) = val10 s (i + 1).toNat from by exact val10_step hi0)), s46, s47, m48, by omega, by omega, by exact dig_step pre (by omega)⟩
        ·
         refine AWP.condF rfl (decide_eq_false b49) ?_
         refine AWP.exit ?_
         change AWP _ _ _ _ _ _
         refine AWP.seq ?_
         refine AWP.seq ?_
         have hv := val10_rng6 (w := s) (i := i) hi0 (by omega) pre
         refine AWP.region (l := [0]) rfl ?_
         refine AOps.cons rfl rfl (AOp.move (.bool (decide (byt s 0 = 45))) rfl s47 ?_)
         refine AOps.nil ?_
         change AWP _ _ _ _ _ _
         refine AWP.condF rfl (decide_eq_false b3) ?_
         refine AWP.skip ?_
         change AWP _ _ _ _ _ _
         refine AWP.seq ?_
         refine AWP.region (l := [0, 1, 2]) rfl ?_
         refine AOps.cons rfl rfl (AOp.move (.int .i64 (val10 s i.toNat)) rfl s45 ?_)
         refine AOps.cons rfl rfl (AOp.assign (.int .i64 (val10 s i.toNat)) rfl rfl ?_)
         refine AOps.cons rfl rfl (AOp.assign (.bool true) rfl rfl ?_)
         refine AOps.nil ?_
         change AWP _ _ _ _ _ _
         refine AWP.ret ?_
         refine ⟨_, _, Ghost.refl, .inr rfl, _, Res.two rfl rfl rfl, ?_, m48⟩
         exact congrArg AV.tup (lc (congrArg (AV.int .i64) (show (val10 s i.toNat : Int) = (num14 s).1 from by rw [num14_F (by omega), w_ok (i := i) (fun e => by first | (exact absurd e.2 (by decide)) | (have := e.1; first | contradiction | exact absurd this (by assumption))) (by omega) (by omega) (by omega) pre] <;> first | rfl | (simp only [if_true, if_false, Bool.false_eq_true]; congr 1; omega) | (simp; congr 1; omega))) (lc (congrArg AV.bool (show (true : Bool) = (num14 s).2 from by rw [num14_F (by omega), w_ok (i := i) (fun e => by first | (exact absurd e.2 (by decide)) | (have := e.1; first | contradiction | exact absurd this (by assumption))) (by omega) (by omega) (by omega) pre] <;> first | rfl | (simp only [if_true, if_false, Bool.false_eq_true]; congr 1; omega) | (simp; congr 1; omega))) rfl))
 ·
  refine AOps.no rfl rfl rfl rfl rfl rfl rfl (ble_of (decide_eq_false b1) (by decide)) ?_
  refine AOps.no rfl rfl rfl rfl rfl rfl rfl (ble_of (decide_eq_false b1) (by decide)) ?_
  refine AOps.no rfl rfl rfl rfl rfl rfl rfl (ble_of (decide_eq_false b1) (by decide)) ?_
  refine AOps.cons rfl rfl (AOp.pickF (.bool false) rfl rfl (decide_eq_false b1) rfl ?_)
  refine AOps.cons rfl rfl (AOp.assign (.bool false) rfl rfl ?_)
  refine AOps.nil ?_
  change AWP _ _ _ _ _ _
  refine AWP.seq ?_
  refine AWP.seq ?_
  refine AWP.region (l := [0]) rfl ?_
  refine AOps.cons rfl rfl (AOp.move (.bool false) rfl rfl ?_)
  refine AOps.nil ?_
  change AWP _ _ _ _ _ _
  refine AWP.condF rfl rfl ?_
  refine AWP.skip ?_
  change AWP _ _ _ _ _ _
  refine AWP.seq ?_
  refine AWP.seq ?_
  refine AWP.region (l := [0, 1, 2, 3, 4, 5]) rfl ?_
  refine AOps.cons rfl rfl (AOp.move (.str s) rfl rfl ?_)
  refine AOps.cons rfl rfl (AOp.seqD rfl rfl rfl ?_)
  refine AOps.cons rfl rfl (AOp.move (.bool (decide (s = ⟨#[48]⟩))) rfl rfl ?_)
  by_cases b53 : s = ⟨#[48]⟩
  ·
   refine AOps.yes rfl rfl rfl rfl rfl rfl rfl (decide_eq_true b53) (AOp.move (.bool false) rfl rfl ?_)
   refine AOps.yes rfl rfl rfl rfl rfl rfl rfl (decide_eq_true b53) (AOp.not rfl rfl ?_)
   refine AOps.cons rfl rfl (AOp.pickT (.bool (!false)) rfl rfl (decide_eq_true b53) rfl ?_)
   refine AOps.nil ?_
   change AWP _ _ _ _ _ _
   refine AWP.condT rfl rfl ?_
   refine AWP.seq ?_
   refine AWP.region (l := [0, 1]) rfl ?_
   refine AOps.cons rfl rfl (AOp.assign (.int .i64 0) rfl rfl ?_)
   refine AOps.cons rfl rfl (AOp.assign (.bool true) rfl rfl ?_)
   refine AOps.nil ?_
   change AWP _ _ _ _ _ _
   refine AWP.ret ?_
   refine ⟨_, _, Ghost.refl, .inr rfl, _, Res.two rfl rfl rfl, ?_, m0⟩
   exact congrArg AV.tup (lc (congrArg (AV.int .i64) (show (0 : Int) = (num14 s).1 from by rw [num14_F (by omega), w_zero b53] <;> first | rfl | (simp only [if_true, if_false, Bool.false_eq_true]; congr 1; omega) | (simp; congr 1; omega))) (lc (congrArg AV.bool (show (true : Bool) = (num14 s).2 from by rw [num14_F (by omega), w_zero b53] <;> first | rfl | (simp only [if_true, if_false, Bool.false_eq_true]; congr 1; omega) | (simp; congr 1; omega))) rfl))
  ·
   refine AOps.no rfl rfl rfl rfl rfl rfl rfl (ble_of (decide_eq_false b53) (by decide)) ?_
   refine AOps.no rfl rfl rfl rfl rfl rfl rfl (ble_of (decide_eq_false b53) (by decide)) ?_
   refine AOps.cons rfl rfl (AOp.pickF (.bool false) rfl rfl (decide_eq_false b53) rfl ?_)
   refine AOps.nil ?_
   change AWP _ _ _ _ _ _
   refine AWP.condF rfl rfl ?_
   refine AWP.skip ?_
   change AWP _ _ _ _ _ _
   refine AWP.seq ?_
   refine AWP.seq ?_
   refine AWP.region (l := [0, 1, 2, 3, 4, 5, 6, 7, 8, 9, 10, 11, 12]) rfl ?_
   refine AOps.cons rfl rfl (AOp.move (.str s) rfl rfl ?_)
   refine AOps.cons rfl rfl (AOp.lenStr rfl rfl u_9 ?_)
   refine AOps.cons rfl rfl (AOp.bin (.bool (decide ((s.size : Int) < 1))) rfl rfl rfl rfl ?_)
   refine AOps.cons rfl rfl (AOp.move (.bool (decide ((s.size : Int) < 1))) rfl rfl ?_)
   by_cases b54 : (s.size : Int) < 1
   ·
    refine AOps.no rfl rfl rfl rfl rfl rfl rfl (ble_of (decide_eq_true b54) (by decide)) ?_
    refine AOps.no rfl rfl rfl rfl rfl rfl rfl (ble_of (decide_eq_true b54) (by decide)) ?_
    refine AOps.no rfl rfl rfl rfl rfl rfl rfl (ble_of (decide_eq_true b54) (by decide)) ?_
    refine AOps.cons rfl rfl (AOp.pickT (.bool true) rfl rfl (decide_eq_true b54) rfl ?_)
    refine AOps.cons rfl rfl (AOp.move (.bool true) rfl rfl ?_)
    refine AOps.no rfl rfl rfl rfl rfl rfl rfl (ble_of rfl (by decide)) ?_
    refine AOps.no rfl rfl rfl rfl rfl rfl rfl (ble_of rfl (by decide)) ?_
    refine AOps.no rfl rfl rfl rfl rfl rfl rfl (ble_of rfl (by decide)) ?_
    refine AOps.cons rfl rfl (AOp.pickT (.bool true) rfl rfl rfl rfl ?_)
    refine AOps.nil ?_
    change AWP _ _ _ _ _ _
    refine AWP.condT rfl rfl ?_
    refine AWP.seq ?_
    refine AWP.region (l := [0, 1]) rfl ?_
    refine AOps.cons rfl rfl (AOp.assign (.int .i64 0) rfl rfl ?_)
    refine AOps.cons rfl rfl (AOp.assign (.bool false) rfl rfl ?_)
    refine AOps.nil ?_
    change AWP _ _ _ _ _ _
    refine AWP.ret ?_
    refine ⟨_, _, Ghost.refl, .inr rfl, _, Res.two rfl rfl rfl, ?_, m0⟩
    exact congrArg AV.tup (lc (congrArg (AV.int .i64) (show (0 : Int) = (num14 s).1 from by rw [num14_F (by omega), w_bad (fun e => by first | (exact absurd e.2 (by decide)) | (have := e.1; first | contradiction | exact absurd this (by assumption))) (by omega)] <;> first | rfl | (simp only [if_true, if_false, Bool.false_eq_true]; congr 1; omega) | (simp; congr 1; omega))) (lc (congrArg AV.bool (show (false : Bool) = (num14 s).2 from by rw [num14_F (by omega), w_bad (fun e => by first | (exact absurd e.2 (by decide)) | (have := e.1; first | contradiction | exact absurd this (by assumption))) (by omega)] <;> first | rfl | (simp only [if_true, if_false, Bool.false_eq_true]; congr 1; omega) | (simp; congr 1; omega))) rfl))
   ·
    refine AOps.yes rfl rfl rfl rfl rfl rfl rfl (decide_eq_false b54) (AOp.move (.str s) rfl rfl ?_)
    refine AOps.yes rfl rfl rfl rfl rfl rfl rfl (decide_eq_false b54) (AOp.lenStr rfl rfl u_9 ?_)
    refine AOps.yes rfl rfl rfl rfl rfl rfl rfl (decide_eq_false b54) (AOp.bin (.bool (decide ((s.size : Int) > 6))) rfl rfl rfl rfl ?_)
    refine AOps.cons rfl rfl (AOp.pickF (.bool (decide ((s.size : Int) > 6))) rfl rfl (decide_eq_false b54) rfl ?_)
    refine AOps.cons rfl rfl (AOp.move (.bool (decide ((s.size : Int) > 6))) rfl rfl ?_)
    by_cases b55 : (s.size : Int) > 6
    ·
     refine AOps.no rfl rfl rfl rfl rfl rfl rfl (ble_of (decide_eq_true b55) (by decide)) ?_
     refine AOps.no rfl rfl rfl rfl rfl rfl rfl (ble_of (decide_eq_true b55) (by decide)) ?_
     refine AOps.no rfl rfl rfl rfl rfl rfl rfl (ble_of (decide_eq_true b55) (by decide)) ?_
     refine AOps.cons rfl rfl (AOp.pickT (.bool true) rfl rfl (decide_eq_true b55) rfl ?_)
     refine AOps.nil ?_
     change AWP _ _ _ _ _ _
     refine AWP.condT rfl rfl ?_
     refine AWP.seq ?_
     refine AWP.region (l := [0, 1]) rfl ?_
     refine AOps.cons rfl rfl (AOp.assign (.int .i64 0) rfl rfl ?_)
     refine AOps.cons rfl rfl (AOp.assign (.bool false) rfl rfl ?_)
     refine AOps.nil ?_
     change AWP _ _ _ _ _ _
     refine AWP.ret ?_
     refine ⟨_, _, Ghost.refl, .inr rfl, _, Res.two rfl rfl rfl, ?_, m0⟩
     exact congrArg AV.tup (lc (congrArg (AV.int .i64) (show (0 : Int) = (num14 s).1 from by rw [num14_F (by omega), w_bad (fun e => by first | (exact absurd e.2 (by decide)) | (have := e.1; first | contradiction | exact absurd this (by assumption))) (by omega)] <;> first | rfl | (simp only [if_true, if_false, Bool.false_eq_true]; congr 1; omega) | (simp; congr 1; omega))) (lc (congrArg AV.bool (show (false : Bool) = (num14 s).2 from by rw [num14_F (by omega), w_bad (fun e => by first | (exact absurd e.2 (by decide)) | (have := e.1; first | contradiction | exact absurd this (by assumption))) (by omega)] <;> first | rfl | (simp only [if_true, if_false, Bool.false_eq_true]; congr 1; omega) | (simp; congr 1; omega))) rfl))
    ·
     refine AOps.yes rfl rfl rfl rfl rfl rfl rfl (decide_eq_false b55) (AOp.move (.str s) rfl rfl ?_)
     have hb56 := byt_rng s 0
     refine AOps.yes rfl rfl rfl rfl rfl rfl rfl (decide_eq_false b55) (AOp.indexB rfl rfl rfl u_9 (by omega) (by omega) ?_)
     refine AOps.yes rfl rfl rfl rfl rfl rfl rfl (decide_eq_false b55) (AOp.bin (.bool (decide (byt s 0 = 48))) rfl rfl rfl ieq ?_)
     refine AOps.cons rfl rfl (AOp.pickF (.bool (decide (byt s 0 = 48))) rfl rfl (decide_eq_false b55) rfl ?_)
     refine AOps.nil ?_
     change AWP _ _ _ _ _ _
     by_cases b57 : byt s 0 = 48
     ·
      refine AWP.condT rfl (decide_eq_true b57) ?_
      refine AWP.seq ?_
      refine AWP.region (l := [0, 1]) rfl ?_
      refine AOps.cons rfl rfl (AOp.assign (.int .i64 0) rfl rfl ?_)
      refine AOps.cons rfl rfl (AOp.assign (.bool false) rfl rfl ?_)
      refine AOps.nil ?_
      change AWP _ _ _ _ _ _
      refine AWP.ret ?_
      refine ⟨_, _, Ghost.refl, .inr rfl, _, Res.two rfl rfl rfl, ?_, m0⟩
      exact congrArg AV.tup (lc (congrArg (AV.int .i64) (show (0 : Int) = (num14 s).1 from by rw [num14_F (by omega), w_bad (fun e => by first | (exact absurd e.2 (by decide)) | (have := e.1; first | contradiction | exact absurd this (by assumption))) (by omega)] <;> first | rfl | (simp only [if_true, if_false, Bool.false_eq_true]; congr 1; omega) | (simp; congr 1; omega))) (lc (congrArg AV.bool (show (false : Bool) = (num14 s).2 from by rw [num14_F (by omega), w_bad (fun e => by first | (exact absurd e.2 (by decide)) | (have := e.1; first | contradiction | exact absurd this (by assumption))) (by omega)] <;> first | rfl | (simp only [if_true, if_false, Bool.false_eq_true]; congr 1; omega) | (simp; congr 1; omega))) rfl))
     ·
      refine AWP.condF rfl (decide_eq_false b57) ?_
      refine AWP.skip ?_
      change AWP _ _ _ _ _ _
      refine AWP.seq ?_
      refine AWP.region (l := [0]) rfl ?_
      refine AOps.cons rfl rfl (AOp.assign (.int .i64 0) rfl rfl ?_)
      refine AOps.nil ?_
      change AWP _ _ _ _ _ _
      refine AWP.seq ?_
      refine AWP.seq ?_
      refine AWP.region (l := [0]) rfl ?_
      refine AOps.cons rfl rfl (AOp.assign (.int .i64 0) rfl rfl ?_)
      refine AOps.nil ?_
      change AWP _ _ _ _ _ _
      refine AWP.block ?_
      refine AWP.loop (fun q58 fq Hq => ∃ (i : Int), q58 = ((s.size : Int) - i).toNat ∧ fq 6 = .int .i64 i ∧ fq 5 = .int .i64 (val10 s i.toNat) ∧ fq 0 = .str s ∧ fq 4 = .bool false ∧ Mono H0 Hq ∧ (0 ≤ i) ∧ (i ≤ s.size) ∧ (∀ j : Int, 0 ≤ j → j < i → 48 ≤ byt s j ∧ byt s j ≤ 57)) (k := ((s.size : Int) - 0).toNat) ?_ ?_
      ·
       exact ⟨0, rfl, rfl, (congrArg (AV.int .i64) (show (0 : Int) = val10 s (0 : Int).toNat from by rfl)), rfl, rfl, m0, by omega, by omega, by intro j; omega⟩
      ·
       rintro _ f60 H59 ⟨i, rfl, s61, s62, s63, s64, m65, hi0, hi1, pre⟩
       refine AWP.seq ?_
       refine AWP.seq ?_
       refine AWP.region (l := [0, 1, 2, 3]) rfl ?_
       refine AOps.cons rfl rfl (AOp.move (.int .i64 i) rfl s61 ?_)
       refine AOps.cons rfl rfl (AOp.move (.str s) rfl s63 ?_)
       refine AOps.cons rfl rfl (AOp.lenStr rfl rfl u_9 ?_)
       refine AOps.cons rfl rfl (AOp.bin (.bool (decide (i < (s.size : Int)))) rfl rfl rfl rfl ?_)
       refine AOps.nil ?_
       change AWP _ _ _ _ _ _
       by_cases b66 : i < (s.size : Int)
       ·
        refine AWP.condT rfl (decide_eq_true b66) ?_
        refine AWP.skip ?_
        change AWP _ _ _ _ _ _
        refine AWP.seq ?_
        refine AWP.block ?_
        refine AWP.seq ?_
        refine AWP.seq ?_
        refine AWP.region (l := [0, 1, 2, 3, 4, 5, 6, 7, 8, 9]) rfl ?_
        refine AOps.cons rfl rfl (AOp.move (.str s) rfl s63 ?_)
        refine AOps.cons rfl rfl (AOp.move (.int .i64 i) rfl s61 ?_)
        have hb67 := byt_rng s i
        refine AOps.cons rfl rfl (AOp.indexB rfl rfl rfl u_9 (by omega) (by omega) ?_)
        refine AOps.cons rfl rfl (AOp.bin (.bool (decide (byt s i < 48))) rfl rfl rfl rfl ?_)
        refine AOps.cons rfl rfl (AOp.move (.bool (decide (byt s i < 48))) rfl rfl ?_)
        by_cases b68 : byt s i < 48
        ·
         refine AOps.no rfl rfl rfl rfl rfl rfl rfl (ble_of (decide_eq_true b68) (by decide)) ?_
         refine AOps.no rfl rfl rfl rfl rfl rfl rfl (ble_of (decide_eq_true b68) (by decide)) ?_
         refine AOps.no rfl rfl rfl rfl rfl rfl rfl (ble_of (decide_eq_true b68) (by decide)) ?_
         refine AOps.no rfl rfl rfl rfl rfl rfl rfl (ble_of (decide_eq_true b68) (by decide)) ?_
         refine AOps.cons rfl rfl (AOp.pickT (.bool true) rfl rfl (decide_eq_true b68) rfl ?_)
         refine AOps.nil ?_
         change AWP _ _ _ _ _ _
         refine AWP.condT rfl rfl ?_
         refine AWP.seq ?_
         refine AWP.region (l := [0, 1]) rfl ?_
         refine AOps.cons rfl rfl (AOp.assign (.int .i64 0) rfl rfl ?_)
         refine AOps.cons rfl rfl (AOp.assign (.bool false) rfl rfl ?_)
         refine AOps.nil ?_
         change AWP _ _ _ _ _ _
         refine AWP.ret ?_
         refine ⟨_, _, Ghost.refl, .inr rfl, _, Res.two rfl rfl rfl, ?_, m65⟩
         exact congrArg AV.tup (lc (congrArg (AV.int .i64) (show (0 : Int) = (num14 s).1 from by rw [num14_F (by omega), w_nodig (fun e => by first | (exact absurd e.2 (by decide)) | (have := e.1; first | contradiction | exact absurd this (by assumption))) (by omega) hi0 (by omega) (by omega)] <;> first | rfl | (simp only [if_true, if_false, Bool.false_eq_true]; congr 1; omega) | (simp; congr 1; omega))) (lc (congrArg AV.bool (show (false : Bool) = (num14 s).2 from by rw [num14_F (by omega), w_nodig (fun e => by first | (exact absurd e.2 (by decide)) | (have := e.1; first | contradiction | exact absurd this (by assumption))) (by omega) hi0 (by omega) (by omega)] <;> first | rfl | (simp only [if_true, if_false, Bool.false_eq_true]; congr 1; omega) | (simp; congr 1; omega))) rfl))
        ·
         refine AOps.yes rfl rfl rfl rfl rfl rfl rfl (decide_eq_false b68) (AOp.move (.str s) rfl s63 ?_)
         refine AOps.yes rfl rfl rfl rfl rfl rfl rfl (decide_eq_false b68) (AOp.move (.int .i64 i) rfl s61 ?_)
         refine AOps.yes rfl rfl rfl rfl rfl rfl rfl (decide_eq_false b68) (AOp.indexB rfl rfl rfl u_9 (by omega) (by omega) ?_)
         refine AOps.yes rfl rfl rfl rfl rfl rfl rfl (decide_eq_false b68) (AOp.bin (.bool (decide (byt s i > 57))) rfl rfl rfl rfl ?_)
         refine AOps.cons rfl rfl (AOp.pickF (.bool (decide (byt s i > 57))) rfl rfl (decide_eq_false b68) rfl ?_)
         refine AOps.nil ?_
         change AWP _ _ _ _ _ _
         by_cases b69 : byt s i > 57
         ·
          refine AWP.condT rfl (decide_eq_true b69) ?_
          refine AWP.seq ?_
          refine AWP.region (l := [0, 1]) rfl ?_
          refine AOps.cons rfl rfl (AOp.assign (.int .i64 0) rfl rfl ?_)
          refine AOps.cons rfl rfl (AOp.assign (.bool false) rfl rfl ?_)
          refine AOps.nil ?_
          change AWP _ _ _ _ _ _
          refine AWP.ret ?_
          refine ⟨_, _, Ghost.refl, .inr rfl, _, Res.two rfl rfl rfl, ?_, m65⟩
          exact congrArg AV.tup (lc (congrArg (AV.int .i64) (show (0 : Int) = (num14 s).1 from by rw [num14_F (by omega), w_nodig (fun e => by first | (exact absurd e.2 (by decide)) | (have := e.1; first | contradiction | exact absurd this (by assumption))) (by omega) hi0 (by omega) (by omega)] <;> first | rfl | (simp only [if_true, if_false, Bool.false_eq_true]; congr 1; omega) | (simp; congr 1; omega))) (lc (congrArg AV.bool (show (false : Bool) = (num14 s).2 from by rw [num14_F (by omega), w_nodig (fun e => by first | (exact absurd e.2 (by decide)) | (have := e.1; first | contradiction | exact absurd this (by assumption))) (by omega) hi0 (by omega) (by omega)] <;> first | rfl | (simp only [if_true, if_false, Bool.false_eq_true]; congr 1; omega) | (simp; congr 1; omega))) rfl))
         ·
          refine AWP.condF rfl (decide_eq_false b69) ?_
          refine AWP.skip ?_
          change AWP _ _ _ _ _ _
          have hv := val10_rng (w := s) (i := i) hi0 (by omega) pre
          refine AWP.region (l := [0, 1, 2, 3, 4, 5, 6, 7, 8]) rfl ?_
          refine AOps.cons rfl rfl (AOp.move (.int .i64 (val10 s i.toNat)) rfl s62 ?_)
          refine AOps.cons rfl rfl (AOp.bin (.int .i64 ((val10 s i.toNat) * 10)) rfl rfl rfl (imul (by omega)) ?_)
          refine AOps.cons rfl rfl (AOp.move (.str s) rfl s63 ?_)
          refine AOps.cons rfl rfl (AOp.move (.int .i64 i) rfl s61 ?_)
          refine AOps.cons rfl rfl (AOp.indexB rfl rfl rfl u_9 (by omega) (by omega) ?_)
          refine AOps.cons rfl rfl (AOp.bin (.int .u8 (byt s i - 48)) rfl rfl rfl (isub8 (by omega)) ?_)
          refine AOps.cons rfl rfl (AOp.convIntP rfl rfl u_5 u_3 (wrap64 (by omega)) ?_)
          refine AOps.cons rfl rfl (AOp.bin (.int .i64 ((val10 s i.toNat) * 10 + (byt s i - 48))) rfl rfl rfl (iadd (by omega)) ?_)
          refine AOps.cons rfl rfl (AOp.assign (.int .i64 ((val10 s i.toNat) * 10 + (byt s i - 48))) rfl rfl ?_)
          refine AOps.nil ?_
          change AWP _ _ _ _ _ _
          refine AWP.region (l := [0, 1, 2]) rfl ?_
          refine AOps.cons rfl rfl (AOp.move (.int .i64 i) rfl s61 ?_)
          refine AOps.cons rfl rfl (AOp.bin (.int .i64 (i + 1)) rfl rfl rfl (iadd (by omega)) ?_)
          refine AOps.cons rfl rfl (AOp.assign (.int .i64 (i + 1)) rfl rfl ?_)
          refine AOps.nil ?_
          exact ⟨_, by omega, i + 1, rfl, rfl, (congrArg (AV.int .i64) (show ((val10 s i.toNat) * 10 + (byt s i - 48) : Int) = val10 s (i + 1).toNat from by exact val10_step hi0)), s63, s64, m65, by omega, by omega, by exact dig_step pre (by omega)⟩
       ·
        refine AWP.condF rfl (decide_eq_false b66) ?_
        refine AWP.exit ?_
        change AWP _ _ _ _ _ _
        refine AWP.seq ?_
        refine AWP.seq ?_
        have hv := val10_rng6 (w := s) (i := i) hi0 (by omega) pre
        refine AWP.region (l := [0]) rfl ?_
        refine AOps.cons rfl rfl (AOp.move (.bool false) rfl s64 ?_)
        refine AOps.nil ?_
        change AWP _ _ _ _ _ _
        refine AWP.condF rfl rfl ?_
        refine AWP.skip ?_
        change AWP _ _ _ _ _ _
        refine AWP.seq ?_
        refine AWP.region (l := [0, 1, 2]) rfl ?_
        refine AOps.cons rfl rfl (AOp.move (.int .i64 (val10 s i.toNat)) rfl s62 ?_)
        refine AOps.cons rfl rfl (AOp.assign (.int .i64 (val10 s i.toNat)) rfl rfl ?_)
        refine AOps.cons rfl rfl (AOp.assign (.bool true) rfl rfl ?_)
        refine AOps.nil ?_
        change AWP _ _ _ _ _ _
        refine AWP.ret ?_
        refine ⟨_, _, Ghost.refl, .inr rfl, _, Res.two rfl rfl rfl, ?_, m65⟩
        exact congrArg AV.tup (lc (congrArg (AV.int .i64) (show (val10 s i.toNat : Int) = (num14 s).1 from by rw [num14_F (by omega), w_ok (i := i) (fun e => by first | (exact absurd e.2 (by decide)) | (have := e.1; first | contradiction | exact absurd this (by assumption))) (by omega) (by omega) (by omega) pre] <;> first | rfl | (simp only [if_true, if_false, Bool.false_eq_true]; congr 1; omega) | (simp; congr 1; omega))) (lc (congrArg AV.bool (show (true : Bool) = (num14 s).2 from by rw [num14_F (by omega), w_ok (i := i) (fun e => by first | (exact absurd e.2 (by decide)) | (have := e.1; first | contradiction | exact absurd this (by assumption))) (by omega) (by omega) (by omega) pre] <;> first | rfl | (simp only [if_true, if_false, Bool.false_eq_true]; congr 1; omega) | (simp; congr 1; omega))) rfl))
end Go.Proofs.L
namespace Go.Proofs.L
open Go Go.AH Go.Lib
set_option maxRecDepth 4000
set_option linter.unusedSectionVars false
variable [LexG]
/-! ### A text's pieces, as lists of bytes -/
def pcs : List UInt8 → List (List UInt8)
  | [] => [[]]
  | b :: l => if b = 10 then [] :: pcs l else (b :: (pcs l).headD []) :: (pcs l).tail
theorem pcs_ne (l : List UInt8) : pcs l ≠ [] := by
  cases l with
  | nil => simp [pcs]
  | cons b l => unfold pcs; split <;> simp
theorem split_miss {l : List UInt8} (h : index l [10] = -1) : pcs l = [l] := by
  induction l with
  | nil => rfl
  | cons b l ih =>
    unfold index at h
    by_cases hb : b = 10
    · subst hb; simp at h
    · have hp : ([10] : List UInt8).isPrefixOf (b :: l) = false := by simp [List.isPrefixOf, Ne.symm hb]
      rw [hp] at h
      simp only [Bool.false_eq_true, if_false] at h
      have h2 : index l [10] = -1 := by
        split at h
        · rename_i g; exact beq_iff_eq.1 g
        · have := index_ge l [10]; omega
      unfold pcs
      rw [if_neg hb, ih h2]
      rfl
theorem split_hit : ∀ {l : List UInt8} {i : Nat}, index l [10] = i → pcs l = l.take i :: pcs (l.drop (i + 1))
  | [], i, h => by simp [index] at h
  | b :: l, i, h => by
    unfold index at h
    by_cases hb : b = 10
    · subst hb
      simp at h
      obtain rfl : i = 0 := by omega
      rw [pcs, if_pos rfl]; simp
    · have hp : ([10] : List UInt8).isPrefixOf (b :: l) = false := by simp [List.isPrefixOf, Ne.symm hb]
      rw [hp] at h
      simp only [Bool.false_eq_true, if_false] at h
      split at h
      · omega
      · have hge := index_ge l [10]
        rename_i hne
        have hne : index l [10] ≠ -1 := fun e => hne (beq_iff_eq.2 e)
        obtain ⟨j, hj⟩ : ∃ j : Nat, index l [10] = j := ⟨(index l [10]).toNat, by omega⟩
        obtain rfl : i = j + 1 := by omega
        rw [pcs, if_neg hb, split_hit hj]
        simp
theorem splitK_pcs : ∀ (k : Nat) (l : List UInt8), count l [10] = k → splitK [10] 0 k l = pcs l
  | 0, l, h => by
    rw [splitK]
    by_cases hi : index l [10] = -1
    · exact (split_miss hi).symm
    · have := index_ge l [10]
      have := count_hit (s := l) (sub := [10]) (i := (index l [10]).toNat) (by simp) (by omega)
      omega
  | k + 1, l, h => by
    by_cases hi : index l [10] = -1
    · rw [count_miss hi] at h; omega
    · have := index_ge l [10]
      obtain ⟨i, hii⟩ : ∃ i : Nat, index l [10] = i := ⟨(index l [10]).toNat, by omega⟩
      have hc := count_hit (s := l) (sub := [10]) (i := i) (by simp) hii
      rw [splitK, if_neg (by simpa using hi), hii, split_hit hii]
      simp only [Int.toNat_natCast, Nat.add_zero, List.length_cons, List.length_nil, Nat.zero_add]
      rw [splitK_pcs k _ (by simp at hc; omega)]
theorem pieces_pcs (s : ByteArray) : (pieces s).map (·.data.toList) = pcs s.data.toList := by
  unfold pieces
  rw [splitB_data]
  exact splitK_pcs _ _ rfl
theorem pcs_length : ∀ l : List UInt8, (pcs l).length ≤ l.length + 1
  | [] => by simp [pcs]
  | b :: l => by
    have := pcs_length l
    unfold pcs; split
    · simp; omega
    · simp; omega
theorem pcs_sub : ∀ (l : List UInt8) (p : List UInt8), p ∈ pcs l → p.length ≤ l.length
  | [], p, h => by simp [pcs] at h; subst h; simp
  | b :: l, p, h => by
    have ih := pcs_sub l
    unfold pcs at h
    split at h
    · rcases List.mem_cons.1 h with e | e
      · subst e; simp
      · have := ih p e; simp; omega
    · rcases List.mem_cons.1 h with e | e
      · subst e
        have := ih ((pcs l).headD []) (by
          have := pcs_ne l
          cases hq : pcs l with
          | nil => exact absurd hq this
          | cons a r => simp)
        simpa using this
      · have := ih p (List.mem_of_mem_tail e); simp; omega
theorem blen (s : ByteArray) : s.data.toList.length = s.size := rfl
theorem pieces_len (s : ByteArray) : (pieces s).length ≤ s.size + 1 := by
  have := pcs_length s.data.toList
  rw [← pieces_pcs, List.length_map] at this
  exact this
theorem piece_size {s : ByteArray} {i : Int} (h0 : 0 ≤ i) (h1 : i < (pieces s).length) : (at_ (pieces s) i).size ≤ s.size := by
  have := pcs_sub s.data.toList (at_ (pieces s) i).data.toList (by rw [← pieces_pcs]; exact List.mem_map.2 ⟨_, at_mem h0 h1, rfl⟩)
  exact this
theorem cut_take (l : List UInt8) (sep : List UInt8) : (cut l sep).1.Sublist l := by
  unfold cut
  split
  · exact List.take_sublist _ _
  · exact List.Sublist.refl _
theorem cut1_size (p : ByteArray) : (cut1 p).size ≤ p.size := by
  have : (cut1 p).size = (cut p.data.toList [35]).1.length := List.size_toArray
  rw [this]
  exact (cut_take _ _).length_le
theorem okB_mem {p : ByteArray} (h : okB p) {b : UInt8} (hb : b ∈ p.data.toList) : 32 ≤ b.toNat ∧ b.toNat ≤ 126 := by
  obtain ⟨j, hj, rfl⟩ := List.mem_iff_getElem.1 hb
  have hj' : j < p.size := hj
  have := h j hj'
  unfold byt at this
  rw [Int.toNat_natCast, List.getD_eq_getElem?_getD, List.getElem?_eq_getElem hj] at this
  simp only [Option.getD_some] at this
  omega
theorem cut1_asc {p : ByteArray} (h : okB p) : ∀ (j : Nat) b, (cut1 p).data.toList[j]? = some b → b.toNat < 128 := fun j b hb => by
  have hm : b ∈ (cut p.data.toList [35]).1 := List.mem_of_getElem? (by simpa [cut1] using hb)
  have := okB_mem h ((cut_take _ _).subset hm)
  omega
/-! ### What the program's Lines answers -/
def lineOf (i : Int) (p : ByteArray) : List LineT := if 0 < ((wordsB (cut1 p)).length : Int) then [⟨i + 1, wordsB (cut1 p)⟩] else []
theorem lineOf_T {i : Int} {p : ByteArray} (h : 0 < ((wordsB (cut1 p)).length : Int)) : lineOf i p = [⟨i + 1, wordsB (cut1 p)⟩] := if_pos h
theorem lineOf_F {i : Int} {p : ByteArray} (h : ¬ 0 < ((wordsB (cut1 p)).length : Int)) : lineOf i p = [] := if_neg h
def scanL : List ByteArray → Int → List LineT → List LineT × Int × Int
  | [], _, out => (out, 0, 0)
  | p :: r, i, out => if 0 ≤ idxR p then ([], i + 1, 10) else scanL r (i + 1) (out ++ lineOf i p)
def linesR (s : ByteArray) : List LineT × Int × Int := if 65536 < (s.size : Int) then ([], 0, 13) else scanL (pieces s) 0 []
theorem lineOf_grow {out : List LineT} {i : Int} (p : ByteArray) (h : (out.length : Int) ≤ i) : ((out ++ lineOf i p).length : Int) ≤ i + 1 := by
  have : (lineOf i p).length ≤ 1 := by unfold lineOf; split <;> simp
  rw [List.length_append]; omega
theorem linesR_big {s : ByteArray} (h : 65536 < (s.size : Int)) : linesR s = ([], 0, 13) := if_pos h
theorem linesR_start {s : ByteArray} (h : ¬ 65536 < (s.size : Int)) : linesR s = scanL ((pieces s).drop (0 : Int).toNat) 0 [] := if_neg h
theorem drop_at {α : Type} [Inhabited α] {l : List α} {i : Int} (h0 : 0 ≤ i) (h1 : i < l.length) : l.drop i.toNat = at_ l i :: l.drop (i + 1).toNat := by
  rw [List.drop_eq_getElem_cons (by omega : i.toNat < l.length), show (i + 1).toNat = i.toNat + 1 by omega]
  unfold at_
  rw [List.getD_eq_getElem?_getD, List.getElem?_eq_getElem (by omega : i.toNat < l.length)]
  rfl
theorem scan_step {l : List ByteArray} {i : Int} {out : List LineT} (h0 : 0 ≤ i) (h1 : i < l.length) (hx : ¬ 0 ≤ idxR (at_ l i)) : scanL (l.drop i.toNat) i out = scanL (l.drop (i + 1).toNat) (i + 1) (out ++ lineOf i (at_ l i)) := by
  rw [drop_at h0 h1, scanL, if_neg hx]
theorem scan_bad {l : List ByteArray} {i : Int} {out : List LineT} (h0 : 0 ≤ i) (h1 : i < l.length) (hx : 0 ≤ idxR (at_ l i)) : scanL (l.drop i.toNat) i out = ([], i + 1, 10) := by
  rw [drop_at h0 h1, scanL, if_pos hx]
theorem scan_end {l : List ByteArray} {i : Int} {out : List LineT} (h : (l.length : Int) ≤ i) : scanL (l.drop i.toNat) i out = (out, 0, 0) := by
  rw [List.drop_of_length_le (by omega)]; rfl
end Go.Proofs.L
namespace Go.Proofs.L
open Go Go.AH
set_option maxRecDepth 4000
set_option linter.unusedSimpArgs false
set_option linter.unusedVariables false
variable [LexG]
theorem c_lex_Lines (s : ByteArray) : PC Tryd.prog 10 [.str s] (.tup [.sl ((linesR s).1).length (((linesR s).1).flatMap eLine), .int .i64 ((linesR s).2.1), .int .i64 ((linesR s).2.2)]) := by
 intro H0
 refine ACalls.of_body' (n := 45) rfl rfl rfl rfl ?_
 have m0 := Mono.refl H0
 refine AWP.seq ?_
 refine AWP.region (l := [0, 1, 2]) rfl ?_
 refine AOps.cons rfl rfl (AOp.assign (.snil) rfl rfl ?_)
 refine AOps.cons rfl rfl (AOp.assign (.int .i64 0) rfl rfl ?_)
 refine AOps.cons rfl rfl (AOp.assign (.int .i64 0) rfl rfl ?_)
 refine AOps.nil ?_
 change AWP _ _ _ _ _ _
 refine AWP.seq ?_
 refine AWP.seq ?_
 refine AWP.region (l := [0, 1, 2]) rfl ?_
 refine AOps.cons rfl rfl (AOp.move (.str s) rfl rfl ?_)
 refine AOps.cons rfl rfl (AOp.lenStr rfl rfl u_9 ?_)
 refine AOps.cons rfl rfl (AOp.bin (.bool (decide ((s.size : Int) > 65536))) rfl rfl rfl rfl ?_)
 refine AOps.nil ?_
 change AWP _ _ _ _ _ _
 by_cases b1 : (s.size : Int) > 65536
 ·
  refine AWP.condT rfl (decide_eq_true b1) ?_
  refine AWP.seq ?_
  refine AWP.region (l := [0, 1, 2]) rfl ?_
  refine AOps.cons rfl rfl (AOp.assign (.snil) rfl rfl ?_)
  refine AOps.cons rfl rfl (AOp.assign (.int .i64 0) rfl rfl ?_)
  refine AOps.cons rfl rfl (AOp.assign (.int .i64 13) rfl rfl ?_)
  refine AOps.nil ?_
  change AWP _ _ _ _ _ _
  refine AWP.ret ?_
  refine Fin.frz 2 (Own.nil H0 H0 1) rfl m0 fun H2 m3 k4 => ?_
  refine ⟨_, _, Ghost.refl, .inr rfl, _, Res.three rfl rfl rfl rfl, ?_, m3⟩
  exact congrArg AV.tup (lc (congrArg (fun l : List LineT => AV.sl l.length (l.flatMap eLine)) (show ([] : List LineT) = (linesR s).1 from by rw [linesR_big (by omega)])) (lc (congrArg (AV.int .i64) (show (0 : Int) = (linesR s).2.1 from by rw [linesR_big (by omega)])) (lc (congrArg (AV.int .i64) (show (13 : Int) = (linesR s).2.2 from by rw [linesR_big (by omega)])) rfl)))
 ·
  refine AWP.condF rfl (decide_eq_false b1) ?_
  refine AWP.skip ?_
  change AWP _ _ _ _ _ _
  refine AWP.seq ?_
  refine AWP.region (l := [0]) rfl ?_
  refine AOps.cons rfl rfl (AOp.assign (.snil) rfl rfl ?_)
  refine AOps.nil ?_
  change AWP _ _ _ _ _ _
  refine AWP.seq ?_
  refine AWP.seq ?_
  refine AWP.region (l := [0, 1, 2, 3]) rfl ?_
  refine AOps.cons rfl rfl (AOp.move (.str s) rfl rfl ?_)
  refine AOps.cons rfl rfl (AOp.pcall («as» := [.str s, .str ⟨#[10]⟩]) rfl rfl (rfl) tf_19 (c_Split s (by omega)) ?_)
  intro H5 m6
  have m7 := m0.trans m6
  refine AOps.cons rfl rfl (AOp.len (m := (pieces s).length) rfl rfl (.inr (.inl ⟨_, rfl⟩)) u_33 ?_)
  refine AOps.cons rfl rfl (AOp.move (.int .i64 0) rfl rfl ?_)
  refine AOps.nil ?_
  change AWP _ _ _ _ _ _
  refine AWP.block ?_
  refine AWP.loop (fun q8 fq Hq => ∃ (i : Int) (out : List LineT) (w5 : AV), q8 = (((pieces s).length : Int) - i).toNat ∧ fq 15 = .int .i64 i ∧ fq 13 = .sl (pieces s).length ((pieces s).map eStr) ∧ fq 14 = .int .i64 (((pieces s).length) : Int) ∧ fq 5 = w5 ∧ Own H0 Hq 2 w5 (out).length ((out).flatMap eLine) ∧ Mono H0 Hq ∧ (0 ≤ i) ∧ (i ≤ (pieces s).length) ∧ (linesR s = scanL ((pieces s).drop i.toNat) i out) ∧ ((out.length : Int) ≤ i)) (k := (((pieces s).length : Int) - 0).toNat) ?_ ?_
  ·
   exact ⟨0, ([] : List LineT), .snil, rfl, rfl, rfl, rfl, rfl, Own.nil _ _ _, m7, by omega, by omega, by exact linesR_start (by omega), by simp⟩
  ·
   rintro _ f10 H9 ⟨i, out, w5, rfl, s11, s12, s13, s14, o15, m16, hi0, hi1, hsc, hol⟩
   refine AWP.seq ?_
   have hpl := pieces_len s
   refine AWP.region (l := [0]) rfl ?_
   refine AOps.cons rfl rfl (AOp.bin (.bool (decide (i < (((pieces s).length) : Int)))) rfl s11 s13 rfl ?_)
   refine AOps.nil ?_
   change AWP _ _ _ _ _ _
   refine AWP.seq ?_
   by_cases b17 : i < (((pieces s).length) : Int)
   ·
    refine AWP.condT rfl (decide_eq_true b17) ?_
    refine AWP.skip ?_
    change AWP _ _ _ _ _ _
    refine AWP.seq ?_
    refine AWP.block ?_
    refine AWP.seq ?_
    have hps := piece_size (s := s) hi0 (by omega)
    refine AWP.region (l := [0, 1, 2, 3, 4]) rfl ?_
    refine AOps.cons rfl rfl (AOp.move (.int .i64 i) rfl s11 ?_)
    refine AOps.cons rfl rfl (AOp.indexAddrS rfl s12 s11 sl_33 (by omega) (by omega) ?_)
    refine AOps.cons rfl rfl (AOp.loadF (.str (at_ (pieces s) i)) rfl rfl ty_9 (ld1 (by omega) (by omega)) ?_)
    refine AOps.cons rfl rfl (AOp.assign (.int .i64 i) rfl rfl ?_)
    refine AOps.cons rfl rfl (AOp.assign (.str (at_ (pieces s) i)) rfl rfl ?_)
    refine AOps.nil ?_
    change AWP _ _ _ _ _ _
    refine AWP.seq ?_
    refine AWP.seq ?_
    refine AWP.region (l := [0, 1, 2]) rfl ?_
    refine AOps.cons rfl rfl (AOp.move (.str (at_ (pieces s) i)) rfl rfl ?_)
    refine AOps.cons rfl rfl (AOp.pcall («as» := [.str (at_ (pieces s) i), .fn 21 []]) rfl rfl (rfl) tf_20 (c_IndexFunc (at_ (pieces s) i) (by omega)) ?_)
    intro H18 m19
    have o20 := Own.mono o15 m19
    have m21 := m16.trans m19
    refine AOps.cons rfl rfl (AOp.bin (.bool (decide (idxR (at_ (pieces s) i) ≥ 0))) rfl rfl rfl rfl ?_)
    refine AOps.nil ?_
    change AWP _ _ _ _ _ _
    by_cases b22 : idxR (at_ (pieces s) i) ≥ 0
    ·
     refine AWP.condT rfl (decide_eq_true b22) ?_
     refine AWP.seq ?_
     refine AWP.region (l := [0, 1, 2, 3, 4]) rfl ?_
     refine AOps.cons rfl rfl (AOp.move (.int .i64 i) rfl rfl ?_)
     refine AOps.cons rfl rfl (AOp.bin (.int .i64 (i + 1)) rfl rfl rfl (iadd (by omega)) ?_)
     refine AOps.cons rfl rfl (AOp.assign (.snil) rfl rfl ?_)
     refine AOps.cons rfl rfl (AOp.assign (.int .i64 (i + 1)) rfl rfl ?_)
     refine AOps.cons rfl rfl (AOp.assign (.int .i64 10) rfl rfl ?_)
     refine AOps.nil ?_
     change AWP _ _ _ _ _ _
     refine AWP.ret ?_
     refine Fin.frz 2 (Own.nil H0 H18 1) rfl m21 fun H23 m24 k25 => ?_
     have o26 := Own.stay o20 (Sep.nilR _) (fun i hi _ => k25 i hi)
     refine ⟨_, _, Ghost.refl, .inr rfl, _, Res.three rfl rfl rfl rfl, ?_, m24⟩
     exact congrArg AV.tup (lc (congrArg (fun l : List LineT => AV.sl l.length (l.flatMap eLine)) (show ([] : List LineT) = (linesR s).1 from by rw [hsc, scan_bad hi0 (by omega) (by omega)])) (lc (congrArg (AV.int .i64) (show (i + 1 : Int) = (linesR s).2.1 from by rw [hsc, scan_bad hi0 (by omega) (by omega)])) (lc (congrArg (AV.int .i64) (show (10 : Int) = (linesR s).2.2 from by rw [hsc, scan_bad hi0 (by omega) (by omega)])) rfl)))
    ·
     refine AWP.condF rfl (decide_eq_false b22) ?_
     refine AWP.skip ?_
     change AWP _ _ _ _ _ _
     refine AWP.seq ?_
     have hok := idxR_neg.1 (show idxR (at_ (pieces s) i) < 0 by omega)
     refine AWP.region (l := [0, 1, 2, 3, 4, 5, 6]) rfl ?_
     refine AOps.cons rfl rfl (AOp.move (.str (at_ (pieces s) i)) rfl rfl ?_)
     refine AOps.cons rfl rfl (AOp.pcall («as» := [.str (at_ (pieces s) i), .str ⟨#[35]⟩]) rfl rfl (rfl) tf_22 (c_Cut (at_ (pieces s) i) (by omega)) ?_)
     intro H27 m28
     have o29 := Own.mono o20 m28
     have m30 := m21.trans m28
     refine AOps.cons rfl rfl (AOp.move (.tup [.str (cut1 (at_ (pieces s) i)), .str (cut2 (at_ (pieces s) i)), .bool (cut3 (at_ (pieces s) i))]) rfl rfl ?_)
     refine AOps.cons rfl rfl (AOp.extract (.str (cut1 (at_ (pieces s) i))) rfl rfl rfl ?_)
     refine AOps.cons rfl rfl (AOp.extract (.str (cut2 (at_ (pieces s) i))) rfl rfl rfl ?_)
     refine AOps.cons rfl rfl (AOp.extract (.bool (cut3 (at_ (pieces s) i))) rfl rfl rfl ?_)
     refine AOps.cons rfl rfl (AOp.assign (.str (cut1 (at_ (pieces s) i))) rfl rfl ?_)
     refine AOps.nil ?_
     change AWP _ _ _ _ _ _
     refine AWP.seq ?_
     have hcs := cut1_size (at_ (pieces s) i)
     refine AWP.region (l := [0, 1, 2]) rfl ?_
     refine AOps.cons rfl rfl (AOp.move (.str (cut1 (at_ (pieces s) i))) rfl rfl ?_)
     refine AOps.cons rfl rfl (AOp.pcall («as» := [.str (cut1 (at_ (pieces s) i))]) rfl rfl (rfl) tf_23 (c_Fields (cut1 (at_ (pieces s) i)) (by omega) (cut1_asc hok)) ?_)
     intro H31 m32
     have o33 := Own.mono o29 m32
     have m34 := m30.trans m32
     refine AOps.cons rfl rfl (AOp.assign (.sl (wordsB (cut1 (at_ (pieces s) i))).length ((wordsB (cut1 (at_ (pieces s) i))).map eStr)) rfl rfl ?_)
     refine AOps.nil ?_
     change AWP _ _ _ _ _ _
     refine AWP.seq ?_
     refine AWP.region (l := [0, 1, 2]) rfl ?_
     refine AOps.cons rfl rfl (AOp.move (.sl (wordsB (cut1 (at_ (pieces s) i))).length ((wordsB (cut1 (at_ (pieces s) i))).map eStr)) rfl rfl ?_)
     refine AOps.cons rfl rfl (AOp.len (m := (wordsB (cut1 (at_ (pieces s) i))).length) rfl rfl (.inr (.inl ⟨_, rfl⟩)) u_33 ?_)
     refine AOps.cons rfl rfl (AOp.bin (.bool (decide ((((wordsB (cut1 (at_ (pieces s) i))).length) : Int) > 0))) rfl rfl rfl rfl ?_)
     refine AOps.nil ?_
     change AWP _ _ _ _ _ _
     by_cases b35 : (((wordsB (cut1 (at_ (pieces s) i))).length) : Int) > 0
     ·
      refine AWP.condT rfl (decide_eq_true b35) ?_
      refine AWP.region (l := [0, 1, 2, 3, 4, 5, 6, 7]) rfl ?_
      refine AOps.cons rfl rfl (AOp.move (w5) rfl s14 ?_)
      refine AOps.cons rfl rfl (AOp.move (.int .i64 i) rfl rfl ?_)
      refine AOps.cons rfl rfl (AOp.bin (.int .i64 (i + 1)) rfl rfl rfl (iadd (by omega)) ?_)
      refine AOps.cons rfl rfl (AOp.move (.sl (wordsB (cut1 (at_ (pieces s) i))).length ((wordsB (cut1 (at_ (pieces s) i))).map eStr)) rfl rfl ?_)
      refine AOps.cons rfl rfl (AOp.build (cells := [.int .i64 (i + 1), .sl (wordsB (cut1 (at_ (pieces s) i))).length ((wordsB (cut1 (at_ (pieces s) i))).map eStr)]) rfl tz_35 pl_35 rfl rfl ?_)
      refine AOps.cons rfl rfl (AOp.buildSlice (cells := [.int .i64 (i + 1), .sl (wordsB (cut1 (at_ (pieces s) i))).length ((wordsB (cut1 (at_ (pieces s) i))).map eStr)]) rfl u_23 ts_35 tz_35 rfl rfl rfl ?_)
      intro i36 H37 n38 h39 k40
      have z41 := Mono.free m34 n38
      have o42 := Own.keep o33 k40 (Own.notnew o33 n38)
      have no43 := Own.notnew o33 n38
      have m44 := Mono.new m34 n38 k40
      refine AOps.cons rfl rfl (AOp.append_own (es := 2) (m := 1) (len := ((out).length)) (old := (out).flatMap eLine) (cells := [.int .i64 (i + 1), .sl (wordsB (cut1 (at_ (pieces s) i))).length ((wordsB (cut1 (at_ (pieces s) i))).map eStr)]) rfl u_23 ts_35 tzn_35 tb_35 (by decide) ni_23 rfl o42 m44 rfl (.slm h39 rfl) (one_of rfl) (by decide) (by first | omega | (simp; omega)) ?_)
      intro v45 H46 o47 m48 k49 j50
      have o51 := Own.snocM (xs := ((out) : List LineT)) (y := (LineT.mk (i + 1) (wordsB (cut1 (at_ (pieces s) i))))) (e := eLine) (by simp) o47
      refine AOps.cons rfl rfl (AOp.assign (v45) rfl rfl ?_)
      refine AOps.nil ?_
      change AWP _ _ _ _ _ _
      refine AWP.region (l := [0, 1]) rfl ?_
      refine AOps.cons rfl rfl (AOp.bin (.int .i64 (i + 1)) rfl s11 rfl (iadd (by omega)) ?_)
      refine AOps.cons rfl rfl (AOp.move (.int .i64 (i + 1)) rfl rfl ?_)
      refine AOps.nil ?_
      exact ⟨_, by omega, i + 1, out ++ lineOf i (at_ (pieces s) i), v45, rfl, rfl, s12, s13, rfl, (have hx : (((out) ++ [(LineT.mk (i + 1) (wordsB (cut1 (at_ (pieces s) i))))]) : List LineT) = (out ++ lineOf i (at_ (pieces s) i)) := (by rw [lineOf_T (by omega)]); Own.re o51 (congrArg List.length hx) (congrArg (fun l : List LineT => l.flatMap eLine) hx)), m48, by omega, by omega, by rw [hsc]; exact scan_step hi0 (by omega) (by omega), by exact lineOf_grow _ hol⟩
     ·
      refine AWP.condF rfl (decide_eq_false b35) ?_
      refine AWP.skip ?_
      change AWP _ _ _ _ _ _
      refine AWP.region (l := [0, 1]) rfl ?_
      refine AOps.cons rfl rfl (AOp.bin (.int .i64 (i + 1)) rfl s11 rfl (iadd (by omega)) ?_)
      refine AOps.cons rfl rfl (AOp.move (.int .i64 (i + 1)) rfl rfl ?_)
      refine AOps.nil ?_
      exact ⟨_, by omega, i + 1, out ++ lineOf i (at_ (pieces s) i), w5, rfl, rfl, s12, s13, s14, (have hx : ((out) : List LineT) = (out ++ lineOf i (at_ (pieces s) i)) := (by rw [lineOf_F (by omega)]; simp); Own.re o33 (congrArg List.length hx) (congrArg (fun l : List LineT => l.flatMap eLine) hx)), m34, by omega, by omega, by rw [hsc]; exact scan_step hi0 (by omega) (by omega), by exact lineOf_grow _ hol⟩
   ·
    refine AWP.condF rfl (decide_eq_false b17) ?_
    refine AWP.exit ?_
    change AWP _ _ _ _ _ _
    refine AWP.seq ?_
    refine AWP.region (l := [0, 1, 2, 3]) rfl ?_
    refine AOps.cons rfl rfl (AOp.move (w5) rfl s14 ?_)
    refine AOps.cons rfl rfl (AOp.assign (w5) rfl rfl ?_)
    refine AOps.cons rfl rfl (AOp.assign (.int .i64 0) rfl rfl ?_)
    refine AOps.cons rfl rfl (AOp.assign (.int .i64 0) rfl rfl ?_)
    refine AOps.nil ?_
    change AWP _ _ _ _ _ _
    refine AWP.ret ?_
    refine Fin.frz 2 o15 rfl m16 fun H52 m53 k54 => ?_
    refine ⟨_, _, Ghost.refl, .inr rfl, _, Res.three rfl rfl rfl rfl, ?_, m53⟩
    exact congrArg AV.tup (lc (congrArg (fun l : List LineT => AV.sl l.length (l.flatMap eLine)) (show ((out) : List LineT) = (linesR s).1 from by rw [hsc, scan_end (by omega)])) (lc (congrArg (AV.int .i64) (show (0 : Int) = (linesR s).2.1 from by rw [hsc, scan_end (by omega)])) (lc (congrArg (AV.int .i64) (show (0 : Int) = (linesR s).2.2 from by rw [hsc, scan_end (by omega)])) rfl)))
end Go.Proofs.L
namespace Go.Proofs.L
open Go Go.AH Go.Lib
set_option maxRecDepth 4000
set_option linter.unusedSectionVars false
variable [LexG]
/-! ### The document's Lines -/
structure RS where
  out : List LineT
  no : Int
  ws : List ByteArray
  wd : List Int
  rem : Bool
def badB (c : Int) : Prop := c ≠ 10 ∧ (c < 32 ∨ 126 < c)
instance (c : Int) : Decidable (badB c) := by unfold badB; infer_instance
end Go.Proofs.L
namespace Go.Proofs.L
open Go Go.AH
set_option maxRecDepth 4000
set_option linter.unusedSimpArgs false
set_option linter.unusedVariables false
variable [LexG]
end Go.Proofs.L
namespace Go.Proofs.L
open Go Go.AH Go.Lib
set_option maxRecDepth 4000
set_option linter.unusedSectionVars false
variable [LexG]
theorem al_lines : linesR ⟨#[10, 97, 32, 32, 98, 35, 99, 10]⟩ = ([⟨2, [⟨#[97]⟩, ⟨#[98]⟩]⟩], 0, 0) := by kernel_rfl
theorem al_num : R_lex_Number ⟨#[45, 49, 50, 48]⟩ = (-120, true) := by kernel_rfl
theorem al_name : nameB ⟨#[97, 95, 49]⟩ = true := by kernel_rfl
end Go.Proofs.L
namespace Go.Proofs.L
open Go Go.AH
set_option maxRecDepth 4000
set_option linter.unusedSimpArgs false
set_option linter.unusedVariables false
variable [LexG]
theorem c_alive : PC Tryd.prog 9 [] (.bool true) := by
 intro H0
 refine ACalls.of_body' (n := 51) rfl rfl rfl rfl ?_
 have m0 := Mono.refl H0
 refine AWP.seq ?_
 refine AWP.region (l := [0]) rfl ?_
 refine AOps.cons rfl rfl (AOp.assign (.bool false) rfl rfl ?_)
 refine AOps.nil ?_
 change AWP _ _ _ _ _ _
 refine AWP.seq ?_
 refine AWP.region (l := [0, 1, 2, 3, 4, 5, 6, 7]) rfl ?_
 refine AOps.cons rfl rfl (AOp.pcall («as» := [.str ⟨#[10, 97, 32, 32, 98, 35, 99, 10]⟩]) rfl rfl (rfl) tf_10 ((by have h := c_lex_Lines ⟨#[10, 97, 32, 32, 98, 35, 99, 10]⟩; rw [al_lines] at h; exact h)) ?_)
 intro H1 m2
 have m3 := m0.trans m2
 refine AOps.cons rfl rfl (AOp.move (.tup [.sl ([⟨2, [⟨#[97]⟩, ⟨#[98]⟩]⟩] : List LineT).length (([⟨2, [⟨#[97]⟩, ⟨#[98]⟩]⟩] : List LineT).flatMap eLine), .int .i64 0, .int .i64 0]) rfl rfl ?_)
 refine AOps.cons rfl rfl (AOp.extract (.sl ([⟨2, [⟨#[97]⟩, ⟨#[98]⟩]⟩] : List LineT).length (([⟨2, [⟨#[97]⟩, ⟨#[98]⟩]⟩] : List LineT).flatMap eLine)) rfl rfl rfl ?_)
 refine AOps.cons rfl rfl (AOp.extract (.int .i64 0) rfl rfl rfl ?_)
 refine AOps.cons rfl rfl (AOp.extract (.int .i64 0) rfl rfl rfl ?_)
 refine AOps.cons rfl rfl (AOp.assign (.sl ([⟨2, [⟨#[97]⟩, ⟨#[98]⟩]⟩] : List LineT).length (([⟨2, [⟨#[97]⟩, ⟨#[98]⟩]⟩] : List LineT).flatMap eLine)) rfl rfl ?_)
 refine AOps.cons rfl rfl (AOp.assign (.int .i64 0) rfl rfl ?_)
 refine AOps.cons rfl rfl (AOp.assign (.int .i64 0) rfl rfl ?_)
 refine AOps.nil ?_
 change AWP _ _ _ _ _ _
 refine AWP.seq ?_
 refine AWP.region (l := [0, 1, 2, 3, 4, 5]) rfl ?_
 refine AOps.cons rfl rfl (AOp.pcall («as» := [.str ⟨#[45, 49, 50, 48]⟩]) rfl rfl (rfl) tf_13 ((by have h := c_lex_Number ⟨#[45, 49, 50, 48]⟩; rw [al_num] at h; exact h)) ?_)
 intro H4 m5
 have m6 := m3.trans m5
 refine AOps.cons rfl rfl (AOp.move (.tup [.int .i64 (-120), .bool true]) rfl rfl ?_)
 refine AOps.cons rfl rfl (AOp.extract (.int .i64 (-120)) rfl rfl rfl ?_)
 refine AOps.cons rfl rfl (AOp.extract (.bool true) rfl rfl rfl ?_)
 refine AOps.cons rfl rfl (AOp.assign (.int .i64 (-120)) rfl rfl ?_)
 refine AOps.cons rfl rfl (AOp.assign (.bool true) rfl rfl ?_)
 refine AOps.nil ?_
 change AWP _ _ _ _ _ _
 refine AWP.seq ?_
 have hl : (([⟨2, [⟨#[97]⟩, ⟨#[98]⟩]⟩] : List LineT).length : Int) = 1 := rfl
 refine AWP.region (l := [0, 1, 2, 3, 4, 5, 6, 7, 8, 9, 10, 11, 12, 13, 14, 15, 16, 17, 18, 19, 20, 21, 22, 23, 24, 25, 26, 27, 28, 29, 30, 31, 32, 33, 34, 35, 36]) rfl ?_
 refine AOps.cons rfl rfl (AOp.move (.int .i64 0) rfl rfl ?_)
 refine AOps.cons rfl rfl (AOp.bin (.bool (decide (0 = 0))) rfl rfl rfl ieq ?_)
 refine AOps.cons rfl rfl (AOp.move (.bool (decide (0 = 0))) rfl rfl ?_)
 refine AOps.yes rfl rfl rfl rfl rfl rfl rfl (decide_eq_true (by decide)) (AOp.move (.int .i64 0) rfl rfl ?_)
 refine AOps.yes rfl rfl rfl rfl rfl rfl rfl (decide_eq_true (by decide)) (AOp.bin (.bool (decide (0 = 0))) rfl rfl rfl ieq ?_)
 refine AOps.cons rfl rfl (AOp.pickT (.bool (decide (0 = 0))) rfl rfl (decide_eq_true (by decide)) rfl ?_)
 refine AOps.cons rfl rfl (AOp.move (.bool (decide (0 = 0))) rfl rfl ?_)
 refine AOps.yes rfl rfl rfl rfl rfl rfl rfl (decide_eq_true (by decide)) (AOp.move (.sl ([⟨2, [⟨#[97]⟩, ⟨#[98]⟩]⟩] : List LineT).length (([⟨2, [⟨#[97]⟩, ⟨#[98]⟩]⟩] : List LineT).flatMap eLine)) rfl rfl ?_)
 refine AOps.yes rfl rfl rfl rfl rfl rfl rfl (decide_eq_true (by decide)) (AOp.len (m := ([⟨2, [⟨#[97]⟩, ⟨#[98]⟩]⟩] : List LineT).length) rfl rfl (.inr (.inl ⟨_, rfl⟩)) u_23 ?_)
 refine AOps.yes rfl rfl rfl rfl rfl rfl rfl (decide_eq_true (by decide)) (AOp.bin (.bool (decide (((([⟨2, [⟨#[97]⟩, ⟨#[98]⟩]⟩] : List LineT).length) : Int) = 1))) rfl rfl rfl ieq ?_)
 refine AOps.cons rfl rfl (AOp.pickT (.bool (decide (((([⟨2, [⟨#[97]⟩, ⟨#[98]⟩]⟩] : List LineT).length) : Int) = 1))) rfl rfl (decide_eq_true (by decide)) rfl ?_)
 refine AOps.cons rfl rfl (AOp.move (.bool (decide (((([⟨2, [⟨#[97]⟩, ⟨#[98]⟩]⟩] : List LineT).length) : Int) = 1))) rfl rfl ?_)
 refine AOps.yes rfl rfl rfl rfl rfl rfl rfl (decide_eq_true (rfl)) (AOp.move (.sl ([⟨2, [⟨#[97]⟩, ⟨#[98]⟩]⟩] : List LineT).length (([⟨2, [⟨#[97]⟩, ⟨#[98]⟩]⟩] : List LineT).flatMap eLine)) rfl rfl ?_)
 refine AOps.yes rfl rfl rfl rfl rfl rfl rfl (decide_eq_true (rfl)) (AOp.indexAddrS rfl rfl rfl sl_23 (by omega) (by omega) ?_)
 refine AOps.yes rfl rfl rfl rfl rfl rfl rfl (decide_eq_true (rfl)) (AOp.fieldAddrF rfl rfl fl_35_0 ?_)
 refine AOps.yes rfl rfl rfl rfl rfl rfl rfl (decide_eq_true (rfl)) (AOp.loadF (.int .i64 ((at_ ([⟨2, [⟨#[97]⟩, ⟨#[98]⟩]⟩] : List LineT) 0).No)) rfl rfl ty_3 (ldF eLine_len (by omega) (by omega) rfl (by decide)) ?_)
 refine AOps.yes rfl rfl rfl rfl rfl rfl rfl (decide_eq_true (rfl)) (AOp.bin (.bool (decide ((at_ ([⟨2, [⟨#[97]⟩, ⟨#[98]⟩]⟩] : List LineT) 0).No = 2))) rfl rfl rfl ieq ?_)
 refine AOps.cons rfl rfl (AOp.pickT (.bool (decide ((at_ ([⟨2, [⟨#[97]⟩, ⟨#[98]⟩]⟩] : List LineT) 0).No = 2))) rfl rfl (decide_eq_true (rfl)) rfl ?_)
 refine AOps.cons rfl rfl (AOp.move (.bool (decide ((at_ ([⟨2, [⟨#[97]⟩, ⟨#[98]⟩]⟩] : List LineT) 0).No = 2))) rfl rfl ?_)
 refine AOps.yes rfl rfl rfl rfl rfl rfl rfl (decide_eq_true (rfl)) (AOp.move (.sl ([⟨2, [⟨#[97]⟩, ⟨#[98]⟩]⟩] : List LineT).length (([⟨2, [⟨#[97]⟩, ⟨#[98]⟩]⟩] : List LineT).flatMap eLine)) rfl rfl ?_)
 refine AOps.yes rfl rfl rfl rfl rfl rfl rfl (decide_eq_true (rfl)) (AOp.indexAddrS rfl rfl rfl sl_23 (by omega) (by omega) ?_)
 refine AOps.yes rfl rfl rfl rfl rfl rfl rfl (decide_eq_true (rfl)) (AOp.fieldAddrF rfl rfl fl_35_1 ?_)
 refine AOps.yes rfl rfl rfl rfl rfl rfl rfl (decide_eq_true (rfl)) (AOp.loadF (.sl ((at_ ([⟨2, [⟨#[97]⟩, ⟨#[98]⟩]⟩] : List LineT) 0).Words).length (((at_ ([⟨2, [⟨#[97]⟩, ⟨#[98]⟩]⟩] : List LineT) 0).Words).map eStr)) rfl rfl ty_33 (ldF eLine_len (by omega) (by omega) rfl (by decide)) ?_)
 refine AOps.yes rfl rfl rfl rfl rfl rfl rfl (decide_eq_true (rfl)) (AOp.buildSlice (cells := [.str ⟨#[97]⟩, .str ⟨#[98]⟩]) rfl u_33 ts_9 tz_9 rfl rfl rfl ?_)
 intro i7 H8 n9 h10 k11
 have z12 := Mono.free m6 n9
 have m13 := Mono.new m6 n9 k11
 obtain ⟨v14, e15⟩ : ∃ v : AV, v = .slm i7 0 1 0 2 := ⟨_, rfl⟩
 have o16 : Own H0 H8 1 v14 2 [.str ⟨#[97]⟩, .str ⟨#[98]⟩] := .inr ⟨_, _, e15, h10, z12, rfl⟩
 refine AOps.yes rfl rfl rfl rfl rfl rfl rfl (decide_eq_true (rfl)) ?_
 refine AOp.frz 38 (o16) e15.symm m13 fun H17 m18 k19 => ?_
 refine AOp.pcall («as» := [.sl ((at_ ([⟨2, [⟨#[97]⟩, ⟨#[98]⟩]⟩] : List LineT) 0).Words).length (((at_ ([⟨2, [⟨#[97]⟩, ⟨#[98]⟩]⟩] : List LineT) 0).Words).map eStr), .sl ([⟨#[97]⟩, ⟨#[98]⟩] : List ByteArray).length (([⟨#[97]⟩, ⟨#[98]⟩] : List ByteArray).map eStr)]) rfl rfl (rfl) tf_18 (c_SameTexts _ _ (by decide) (by decide)) ?_
 intro H20 m21
 have m22 := m18.trans m21
 refine AOps.cons rfl rfl (AOp.pickT (.bool (decide (((at_ ([⟨2, [⟨#[97]⟩, ⟨#[98]⟩]⟩] : List LineT) 0).Words) = ([⟨#[97]⟩, ⟨#[98]⟩] : List ByteArray)))) rfl rfl (decide_eq_true (rfl)) rfl ?_)
 refine AOps.cons rfl rfl (AOp.move (.bool (decide (((at_ ([⟨2, [⟨#[97]⟩, ⟨#[98]⟩]⟩] : List LineT) 0).Words) = ([⟨#[97]⟩, ⟨#[98]⟩] : List ByteArray)))) rfl rfl ?_)
 refine AOps.yes rfl rfl rfl rfl rfl rfl rfl (decide_eq_true (rfl)) (AOp.move (.int .i64 (-120)) rfl rfl ?_)
 refine AOps.yes rfl rfl rfl rfl rfl rfl rfl (decide_eq_true (rfl)) (AOp.bin (.bool (decide (-120 = -120))) rfl rfl rfl ieq ?_)
 refine AOps.cons rfl rfl (AOp.pickT (.bool (decide (-120 = -120))) rfl rfl (decide_eq_true (rfl)) rfl ?_)
 refine AOps.cons rfl rfl (AOp.move (.bool (decide (-120 = -120))) rfl rfl ?_)
 refine AOps.yes rfl rfl rfl rfl rfl rfl rfl (decide_eq_true (by decide)) (AOp.move (.bool true) rfl rfl ?_)
 refine AOps.cons rfl rfl (AOp.pickT (.bool true) rfl rfl (decide_eq_true (by decide)) rfl ?_)
 refine AOps.cons rfl rfl (AOp.move (.bool true) rfl rfl ?_)
 refine AOps.yes rfl rfl rfl rfl rfl rfl rfl rfl (AOp.pcall («as» := [.str ⟨#[97, 95, 49]⟩]) rfl rfl (rfl) tf_15 ((by have h := c_lex_Name ⟨#[97, 95, 49]⟩; rw [al_name] at h; exact h)) ?_)
 intro H23 m24
 have m25 := m22.trans m24
 refine AOps.cons rfl rfl (AOp.pickT (.bool true) rfl rfl rfl rfl ?_)
 refine AOps.cons rfl rfl (AOp.assign (.bool true) rfl rfl ?_)
 refine AOps.nil ?_
 change AWP _ _ _ _ _ _
 refine AWP.ret ?_
 refine ⟨_, _, Ghost.refl, .inr rfl, _, Res.one rfl rfl, ?_, m25⟩
 exact rfl
end Go.Proofs.L
namespace Go.Proofs.L
open Go Go.AH Go.Lib
set_option maxRecDepth 4000
set_option linter.unusedSectionVars false
variable [LexG]
/-! ### The two readings of a number are one -/
theorem digit_iff {b : UInt8} : (48 ≤ (b.toNat : Int) ∧ (b.toNat : Int) ≤ 57) ↔ digitVal b = some (b.toNat - 48) := by
  unfold digitVal
  split <;> simp <;> omega
theorem digit_none {b : UInt8} (h : ¬ (48 ≤ (b.toNat : Int) ∧ (b.toNat : Int) ≤ 57)) : digitVal b = none := by
  unfold digitVal
  rw [if_neg (by omega)]
theorem byt_get {w : ByteArray} {k : Nat} (h : k < w.size) : ∃ b, w.data.toList[k]? = some b ∧ byt w k = b.toNat := by
  have hl : k < w.data.toList.length := h
  refine ⟨_, List.getElem?_eq_getElem hl, ?_⟩
  unfold byt
  rw [Int.toNat_natCast, List.getD_eq_getElem?_getD, List.getElem?_eq_getElem hl]
  rfl
theorem dec_some {w : ByteArray} : ∀ k : Nat, k ≤ w.size → (∀ j : Int, 0 ≤ j → j < k → 48 ≤ byt w j ∧ byt w j ≤ 57) → ∃ n : Nat, decFrom 0 (w.data.toList.take k) = some n ∧ (n : Int) = val10 w k
  | 0, _, _ => ⟨0, rfl, rfl⟩
  | k + 1, hk, pre => by
    obtain ⟨n, h1, h2⟩ := dec_some k (by omega) fun j a b => pre j a (by omega)
    obtain ⟨b, hb, hv⟩ := byt_get (w := w) (k := k) (by omega)
    have hd := pre k (by omega) (by omega)
    rw [hv] at hd
    refine ⟨n * 10 + (b.toNat - 48), decFrom_take _ k 0 n b _ h1 hb (digit_iff.1 hd), ?_⟩
    rw [val10, ← h2, hv]
    omega
theorem dec_none : ∀ (l : List UInt8) (acc : Nat), (∃ b, b ∈ l ∧ digitVal b = none) → decFrom acc l = none
  | [], _, ⟨b, hb, _⟩ => by cases hb
  | a :: l, acc, ⟨b, hb, hd⟩ => by
    rw [decFrom]
    rcases List.mem_cons.1 hb with e | e
    · subst e; rw [hd]
    · cases ha : digitVal a with
      | none => rfl
      | some d => exact dec_none l _ ⟨b, e, hd⟩
theorem dec_all {w : ByteArray} (h : digP w) : ∃ n : Nat, decFrom 0 w.data.toList = some n ∧ (n : Int) = val10 w w.size := by
  have := dec_some (w := w) w.size (Nat.le_refl _) h
  rwa [List.take_of_length_le (Nat.le_of_eq (blen w))] at this
theorem dec_not {w : ByteArray} (h : ¬ digP w) : decFrom 0 w.data.toList = none := by
  have : ∃ j : Nat, j < w.size ∧ ¬ (48 ≤ byt w j ∧ byt w j ≤ 57) := by
    apply Classical.byContradiction
    intro hh
    refine h fun j h0 h1 => ?_
    apply Classical.byContradiction
    intro hx
    exact hh ⟨j.toNat, by omega, by rw [show ((j.toNat : Nat) : Int) = j by omega]; exact hx⟩
  obtain ⟨j, hj, hx⟩ := this
  obtain ⟨b, hb, hv⟩ := byt_get hj
  rw [hv] at hx
  exact dec_none _ _ ⟨b, List.mem_of_getElem? hb, digit_none hx⟩
theorem ba_ext {p q : ByteArray} (h : p.data.toList = q.data.toList) : p = q := by
  cases p; cases q
  simp only [ByteArray.mk.injEq]
  exact Array.toList_inj.1 h
theorem head_minus {s : ByteArray} : (0 < s.size ∧ byt s 0 = 45) ↔ ∃ t, s.data.toList = 45 :: t := by
  constructor
  · rintro ⟨h, hv⟩
    obtain ⟨b, hb, he⟩ := byt_get (w := s) (k := 0) h
    have : b = 45 := by
      apply UInt8.toNat_inj.1
      have h3 : byt s ((0 : Nat) : Int) = byt s 0 := rfl
      rw [h3, hv] at he
      show b.toNat = 45
      omega
    subst this
    cases hl : s.data.toList with
    | nil => rw [hl] at hb; cases hb
    | cons a t => rw [hl] at hb; simp at hb; subst hb; exact ⟨t, rfl⟩
  · rintro ⟨t, h⟩
    have hs : s.size = t.length + 1 := by rw [← blen, h]; rfl
    refine ⟨by omega, ?_⟩
    unfold byt
    rw [h]; rfl
theorem trim_T {s : ByteArray} {t : List UInt8} (h : s.data.toList = 45 :: t) : (trimM s).data.toList = t := by
  simp [trimM, trimPrefix, h, hasPrefix]
theorem trim_F {s : ByteArray} (h : ¬ ∃ t, s.data.toList = 45 :: t) : trimM s = s := by
  apply ba_ext
  have : hasPrefix s.data.toList [45] = false := by
    cases hl : s.data.toList with
    | nil => simp [hasPrefix]
    | cons a r =>
      have : a ≠ 45 := fun e => h ⟨r, by rw [hl, e]⟩
      simp [hasPrefix, List.isPrefixOf, Ne.symm this]
  simp [trimM, trimPrefix, this]
theorem num_zero : R_lex_Number ⟨#[48]⟩ = ((0 : Int), true) := by kernel_rfl
theorem num_core {s w : ByteArray} {neg : Bool} (htr : trimM s = w) (hz : s = ⟨#[48]⟩ ↔ (w = ⟨#[48]⟩ ∧ neg = false))
    (hat : 1 ≤ w.size → 48 ≤ byt w 0 → atoi s.data.toList = (decFrom 0 w.data.toList).map fun m : Nat => if neg = true then -(m : Int) else m) : num14w neg w = R_lex_Number s := by
  by_cases z : s = ⟨#[48]⟩
  · have hw := hz.1 z
    subst z
    rw [hw.2, hw.1, w_zero rfl, num_zero]
  · have hnz : ¬ (w = ⟨#[48]⟩ ∧ neg = false) := fun e => z (hz.2 e)
    unfold R_lex_Number
    rw [htr]
    by_cases h0 : (w.size : Int) = 0
    · rw [if_pos h0, w_bad hnz (by omega)]
    · rw [if_neg h0]
      by_cases h6 : (w.size : Int) > 6
      · rw [if_pos h6, w_bad hnz (by omega)]
      · rw [if_neg h6]
        by_cases hb : byt w 0 < 48
        · rw [if_pos hb, w_nodig (i := 0) hnz (by omega) (by omega) (by omega) (by omega)]
        · rw [if_neg hb]
          by_cases hb2 : byt w 0 > 57
          · rw [if_pos hb2, w_nodig (i := 0) hnz (by omega) (by omega) (by omega) (by omega)]
          · rw [if_neg hb2]
            by_cases he : byt w 0 = 48
            · rw [if_pos he, if_neg z, w_bad hnz (by omega)]
            · rw [if_neg he]
              have ha := hat (by omega) (by omega)
              by_cases hd : digP w
              · obtain ⟨n, e1, e2⟩ := dec_all hd
                rw [e1] at ha
                simp only [Option.map_some] at ha
                rw [if_neg (by rw [ha]; simp), w_ok (i := (w.size : Int)) hnz (by omega) (by omega) (by omega) (fun j a b => hd j a b)]
                unfold atoiV
                rw [ha, Int.toNat_natCast, ← e2]
                rfl
              · rw [dec_not hd] at ha
                simp only [Option.map_none] at ha
                rw [if_pos ha]
                have : ∃ j : Int, 0 ≤ j ∧ j < w.size ∧ ¬ (48 ≤ byt w j ∧ byt w j ≤ 57) := by
                  apply Classical.byContradiction
                  intro hh
                  refine hd fun j h0 h1 => ?_
                  apply Classical.byContradiction
                  intro hx
                  exact hh ⟨j, h0, h1, hx⟩
                obtain ⟨j, j0, j1, jx⟩ := this
                rw [w_nodig hnz (by omega) j0 j1 jx]
theorem num_same (s : ByteArray) : num14 s = R_lex_Number s := by
  by_cases h : 0 < s.size ∧ byt s 0 = 45
  · obtain ⟨t, ht⟩ := head_minus.1 h
    rw [num14_T h]
    have hw : trimM s = s.extract (1 : Int).toNat (s.size : Int).toNat := by
      apply ba_ext
      rw [trim_T ht, Lib.extract_data, ht]
      have : s.size = t.length + 1 := by rw [← blen, ht]; rfl
      simp [this]
    refine num_core hw ⟨fun e => ?_, fun e => by cases e.2⟩ fun h1 h2 => ?_
    · subst e; simp at ht
    · rw [← hw, trim_T ht, ht]
      have hne : t ≠ [] := by
        intro e
        rw [← hw] at h1
        have := blen (trimM s)
        rw [trim_T ht, e] at this
        simp at this
        omega
      simp [atoi, decNat, hne]
  · rw [num14_F h]
    have ht := fun e => h (head_minus.2 e)
    refine num_core (trim_F ht) ⟨fun e => ⟨e, rfl⟩, fun e => e.1⟩ fun h1 h2 => ?_
    cases hl : s.data.toList with
    | nil =>
      have := blen s
      rw [hl] at this
      simp at this
      omega
    | cons a r =>
      have hv : byt s 0 = a.toNat := by unfold byt; rw [hl]; rfl
      have n1 : a ≠ 45 := fun e => ht ⟨r, by rw [hl, e]⟩
      have n2 : a ≠ 43 := fun e => by rw [hv, e] at h2; exact absurd h2 (by decide)
      simp [atoi, decNat, n1, n2]
end Go.Proofs.L
namespace Go.Proofs.L
open Go Go.AH Go.Lib
set_option maxRecDepth 4000
set_option linter.unusedSectionVars false
variable [LexG]
/-! ### The two readings of a text are one -/
/-! ### Words -/
/-! ### How many -/
end Go.Proofs.L
namespace Go.Proofs.L
open Go Go.AH
set_option maxRecDepth 4000
set_option linter.unusedSimpArgs false
set_option linter.unusedVariables false
variable [LexG]
theorem c_LexWords (s : ByteArray) : PC Tryd.prog 4 [.str s] (.bool true) := by
 intro H0
 refine ACalls.of_body' (n := 37) rfl rfl rfl rfl ?_
 have m0 := Mono.refl H0
 refine AWP.seq ?_
 refine AWP.region (l := [0]) rfl ?_
 refine AOps.cons rfl rfl (AOp.assign (.bool false) rfl rfl ?_)
 refine AOps.nil ?_
 change AWP _ _ _ _ _ _
 refine AWP.seq ?_
 refine AWP.seq ?_
 refine AWP.region (l := [0, 1]) rfl ?_
 refine AOps.cons rfl rfl (AOp.pcall («as» := []) rfl rfl (rfl) tf_9 (c_alive) ?_)
 intro H1 m2
 have m3 := m0.trans m2
 refine AOps.cons rfl rfl (AOp.not rfl rfl ?_)
 refine AOps.nil ?_
 change AWP _ _ _ _ _ _
 refine AWP.condF rfl rfl ?_
 refine AWP.skip ?_
 change AWP _ _ _ _ _ _
 refine AWP.seq ?_
 refine AWP.seq ?_
 refine AWP.region (l := [0, 1, 2]) rfl ?_
 refine AOps.cons rfl rfl (AOp.move (.str s) rfl rfl ?_)
 refine AOps.cons rfl rfl (AOp.lenStr rfl rfl u_9 ?_)
 refine AOps.cons rfl rfl (AOp.bin (.bool (decide ((s.size : Int) > 5000))) rfl rfl rfl rfl ?_)
 refine AOps.nil ?_
 change AWP _ _ _ _ _ _
 by_cases b4 : (s.size : Int) > 5000
 ·
  refine AWP.condT rfl (decide_eq_true b4) ?_
  refine AWP.seq ?_
  refine AWP.region (l := [0]) rfl ?_
  refine AOps.cons rfl rfl (AOp.assign (.bool true) rfl rfl ?_)
  refine AOps.nil ?_
  change AWP _ _ _ _ _ _
  refine AWP.ret ?_
  refine ⟨_, _, Ghost.refl, .inr rfl, _, Res.one rfl rfl, ?_, m3⟩
  exact rfl
 ·
  refine AWP.condF rfl (decide_eq_false b4) ?_
  refine AWP.skip ?_
  change AWP _ _ _ _ _ _
  refine AWP.seq ?_
  refine AWP.region (l := [0, 1, 2, 3, 4, 5, 6]) rfl ?_
  refine AOps.cons rfl rfl (AOp.move (.str s) rfl rfl ?_)
  refine AOps.cons rfl rfl (AOp.pcall («as» := [.str s]) rfl rfl (rfl) tf_13 (c_lex_Number s) ?_)
  intro H5 m6
  have m7 := m3.trans m6
  refine AOps.cons rfl rfl (AOp.move (.tup [.int .i64 ((R_lex_Number s).1), .bool ((R_lex_Number s).2)]) rfl rfl ?_)
  refine AOps.cons rfl rfl (AOp.extract (.int .i64 ((R_lex_Number s).1)) rfl rfl rfl ?_)
  refine AOps.cons rfl rfl (AOp.extract (.bool ((R_lex_Number s).2)) rfl rfl rfl ?_)
  refine AOps.cons rfl rfl (AOp.assign (.int .i64 ((R_lex_Number s).1)) rfl rfl ?_)
  refine AOps.cons rfl rfl (AOp.assign (.bool ((R_lex_Number s).2)) rfl rfl ?_)
  refine AOps.nil ?_
  change AWP _ _ _ _ _ _
  refine AWP.seq ?_
  refine AWP.region (l := [0, 1, 2, 3, 4, 5, 6]) rfl ?_
  refine AOps.cons rfl rfl (AOp.move (.str s) rfl rfl ?_)
  refine AOps.cons rfl rfl (AOp.pcall («as» := [.str s]) rfl rfl (rfl) tf_14 ((by have h := c_ref_Number s; rw [num_same] at h; exact h)) ?_)
  intro H8 m9
  have m10 := m7.trans m9
  refine AOps.cons rfl rfl (AOp.move (.tup [.int .i64 ((R_lex_Number s).1), .bool ((R_lex_Number s).2)]) rfl rfl ?_)
  refine AOps.cons rfl rfl (AOp.extract (.int .i64 ((R_lex_Number s).1)) rfl rfl rfl ?_)
  refine AOps.cons rfl rfl (AOp.extract (.bool ((R_lex_Number s).2)) rfl rfl rfl ?_)
  refine AOps.cons rfl rfl (AOp.assign (.int .i64 ((R_lex_Number s).1)) rfl rfl ?_)
  refine AOps.cons rfl rfl (AOp.assign (.bool ((R_lex_Number s).2)) rfl rfl ?_)
  refine AOps.nil ?_
  change AWP _ _ _ _ _ _
  refine AWP.seq ?_
  refine AWP.region (l := [0, 1, 2, 3, 4, 5, 6, 7, 8, 9, 10, 11, 12, 13, 14, 15]) rfl ?_
  refine AOps.cons rfl rfl (AOp.move (.int .i64 ((R_lex_Number s).1)) rfl rfl ?_)
  refine AOps.cons rfl rfl (AOp.move (.int .i64 ((R_lex_Number s).1)) rfl rfl ?_)
  refine AOps.cons rfl rfl (AOp.bin (.bool (decide ((R_lex_Number s).1 = (R_lex_Number s).1))) rfl rfl rfl ieq ?_)
  refine AOps.cons rfl rfl (AOp.move (.bool (decide ((R_lex_Number s).1 = (R_lex_Number s).1))) rfl rfl ?_)
  refine AOps.yes rfl rfl rfl rfl rfl rfl rfl (decide_eq_true rfl) (AOp.move (.bool ((R_lex_Number s).2)) rfl rfl ?_)
  refine AOps.yes rfl rfl rfl rfl rfl rfl rfl (decide_eq_true rfl) (AOp.move (.bool ((R_lex_Number s).2)) rfl rfl ?_)
  refine AOps.yes rfl rfl rfl rfl rfl rfl rfl (decide_eq_true rfl) (AOp.beq rfl rfl rfl u_4 ?_)
  refine AOps.cons rfl rfl (AOp.pickT (.bool (((R_lex_Number s).2) == ((R_lex_Number s).2))) rfl rfl (decide_eq_true rfl) rfl ?_)
  refine AOps.cons rfl rfl (AOp.move (.bool (((R_lex_Number s).2) == ((R_lex_Number s).2))) rfl rfl ?_)
  refine AOps.yes rfl rfl rfl rfl rfl rfl rfl ((beq_self_eq_true _)) (AOp.move (.str s) rfl rfl ?_)
  refine AOps.yes rfl rfl rfl rfl rfl rfl rfl ((beq_self_eq_true _)) (AOp.pcall («as» := [.str s]) rfl rfl (rfl) tf_15 (c_lex_Name _) ?_)
  intro H11 m12
  have m13 := m10.trans m12
  refine AOps.yes rfl rfl rfl rfl rfl rfl rfl ((beq_self_eq_true _)) (AOp.move (.str s) rfl rfl ?_)
  refine AOps.yes rfl rfl rfl rfl rfl rfl rfl ((beq_self_eq_true _)) (AOp.pcall («as» := [.str s]) rfl rfl (rfl) tf_16 (c_ref_Name _) ?_)
  intro H14 m15
  have m16 := m13.trans m15
  refine AOps.yes rfl rfl rfl rfl rfl rfl rfl ((beq_self_eq_true _)) (AOp.beq rfl rfl rfl u_4 ?_)
  refine AOps.cons rfl rfl (AOp.pickT (.bool ((nameB s) == (nameB s))) rfl rfl ((beq_self_eq_true _)) rfl ?_)
  refine AOps.cons rfl rfl (AOp.assign (.bool ((nameB s) == (nameB s))) rfl rfl ?_)
  refine AOps.nil ?_
  change AWP _ _ _ _ _ _
  refine AWP.ret ?_
  refine ⟨_, _, Ghost.refl, .inr rfl, _, Res.one rfl rfl, ?_, m16⟩
  exact (congrArg AV.bool (show ((nameB s) == (nameB s) : Bool) = true from by first | rfl | exact beq_self_eq_true _))
end Go.Proofs.L
