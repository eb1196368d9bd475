/- A part of the proof that a law answers true for every input of its row: own work, by an AI agent. -/
import Derived.Test.YtfddnapdeihchaaGreatDoorB01
import Derived.Lib.SplitLaws
import Derived.KernelRfl
import Derived.Test.YtfddnapdeihchaaGreatDoorCards
import Derived.Test.YtfddnapdeihchaaGreatDoorTie
import Derived.WalkKit
import Derived.ProofKit
import Derived.OpenShut
import Derived.Deep.DeepHandedRow
import Derived.Deep.DeepWitnessRowRef
import Derived.Lib.LaidTab
import Derived.Lay
import Derived.LaidSub
import Derived.MakeChecks
import Derived.Shelf.Vars
import Derived.Stop.LaidErr
set_option linter.unusedSimpArgs false
set_option linter.unusedVariables false
set_option linter.defProp false
namespace Go.Proofs.L
open Go Go.AH
set_option maxRecDepth 4000
set_option linter.unusedSimpArgs false
set_option linter.unusedVariables false
variable [LexG]
theorem c_lex_Name (s : ByteArray) : PC Tryz.prog 85 [.str s] (.bool (nameB s)) := by
 intro H0
 refine ACalls.of_body' (n := 45) rfl rfl rfl rfl ?_
 have m0 := Mono.refl H0
 refine Sr ?_
 refine A rfl rfl ?_
 refine AWP.seq ?_
 refine Sr ?_
 refine V rfl rfl (C rfl (AOp.lenStr rfl rfl u_9 (B rfl rfl rfl ieq (V rfl rfl ?_))))
 by_cases b1 : (s.size : Int) = 0
 refine N rfl rfl (decide_eq_true b1) (N rfl rfl (decide_eq_true b1) (N rfl rfl (decide_eq_true b1) (C rfl (Pt _ rfl rfl (decide_eq_true b1) rfl ?_))))
 refine ct_ rfl rfl ?_
 refine Sr ?_
 refine A rfl rfl ?_
 refine rt_ ?_
 refine Rr (Res.one rfl rfl) ?_ m0
 exact (congrArg AV.bool (show (false : Bool) = nameB s from by first | exact (nameB_size (by omega)).symm | exact (nameB_of (by omega) (by omega) (fun j h1 h2 => pre j h1 (by omega))).symm))
 refine Y rfl rfl rfl (decide_eq_false b1) (Mv _ rfl rfl (Y rfl rfl rfl (decide_eq_false b1) (AOp.lenStr rfl rfl u_9 (Y rfl rfl rfl (decide_eq_false b1) (Bi _ rfl rfl rfl rfl (C rfl (Pf _ rfl rfl (decide_eq_false b1) rfl ?_)))))))
 refine AOps.nil ?_
 change AWP _ _ _ _ _ _
 by_cases b2 : (s.size : Int) > 16
 refine ct_ rfl (decide_eq_true b2) ?_
 refine Sr ?_
 refine A rfl rfl ?_
 refine rt_ ?_
 refine Rr (Res.one rfl rfl) ?_ m0
 exact (congrArg AV.bool (show (false : Bool) = nameB s from by first | exact (nameB_size (by omega)).symm | exact (nameB_of (by omega) (by omega) (fun j h1 h2 => pre j h1 (by omega))).symm))
 refine cf_ rfl (decide_eq_false b2) ?_
 refine AWP.skip ?_
 refine AWP.seq ?_
 refine Sr ?_
 refine V rfl rfl (C rfl (AOp.rangeS rfl rfl u_9 ?_))
 intro i3 H4 n5 h6 k7
 have z8 := Mono.free m0 n5
 have m9 := Mono.new m0 n5 k7
 refine bk_ ?_
 refine AWP.loop (fun q10 fq Hq => ∃ (p : Nat), q10 = s.size - p ∧ fq 14 = .it i3 ∧ Hq i3 = some (.iter (.str s p)) ∧ Mono H0 Hq ∧ (∀ j : Int, 0 ≤ j → j < p → okN s j)) (k := s.size - 0) ?_ ?_
 exact ⟨0, rfl, rfl, h6, m9, by intro j; omega⟩
 rintro _ f12 H11 ⟨p, rfl, s13, h14, m15, pre⟩
 refine Sr ?_
 refine C rfl (AOp.nextS rfl s13 h14 ?_ ?_)
 intro hle16
 refine E rfl rfl rfl ?_
 refine AWP.seq ?_
 refine cf_ rfl rfl ?_
 refine AWP.exit ?_
 change AWP _ _ _ _ _ _
 refine Sr ?_
 refine A rfl rfl ?_
 refine rt_ ?_
 refine Rr (Res.one rfl rfl) ?_ m15
 exact (congrArg AV.bool (show (true : Bool) = nameB s from by first | exact (nameB_size (by omega)).symm | exact (nameB_of (by omega) (by omega) (fun j h1 h2 => pre j h1 (by omega))).symm))
 intro H17 hlt18 h19 k20
 have m22 := Mono.set m15 z8 k20
 refine E rfl rfl rfl ?_
 refine AWP.seq ?_
 refine ct_ rfl rfl ?_
 refine AWP.skip ?_
 refine bk_ ?_
 refine AWP.seq ?_
 have hw := dec_pos s p
 refine AWP.region rfl ?_
 refine E rfl rfl rfl (E rfl rfl rfl (A rfl rfl (A rfl rfl ?_)))
 refine bk_ ?_
 refine Sr ?_
 refine V rfl rfl (B rfl rfl rfl rfl (V rfl rfl ?_))
 by_cases b23 : 97 ≤ ((Utf8.decode s p).1 : Int)
 refine Y rfl rfl rfl (decide_eq_true b23) (Mv _ rfl rfl (Y rfl rfl rfl (decide_eq_true b23) (Bi _ rfl rfl rfl rfl (C rfl (Pt _ rfl rfl (decide_eq_true b23) rfl (A rfl rfl ?_))))))
 refine AOps.nil ?_
 change AWP _ _ _ _ _ _
 by_cases b24 : ((Utf8.decode s p).1 : Int) ≤ 122
 refine ct_ rfl (decide_eq_true b24) ?_
 refine AWP.skip ?_
 exact ⟨_, by omega, (p + (Utf8.decode s p).2), rfl, s13, h19, m22, by exact name_step hlt18 pre (by omega)⟩
 refine cf_ rfl (decide_eq_false b24) ?_
 refine Sr ?_
 refine V rfl rfl (B rfl rfl rfl rfl (V rfl rfl ?_))
 by_cases b25 : (p : Int) > 0
 refine Y rfl rfl rfl (decide_eq_true b25) (Mv _ rfl rfl (Y rfl rfl rfl (decide_eq_true b25) (Bi _ rfl rfl rfl rfl (Y rfl rfl rfl (decide_eq_true b25) (Mv _ rfl rfl ?_)))))
 by_cases b26 : 48 ≤ ((Utf8.decode s p).1 : Int)
 refine Y rfl rfl rfl (decide_eq_true b26) (Mv _ rfl rfl (Y rfl rfl rfl (decide_eq_true b26) (Bi _ rfl rfl rfl rfl (Y rfl rfl rfl (decide_eq_true b25) (Pt _ rfl rfl (decide_eq_true b26) rfl (Y rfl rfl rfl (decide_eq_true b25) (Mv _ rfl rfl ?_)))))))
 by_cases b27 : ((Utf8.decode s p).1 : Int) ≤ 57
 refine N rfl rfl (decide_eq_true b27) (N rfl rfl (decide_eq_true b27) (Y rfl rfl rfl (decide_eq_true b25) (Pt _ rfl rfl (decide_eq_true b27) rfl (Y rfl rfl rfl (decide_eq_true b25) (Mv _ rfl rfl (N rfl rfl rfl (N rfl rfl rfl (Y rfl rfl rfl (decide_eq_true b25) (Pt _ rfl rfl rfl rfl (C rfl (Pt _ rfl rfl (decide_eq_true b25) rfl (A rfl rfl ?_))))))))))))
 refine ct_ rfl rfl ?_
 refine AWP.skip ?_
 exact ⟨_, by omega, (p + (Utf8.decode s p).2), rfl, s13, h19, m22, by exact name_step hlt18 pre (by omega)⟩
 refine Y rfl rfl rfl (decide_eq_false b27) (Mv _ rfl rfl (Y rfl rfl rfl (decide_eq_false b27) (Bi _ rfl rfl rfl ieq (Y rfl rfl rfl (decide_eq_true b25) (Pf _ rfl rfl (decide_eq_false b27) rfl (Y rfl rfl rfl (decide_eq_true b25) (Mv _ rfl rfl ?_)))))))
 by_cases b28 : ((Utf8.decode s p).1 : Int) = 95
 refine N rfl rfl (decide_eq_true b28) (N rfl rfl (decide_eq_true b28) (Y rfl rfl rfl (decide_eq_true b25) (Pt _ rfl rfl (decide_eq_true b28) rfl (C rfl (Pt _ rfl rfl (decide_eq_true b25) rfl (A rfl rfl ?_))))))
 refine ct_ rfl rfl ?_
 refine AWP.skip ?_
 exact ⟨_, by omega, (p + (Utf8.decode s p).2), rfl, s13, h19, m22, by exact name_step hlt18 pre (by omega)⟩
 refine Y rfl rfl rfl (decide_eq_false b28) (Mv _ rfl rfl (Y rfl rfl rfl (decide_eq_false b28) (Bi _ rfl rfl rfl ieq (Y rfl rfl rfl (decide_eq_true b25) (Pf _ rfl rfl (decide_eq_false b28) rfl (C rfl (Pt _ rfl rfl (decide_eq_true b25) rfl (A rfl rfl ?_))))))))
 refine AOps.nil ?_
 change AWP _ _ _ _ _ _
 by_cases b29 : ((Utf8.decode s p).1 : Int) = 46
 refine ct_ rfl (decide_eq_true b29) ?_
 refine AWP.skip ?_
 exact ⟨_, by omega, (p + (Utf8.decode s p).2), rfl, s13, h19, m22, by exact name_step hlt18 pre (by omega)⟩
 refine cf_ rfl (decide_eq_false b29) ?_
 refine Sr ?_
 refine A rfl rfl ?_
 refine rt_ ?_
 refine Rr (Res.one rfl rfl) ?_ m22
 exact (congrArg AV.bool (show (false : Bool) = nameB s from by exact (name_no hlt18 (by omega)).symm))
 refine N rfl rfl (decide_eq_false b26) (N rfl rfl (decide_eq_false b26) (Y rfl rfl rfl (decide_eq_true b25) (Pf _ rfl rfl (decide_eq_false b26) rfl (Y rfl rfl rfl (decide_eq_true b25) (Mv _ rfl rfl (Y rfl rfl rfl rfl (Mv _ rfl rfl (Y rfl rfl rfl rfl (Bi _ rfl rfl rfl ieq (Y rfl rfl rfl (decide_eq_true b25) (Pf _ rfl rfl rfl rfl (Y rfl rfl rfl (decide_eq_true b25) (Mv _ rfl rfl ?_)))))))))))))
 by_cases b30 : ((Utf8.decode s p).1 : Int) = 95
 refine N rfl rfl (decide_eq_true b30) (N rfl rfl (decide_eq_true b30) (Y rfl rfl rfl (decide_eq_true b25) (Pt _ rfl rfl (decide_eq_true b30) rfl (C rfl (Pt _ rfl rfl (decide_eq_true b25) rfl (A rfl rfl ?_))))))
 refine ct_ rfl rfl ?_
 refine AWP.skip ?_
 exact ⟨_, by omega, (p + (Utf8.decode s p).2), rfl, s13, h19, m22, by exact name_step hlt18 pre (by omega)⟩
 refine Y rfl rfl rfl (decide_eq_false b30) (Mv _ rfl rfl (Y rfl rfl rfl (decide_eq_false b30) (Bi _ rfl rfl rfl ieq (Y rfl rfl rfl (decide_eq_true b25) (Pf _ rfl rfl (decide_eq_false b30) rfl (C rfl (Pt _ rfl rfl (decide_eq_true b25) rfl (A rfl rfl ?_))))))))
 refine AOps.nil ?_
 change AWP _ _ _ _ _ _
 by_cases b31 : ((Utf8.decode s p).1 : Int) = 46
 refine ct_ rfl (decide_eq_true b31) ?_
 refine AWP.skip ?_
 exact ⟨_, by omega, (p + (Utf8.decode s p).2), rfl, s13, h19, m22, by exact name_step hlt18 pre (by omega)⟩
 refine cf_ rfl (decide_eq_false b31) ?_
 refine Sr ?_
 refine A rfl rfl ?_
 refine rt_ ?_
 refine Rr (Res.one rfl rfl) ?_ m22
 exact (congrArg AV.bool (show (false : Bool) = nameB s from by exact (name_no hlt18 (by omega)).symm))
 refine N rfl rfl (decide_eq_false b25) (N rfl rfl (decide_eq_false b25) (N rfl rfl (decide_eq_false b25) (AOps.un rfl rfl rfl rfl rfl rfl rfl (AOps.un rfl rfl rfl rfl rfl rfl rfl (N rfl rfl (decide_eq_false b25) (N rfl rfl (decide_eq_false b25) (AOps.un rfl rfl rfl rfl rfl rfl rfl (AOps.un rfl rfl rfl rfl rfl rfl rfl (N rfl rfl (decide_eq_false b25) (N rfl rfl (decide_eq_false b25) (AOps.un rfl rfl rfl rfl rfl rfl rfl ?_)))))))))))
 refine AOps.un rfl rfl rfl rfl rfl rfl rfl (N rfl rfl (decide_eq_false b25) (C rfl (Pf _ rfl rfl (decide_eq_false b25) rfl (A rfl rfl ?_))))
 refine cf_ rfl rfl ?_
 refine Sr ?_
 refine A rfl rfl ?_
 refine rt_ ?_
 refine Rr (Res.one rfl rfl) ?_ m22
 exact (congrArg AV.bool (show (false : Bool) = nameB s from by exact (name_no hlt18 (by omega)).symm))
 refine N rfl rfl (decide_eq_false b23) (N rfl rfl (decide_eq_false b23) (C rfl (Pf _ rfl rfl (decide_eq_false b23) rfl (A rfl rfl ?_))))
 refine cf_ rfl rfl ?_
 refine Sr ?_
 refine V rfl rfl (B rfl rfl rfl rfl (V rfl rfl ?_))
 by_cases b32 : (p : Int) > 0
 refine Y rfl rfl rfl (decide_eq_true b32) (Mv _ rfl rfl (Y rfl rfl rfl (decide_eq_true b32) (Bi _ rfl rfl rfl rfl (Y rfl rfl rfl (decide_eq_true b32) (Mv _ rfl rfl ?_)))))
 by_cases b33 : 48 ≤ ((Utf8.decode s p).1 : Int)
 refine Y rfl rfl rfl (decide_eq_true b33) (Mv _ rfl rfl (Y rfl rfl rfl (decide_eq_true b33) (Bi _ rfl rfl rfl rfl (Y rfl rfl rfl (decide_eq_true b32) (Pt _ rfl rfl (decide_eq_true b33) rfl (Y rfl rfl rfl (decide_eq_true b32) (Mv _ rfl rfl ?_)))))))
 by_cases b34 : ((Utf8.decode s p).1 : Int) ≤ 57
 refine N rfl rfl (decide_eq_true b34) (N rfl rfl (decide_eq_true b34) (Y rfl rfl rfl (decide_eq_true b32) (Pt _ rfl rfl (decide_eq_true b34) rfl (Y rfl rfl rfl (decide_eq_true b32) (Mv _ rfl rfl (N rfl rfl rfl (N rfl rfl rfl (Y rfl rfl rfl (decide_eq_true b32) (Pt _ rfl rfl rfl rfl (C rfl (Pt _ rfl rfl (decide_eq_true b32) rfl (A rfl rfl ?_))))))))))))
 refine ct_ rfl rfl ?_
 refine AWP.skip ?_
 exact ⟨_, by omega, (p + (Utf8.decode s p).2), rfl, s13, h19, m22, by exact name_step hlt18 pre (by omega)⟩
 refine Y rfl rfl rfl (decide_eq_false b34) (Mv _ rfl rfl (Y rfl rfl rfl (decide_eq_false b34) (Bi _ rfl rfl rfl ieq (Y rfl rfl rfl (decide_eq_true b32) (Pf _ rfl rfl (decide_eq_false b34) rfl (Y rfl rfl rfl (decide_eq_true b32) (Mv _ rfl rfl ?_)))))))
 by_cases b35 : ((Utf8.decode s p).1 : Int) = 95
 refine N rfl rfl (decide_eq_true b35) (N rfl rfl (decide_eq_true b35) (Y rfl rfl rfl (decide_eq_true b32) (Pt _ rfl rfl (decide_eq_true b35) rfl (C rfl (Pt _ rfl rfl (decide_eq_true b32) rfl (A rfl rfl ?_))))))
 refine ct_ rfl rfl ?_
 refine AWP.skip ?_
 exact ⟨_, by omega, (p + (Utf8.decode s p).2), rfl, s13, h19, m22, by exact name_step hlt18 pre (by omega)⟩
 refine Y rfl rfl rfl (decide_eq_false b35) (Mv _ rfl rfl (Y rfl rfl rfl (decide_eq_false b35) (Bi _ rfl rfl rfl ieq (Y rfl rfl rfl (decide_eq_true b32) (Pf _ rfl rfl (decide_eq_false b35) rfl (C rfl (Pt _ rfl rfl (decide_eq_true b32) rfl (A rfl rfl ?_))))))))
 refine AOps.nil ?_
 change AWP _ _ _ _ _ _
 by_cases b36 : ((Utf8.decode s p).1 : Int) = 46
 refine ct_ rfl (decide_eq_true b36) ?_
 refine AWP.skip ?_
 exact ⟨_, by omega, (p + (Utf8.decode s p).2), rfl, s13, h19, m22, by exact name_step hlt18 pre (by omega)⟩
 refine cf_ rfl (decide_eq_false b36) ?_
 refine Sr ?_
 refine A rfl rfl ?_
 refine rt_ ?_
 refine Rr (Res.one rfl rfl) ?_ m22
 exact (congrArg AV.bool (show (false : Bool) = nameB s from by exact (name_no hlt18 (by omega)).symm))
 refine N rfl rfl (decide_eq_false b33) (N rfl rfl (decide_eq_false b33) (Y rfl rfl rfl (decide_eq_true b32) (Pf _ rfl rfl (decide_eq_false b33) rfl (Y rfl rfl rfl (decide_eq_true b32) (Mv _ rfl rfl (Y rfl rfl rfl rfl (Mv _ rfl rfl (Y rfl rfl rfl rfl (Bi _ rfl rfl rfl ieq (Y rfl rfl rfl (decide_eq_true b32) (Pf _ rfl rfl rfl rfl (Y rfl rfl rfl (decide_eq_true b32) (Mv _ rfl rfl ?_)))))))))))))
 by_cases b37 : ((Utf8.decode s p).1 : Int) = 95
 refine N rfl rfl (decide_eq_true b37) (N rfl rfl (decide_eq_true b37) (Y rfl rfl rfl (decide_eq_true b32) (Pt _ rfl rfl (decide_eq_true b37) rfl (C rfl (Pt _ rfl rfl (decide_eq_true b32) rfl (A rfl rfl ?_))))))
 refine ct_ rfl rfl ?_
 refine AWP.skip ?_
 exact ⟨_, by omega, (p + (Utf8.decode s p).2), rfl, s13, h19, m22, by exact name_step hlt18 pre (by omega)⟩
 refine Y rfl rfl rfl (decide_eq_false b37) (Mv _ rfl rfl (Y rfl rfl rfl (decide_eq_false b37) (Bi _ rfl rfl rfl ieq (Y rfl rfl rfl (decide_eq_true b32) (Pf _ rfl rfl (decide_eq_false b37) rfl (C rfl (Pt _ rfl rfl (decide_eq_true b32) rfl (A rfl rfl ?_))))))))
 refine AOps.nil ?_
 change AWP _ _ _ _ _ _
 by_cases b38 : ((Utf8.decode s p).1 : Int) = 46
 refine ct_ rfl (decide_eq_true b38) ?_
 refine AWP.skip ?_
 exact ⟨_, by omega, (p + (Utf8.decode s p).2), rfl, s13, h19, m22, by exact name_step hlt18 pre (by omega)⟩
 refine cf_ rfl (decide_eq_false b38) ?_
 refine Sr ?_
 refine A rfl rfl ?_
 refine rt_ ?_
 refine Rr (Res.one rfl rfl) ?_ m22
 exact (congrArg AV.bool (show (false : Bool) = nameB s from by exact (name_no hlt18 (by omega)).symm))
 refine N rfl rfl (decide_eq_false b32) (N rfl rfl (decide_eq_false b32) (N rfl rfl (decide_eq_false b32) (AOps.un rfl rfl rfl rfl rfl rfl rfl (AOps.un rfl rfl rfl rfl rfl rfl rfl (N rfl rfl (decide_eq_false b32) (N rfl rfl (decide_eq_false b32) (AOps.un rfl rfl rfl rfl rfl rfl rfl (AOps.un rfl rfl rfl rfl rfl rfl rfl (N rfl rfl (decide_eq_false b32) (N rfl rfl (decide_eq_false b32) (AOps.un rfl rfl rfl rfl rfl rfl rfl ?_)))))))))))
 refine AOps.un rfl rfl rfl rfl rfl rfl rfl (N rfl rfl (decide_eq_false b32) (C rfl (Pf _ rfl rfl (decide_eq_false b32) rfl (A rfl rfl ?_))))
 refine cf_ rfl rfl ?_
 refine Sr ?_
 refine A rfl rfl ?_
 refine rt_ ?_
 refine Rr (Res.one rfl rfl) ?_ m22
 exact (congrArg AV.bool (show (false : Bool) = nameB s from by exact (name_no hlt18 (by omega)).symm))
theorem c_ref_Name (s : ByteArray) : PC Tryz.prog 92 [.str s] (.bool (nameB s)) := by
 intro H0
 refine ACalls.of_body' (n := 54) rfl rfl rfl rfl ?_
 have m0 := Mono.refl H0
 refine Sr ?_
 refine A rfl rfl ?_
 refine AWP.seq ?_
 refine Sr ?_
 refine V rfl rfl (C rfl (AOp.lenStr rfl rfl u_9 (B rfl rfl rfl rfl (V rfl rfl ?_))))
 by_cases b1 : (s.size : Int) < 1
 refine N rfl rfl (decide_eq_true b1) (N rfl rfl (decide_eq_true b1) (N rfl rfl (decide_eq_true b1) (C rfl (Pt _ rfl rfl (decide_eq_true b1) rfl ?_))))
 refine ct_ rfl rfl ?_
 refine Sr ?_
 refine A rfl rfl ?_
 refine rt_ ?_
 refine Rr (Res.one rfl rfl) ?_ m0
 exact (congrArg AV.bool (show (false : Bool) = nameB s from by first | exact (nameB_size (by omega)).symm | exact (nameB_of (by omega) (by omega) (fun j h1 h2 => pre j h1 (by omega))).symm))
 refine Y rfl rfl rfl (decide_eq_false b1) (Mv _ rfl rfl (Y rfl rfl rfl (decide_eq_false b1) (AOp.lenStr rfl rfl u_9 (Y rfl rfl rfl (decide_eq_false b1) (Bi _ rfl rfl rfl rfl (C rfl (Pf _ rfl rfl (decide_eq_false b1) rfl ?_)))))))
 refine AOps.nil ?_
 change AWP _ _ _ _ _ _
 by_cases b2 : (s.size : Int) > 16
 refine ct_ rfl (decide_eq_true b2) ?_
 refine Sr ?_
 refine A rfl rfl ?_
 refine rt_ ?_
 refine Rr (Res.one rfl rfl) ?_ m0
 exact (congrArg AV.bool (show (false : Bool) = nameB s from by first | exact (nameB_size (by omega)).symm | exact (nameB_of (by omega) (by omega) (fun j h1 h2 => pre j h1 (by omega))).symm))
 refine cf_ rfl (decide_eq_false b2) ?_
 refine AWP.skip ?_
 refine AWP.seq ?_
 refine Sr ?_
 refine A rfl rfl ?_
 refine bk_ ?_
 refine AWP.loop (fun q3 fq Hq => ∃ (i : Int), q3 = ((s.size : Int) - i).toNat ∧ fq 3 = .int .i64 i ∧ fq 0 = .str s ∧ Mono H0 Hq ∧ (0 ≤ i) ∧ (i ≤ s.size) ∧ (∀ j : Int, 0 ≤ j → j < i → okN s j)) (k := ((s.size : Int) - 0).toNat) ?_ ?_
 exact ⟨0, rfl, rfl, rfl, m0, by omega, by omega, by intro j; omega⟩
 rintro _ f5 H4 ⟨i, rfl, s6, s7, m8, hi0, hi1, pre⟩
 refine AWP.seq ?_
 refine Sr ?_
 refine V rfl s6 (V rfl s7 (C rfl (AOp.lenStr rfl rfl u_9 (B rfl rfl rfl rfl ?_))))
 refine AOps.nil ?_
 change AWP _ _ _ _ _ _
 by_cases b9 : i < (s.size : Int)
 refine ct_ rfl (decide_eq_true b9) ?_
 refine AWP.skip ?_
 refine AWP.seq ?_
 refine bk_ ?_
 refine Sr ?_
 refine V rfl s7 (V rfl s6 ?_)
 have hb10 := byt_rng s i
 refine C rfl (AOp.indexB rfl rfl rfl u_9 (by omega) (by omega) (A rfl rfl ?_))
 refine Sr ?_
 refine V rfl rfl (B rfl rfl rfl rfl (V rfl rfl ?_))
 by_cases b11 : byt s i ≥ 97
 refine Y rfl rfl rfl (decide_eq_true b11) (Mv _ rfl rfl (Y rfl rfl rfl (decide_eq_true b11) (Bi _ rfl rfl rfl rfl (C rfl (Pt _ rfl rfl (decide_eq_true b11) rfl (A rfl rfl ?_))))))
 refine Sr ?_
 refine V rfl rfl (B rfl rfl rfl rfl (V rfl rfl ?_))
 by_cases b12 : byt s i ≥ 48
 refine Y rfl rfl rfl (decide_eq_true b12) (Mv _ rfl rfl (Y rfl rfl rfl (decide_eq_true b12) (Bi _ rfl rfl rfl rfl (C rfl (Pt _ rfl rfl (decide_eq_true b12) rfl (V rfl rfl ?_))))))
 by_cases b13 : byt s i ≤ 57
 refine N rfl rfl (decide_eq_true b13) (N rfl rfl (decide_eq_true b13) (C rfl (Pt _ rfl rfl (decide_eq_true b13) rfl (V rfl rfl (N rfl rfl rfl (N rfl rfl rfl (C rfl (Pt _ rfl rfl rfl rfl (A rfl rfl ?_)))))))))
 refine Sr ?_
 refine V rfl rfl (C rfl (AOp.not rfl rfl (V rfl rfl ?_)))
 by_cases b14 : byt s i ≤ 122
 refine N rfl rfl (nb (decide_eq_true b14)) (N rfl rfl (nb (decide_eq_true b14)) (N rfl rfl (nb (decide_eq_true b14)) (AOps.un rfl rfl rfl rfl rfl rfl rfl (AOps.un rfl rfl rfl rfl rfl rfl rfl (N rfl rfl (nb (decide_eq_true b14)) (C rfl (Pf _ rfl rfl (nb (decide_eq_true b14)) rfl ?_)))))))
 refine cf_ rfl rfl ?_
 refine AWP.skip ?_
 refine AWP.region rfl ?_
 refine V rfl s6 (B rfl rfl rfl (iadd (by omega)) (A rfl rfl ?_))
 refine AOps.nil ?_
 exact ⟨_, by omega, i + 1, rfl, rfl, s7, m8, by omega, by omega, by exact okN_step pre (by unfold okN; omega)⟩
 refine Y rfl rfl rfl (nb (decide_eq_false b14)) (Mv _ rfl rfl (Y rfl rfl rfl (nb (decide_eq_false b14)) (AOp.not rfl rfl (Y rfl rfl rfl (nb (decide_eq_false b14)) (Mv _ rfl rfl (Y rfl rfl rfl rfl (Mv _ rfl s6 (Y rfl rfl rfl rfl (Bi _ rfl rfl rfl ieq (Y rfl rfl rfl (nb (decide_eq_false b14)) (Pf _ rfl rfl rfl rfl (C rfl (Pt _ rfl rfl (nb (decide_eq_false b14)) rfl ?_)))))))))))))
 refine AOps.nil ?_
 change AWP _ _ _ _ _ _
 by_cases b15 : i = 0
 refine ct_ rfl (decide_eq_true b15) ?_
 refine Sr ?_
 refine A rfl rfl ?_
 refine rt_ ?_
 refine Rr (Res.one rfl rfl) ?_ m8
 exact (congrArg AV.bool (show (false : Bool) = nameB s from by first | exact (nameB_at hi0 (by omega) (by unfold okN; omega)).symm))
 refine cf_ rfl (decide_eq_false b15) ?_
 refine AWP.skip ?_
 refine AWP.region rfl ?_
 refine V rfl s6 (B rfl rfl rfl (iadd (by omega)) (A rfl rfl ?_))
 refine AOps.nil ?_
 exact ⟨_, by omega, i + 1, rfl, rfl, s7, m8, by omega, by omega, by exact okN_step pre (by unfold okN; omega)⟩
 refine Y rfl rfl rfl (decide_eq_false b13) (Mv _ rfl rfl (Y rfl rfl rfl (decide_eq_false b13) (Bi _ rfl rfl rfl ieq (C rfl (Pf _ rfl rfl (decide_eq_false b13) rfl (V rfl rfl ?_))))))
 by_cases b16 : byt s i = 95
 refine N rfl rfl (decide_eq_true b16) (N rfl rfl (decide_eq_true b16) (C rfl (Pt _ rfl rfl (decide_eq_true b16) rfl (A rfl rfl ?_))))
 refine Sr ?_
 refine V rfl rfl (C rfl (AOp.not rfl rfl (V rfl rfl ?_)))
 by_cases b17 : byt s i ≤ 122
 refine N rfl rfl (nb (decide_eq_true b17)) (N rfl rfl (nb (decide_eq_true b17)) (N rfl rfl (nb (decide_eq_true b17)) (AOps.un rfl rfl rfl rfl rfl rfl rfl (AOps.un rfl rfl rfl rfl rfl rfl rfl (N rfl rfl (nb (decide_eq_true b17)) (C rfl (Pf _ rfl rfl (nb (decide_eq_true b17)) rfl ?_)))))))
 refine cf_ rfl rfl ?_
 refine AWP.skip ?_
 refine AWP.region rfl ?_
 refine V rfl s6 (B rfl rfl rfl (iadd (by omega)) (A rfl rfl ?_))
 refine AOps.nil ?_
 exact ⟨_, by omega, i + 1, rfl, rfl, s7, m8, by omega, by omega, by exact okN_step pre (by unfold okN; omega)⟩
 refine Y rfl rfl rfl (nb (decide_eq_false b17)) (Mv _ rfl rfl (Y rfl rfl rfl (nb (decide_eq_false b17)) (AOp.not rfl rfl (Y rfl rfl rfl (nb (decide_eq_false b17)) (Mv _ rfl rfl (Y rfl rfl rfl rfl (Mv _ rfl s6 (Y rfl rfl rfl rfl (Bi _ rfl rfl rfl ieq (Y rfl rfl rfl (nb (decide_eq_false b17)) (Pf _ rfl rfl rfl rfl (C rfl (Pt _ rfl rfl (nb (decide_eq_false b17)) rfl ?_)))))))))))))
 refine AOps.nil ?_
 change AWP _ _ _ _ _ _
 by_cases b18 : i = 0
 refine ct_ rfl (decide_eq_true b18) ?_
 refine Sr ?_
 refine A rfl rfl ?_
 refine rt_ ?_
 refine Rr (Res.one rfl rfl) ?_ m8
 exact (congrArg AV.bool (show (false : Bool) = nameB s from by first | exact (nameB_at hi0 (by omega) (by unfold okN; omega)).symm))
 refine cf_ rfl (decide_eq_false b18) ?_
 refine AWP.skip ?_
 refine AWP.region rfl ?_
 refine V rfl s6 (B rfl rfl rfl (iadd (by omega)) (A rfl rfl ?_))
 refine AOps.nil ?_
 exact ⟨_, by omega, i + 1, rfl, rfl, s7, m8, by omega, by omega, by exact okN_step pre (by unfold okN; omega)⟩
 refine Y rfl rfl rfl (decide_eq_false b16) (Mv _ rfl rfl (Y rfl rfl rfl (decide_eq_false b16) (Bi _ rfl rfl rfl ieq (C rfl (Pf _ rfl rfl (decide_eq_false b16) rfl (A rfl rfl ?_))))))
 refine Sr ?_
 refine V rfl rfl (C rfl (AOp.not rfl rfl (V rfl rfl ?_)))
 by_cases b19 : byt s i ≤ 122
 refine N rfl rfl (nb (decide_eq_true b19)) (N rfl rfl (nb (decide_eq_true b19)) (N rfl rfl (nb (decide_eq_true b19)) (AOps.un rfl rfl rfl rfl rfl rfl rfl (AOps.un rfl rfl rfl rfl rfl rfl rfl (N rfl rfl (nb (decide_eq_true b19)) (C rfl (Pf _ rfl rfl (nb (decide_eq_true b19)) rfl ?_)))))))
 refine cf_ rfl rfl ?_
 refine AWP.skip ?_
 refine AWP.region rfl ?_
 refine V rfl s6 (B rfl rfl rfl (iadd (by omega)) (A rfl rfl ?_))
 refine AOps.nil ?_
 exact ⟨_, by omega, i + 1, rfl, rfl, s7, m8, by omega, by omega, by exact okN_step pre (by unfold okN; omega)⟩
 refine Y rfl rfl rfl (nb (decide_eq_false b19)) (Mv _ rfl rfl (Y rfl rfl rfl (nb (decide_eq_false b19)) (AOp.not rfl rfl (Y rfl rfl rfl (nb (decide_eq_false b19)) (Mv _ rfl rfl ?_)))))
 by_cases b20 : byt s i = 46
 refine Y rfl rfl rfl (nb (decide_eq_true b20)) (Mv _ rfl s6 (Y rfl rfl rfl (nb (decide_eq_true b20)) (Bi _ rfl rfl rfl ieq (Y rfl rfl rfl (nb (decide_eq_false b19)) (Pf _ rfl rfl (nb (decide_eq_true b20)) rfl (C rfl (Pt _ rfl rfl (nb (decide_eq_false b19)) rfl ?_)))))))
 refine AOps.nil ?_
 change AWP _ _ _ _ _ _
 by_cases b21 : i = 0
 refine ct_ rfl (decide_eq_true b21) ?_
 refine Sr ?_
 refine A rfl rfl ?_
 refine rt_ ?_
 refine Rr (Res.one rfl rfl) ?_ m8
 exact (congrArg AV.bool (show (false : Bool) = nameB s from by first | exact (nameB_at hi0 (by omega) (by unfold okN; omega)).symm))
 refine cf_ rfl (decide_eq_false b21) ?_
 refine AWP.skip ?_
 refine AWP.region rfl ?_
 refine V rfl s6 (B rfl rfl rfl (iadd (by omega)) (A rfl rfl ?_))
 refine AOps.nil ?_
 exact ⟨_, by omega, i + 1, rfl, rfl, s7, m8, by omega, by omega, by exact okN_step pre (by unfold okN; omega)⟩
 refine N rfl rfl (nb (decide_eq_false b20)) (N rfl rfl (nb (decide_eq_false b20)) (Y rfl rfl rfl (nb (decide_eq_false b19)) (Pt _ rfl rfl (nb (decide_eq_false b20)) rfl (C rfl (Pt _ rfl rfl (nb (decide_eq_false b19)) rfl ?_)))))
 refine ct_ rfl rfl ?_
 refine Sr ?_
 refine A rfl rfl ?_
 refine rt_ ?_
 refine Rr (Res.one rfl rfl) ?_ m8
 exact (congrArg AV.bool (show (false : Bool) = nameB s from by first | exact (nameB_at hi0 (by omega) (by unfold okN; omega)).symm))
 refine N rfl rfl (decide_eq_false b12) (N rfl rfl (decide_eq_false b12) (C rfl (Pf _ rfl rfl (decide_eq_false b12) rfl (V rfl rfl (Y rfl rfl rfl rfl (Mv _ rfl rfl (Y rfl rfl rfl rfl (Bi _ rfl rfl rfl ieq (C rfl (Pf _ rfl rfl rfl rfl (V rfl rfl ?_)))))))))))
 by_cases b22 : byt s i = 95
 refine N rfl rfl (decide_eq_true b22) (N rfl rfl (decide_eq_true b22) (C rfl (Pt _ rfl rfl (decide_eq_true b22) rfl (A rfl rfl ?_))))
 refine Sr ?_
 refine V rfl rfl (C rfl (AOp.not rfl rfl (V rfl rfl ?_)))
 by_cases b23 : byt s i ≤ 122
 refine N rfl rfl (nb (decide_eq_true b23)) (N rfl rfl (nb (decide_eq_true b23)) (N rfl rfl (nb (decide_eq_true b23)) (AOps.un rfl rfl rfl rfl rfl rfl rfl (AOps.un rfl rfl rfl rfl rfl rfl rfl (N rfl rfl (nb (decide_eq_true b23)) (C rfl (Pf _ rfl rfl (nb (decide_eq_true b23)) rfl ?_)))))))
 refine cf_ rfl rfl ?_
 refine AWP.skip ?_
 refine AWP.region rfl ?_
 refine V rfl s6 (B rfl rfl rfl (iadd (by omega)) (A rfl rfl ?_))
 refine AOps.nil ?_
 exact ⟨_, by omega, i + 1, rfl, rfl, s7, m8, by omega, by omega, by exact okN_step pre (by unfold okN; omega)⟩
 refine Y rfl rfl rfl (nb (decide_eq_false b23)) (Mv _ rfl rfl (Y rfl rfl rfl (nb (decide_eq_false b23)) (AOp.not rfl rfl (Y rfl rfl rfl (nb (decide_eq_false b23)) (Mv _ rfl rfl (Y rfl rfl rfl rfl (Mv _ rfl s6 (Y rfl rfl rfl rfl (Bi _ rfl rfl rfl ieq (Y rfl rfl rfl (nb (decide_eq_false b23)) (Pf _ rfl rfl rfl rfl (C rfl (Pt _ rfl rfl (nb (decide_eq_false b23)) rfl ?_)))))))))))))
 refine AOps.nil ?_
 change AWP _ _ _ _ _ _
 by_cases b24 : i = 0
 refine ct_ rfl (decide_eq_true b24) ?_
 refine Sr ?_
 refine A rfl rfl ?_
 refine rt_ ?_
 refine Rr (Res.one rfl rfl) ?_ m8
 exact (congrArg AV.bool (show (false : Bool) = nameB s from by first | exact (nameB_at hi0 (by omega) (by unfold okN; omega)).symm))
 refine cf_ rfl (decide_eq_false b24) ?_
 refine AWP.skip ?_
 refine AWP.region rfl ?_
 refine V rfl s6 (B rfl rfl rfl (iadd (by omega)) (A rfl rfl ?_))
 refine AOps.nil ?_
 exact ⟨_, by omega, i + 1, rfl, rfl, s7, m8, by omega, by omega, by exact okN_step pre (by unfold okN; omega)⟩
 refine Y rfl rfl rfl (decide_eq_false b22) (Mv _ rfl rfl (Y rfl rfl rfl (decide_eq_false b22) (Bi _ rfl rfl rfl ieq (C rfl (Pf _ rfl rfl (decide_eq_false b22) rfl (A rfl rfl ?_))))))
 refine Sr ?_
 refine V rfl rfl (C rfl (AOp.not rfl rfl (V rfl rfl ?_)))
 by_cases b25 : byt s i ≤ 122
 refine N rfl rfl (nb (decide_eq_true b25)) (N rfl rfl (nb (decide_eq_true b25)) (N rfl rfl (nb (decide_eq_true b25)) (AOps.un rfl rfl rfl rfl rfl rfl rfl (AOps.un rfl rfl rfl rfl rfl rfl rfl (N rfl rfl (nb (decide_eq_true b25)) (C rfl (Pf _ rfl rfl (nb (decide_eq_true b25)) rfl ?_)))))))
 refine cf_ rfl rfl ?_
 refine AWP.skip ?_
 refine AWP.region rfl ?_
 refine V rfl s6 (B rfl rfl rfl (iadd (by omega)) (A rfl rfl ?_))
 refine AOps.nil ?_
 exact ⟨_, by omega, i + 1, rfl, rfl, s7, m8, by omega, by omega, by exact okN_step pre (by unfold okN; omega)⟩
 refine Y rfl rfl rfl (nb (decide_eq_false b25)) (Mv _ rfl rfl (Y rfl rfl rfl (nb (decide_eq_false b25)) (AOp.not rfl rfl (Y rfl rfl rfl (nb (decide_eq_false b25)) (Mv _ rfl rfl ?_)))))
 by_cases b26 : byt s i = 46
 refine Y rfl rfl rfl (nb (decide_eq_true b26)) (Mv _ rfl s6 (Y rfl rfl rfl (nb (decide_eq_true b26)) (Bi _ rfl rfl rfl ieq (Y rfl rfl rfl (nb (decide_eq_false b25)) (Pf _ rfl rfl (nb (decide_eq_true b26)) rfl (C rfl (Pt _ rfl rfl (nb (decide_eq_false b25)) rfl ?_)))))))
 refine AOps.nil ?_
 change AWP _ _ _ _ _ _
 by_cases b27 : i = 0
 refine ct_ rfl (decide_eq_true b27) ?_
 refine Sr ?_
 refine A rfl rfl ?_
 refine rt_ ?_
 refine Rr (Res.one rfl rfl) ?_ m8
 exact (congrArg AV.bool (show (false : Bool) = nameB s from by first | exact (nameB_at hi0 (by omega) (by unfold okN; omega)).symm))
 refine cf_ rfl (decide_eq_false b27) ?_
 refine AWP.skip ?_
 refine AWP.region rfl ?_
 refine V rfl s6 (B rfl rfl rfl (iadd (by omega)) (A rfl rfl ?_))
 refine AOps.nil ?_
 exact ⟨_, by omega, i + 1, rfl, rfl, s7, m8, by omega, by omega, by exact okN_step pre (by unfold okN; omega)⟩
 refine N rfl rfl (nb (decide_eq_false b26)) (N rfl rfl (nb (decide_eq_false b26)) (Y rfl rfl rfl (nb (decide_eq_false b25)) (Pt _ rfl rfl (nb (decide_eq_false b26)) rfl (C rfl (Pt _ rfl rfl (nb (decide_eq_false b25)) rfl ?_)))))
 refine ct_ rfl rfl ?_
 refine Sr ?_
 refine A rfl rfl ?_
 refine rt_ ?_
 refine Rr (Res.one rfl rfl) ?_ m8
 exact (congrArg AV.bool (show (false : Bool) = nameB s from by first | exact (nameB_at hi0 (by omega) (by unfold okN; omega)).symm))
 refine N rfl rfl (decide_eq_false b11) (N rfl rfl (decide_eq_false b11) (C rfl (Pf _ rfl rfl (decide_eq_false b11) rfl (A rfl rfl ?_))))
 refine Sr ?_
 refine V rfl rfl (B rfl rfl rfl rfl (V rfl rfl ?_))
 by_cases b28 : byt s i ≥ 48
 refine Y rfl rfl rfl (decide_eq_true b28) (Mv _ rfl rfl (Y rfl rfl rfl (decide_eq_true b28) (Bi _ rfl rfl rfl rfl (C rfl (Pt _ rfl rfl (decide_eq_true b28) rfl (V rfl rfl ?_))))))
 by_cases b29 : byt s i ≤ 57
 refine N rfl rfl (decide_eq_true b29) (N rfl rfl (decide_eq_true b29) (C rfl (Pt _ rfl rfl (decide_eq_true b29) rfl (V rfl rfl (N rfl rfl rfl (N rfl rfl rfl (C rfl (Pt _ rfl rfl rfl rfl (A rfl rfl ?_)))))))))
 refine Sr ?_
 refine V rfl rfl (C rfl (AOp.not rfl rfl (V rfl rfl (Y rfl rfl rfl rfl (Mv _ rfl rfl (Y rfl rfl rfl rfl (AOp.not rfl rfl (Y rfl rfl rfl rfl (Mv _ rfl rfl (Y rfl rfl rfl rfl (Mv _ rfl s6 (Y rfl rfl rfl rfl (Bi _ rfl rfl rfl ieq (Y rfl rfl rfl rfl (Pf _ rfl rfl rfl rfl (C rfl (Pt _ rfl rfl rfl rfl ?_)))))))))))))))))
 refine AOps.nil ?_
 change AWP _ _ _ _ _ _
 by_cases b30 : i = 0
 refine ct_ rfl (decide_eq_true b30) ?_
 refine Sr ?_
 refine A rfl rfl ?_
 refine rt_ ?_
 refine Rr (Res.one rfl rfl) ?_ m8
 exact (congrArg AV.bool (show (false : Bool) = nameB s from by first | exact (nameB_at hi0 (by omega) (by unfold okN; omega)).symm))
 refine cf_ rfl (decide_eq_false b30) ?_
 refine AWP.skip ?_
 refine AWP.region rfl ?_
 refine V rfl s6 (B rfl rfl rfl (iadd (by omega)) (A rfl rfl ?_))
 refine AOps.nil ?_
 exact ⟨_, by omega, i + 1, rfl, rfl, s7, m8, by omega, by omega, by exact okN_step pre (by unfold okN; omega)⟩
 refine Y rfl rfl rfl (decide_eq_false b29) (Mv _ rfl rfl (Y rfl rfl rfl (decide_eq_false b29) (Bi _ rfl rfl rfl ieq (C rfl (Pf _ rfl rfl (decide_eq_false b29) rfl (V rfl rfl ?_))))))
 by_cases b31 : byt s i = 95
 refine N rfl rfl (decide_eq_true b31) (N rfl rfl (decide_eq_true b31) (C rfl (Pt _ rfl rfl (decide_eq_true b31) rfl (A rfl rfl ?_))))
 refine Sr ?_
 refine V rfl rfl (C rfl (AOp.not rfl rfl (V rfl rfl (Y rfl rfl rfl rfl (Mv _ rfl rfl (Y rfl rfl rfl rfl (AOp.not rfl rfl (Y rfl rfl rfl rfl (Mv _ rfl rfl (Y rfl rfl rfl rfl (Mv _ rfl s6 (Y rfl rfl rfl rfl (Bi _ rfl rfl rfl ieq (Y rfl rfl rfl rfl (Pf _ rfl rfl rfl rfl (C rfl (Pt _ rfl rfl rfl rfl ?_)))))))))))))))))
 refine AOps.nil ?_
 change AWP _ _ _ _ _ _
 by_cases b32 : i = 0
 refine ct_ rfl (decide_eq_true b32) ?_
 refine Sr ?_
 refine A rfl rfl ?_
 refine rt_ ?_
 refine Rr (Res.one rfl rfl) ?_ m8
 exact (congrArg AV.bool (show (false : Bool) = nameB s from by first | exact (nameB_at hi0 (by omega) (by unfold okN; omega)).symm))
 refine cf_ rfl (decide_eq_false b32) ?_
 refine AWP.skip ?_
 refine AWP.region rfl ?_
 refine V rfl s6 (B rfl rfl rfl (iadd (by omega)) (A rfl rfl ?_))
 refine AOps.nil ?_
 exact ⟨_, by omega, i + 1, rfl, rfl, s7, m8, by omega, by omega, by exact okN_step pre (by unfold okN; omega)⟩
 refine Y rfl rfl rfl (decide_eq_false b31) (Mv _ rfl rfl (Y rfl rfl rfl (decide_eq_false b31) (Bi _ rfl rfl rfl ieq (C rfl (Pf _ rfl rfl (decide_eq_false b31) rfl (A rfl rfl ?_))))))
 refine Sr ?_
 refine V rfl rfl (C rfl (AOp.not rfl rfl (V rfl rfl (Y rfl rfl rfl rfl (Mv _ rfl rfl (Y rfl rfl rfl rfl (AOp.not rfl rfl (Y rfl rfl rfl rfl (Mv _ rfl rfl ?_)))))))))
 by_cases b33 : byt s i = 46
 refine Y rfl rfl rfl (nb (decide_eq_true b33)) (Mv _ rfl s6 (Y rfl rfl rfl (nb (decide_eq_true b33)) (Bi _ rfl rfl rfl ieq (Y rfl rfl rfl rfl (Pf _ rfl rfl (nb (decide_eq_true b33)) rfl (C rfl (Pt _ rfl rfl rfl rfl ?_)))))))
 refine AOps.nil ?_
 change AWP _ _ _ _ _ _
 by_cases b34 : i = 0
 refine ct_ rfl (decide_eq_true b34) ?_
 refine Sr ?_
 refine A rfl rfl ?_
 refine rt_ ?_
 refine Rr (Res.one rfl rfl) ?_ m8
 exact (congrArg AV.bool (show (false : Bool) = nameB s from by first | exact (nameB_at hi0 (by omega) (by unfold okN; omega)).symm))
 refine cf_ rfl (decide_eq_false b34) ?_
 refine AWP.skip ?_
 refine AWP.region rfl ?_
 refine V rfl s6 (B rfl rfl rfl (iadd (by omega)) (A rfl rfl ?_))
 refine AOps.nil ?_
 exact ⟨_, by omega, i + 1, rfl, rfl, s7, m8, by omega, by omega, by exact okN_step pre (by unfold okN; omega)⟩
 refine N rfl rfl (nb (decide_eq_false b33)) (N rfl rfl (nb (decide_eq_false b33)) (Y rfl rfl rfl rfl (Pt _ rfl rfl (nb (decide_eq_false b33)) rfl (C rfl (Pt _ rfl rfl rfl rfl ?_)))))
 refine ct_ rfl rfl ?_
 refine Sr ?_
 refine A rfl rfl ?_
 refine rt_ ?_
 refine Rr (Res.one rfl rfl) ?_ m8
 exact (congrArg AV.bool (show (false : Bool) = nameB s from by first | exact (nameB_at hi0 (by omega) (by unfold okN; omega)).symm))
 refine N rfl rfl (decide_eq_false b28) (N rfl rfl (decide_eq_false b28) (C rfl (Pf _ rfl rfl (decide_eq_false b28) rfl (V rfl rfl (Y rfl rfl rfl rfl (Mv _ rfl rfl (Y rfl rfl rfl rfl (Bi _ rfl rfl rfl ieq (C rfl (Pf _ rfl rfl rfl rfl (V rfl rfl ?_)))))))))))
 by_cases b35 : byt s i = 95
 refine N rfl rfl (decide_eq_true b35) (N rfl rfl (decide_eq_true b35) (C rfl (Pt _ rfl rfl (decide_eq_true b35) rfl (A rfl rfl ?_))))
 refine Sr ?_
 refine V rfl rfl (C rfl (AOp.not rfl rfl (V rfl rfl (Y rfl rfl rfl rfl (Mv _ rfl rfl (Y rfl rfl rfl rfl (AOp.not rfl rfl (Y rfl rfl rfl rfl (Mv _ rfl rfl (Y rfl rfl rfl rfl (Mv _ rfl s6 (Y rfl rfl rfl rfl (Bi _ rfl rfl rfl ieq (Y rfl rfl rfl rfl (Pf _ rfl rfl rfl rfl (C rfl (Pt _ rfl rfl rfl rfl ?_)))))))))))))))))
 refine AOps.nil ?_
 change AWP _ _ _ _ _ _
 by_cases b36 : i = 0
 refine ct_ rfl (decide_eq_true b36) ?_
 refine Sr ?_
 refine A rfl rfl ?_
 refine rt_ ?_
 refine Rr (Res.one rfl rfl) ?_ m8
 exact (congrArg AV.bool (show (false : Bool) = nameB s from by first | exact (nameB_at hi0 (by omega) (by unfold okN; omega)).symm))
 refine cf_ rfl (decide_eq_false b36) ?_
 refine AWP.skip ?_
 refine AWP.region rfl ?_
 refine V rfl s6 (B rfl rfl rfl (iadd (by omega)) (A rfl rfl ?_))
 refine AOps.nil ?_
 exact ⟨_, by omega, i + 1, rfl, rfl, s7, m8, by omega, by omega, by exact okN_step pre (by unfold okN; omega)⟩
 refine Y rfl rfl rfl (decide_eq_false b35) (Mv _ rfl rfl (Y rfl rfl rfl (decide_eq_false b35) (Bi _ rfl rfl rfl ieq (C rfl (Pf _ rfl rfl (decide_eq_false b35) rfl (A rfl rfl ?_))))))
 refine Sr ?_
 refine V rfl rfl (C rfl (AOp.not rfl rfl (V rfl rfl (Y rfl rfl rfl rfl (Mv _ rfl rfl (Y rfl rfl rfl rfl (AOp.not rfl rfl (Y rfl rfl rfl rfl (Mv _ rfl rfl ?_)))))))))
 by_cases b37 : byt s i = 46
 refine Y rfl rfl rfl (nb (decide_eq_true b37)) (Mv _ rfl s6 (Y rfl rfl rfl (nb (decide_eq_true b37)) (Bi _ rfl rfl rfl ieq (Y rfl rfl rfl rfl (Pf _ rfl rfl (nb (decide_eq_true b37)) rfl (C rfl (Pt _ rfl rfl rfl rfl ?_)))))))
 refine AOps.nil ?_
 change AWP _ _ _ _ _ _
 by_cases b38 : i = 0
 refine ct_ rfl (decide_eq_true b38) ?_
 refine Sr ?_
 refine A rfl rfl ?_
 refine rt_ ?_
 refine Rr (Res.one rfl rfl) ?_ m8
 exact (congrArg AV.bool (show (false : Bool) = nameB s from by first | exact (nameB_at hi0 (by omega) (by unfold okN; omega)).symm))
 refine cf_ rfl (decide_eq_false b38) ?_
 refine AWP.skip ?_
 refine AWP.region rfl ?_
 refine V rfl s6 (B rfl rfl rfl (iadd (by omega)) (A rfl rfl ?_))
 refine AOps.nil ?_
 exact ⟨_, by omega, i + 1, rfl, rfl, s7, m8, by omega, by omega, by exact okN_step pre (by unfold okN; omega)⟩
 refine N rfl rfl (nb (decide_eq_false b37)) (N rfl rfl (nb (decide_eq_false b37)) (Y rfl rfl rfl rfl (Pt _ rfl rfl (nb (decide_eq_false b37)) rfl (C rfl (Pt _ rfl rfl rfl rfl ?_)))))
 refine ct_ rfl rfl ?_
 refine Sr ?_
 refine A rfl rfl ?_
 refine rt_ ?_
 refine Rr (Res.one rfl rfl) ?_ m8
 exact (congrArg AV.bool (show (false : Bool) = nameB s from by first | exact (nameB_at hi0 (by omega) (by unfold okN; omega)).symm))
 refine cf_ rfl (decide_eq_false b9) ?_
 refine AWP.exit ?_
 change AWP _ _ _ _ _ _
 refine Sr ?_
 refine A rfl rfl ?_
 refine rt_ ?_
 refine Rr (Res.one rfl rfl) ?_ m8
 exact (congrArg AV.bool (show (true : Bool) = nameB s from by first | exact (nameB_size (by omega)).symm | exact (nameB_of (by omega) (by omega) (fun j h1 h2 => pre j h1 (by omega))).symm))
theorem c_ref_Number (s : ByteArray) : PC Tryz.prog 111 [.str s] (.tup [.int .i64 ((num14 s).1), .bool ((num14 s).2)]) := by
 intro H0
 refine ACalls.of_body' (n := 65) rfl rfl rfl rfl ?_
 have m0 := Mono.refl H0
 refine Sr ?_
 refine A rfl rfl (A rfl rfl ?_)
 refine Sr ?_
 refine V rfl rfl (C rfl (AOp.lenStr rfl rfl u_9 (B rfl rfl rfl rfl (V rfl rfl ?_))))
 by_cases b1 : (s.size : Int) > 0
 refine Y rfl rfl rfl (decide_eq_true b1) (Mv _ rfl rfl ?_)
 have hb2 := byt_rng s 0
 refine Y rfl rfl rfl (decide_eq_true b1) (AOp.indexB rfl rfl rfl u_9 (by omega) (by omega) (Y rfl rfl rfl (decide_eq_true b1) (Bi _ rfl rfl rfl ieq (C rfl (Pt _ rfl rfl (decide_eq_true b1) rfl (A rfl rfl ?_))))))
 refine AWP.seq ?_
 refine Sr ?_
 refine V rfl rfl ?_
 refine AOps.nil ?_
 change AWP _ _ _ _ _ _
 by_cases b3 : byt s 0 = 45
 refine ct_ rfl (decide_eq_true b3) ?_
 refine AWP.region rfl ?_
 refine V rfl rfl (C rfl (AOp.sliceStr (l := 1) (h := (s.size : Int)) rfl rfl u_9 (lo_of rfl) rfl (by omega) (by omega) (by omega) (A rfl rfl ?_)))
 refine AWP.seq ?_
 refine Sr ?_
 refine V rfl rfl (C rfl (AOp.seqD rfl rfl rfl (V rfl rfl ?_)))
 by_cases b4 : s.extract (1 : Int).toNat (s.size : Int).toNat = ⟨#[48]⟩
 refine Y rfl rfl rfl (decide_eq_true b4) (Mv _ rfl rfl (Y rfl rfl rfl (decide_eq_true b4) (AOp.not rfl rfl (C rfl (Pt _ rfl rfl (decide_eq_true b4) rfl ?_)))))
 refine cf_ rfl (nb (decide_eq_true b3)) ?_
 refine AWP.skip ?_
 refine AWP.seq ?_
 refine Sr ?_
 refine V rfl rfl (C rfl (AOp.lenStr rfl rfl u_9 (B rfl rfl rfl rfl (V rfl rfl ?_))))
 by_cases b5 : ((s.extract (1 : Int).toNat (s.size : Int).toNat).size : Int) < 1
 refine N rfl rfl (decide_eq_true b5) (N rfl rfl (decide_eq_true b5) (N rfl rfl (decide_eq_true b5) (C rfl (Pt _ rfl rfl (decide_eq_true b5) rfl (V rfl rfl (N rfl rfl rfl (N rfl rfl rfl (N rfl rfl rfl (C rfl (Pt _ rfl rfl rfl rfl ?_))))))))))
 refine ct_ rfl rfl ?_
 refine Sr ?_
 refine A rfl rfl (A rfl rfl ?_)
 refine rt_ ?_
 refine Rr (Res.two rfl rfl rfl) ?_ m0
 exact congrArg AV.tup (lc (congrArg (AV.int .i64) (show (0 : Int) = (num14 s).1 from by rw [num14_T (by omega), w_bad (fun e => by first | (exact absurd e.2 (by decide)) | (have := e.1; first | contradiction | exact absurd this (by assumption))) (by omega)] <;> first | rfl | (simp only [if_true, if_false, Bool.false_eq_true]; congr 1; omega) | (simp; congr 1; omega))) (lc (congrArg AV.bool (show (false : Bool) = (num14 s).2 from by rw [num14_T (by omega), w_bad (fun e => by first | (exact absurd e.2 (by decide)) | (have := e.1; first | contradiction | exact absurd this (by assumption))) (by omega)] <;> first | rfl | (simp only [if_true, if_false, Bool.false_eq_true]; congr 1; omega) | (simp; congr 1; omega))) rfl))
 refine Y rfl rfl rfl (decide_eq_false b5) (Mv _ rfl rfl (Y rfl rfl rfl (decide_eq_false b5) (AOp.lenStr rfl rfl u_9 (Y rfl rfl rfl (decide_eq_false b5) (Bi _ rfl rfl rfl rfl (C rfl (Pf _ rfl rfl (decide_eq_false b5) rfl (V rfl rfl ?_))))))))
 by_cases b6 : ((s.extract (1 : Int).toNat (s.size : Int).toNat).size : Int) > 6
 refine N rfl rfl (decide_eq_true b6) (N rfl rfl (decide_eq_true b6) (N rfl rfl (decide_eq_true b6) (C rfl (Pt _ rfl rfl (decide_eq_true b6) rfl ?_))))
 refine ct_ rfl rfl ?_
 refine Sr ?_
 refine A rfl rfl (A rfl rfl ?_)
 refine rt_ ?_
 refine Rr (Res.two rfl rfl rfl) ?_ m0
 exact congrArg AV.tup (lc (congrArg (AV.int .i64) (show (0 : Int) = (num14 s).1 from by rw [num14_T (by omega), w_bad (fun e => by first | (exact absurd e.2 (by decide)) | (have := e.1; first | contradiction | exact absurd this (by assumption))) (by omega)] <;> first | rfl | (simp only [if_true, if_false, Bool.false_eq_true]; congr 1; omega) | (simp; congr 1; omega))) (lc (congrArg AV.bool (show (false : Bool) = (num14 s).2 from by rw [num14_T (by omega), w_bad (fun e => by first | (exact absurd e.2 (by decide)) | (have := e.1; first | contradiction | exact absurd this (by assumption))) (by omega)] <;> first | rfl | (simp only [if_true, if_false, Bool.false_eq_true]; congr 1; omega) | (simp; congr 1; omega))) rfl))
 refine Y rfl rfl rfl (decide_eq_false b6) (Mv _ rfl rfl ?_)
 have hb7 := byt_rng (s.extract (1 : Int).toNat (s.size : Int).toNat) 0
 refine Y rfl rfl rfl (decide_eq_false b6) (AOp.indexB rfl rfl rfl u_9 (by omega) (by omega) (Y rfl rfl rfl (decide_eq_false b6) (Bi _ rfl rfl rfl ieq (C rfl (Pf _ rfl rfl (decide_eq_false b6) rfl ?_)))))
 refine AOps.nil ?_
 change AWP _ _ _ _ _ _
 by_cases b8 : byt (s.extract (1 : Int).toNat (s.size : Int).toNat) 0 = 48
 refine ct_ rfl (decide_eq_true b8) ?_
 refine Sr ?_
 refine A rfl rfl (A rfl rfl ?_)
 refine rt_ ?_
 refine Rr (Res.two rfl rfl rfl) ?_ m0
 exact congrArg AV.tup (lc (congrArg (AV.int .i64) (show (0 : Int) = (num14 s).1 from by rw [num14_T (by omega), w_bad (fun e => by first | (exact absurd e.2 (by decide)) | (have := e.1; first | contradiction | exact absurd this (by assumption))) (by omega)] <;> first | rfl | (simp only [if_true, if_false, Bool.false_eq_true]; congr 1; omega) | (simp; congr 1; omega))) (lc (congrArg AV.bool (show (false : Bool) = (num14 s).2 from by rw [num14_T (by omega), w_bad (fun e => by first | (exact absurd e.2 (by decide)) | (have := e.1; first | contradiction | exact absurd this (by assumption))) (by omega)] <;> first | rfl | (simp only [if_true, if_false, Bool.false_eq_true]; congr 1; omega) | (simp; congr 1; omega))) rfl))
 refine cf_ rfl (decide_eq_false b8) ?_
 refine AWP.skip ?_
 refine Sr ?_
 refine A rfl rfl ?_
 refine AWP.seq ?_
 refine Sr ?_
 refine A rfl rfl ?_
 refine bk_ ?_
 refine AWP.loop (fun q9 fq Hq => ∃ (i : Int), q9 = (((s.extract (1 : Int).toNat (s.size : Int).toNat).size : Int) - i).toNat ∧ fq 6 = .int .i64 i ∧ fq 5 = .int .i64 (val10 (s.extract (1 : Int).toNat (s.size : Int).toNat) i.toNat) ∧ fq 0 = .str (s.extract (1 : Int).toNat (s.size : Int).toNat) ∧ fq 4 = .bool (decide (byt s 0 = 45)) ∧ Mono H0 Hq ∧ (0 ≤ i) ∧ (i ≤ (s.extract (1 : Int).toNat (s.size : Int).toNat).size) ∧ (∀ j : Int, 0 ≤ j → j < i → 48 ≤ byt (s.extract (1 : Int).toNat (s.size : Int).toNat) j ∧ byt (s.extract (1 : Int).toNat (s.size : Int).toNat) j ≤ 57)) (k := (((s.extract (1 : Int).toNat (s.size : Int).toNat).size : Int) - 0).toNat) ?_ ?_
 exact ⟨0, rfl, rfl, (congrArg (AV.int .i64) (show (0 : Int) = val10 (s.extract (1 : Int).toNat (s.size : Int).toNat) (0 : Int).toNat from by rfl)), rfl, rfl, m0, by omega, by omega, by intro j; omega⟩
 rintro _ f11 H10 ⟨i, rfl, s12, s13, s14, s15, m16, hi0, hi1, pre⟩
 refine AWP.seq ?_
 refine Sr ?_
 refine V rfl s12 (V rfl s14 (C rfl (AOp.lenStr rfl rfl u_9 (B rfl rfl rfl rfl ?_))))
 refine AOps.nil ?_
 change AWP _ _ _ _ _ _
 by_cases b17 : i < ((s.extract (1 : Int).toNat (s.size : Int).toNat).size : Int)
 refine ct_ rfl (decide_eq_true b17) ?_
 refine AWP.skip ?_
 refine AWP.seq ?_
 refine bk_ ?_
 refine AWP.seq ?_
 refine Sr ?_
 refine V rfl s14 (V rfl s12 ?_)
 have hb18 := byt_rng (s.extract (1 : Int).toNat (s.size : Int).toNat) i
 refine C rfl (AOp.indexB rfl rfl rfl u_9 (by omega) (by omega) (B rfl rfl rfl rfl (V rfl rfl ?_)))
 by_cases b19 : byt (s.extract (1 : Int).toNat (s.size : Int).toNat) i < 48
 refine N rfl rfl (decide_eq_true b19) (N rfl rfl (decide_eq_true b19) (N rfl rfl (decide_eq_true b19) (N rfl rfl (decide_eq_true b19) (C rfl (Pt _ rfl rfl (decide_eq_true b19) rfl ?_)))))
 refine ct_ rfl rfl ?_
 refine Sr ?_
 refine A rfl rfl (A rfl rfl ?_)
 refine rt_ ?_
 refine Rr (Res.two rfl rfl rfl) ?_ m16
 exact congrArg AV.tup (lc (congrArg (AV.int .i64) (show (0 : Int) = (num14 s).1 from by rw [num14_T (by omega), w_nodig (fun e => by first | (exact absurd e.2 (by decide)) | (have := e.1; first | contradiction | exact absurd this (by assumption))) (by omega) hi0 (by omega) (by omega)] <;> first | rfl | (simp only [if_true, if_false, Bool.false_eq_true]; congr 1; omega) | (simp; congr 1; omega))) (lc (congrArg AV.bool (show (false : Bool) = (num14 s).2 from by rw [num14_T (by omega), w_nodig (fun e => by first | (exact absurd e.2 (by decide)) | (have := e.1; first | contradiction | exact absurd this (by assumption))) (by omega) hi0 (by omega) (by omega)] <;> first | rfl | (simp only [if_true, if_false, Bool.false_eq_true]; congr 1; omega) | (simp; congr 1; omega))) rfl))
 refine Y rfl rfl rfl (decide_eq_false b19) (Mv _ rfl s14 (Y rfl rfl rfl (decide_eq_false b19) (Mv _ rfl s12 (Y rfl rfl rfl (decide_eq_false b19) (AOp.indexB rfl rfl rfl u_9 (by omega) (by omega) (Y rfl rfl rfl (decide_eq_false b19) (Bi _ rfl rfl rfl rfl (C rfl (Pf _ rfl rfl (decide_eq_false b19) rfl ?_)))))))))
 refine AOps.nil ?_
 change AWP _ _ _ _ _ _
 by_cases b20 : byt (s.extract (1 : Int).toNat (s.size : Int).toNat) i > 57
 refine ct_ rfl (decide_eq_true b20) ?_
 refine Sr ?_
 refine A rfl rfl (A rfl rfl ?_)
 refine rt_ ?_
 refine Rr (Res.two rfl rfl rfl) ?_ m16
 exact congrArg AV.tup (lc (congrArg (AV.int .i64) (show (0 : Int) = (num14 s).1 from by rw [num14_T (by omega), w_nodig (fun e => by first | (exact absurd e.2 (by decide)) | (have := e.1; first | contradiction | exact absurd this (by assumption))) (by omega) hi0 (by omega) (by omega)] <;> first | rfl | (simp only [if_true, if_false, Bool.false_eq_true]; congr 1; omega) | (simp; congr 1; omega))) (lc (congrArg AV.bool (show (false : Bool) = (num14 s).2 from by rw [num14_T (by omega), w_nodig (fun e => by first | (exact absurd e.2 (by decide)) | (have := e.1; first | contradiction | exact absurd this (by assumption))) (by omega) hi0 (by omega) (by omega)] <;> first | rfl | (simp only [if_true, if_false, Bool.false_eq_true]; congr 1; omega) | (simp; congr 1; omega))) rfl))
 refine cf_ rfl (decide_eq_false b20) ?_
 refine AWP.skip ?_
 change AWP _ _ _ _ _ _
 have hv := val10_rng (w := s.extract (1 : Int).toNat (s.size : Int).toNat) (i := i) hi0 (by omega) pre
 refine AWP.region rfl ?_
 refine V rfl s13 (B rfl rfl rfl (imul (by omega)) (V rfl s14 (V rfl s12 (C rfl (AOp.indexB rfl rfl rfl u_9 (by omega) (by omega) (B rfl rfl rfl (isub8 (by omega)) (C rfl (AOp.convIntP rfl rfl u_5 u_3 (wrap64 (by omega)) (B rfl rfl rfl (iadd (by omega)) (A rfl rfl ?_))))))))))
 refine AWP.region rfl ?_
 refine V rfl s12 (B rfl rfl rfl (iadd (by omega)) (A rfl rfl ?_))
 refine AOps.nil ?_
 exact ⟨_, by omega, i + 1, rfl, rfl, (congrArg (AV.int .i64) (show ((val10 (s.extract (1 : Int).toNat (s.size : Int).toNat) i.toNat) * 10 + (byt (s.extract (1 : Int).toNat (s.size : Int).toNat) i - 48) : Int) = val10 (s.extract (1 : Int).toNat (s.size : Int).toNat) (i + 1).toNat from by exact val10_step hi0)), s14, s15, m16, by omega, by omega, by exact dig_step pre (by omega)⟩
 refine cf_ rfl (decide_eq_false b17) ?_
 refine AWP.exit ?_
 change AWP _ _ _ _ _ _
 refine AWP.seq ?_
 refine AWP.seq ?_
 have hv := val10_rng6 (w := s.extract (1 : Int).toNat (s.size : Int).toNat) (i := i) hi0 (by omega) pre
 refine AWP.region rfl ?_
 refine V rfl s15 ?_
 refine ct_ rfl (decide_eq_true b3) ?_
 refine AWP.region rfl ?_
 refine V rfl s13 (C rfl (AOp.negP rfl rfl (by omega) (A rfl rfl ?_)))
 refine Sr ?_
 refine V rfl rfl (A rfl rfl (A rfl rfl ?_))
 refine rt_ ?_
 refine Rr (Res.two rfl rfl rfl) ?_ m16
 exact congrArg AV.tup (lc (congrArg (AV.int .i64) (show (-(val10 (s.extract (1 : Int).toNat (s.size : Int).toNat) i.toNat) : Int) = (num14 s).1 from by rw [num14_T (by omega), w_ok (i := i) (fun e => by first | (exact absurd e.2 (by decide)) | (have := e.1; first | contradiction | exact absurd this (by assumption))) (by omega) (by omega) (by omega) pre] <;> first | rfl | (simp only [if_true, if_false, Bool.false_eq_true]; congr 1; omega) | (simp; congr 1; omega))) (lc (congrArg AV.bool (show (true : Bool) = (num14 s).2 from by rw [num14_T (by omega), w_ok (i := i) (fun e => by first | (exact absurd e.2 (by decide)) | (have := e.1; first | contradiction | exact absurd this (by assumption))) (by omega) (by omega) (by omega) pre] <;> first | rfl | (simp only [if_true, if_false, Bool.false_eq_true]; congr 1; omega) | (simp; congr 1; omega))) rfl))
 refine N rfl rfl (decide_eq_false b4) (N rfl rfl (decide_eq_false b4) (C rfl (Pf _ rfl rfl (decide_eq_false b4) rfl ?_)))
 refine cf_ rfl rfl ?_
 refine AWP.skip ?_
 refine AWP.seq ?_
 refine Sr ?_
 refine V rfl rfl (C rfl (AOp.lenStr rfl rfl u_9 (B rfl rfl rfl rfl (V rfl rfl ?_))))
 by_cases b21 : ((s.extract (1 : Int).toNat (s.size : Int).toNat).size : Int) < 1
 refine N rfl rfl (decide_eq_true b21) (N rfl rfl (decide_eq_true b21) (N rfl rfl (decide_eq_true b21) (C rfl (Pt _ rfl rfl (decide_eq_true b21) rfl (V rfl rfl (N rfl rfl rfl (N rfl rfl rfl (N rfl rfl rfl (C rfl (Pt _ rfl rfl rfl rfl ?_))))))))))
 refine ct_ rfl rfl ?_
 refine Sr ?_
 refine A rfl rfl (A rfl rfl ?_)
 refine rt_ ?_
 refine Rr (Res.two rfl rfl rfl) ?_ m0
 exact congrArg AV.tup (lc (congrArg (AV.int .i64) (show (0 : Int) = (num14 s).1 from by rw [num14_T (by omega), w_bad (fun e => by first | (exact absurd e.2 (by decide)) | (have := e.1; first | contradiction | exact absurd this (by assumption))) (by omega)] <;> first | rfl | (simp only [if_true, if_false, Bool.false_eq_true]; congr 1; omega) | (simp; congr 1; omega))) (lc (congrArg AV.bool (show (false : Bool) = (num14 s).2 from by rw [num14_T (by omega), w_bad (fun e => by first | (exact absurd e.2 (by decide)) | (have := e.1; first | contradiction | exact absurd this (by assumption))) (by omega)] <;> first | rfl | (simp only [if_true, if_false, Bool.false_eq_true]; congr 1; omega) | (simp; congr 1; omega))) rfl))
 refine Y rfl rfl rfl (decide_eq_false b21) (Mv _ rfl rfl (Y rfl rfl rfl (decide_eq_false b21) (AOp.lenStr rfl rfl u_9 (Y rfl rfl rfl (decide_eq_false b21) (Bi _ rfl rfl rfl rfl (C rfl (Pf _ rfl rfl (decide_eq_false b21) rfl (V rfl rfl ?_))))))))
 by_cases b22 : ((s.extract (1 : Int).toNat (s.size : Int).toNat).size : Int) > 6
 refine N rfl rfl (decide_eq_true b22) (N rfl rfl (decide_eq_true b22) (N rfl rfl (decide_eq_true b22) (C rfl (Pt _ rfl rfl (decide_eq_true b22) rfl ?_))))
 refine ct_ rfl rfl ?_
 refine Sr ?_
 refine A rfl rfl (A rfl rfl ?_)
 refine rt_ ?_
 refine Rr (Res.two rfl rfl rfl) ?_ m0
 exact congrArg AV.tup (lc (congrArg (AV.int .i64) (show (0 : Int) = (num14 s).1 from by rw [num14_T (by omega), w_bad (fun e => by first | (exact absurd e.2 (by decide)) | (have := e.1; first | contradiction | exact absurd this (by assumption))) (by omega)] <;> first | rfl | (simp only [if_true, if_false, Bool.false_eq_true]; congr 1; omega) | (simp; congr 1; omega))) (lc (congrArg AV.bool (show (false : Bool) = (num14 s).2 from by rw [num14_T (by omega), w_bad (fun e => by first | (exact absurd e.2 (by decide)) | (have := e.1; first | contradiction | exact absurd this (by assumption))) (by omega)] <;> first | rfl | (simp only [if_true, if_false, Bool.false_eq_true]; congr 1; omega) | (simp; congr 1; omega))) rfl))
 refine Y rfl rfl rfl (decide_eq_false b22) (Mv _ rfl rfl ?_)
 have hb23 := byt_rng (s.extract (1 : Int).toNat (s.size : Int).toNat) 0
 refine Y rfl rfl rfl (decide_eq_false b22) (AOp.indexB rfl rfl rfl u_9 (by omega) (by omega) (Y rfl rfl rfl (decide_eq_false b22) (Bi _ rfl rfl rfl ieq (C rfl (Pf _ rfl rfl (decide_eq_false b22) rfl ?_)))))
 refine AOps.nil ?_
 change AWP _ _ _ _ _ _
 by_cases b24 : byt (s.extract (1 : Int).toNat (s.size : Int).toNat) 0 = 48
 refine ct_ rfl (decide_eq_true b24) ?_
 refine Sr ?_
 refine A rfl rfl (A rfl rfl ?_)
 refine rt_ ?_
 refine Rr (Res.two rfl rfl rfl) ?_ m0
 exact congrArg AV.tup (lc (congrArg (AV.int .i64) (show (0 : Int) = (num14 s).1 from by rw [num14_T (by omega), w_bad (fun e => by first | (exact absurd e.2 (by decide)) | (have := e.1; first | contradiction | exact absurd this (by assumption))) (by omega)] <;> first | rfl | (simp only [if_true, if_false, Bool.false_eq_true]; congr 1; omega) | (simp; congr 1; omega))) (lc (congrArg AV.bool (show (false : Bool) = (num14 s).2 from by rw [num14_T (by omega), w_bad (fun e => by first | (exact absurd e.2 (by decide)) | (have := e.1; first | contradiction | exact absurd this (by assumption))) (by omega)] <;> first | rfl | (simp only [if_true, if_false, Bool.false_eq_true]; congr 1; omega) | (simp; congr 1; omega))) rfl))
 refine cf_ rfl (decide_eq_false b24) ?_
 refine AWP.skip ?_
 refine Sr ?_
 refine A rfl rfl ?_
 refine AWP.seq ?_
 refine Sr ?_
 refine A rfl rfl ?_
 refine bk_ ?_
 refine AWP.loop (fun q25 fq Hq => ∃ (i : Int), q25 = (((s.extract (1 : Int).toNat (s.size : Int).toNat).size : Int) - i).toNat ∧ fq 6 = .int .i64 i ∧ fq 5 = .int .i64 (val10 (s.extract (1 : Int).toNat (s.size : Int).toNat) i.toNat) ∧ fq 0 = .str (s.extract (1 : Int).toNat (s.size : Int).toNat) ∧ fq 4 = .bool (decide (byt s 0 = 45)) ∧ Mono H0 Hq ∧ (0 ≤ i) ∧ (i ≤ (s.extract (1 : Int).toNat (s.size : Int).toNat).size) ∧ (∀ j : Int, 0 ≤ j → j < i → 48 ≤ byt (s.extract (1 : Int).toNat (s.size : Int).toNat) j ∧ byt (s.extract (1 : Int).toNat (s.size : Int).toNat) j ≤ 57)) (k := (((s.extract (1 : Int).toNat (s.size : Int).toNat).size : Int) - 0).toNat) ?_ ?_
 exact ⟨0, rfl, rfl, (congrArg (AV.int .i64) (show (0 : Int) = val10 (s.extract (1 : Int).toNat (s.size : Int).toNat) (0 : Int).toNat from by rfl)), rfl, rfl, m0, by omega, by omega, by intro j; omega⟩
 rintro _ f27 H26 ⟨i, rfl, s28, s29, s30, s31, m32, hi0, hi1, pre⟩
 refine AWP.seq ?_
 refine Sr ?_
 refine V rfl s28 (V rfl s30 (C rfl (AOp.lenStr rfl rfl u_9 (B rfl rfl rfl rfl ?_))))
 refine AOps.nil ?_
 change AWP _ _ _ _ _ _
 by_cases b33 : i < ((s.extract (1 : Int).toNat (s.size : Int).toNat).size : Int)
 refine ct_ rfl (decide_eq_true b33) ?_
 refine AWP.skip ?_
 refine AWP.seq ?_
 refine bk_ ?_
 refine AWP.seq ?_
 refine Sr ?_
 refine V rfl s30 (V rfl s28 ?_)
 have hb34 := byt_rng (s.extract (1 : Int).toNat (s.size : Int).toNat) i
 refine C rfl (AOp.indexB rfl rfl rfl u_9 (by omega) (by omega) (B rfl rfl rfl rfl (V rfl rfl ?_)))
 by_cases b35 : byt (s.extract (1 : Int).toNat (s.size : Int).toNat) i < 48
 refine N rfl rfl (decide_eq_true b35) (N rfl rfl (decide_eq_true b35) (N rfl rfl (decide_eq_true b35) (N rfl rfl (decide_eq_true b35) (C rfl (Pt _ rfl rfl (decide_eq_true b35) rfl ?_)))))
 refine ct_ rfl rfl ?_
 refine Sr ?_
 refine A rfl rfl (A rfl rfl ?_)
 refine rt_ ?_
 refine Rr (Res.two rfl rfl rfl) ?_ m32
 exact congrArg AV.tup (lc (congrArg (AV.int .i64) (show (0 : Int) = (num14 s).1 from by rw [num14_T (by omega), w_nodig (fun e => by first | (exact absurd e.2 (by decide)) | (have := e.1; first | contradiction | exact absurd this (by assumption))) (by omega) hi0 (by omega) (by omega)] <;> first | rfl | (simp only [if_true, if_false, Bool.false_eq_true]; congr 1; omega) | (simp; congr 1; omega))) (lc (congrArg AV.bool (show (false : Bool) = (num14 s).2 from by rw [num14_T (by omega), w_nodig (fun e => by first | (exact absurd e.2 (by decide)) | (have := e.1; first | contradiction | exact absurd this (by assumption))) (by omega) hi0 (by omega) (by omega)] <;> first | rfl | (simp only [if_true, if_false, Bool.false_eq_true]; congr 1; omega) | (simp; congr 1; omega))) rfl))
 refine Y rfl rfl rfl (decide_eq_false b35) (Mv _ rfl s30 (Y rfl rfl rfl (decide_eq_false b35) (Mv _ rfl s28 (Y rfl rfl rfl (decide_eq_false b35) (AOp.indexB rfl rfl rfl u_9 (by omega) (by omega) (Y rfl rfl rfl (decide_eq_false b35) (Bi _ rfl rfl rfl rfl (C rfl (Pf _ rfl rfl (decide_eq_false b35) rfl ?_)))))))))
 refine AOps.nil ?_
 change AWP _ _ _ _ _ _
 by_cases b36 : byt (s.extract (1 : Int).toNat (s.size : Int).toNat) i > 57
 refine ct_ rfl (decide_eq_true b36) ?_
 refine Sr ?_
 refine A rfl rfl (A rfl rfl ?_)
 refine rt_ ?_
 refine Rr (Res.two rfl rfl rfl) ?_ m32
 exact congrArg AV.tup (lc (congrArg (AV.int .i64) (show (0 : Int) = (num14 s).1 from by rw [num14_T (by omega), w_nodig (fun e => by first | (exact absurd e.2 (by decide)) | (have := e.1; first | contradiction | exact absurd this (by assumption))) (by omega) hi0 (by omega) (by omega)] <;> first | rfl | (simp only [if_true, if_false, Bool.false_eq_true]; congr 1; omega) | (simp; congr 1; omega))) (lc (congrArg AV.bool (show (false : Bool) = (num14 s).2 from by rw [num14_T (by omega), w_nodig (fun e => by first | (exact absurd e.2 (by decide)) | (have := e.1; first | contradiction | exact absurd this (by assumption))) (by omega) hi0 (by omega) (by omega)] <;> first | rfl | (simp only [if_true, if_false, Bool.false_eq_true]; congr 1; omega) | (simp; congr 1; omega))) rfl))
 refine cf_ rfl (decide_eq_false b36) ?_
 refine AWP.skip ?_
 change AWP _ _ _ _ _ _
 have hv := val10_rng (w := s.extract (1 : Int).toNat (s.size : Int).toNat) (i := i) hi0 (by omega) pre
 refine AWP.region rfl ?_
 refine V rfl s29 (B rfl rfl rfl (imul (by omega)) (V rfl s30 (V rfl s28 (C rfl (AOp.indexB rfl rfl rfl u_9 (by omega) (by omega) (B rfl rfl rfl (isub8 (by omega)) (C rfl (AOp.convIntP rfl rfl u_5 u_3 (wrap64 (by omega)) (B rfl rfl rfl (iadd (by omega)) (A rfl rfl ?_))))))))))
 refine AWP.region rfl ?_
 refine V rfl s28 (B rfl rfl rfl (iadd (by omega)) (A rfl rfl ?_))
 refine AOps.nil ?_
 exact ⟨_, by omega, i + 1, rfl, rfl, (congrArg (AV.int .i64) (show ((val10 (s.extract (1 : Int).toNat (s.size : Int).toNat) i.toNat) * 10 + (byt (s.extract (1 : Int).toNat (s.size : Int).toNat) i - 48) : Int) = val10 (s.extract (1 : Int).toNat (s.size : Int).toNat) (i + 1).toNat from by exact val10_step hi0)), s30, s31, m32, by omega, by omega, by exact dig_step pre (by omega)⟩
 refine cf_ rfl (decide_eq_false b33) ?_
 refine AWP.exit ?_
 change AWP _ _ _ _ _ _
 refine AWP.seq ?_
 refine AWP.seq ?_
 have hv := val10_rng6 (w := s.extract (1 : Int).toNat (s.size : Int).toNat) (i := i) hi0 (by omega) pre
 refine AWP.region rfl ?_
 refine V rfl s31 ?_
 refine ct_ rfl (decide_eq_true b3) ?_
 refine AWP.region rfl ?_
 refine V rfl s29 (C rfl (AOp.negP rfl rfl (by omega) (A rfl rfl ?_)))
 refine Sr ?_
 refine V rfl rfl (A rfl rfl (A rfl rfl ?_))
 refine rt_ ?_
 refine Rr (Res.two rfl rfl rfl) ?_ m32
 exact congrArg AV.tup (lc (congrArg (AV.int .i64) (show (-(val10 (s.extract (1 : Int).toNat (s.size : Int).toNat) i.toNat) : Int) = (num14 s).1 from by rw [num14_T (by omega), w_ok (i := i) (fun e => by first | (exact absurd e.2 (by decide)) | (have := e.1; first | contradiction | exact absurd this (by assumption))) (by omega) (by omega) (by omega) pre] <;> first | rfl | (simp only [if_true, if_false, Bool.false_eq_true]; congr 1; omega) | (simp; congr 1; omega))) (lc (congrArg AV.bool (show (true : Bool) = (num14 s).2 from by rw [num14_T (by omega), w_ok (i := i) (fun e => by first | (exact absurd e.2 (by decide)) | (have := e.1; first | contradiction | exact absurd this (by assumption))) (by omega) (by omega) (by omega) pre] <;> first | rfl | (simp only [if_true, if_false, Bool.false_eq_true]; congr 1; omega) | (simp; congr 1; omega))) rfl))
 refine cf_ rfl (decide_eq_false b3) ?_
 refine AWP.skip ?_
 refine AWP.seq ?_
 refine Sr ?_
 refine V rfl rfl (C rfl (AOp.seqD rfl rfl rfl (V rfl rfl ?_)))
 by_cases b37 : s = ⟨#[48]⟩
 refine Y rfl rfl rfl (decide_eq_true b37) (Mv _ rfl rfl (Y rfl rfl rfl (decide_eq_true b37) (AOp.not rfl rfl (C rfl (Pt _ rfl rfl (decide_eq_true b37) rfl ?_)))))
 refine ct_ rfl (nb (decide_eq_false b3)) ?_
 refine Sr ?_
 refine A rfl rfl (A rfl rfl ?_)
 refine rt_ ?_
 refine Rr (Res.two rfl rfl rfl) ?_ m0
 exact congrArg AV.tup (lc (congrArg (AV.int .i64) (show (0 : Int) = (num14 s).1 from by rw [num14_F (by omega), w_zero b37] <;> first | rfl | (simp only [if_true, if_false, Bool.false_eq_true]; congr 1; omega) | (simp; congr 1; omega))) (lc (congrArg AV.bool (show (true : Bool) = (num14 s).2 from by rw [num14_F (by omega), w_zero b37] <;> first | rfl | (simp only [if_true, if_false, Bool.false_eq_true]; congr 1; omega) | (simp; congr 1; omega))) rfl))
 refine N rfl rfl (decide_eq_false b37) (N rfl rfl (decide_eq_false b37) (C rfl (Pf _ rfl rfl (decide_eq_false b37) rfl ?_)))
 refine cf_ rfl rfl ?_
 refine AWP.skip ?_
 refine AWP.seq ?_
 refine Sr ?_
 refine V rfl rfl (C rfl (AOp.lenStr rfl rfl u_9 (B rfl rfl rfl rfl (V rfl rfl ?_))))
 by_cases b38 : (s.size : Int) < 1
 refine N rfl rfl (decide_eq_true b38) (N rfl rfl (decide_eq_true b38) (N rfl rfl (decide_eq_true b38) (C rfl (Pt _ rfl rfl (decide_eq_true b38) rfl (V rfl rfl (N rfl rfl rfl (N rfl rfl rfl (N rfl rfl rfl (C rfl (Pt _ rfl rfl rfl rfl ?_))))))))))
 refine ct_ rfl rfl ?_
 refine Sr ?_
 refine A rfl rfl (A rfl rfl ?_)
 refine rt_ ?_
 refine Rr (Res.two rfl rfl rfl) ?_ m0
 exact congrArg AV.tup (lc (congrArg (AV.int .i64) (show (0 : Int) = (num14 s).1 from by rw [num14_F (by omega), w_bad (fun e => by first | (exact absurd e.2 (by decide)) | (have := e.1; first | contradiction | exact absurd this (by assumption))) (by omega)] <;> first | rfl | (simp only [if_true, if_false, Bool.false_eq_true]; congr 1; omega) | (simp; congr 1; omega))) (lc (congrArg AV.bool (show (false : Bool) = (num14 s).2 from by rw [num14_F (by omega), w_bad (fun e => by first | (exact absurd e.2 (by decide)) | (have := e.1; first | contradiction | exact absurd this (by assumption))) (by omega)] <;> first | rfl | (simp only [if_true, if_false, Bool.false_eq_true]; congr 1; omega) | (simp; congr 1; omega))) rfl))
 refine Y rfl rfl rfl (decide_eq_false b38) (Mv _ rfl rfl (Y rfl rfl rfl (decide_eq_false b38) (AOp.lenStr rfl rfl u_9 (Y rfl rfl rfl (decide_eq_false b38) (Bi _ rfl rfl rfl rfl (C rfl (Pf _ rfl rfl (decide_eq_false b38) rfl (V rfl rfl ?_))))))))
 by_cases b39 : (s.size : Int) > 6
 refine N rfl rfl (decide_eq_true b39) (N rfl rfl (decide_eq_true b39) (N rfl rfl (decide_eq_true b39) (C rfl (Pt _ rfl rfl (decide_eq_true b39) rfl ?_))))
 refine ct_ rfl rfl ?_
 refine Sr ?_
 refine A rfl rfl (A rfl rfl ?_)
 refine rt_ ?_
 refine Rr (Res.two rfl rfl rfl) ?_ m0
 exact congrArg AV.tup (lc (congrArg (AV.int .i64) (show (0 : Int) = (num14 s).1 from by rw [num14_F (by omega), w_bad (fun e => by first | (exact absurd e.2 (by decide)) | (have := e.1; first | contradiction | exact absurd this (by assumption))) (by omega)] <;> first | rfl | (simp only [if_true, if_false, Bool.false_eq_true]; congr 1; omega) | (simp; congr 1; omega))) (lc (congrArg AV.bool (show (false : Bool) = (num14 s).2 from by rw [num14_F (by omega), w_bad (fun e => by first | (exact absurd e.2 (by decide)) | (have := e.1; first | contradiction | exact absurd this (by assumption))) (by omega)] <;> first | rfl | (simp only [if_true, if_false, Bool.false_eq_true]; congr 1; omega) | (simp; congr 1; omega))) rfl))
 refine Y rfl rfl rfl (decide_eq_false b39) (Mv _ rfl rfl (Y rfl rfl rfl (decide_eq_false b39) (AOp.indexB rfl rfl rfl u_9 (by omega) (by omega) (Y rfl rfl rfl (decide_eq_false b39) (Bi _ rfl rfl rfl ieq (C rfl (Pf _ rfl rfl (decide_eq_false b39) rfl ?_)))))))
 refine AOps.nil ?_
 change AWP _ _ _ _ _ _
 by_cases b40 : byt s 0 = 48
 refine ct_ rfl (decide_eq_true b40) ?_
 refine Sr ?_
 refine A rfl rfl (A rfl rfl ?_)
 refine rt_ ?_
 refine Rr (Res.two rfl rfl rfl) ?_ m0
 exact congrArg AV.tup (lc (congrArg (AV.int .i64) (show (0 : Int) = (num14 s).1 from by rw [num14_F (by omega), w_bad (fun e => by first | (exact absurd e.2 (by decide)) | (have := e.1; first | contradiction | exact absurd this (by assumption))) (by omega)] <;> first | rfl | (simp only [if_true, if_false, Bool.false_eq_true]; congr 1; omega) | (simp; congr 1; omega))) (lc (congrArg AV.bool (show (false : Bool) = (num14 s).2 from by rw [num14_F (by omega), w_bad (fun e => by first | (exact absurd e.2 (by decide)) | (have := e.1; first | contradiction | exact absurd this (by assumption))) (by omega)] <;> first | rfl | (simp only [if_true, if_false, Bool.false_eq_true]; congr 1; omega) | (simp; congr 1; omega))) rfl))
 refine cf_ rfl (decide_eq_false b40) ?_
 refine AWP.skip ?_
 refine Sr ?_
 refine A rfl rfl ?_
 refine AWP.seq ?_
 refine Sr ?_
 refine A rfl rfl ?_
 refine bk_ ?_
 refine AWP.loop (fun q41 fq Hq => ∃ (i : Int), q41 = ((s.size : Int) - i).toNat ∧ fq 6 = .int .i64 i ∧ fq 5 = .int .i64 (val10 s i.toNat) ∧ fq 0 = .str s ∧ fq 4 = .bool (decide (byt s 0 = 45)) ∧ Mono H0 Hq ∧ (0 ≤ i) ∧ (i ≤ s.size) ∧ (∀ j : Int, 0 ≤ j → j < i → 48 ≤ byt s j ∧ byt s j ≤ 57)) (k := ((s.size : Int) - 0).toNat) ?_ ?_
 exact ⟨0, rfl, rfl, (congrArg (AV.int .i64) (show (0 : Int) = val10 s (0 : Int).toNat from by rfl)), rfl, rfl, m0, by omega, by omega, by intro j; omega⟩
 rintro _ f43 H42 ⟨i, rfl, s44, s45, s46, s47, m48, hi0, hi1, pre⟩
 refine AWP.seq ?_
 refine Sr ?_
 refine V rfl s44 (V rfl s46 (C rfl (AOp.lenStr rfl rfl u_9 (B rfl rfl rfl rfl ?_))))
 refine AOps.nil ?_
 change AWP _ _ _ _ _ _
 by_cases b49 : i < (s.size : Int)
 refine ct_ rfl (decide_eq_true b49) ?_
 refine AWP.skip ?_
 refine AWP.seq ?_
 refine bk_ ?_
 refine AWP.seq ?_
 refine Sr ?_
 refine V rfl s46 (V rfl s44 ?_)
 have hb50 := byt_rng s i
 refine C rfl (AOp.indexB rfl rfl rfl u_9 (by omega) (by omega) (B rfl rfl rfl rfl (V rfl rfl ?_)))
 by_cases b51 : byt s i < 48
 refine N rfl rfl (decide_eq_true b51) (N rfl rfl (decide_eq_true b51) (N rfl rfl (decide_eq_true b51) (N rfl rfl (decide_eq_true b51) (C rfl (Pt _ rfl rfl (decide_eq_true b51) rfl ?_)))))
 refine ct_ rfl rfl ?_
 refine Sr ?_
 refine A rfl rfl (A rfl rfl ?_)
 refine rt_ ?_
 refine Rr (Res.two rfl rfl rfl) ?_ m48
 exact congrArg AV.tup (lc (congrArg (AV.int .i64) (show (0 : Int) = (num14 s).1 from by rw [num14_F (by omega), w_nodig (fun e => by first | (exact absurd e.2 (by decide)) | (have := e.1; first | contradiction | exact absurd this (by assumption))) (by omega) hi0 (by omega) (by omega)] <;> first | rfl | (simp only [if_true, if_false, Bool.false_eq_true]; congr 1; omega) | (simp; congr 1; omega))) (lc (congrArg AV.bool (show (false : Bool) = (num14 s).2 from by rw [num14_F (by omega), w_nodig (fun e => by first | (exact absurd e.2 (by decide)) | (have := e.1; first | contradiction | exact absurd this (by assumption))) (by omega) hi0 (by omega) (by omega)] <;> first | rfl | (simp only [if_true, if_false, Bool.false_eq_true]; congr 1; omega) | (simp; congr 1; omega))) rfl))
 refine Y rfl rfl rfl (decide_eq_false b51) (Mv _ rfl s46 (Y rfl rfl rfl (decide_eq_false b51) (Mv _ rfl s44 (Y rfl rfl rfl (decide_eq_false b51) (AOp.indexB rfl rfl rfl u_9 (by omega) (by omega) (Y rfl rfl rfl (decide_eq_false b51) (Bi _ rfl rfl rfl rfl (C rfl (Pf _ rfl rfl (decide_eq_false b51) rfl ?_)))))))))
 refine AOps.nil ?_
 change AWP _ _ _ _ _ _
 by_cases b52 : byt s i > 57
 refine ct_ rfl (decide_eq_true b52) ?_
 refine Sr ?_
 refine A rfl rfl (A rfl rfl ?_)
 refine rt_ ?_
 refine Rr (Res.two rfl rfl rfl) ?_ m48
 exact congrArg AV.tup (lc (congrArg (AV.int .i64) (show (0 : Int) = (num14 s).1 from by rw [num14_F (by omega), w_nodig (fun e => by first | (exact absurd e.2 (by decide)) | (have := e.1; first | contradiction | exact absurd this (by assumption))) (by omega) hi0 (by omega) (by omega)] <;> first | rfl | (simp only [if_true, if_false, Bool.false_eq_true]; congr 1; omega) | (simp; congr 1; omega))) (lc (congrArg AV.bool (show (false : Bool) = (num14 s).2 from by rw [num14_F (by omega), w_nodig (fun e => by first | (exact absurd e.2 (by decide)) | (have := e.1; first | contradiction | exact absurd this (by assumption))) (by omega) hi0 (by omega) (by omega)] <;> first | rfl | (simp only [if_true, if_false, Bool.false_eq_true]; congr 1; omega) | (simp; congr 1; omega))) rfl))
 refine cf_ rfl (decide_eq_false b52) ?_
 refine AWP.skip ?_
 change AWP _ _ _ _ _ _
 have hv := val10_rng (w := s) (i := i) hi0 (by omega) pre
 refine AWP.region rfl ?_
 refine V rfl s45 (B rfl rfl rfl (imul (by omega)) (V rfl s46 (V rfl s44 (C rfl (AOp.indexB rfl rfl rfl u_9 (by omega) (by omega) (B rfl rfl rfl (isub8 (by omega)) (C rfl (AOp.convIntP rfl rfl u_5 u_3 (wrap64 (by omega)) (B rfl rfl rfl (iadd (by omega)) (A rfl rfl ?_))))))))))
 refine AWP.region rfl ?_
 refine V rfl s44 (B rfl rfl rfl (iadd (by omega)) (A rfl rfl ?_))
 refine AOps.nil ?_
 exact ⟨_, by omega, i + 1, rfl, rfl, (congrArg (AV.int .i64) (show ((val10 s i.toNat) * 10 + (byt s i - 48) : Int) = val10 s (i + 1).toNat from by exact val10_step hi0)), s46, s47, m48, by omega, by omega, by exact dig_step pre (by omega)⟩
 refine cf_ rfl (decide_eq_false b49) ?_
 refine AWP.exit ?_
 change AWP _ _ _ _ _ _
 refine AWP.seq ?_
 refine AWP.seq ?_
 have hv := val10_rng6 (w := s) (i := i) hi0 (by omega) pre
 refine AWP.region rfl ?_
 refine V rfl s47 ?_
 refine cf_ rfl (decide_eq_false b3) ?_
 refine AWP.skip ?_
 refine Sr ?_
 refine V rfl s45 (A rfl rfl (A rfl rfl ?_))
 refine rt_ ?_
 refine Rr (Res.two rfl rfl rfl) ?_ m48
 exact congrArg AV.tup (lc (congrArg (AV.int .i64) (show (val10 s i.toNat : Int) = (num14 s).1 from by rw [num14_F (by omega), w_ok (i := i) (fun e => by first | (exact absurd e.2 (by decide)) | (have := e.1; first | contradiction | exact absurd this (by assumption))) (by omega) (by omega) (by omega) pre] <;> first | rfl | (simp only [if_true, if_false, Bool.false_eq_true]; congr 1; omega) | (simp; congr 1; omega))) (lc (congrArg AV.bool (show (true : Bool) = (num14 s).2 from by rw [num14_F (by omega), w_ok (i := i) (fun e => by first | (exact absurd e.2 (by decide)) | (have := e.1; first | contradiction | exact absurd this (by assumption))) (by omega) (by omega) (by omega) pre] <;> first | rfl | (simp only [if_true, if_false, Bool.false_eq_true]; congr 1; omega) | (simp; congr 1; omega))) rfl))
 refine N rfl rfl (decide_eq_false b1) (N rfl rfl (decide_eq_false b1) (N rfl rfl (decide_eq_false b1) (C rfl (Pf _ rfl rfl (decide_eq_false b1) rfl (A rfl rfl ?_)))))
 refine AWP.seq ?_
 refine Sr ?_
 refine V rfl rfl ?_
 refine cf_ rfl rfl ?_
 refine AWP.skip ?_
 refine AWP.seq ?_
 refine Sr ?_
 refine V rfl rfl (C rfl (AOp.seqD rfl rfl rfl (V rfl rfl ?_)))
 by_cases b53 : s = ⟨#[48]⟩
 refine Y rfl rfl rfl (decide_eq_true b53) (Mv _ rfl rfl (Y rfl rfl rfl (decide_eq_true b53) (AOp.not rfl rfl (C rfl (Pt _ rfl rfl (decide_eq_true b53) rfl ?_)))))
 refine ct_ rfl rfl ?_
 refine Sr ?_
 refine A rfl rfl (A rfl rfl ?_)
 refine rt_ ?_
 refine Rr (Res.two rfl rfl rfl) ?_ m0
 exact congrArg AV.tup (lc (congrArg (AV.int .i64) (show (0 : Int) = (num14 s).1 from by rw [num14_F (by omega), w_zero b53] <;> first | rfl | (simp only [if_true, if_false, Bool.false_eq_true]; congr 1; omega) | (simp; congr 1; omega))) (lc (congrArg AV.bool (show (true : Bool) = (num14 s).2 from by rw [num14_F (by omega), w_zero b53] <;> first | rfl | (simp only [if_true, if_false, Bool.false_eq_true]; congr 1; omega) | (simp; congr 1; omega))) rfl))
 refine N rfl rfl (decide_eq_false b53) (N rfl rfl (decide_eq_false b53) (C rfl (Pf _ rfl rfl (decide_eq_false b53) rfl ?_)))
 refine cf_ rfl rfl ?_
 refine AWP.skip ?_
 refine AWP.seq ?_
 refine Sr ?_
 refine V rfl rfl (C rfl (AOp.lenStr rfl rfl u_9 (B rfl rfl rfl rfl (V rfl rfl ?_))))
 by_cases b54 : (s.size : Int) < 1
 refine N rfl rfl (decide_eq_true b54) (N rfl rfl (decide_eq_true b54) (N rfl rfl (decide_eq_true b54) (C rfl (Pt _ rfl rfl (decide_eq_true b54) rfl (V rfl rfl (N rfl rfl rfl (N rfl rfl rfl (N rfl rfl rfl (C rfl (Pt _ rfl rfl rfl rfl ?_))))))))))
 refine ct_ rfl rfl ?_
 refine Sr ?_
 refine A rfl rfl (A rfl rfl ?_)
 refine rt_ ?_
 refine Rr (Res.two rfl rfl rfl) ?_ m0
 exact congrArg AV.tup (lc (congrArg (AV.int .i64) (show (0 : Int) = (num14 s).1 from by rw [num14_F (by omega), w_bad (fun e => by first | (exact absurd e.2 (by decide)) | (have := e.1; first | contradiction | exact absurd this (by assumption))) (by omega)] <;> first | rfl | (simp only [if_true, if_false, Bool.false_eq_true]; congr 1; omega) | (simp; congr 1; omega))) (lc (congrArg AV.bool (show (false : Bool) = (num14 s).2 from by rw [num14_F (by omega), w_bad (fun e => by first | (exact absurd e.2 (by decide)) | (have := e.1; first | contradiction | exact absurd this (by assumption))) (by omega)] <;> first | rfl | (simp only [if_true, if_false, Bool.false_eq_true]; congr 1; omega) | (simp; congr 1; omega))) rfl))
 refine Y rfl rfl rfl (decide_eq_false b54) (Mv _ rfl rfl (Y rfl rfl rfl (decide_eq_false b54) (AOp.lenStr rfl rfl u_9 (Y rfl rfl rfl (decide_eq_false b54) (Bi _ rfl rfl rfl rfl (C rfl (Pf _ rfl rfl (decide_eq_false b54) rfl (V rfl rfl ?_))))))))
 by_cases b55 : (s.size : Int) > 6
 refine N rfl rfl (decide_eq_true b55) (N rfl rfl (decide_eq_true b55) (N rfl rfl (decide_eq_true b55) (C rfl (Pt _ rfl rfl (decide_eq_true b55) rfl ?_))))
 refine ct_ rfl rfl ?_
 refine Sr ?_
 refine A rfl rfl (A rfl rfl ?_)
 refine rt_ ?_
 refine Rr (Res.two rfl rfl rfl) ?_ m0
 exact congrArg AV.tup (lc (congrArg (AV.int .i64) (show (0 : Int) = (num14 s).1 from by rw [num14_F (by omega), w_bad (fun e => by first | (exact absurd e.2 (by decide)) | (have := e.1; first | contradiction | exact absurd this (by assumption))) (by omega)] <;> first | rfl | (simp only [if_true, if_false, Bool.false_eq_true]; congr 1; omega) | (simp; congr 1; omega))) (lc (congrArg AV.bool (show (false : Bool) = (num14 s).2 from by rw [num14_F (by omega), w_bad (fun e => by first | (exact absurd e.2 (by decide)) | (have := e.1; first | contradiction | exact absurd this (by assumption))) (by omega)] <;> first | rfl | (simp only [if_true, if_false, Bool.false_eq_true]; congr 1; omega) | (simp; congr 1; omega))) rfl))
 refine Y rfl rfl rfl (decide_eq_false b55) (Mv _ rfl rfl ?_)
 have hb56 := byt_rng s 0
 refine Y rfl rfl rfl (decide_eq_false b55) (AOp.indexB rfl rfl rfl u_9 (by omega) (by omega) (Y rfl rfl rfl (decide_eq_false b55) (Bi _ rfl rfl rfl ieq (C rfl (Pf _ rfl rfl (decide_eq_false b55) rfl ?_)))))
 refine AOps.nil ?_
 change AWP _ _ _ _ _ _
 by_cases b57 : byt s 0 = 48
 refine ct_ rfl (decide_eq_true b57) ?_
 refine Sr ?_
 refine A rfl rfl (A rfl rfl ?_)
 refine rt_ ?_
 refine Rr (Res.two rfl rfl rfl) ?_ m0
 exact congrArg AV.tup (lc (congrArg (AV.int .i64) (show (0 : Int) = (num14 s).1 from by rw [num14_F (by omega), w_bad (fun e => by first | (exact absurd e.2 (by decide)) | (have := e.1; first | contradiction | exact absurd this (by assumption))) (by omega)] <;> first | rfl | (simp only [if_true, if_false, Bool.false_eq_true]; congr 1; omega) | (simp; congr 1; omega))) (lc (congrArg AV.bool (show (false : Bool) = (num14 s).2 from by rw [num14_F (by omega), w_bad (fun e => by first | (exact absurd e.2 (by decide)) | (have := e.1; first | contradiction | exact absurd this (by assumption))) (by omega)] <;> first | rfl | (simp only [if_true, if_false, Bool.false_eq_true]; congr 1; omega) | (simp; congr 1; omega))) rfl))
 refine cf_ rfl (decide_eq_false b57) ?_
 refine AWP.skip ?_
 refine Sr ?_
 refine A rfl rfl ?_
 refine AWP.seq ?_
 refine Sr ?_
 refine A rfl rfl ?_
 refine bk_ ?_
 refine AWP.loop (fun q58 fq Hq => ∃ (i : Int), q58 = ((s.size : Int) - i).toNat ∧ fq 6 = .int .i64 i ∧ fq 5 = .int .i64 (val10 s i.toNat) ∧ fq 0 = .str s ∧ fq 4 = .bool false ∧ Mono H0 Hq ∧ (0 ≤ i) ∧ (i ≤ s.size) ∧ (∀ j : Int, 0 ≤ j → j < i → 48 ≤ byt s j ∧ byt s j ≤ 57)) (k := ((s.size : Int) - 0).toNat) ?_ ?_
 exact ⟨0, rfl, rfl, (congrArg (AV.int .i64) (show (0 : Int) = val10 s (0 : Int).toNat from by rfl)), rfl, rfl, m0, by omega, by omega, by intro j; omega⟩
 rintro _ f60 H59 ⟨i, rfl, s61, s62, s63, s64, m65, hi0, hi1, pre⟩
 refine AWP.seq ?_
 refine Sr ?_
 refine V rfl s61 (V rfl s63 (C rfl (AOp.lenStr rfl rfl u_9 (B rfl rfl rfl rfl ?_))))
 refine AOps.nil ?_
 change AWP _ _ _ _ _ _
 by_cases b66 : i < (s.size : Int)
 refine ct_ rfl (decide_eq_true b66) ?_
 refine AWP.skip ?_
 refine AWP.seq ?_
 refine bk_ ?_
 refine AWP.seq ?_
 refine Sr ?_
 refine V rfl s63 (V rfl s61 ?_)
 have hb67 := byt_rng s i
 refine C rfl (AOp.indexB rfl rfl rfl u_9 (by omega) (by omega) (B rfl rfl rfl rfl (V rfl rfl ?_)))
 by_cases b68 : byt s i < 48
 refine N rfl rfl (decide_eq_true b68) (N rfl rfl (decide_eq_true b68) (N rfl rfl (decide_eq_true b68) (N rfl rfl (decide_eq_true b68) (C rfl (Pt _ rfl rfl (decide_eq_true b68) rfl ?_)))))
 refine ct_ rfl rfl ?_
 refine Sr ?_
 refine A rfl rfl (A rfl rfl ?_)
 refine rt_ ?_
 refine Rr (Res.two rfl rfl rfl) ?_ m65
 exact congrArg AV.tup (lc (congrArg (AV.int .i64) (show (0 : Int) = (num14 s).1 from by rw [num14_F (by omega), w_nodig (fun e => by first | (exact absurd e.2 (by decide)) | (have := e.1; first | contradiction | exact absurd this (by assumption))) (by omega) hi0 (by omega) (by omega)] <;> first | rfl | (simp only [if_true, if_false, Bool.false_eq_true]; congr 1; omega) | (simp; congr 1; omega))) (lc (congrArg AV.bool (show (false : Bool) = (num14 s).2 from by rw [num14_F (by omega), w_nodig (fun e => by first | (exact absurd e.2 (by decide)) | (have := e.1; first | contradiction | exact absurd this (by assumption))) (by omega) hi0 (by omega) (by omega)] <;> first | rfl | (simp only [if_true, if_false, Bool.false_eq_true]; congr 1; omega) | (simp; congr 1; omega))) rfl))
 refine Y rfl rfl rfl (decide_eq_false b68) (Mv _ rfl s63 (Y rfl rfl rfl (decide_eq_false b68) (Mv _ rfl s61 (Y rfl rfl rfl (decide_eq_false b68) (AOp.indexB rfl rfl rfl u_9 (by omega) (by omega) (Y rfl rfl rfl (decide_eq_false b68) (Bi _ rfl rfl rfl rfl (C rfl (Pf _ rfl rfl (decide_eq_false b68) rfl ?_)))))))))
 refine AOps.nil ?_
 change AWP _ _ _ _ _ _
 by_cases b69 : byt s i > 57
 refine ct_ rfl (decide_eq_true b69) ?_
 refine Sr ?_
 refine A rfl rfl (A rfl rfl ?_)
 refine rt_ ?_
 refine Rr (Res.two rfl rfl rfl) ?_ m65
 exact congrArg AV.tup (lc (congrArg (AV.int .i64) (show (0 : Int) = (num14 s).1 from by rw [num14_F (by omega), w_nodig (fun e => by first | (exact absurd e.2 (by decide)) | (have := e.1; first | contradiction | exact absurd this (by assumption))) (by omega) hi0 (by omega) (by omega)] <;> first | rfl | (simp only [if_true, if_false, Bool.false_eq_true]; congr 1; omega) | (simp; congr 1; omega))) (lc (congrArg AV.bool (show (false : Bool) = (num14 s).2 from by rw [num14_F (by omega), w_nodig (fun e => by first | (exact absurd e.2 (by decide)) | (have := e.1; first | contradiction | exact absurd this (by assumption))) (by omega) hi0 (by omega) (by omega)] <;> first | rfl | (simp only [if_true, if_false, Bool.false_eq_true]; congr 1; omega) | (simp; congr 1; omega))) rfl))
 refine cf_ rfl (decide_eq_false b69) ?_
 refine AWP.skip ?_
 change AWP _ _ _ _ _ _
 have hv := val10_rng (w := s) (i := i) hi0 (by omega) pre
 refine AWP.region rfl ?_
 refine V rfl s62 (B rfl rfl rfl (imul (by omega)) (V rfl s63 (V rfl s61 (C rfl (AOp.indexB rfl rfl rfl u_9 (by omega) (by omega) (B rfl rfl rfl (isub8 (by omega)) (C rfl (AOp.convIntP rfl rfl u_5 u_3 (wrap64 (by omega)) (B rfl rfl rfl (iadd (by omega)) (A rfl rfl ?_))))))))))
 refine AWP.region rfl ?_
 refine V rfl s61 (B rfl rfl rfl (iadd (by omega)) (A rfl rfl ?_))
 refine AOps.nil ?_
 exact ⟨_, by omega, i + 1, rfl, rfl, (congrArg (AV.int .i64) (show ((val10 s i.toNat) * 10 + (byt s i - 48) : Int) = val10 s (i + 1).toNat from by exact val10_step hi0)), s63, s64, m65, by omega, by omega, by exact dig_step pre (by omega)⟩
 refine cf_ rfl (decide_eq_false b66) ?_
 refine AWP.exit ?_
 change AWP _ _ _ _ _ _
 refine AWP.seq ?_
 refine AWP.seq ?_
 have hv := val10_rng6 (w := s) (i := i) hi0 (by omega) pre
 refine AWP.region rfl ?_
 refine V rfl s64 ?_
 refine cf_ rfl rfl ?_
 refine AWP.skip ?_
 refine Sr ?_
 refine V rfl s62 (A rfl rfl (A rfl rfl ?_))
 refine rt_ ?_
 refine Rr (Res.two rfl rfl rfl) ?_ m65
 exact congrArg AV.tup (lc (congrArg (AV.int .i64) (show (val10 s i.toNat : Int) = (num14 s).1 from by rw [num14_F (by omega), w_ok (i := i) (fun e => by first | (exact absurd e.2 (by decide)) | (have := e.1; first | contradiction | exact absurd this (by assumption))) (by omega) (by omega) (by omega) pre] <;> first | rfl | (simp only [if_true, if_false, Bool.false_eq_true]; congr 1; omega) | (simp; congr 1; omega))) (lc (congrArg AV.bool (show (true : Bool) = (num14 s).2 from by rw [num14_F (by omega), w_ok (i := i) (fun e => by first | (exact absurd e.2 (by decide)) | (have := e.1; first | contradiction | exact absurd this (by assumption))) (by omega) (by omega) (by omega) pre] <;> first | rfl | (simp only [if_true, if_false, Bool.false_eq_true]; congr 1; omega) | (simp; congr 1; omega))) rfl))
end Go.Proofs.L
namespace Go.Proofs.L
open Go Go.AH Go.Lib
set_option maxRecDepth 4000
set_option linter.unusedSectionVars false
variable [LexG]
def pcs : List UInt8 → List (List UInt8)
  | [] => [[]]
  | b :: l => if b = 10 then [] :: pcs l else (b :: (pcs l).headD []) :: (pcs l).tail
theorem pcs_ne (l : List UInt8) : pcs l ≠ [] := by
  cases l with
  | nil => simp [pcs]
  | cons b l => unfold pcs; split <;> simp
theorem split_miss {l : List UInt8} (h : index l [10] = -1) : pcs l = [l] := by
  induction l with
  | nil => rfl
  | cons b l ih =>
    unfold index at h
    by_cases hb : b = 10
    · subst hb; simp at h
    · have hp : ([10] : List UInt8).isPrefixOf (b :: l) = false := by simp [List.isPrefixOf, Ne.symm hb]
      rw [hp] at h
      simp only [Bool.false_eq_true, if_false] at h
      have h2 : index l [10] = -1 := by
        split at h
        · rename_i g; exact beq_iff_eq.1 g
        · have := index_ge l [10]; omega
      unfold pcs
      rw [if_neg hb, ih h2]
      rfl
theorem split_hit : ∀ {l : List UInt8} {i : Nat}, index l [10] = i → pcs l = l.take i :: pcs (l.drop (i + 1))
  | [], i, h => by simp [index] at h
  | b :: l, i, h => by
    unfold index at h
    by_cases hb : b = 10
    · subst hb
      simp at h
      obtain rfl : i = 0 := by omega
      rw [pcs, if_pos rfl]; simp
    · have hp : ([10] : List UInt8).isPrefixOf (b :: l) = false := by simp [List.isPrefixOf, Ne.symm hb]
      rw [hp] at h
      simp only [Bool.false_eq_true, if_false] at h
      split at h
      · omega
      · have hge := index_ge l [10]
        rename_i hne
        have hne : index l [10] ≠ -1 := fun e => hne (beq_iff_eq.2 e)
        obtain ⟨j, hj⟩ : ∃ j : Nat, index l [10] = j := ⟨(index l [10]).toNat, by omega⟩
        obtain rfl : i = j + 1 := by omega
        rw [pcs, if_neg hb, split_hit hj]
        simp
theorem splitK_pcs : ∀ (k : Nat) (l : List UInt8), count l [10] = k → splitK [10] 0 k l = pcs l
  | 0, l, h => by
    rw [splitK]
    by_cases hi : index l [10] = -1
    · exact (split_miss hi).symm
    · have := index_ge l [10]
      have := count_hit (s := l) (sub := [10]) (i := (index l [10]).toNat) (by simp) (by omega)
      omega
  | k + 1, l, h => by
    by_cases hi : index l [10] = -1
    · rw [count_miss hi] at h; omega
    · have := index_ge l [10]
      obtain ⟨i, hii⟩ : ∃ i : Nat, index l [10] = i := ⟨(index l [10]).toNat, by omega⟩
      have hc := count_hit (s := l) (sub := [10]) (i := i) (by simp) hii
      rw [splitK, if_neg (by simpa using hi), hii, split_hit hii]
      simp only [Int.toNat_natCast, Nat.add_zero, List.length_cons, List.length_nil, Nat.zero_add]
      rw [splitK_pcs k _ (by simp at hc; omega)]
theorem pieces_pcs (s : ByteArray) : (pieces s).map (·.data.toList) = pcs s.data.toList := by
  unfold pieces
  rw [splitB_data]
  exact splitK_pcs _ _ rfl
theorem pcs_length : ∀ l : List UInt8, (pcs l).length ≤ l.length + 1
  | [] => by simp [pcs]
  | b :: l => by
    have := pcs_length l
    unfold pcs; split
    · simp; omega
    · simp; omega
theorem pcs_sub : ∀ (l : List UInt8) (p : List UInt8), p ∈ pcs l → p.length ≤ l.length
  | [], p, h => by simp [pcs] at h; subst h; simp
  | b :: l, p, h => by
    have ih := pcs_sub l
    unfold pcs at h
    split at h
    · rcases List.mem_cons.1 h with e | e
      · subst e; simp
      · have := ih p e; simp; omega
    · rcases List.mem_cons.1 h with e | e
      · subst e
        have := ih ((pcs l).headD []) (by
          have := pcs_ne l
          cases hq : pcs l with
          | nil => exact absurd hq this
          | cons a r => simp)
        simpa using this
      · have := ih p (List.mem_of_mem_tail e); simp; omega
theorem blen (s : ByteArray) : s.data.toList.length = s.size := rfl
theorem pieces_len (s : ByteArray) : (pieces s).length ≤ s.size + 1 := by
  have := pcs_length s.data.toList
  rw [← pieces_pcs, List.length_map] at this
  exact this
theorem piece_size {s : ByteArray} {i : Int} (h0 : 0 ≤ i) (h1 : i < (pieces s).length) : (at_ (pieces s) i).size ≤ s.size := by
  have := pcs_sub s.data.toList (at_ (pieces s) i).data.toList (by rw [← pieces_pcs]; exact List.mem_map.2 ⟨_, at_mem h0 h1, rfl⟩)
  exact this
theorem cut_take (l : List UInt8) (sep : List UInt8) : (cut l sep).1.Sublist l := by
  unfold cut
  split
  · exact List.take_sublist _ _
  · exact List.Sublist.refl _
theorem cut1_size (p : ByteArray) : (cut1 p).size ≤ p.size := by
  have : (cut1 p).size = (cut p.data.toList [35]).1.length := List.size_toArray
  rw [this]
  exact (cut_take _ _).length_le
theorem okB_mem {p : ByteArray} (h : okB p) {b : UInt8} (hb : b ∈ p.data.toList) : 32 ≤ b.toNat ∧ b.toNat ≤ 126 := by
  obtain ⟨j, hj, rfl⟩ := List.mem_iff_getElem.1 hb
  have hj' : j < p.size := hj
  have := h j hj'
  unfold byt at this
  rw [Int.toNat_natCast, List.getD_eq_getElem?_getD, List.getElem?_eq_getElem hj] at this
  simp only [Option.getD_some] at this
  omega
theorem cut1_asc {p : ByteArray} (h : okB p) : ∀ (j : Nat) b, (cut1 p).data.toList[j]? = some b → b.toNat < 128 := fun j b hb => by
  have hm : b ∈ (cut p.data.toList [35]).1 := List.mem_of_getElem? (by simpa [cut1] using hb)
  have := okB_mem h ((cut_take _ _).subset hm)
  omega
def lineOf (i : Int) (p : ByteArray) : List LineT := if 0 < ((wordsB (cut1 p)).length : Int) then [⟨i + 1, wordsB (cut1 p)⟩] else []
theorem lineOf_T {i : Int} {p : ByteArray} (h : 0 < ((wordsB (cut1 p)).length : Int)) : lineOf i p = [⟨i + 1, wordsB (cut1 p)⟩] := if_pos h
theorem lineOf_F {i : Int} {p : ByteArray} (h : ¬ 0 < ((wordsB (cut1 p)).length : Int)) : lineOf i p = [] := if_neg h
def scanL : List ByteArray → Int → List LineT → List LineT × Int × Int
  | [], _, out => (out, 0, 0)
  | p :: r, i, out => if 0 ≤ idxR p then ([], i + 1, 10) else scanL r (i + 1) (out ++ lineOf i p)
def linesR (s : ByteArray) : List LineT × Int × Int := if 65536 < (s.size : Int) then ([], 0, 13) else scanL (pieces s) 0 []
theorem lineOf_grow {out : List LineT} {i : Int} (p : ByteArray) (h : (out.length : Int) ≤ i) : ((out ++ lineOf i p).length : Int) ≤ i + 1 := by
  have : (lineOf i p).length ≤ 1 := by unfold lineOf; split <;> simp
  rw [List.length_append]; omega
theorem linesR_big {s : ByteArray} (h : 65536 < (s.size : Int)) : linesR s = ([], 0, 13) := if_pos h
theorem linesR_start {s : ByteArray} (h : ¬ 65536 < (s.size : Int)) : linesR s = scanL ((pieces s).drop (0 : Int).toNat) 0 [] := if_neg h
theorem drop_at {α : Type} [Inhabited α] {l : List α} {i : Int} (h0 : 0 ≤ i) (h1 : i < l.length) : l.drop i.toNat = at_ l i :: l.drop (i + 1).toNat := by
  rw [List.drop_eq_getElem_cons (by omega : i.toNat < l.length), show (i + 1).toNat = i.toNat + 1 by omega]
  unfold at_
  rw [List.getD_eq_getElem?_getD, List.getElem?_eq_getElem (by omega : i.toNat < l.length)]
  rfl
theorem scan_step {l : List ByteArray} {i : Int} {out : List LineT} (h0 : 0 ≤ i) (h1 : i < l.length) (hx : ¬ 0 ≤ idxR (at_ l i)) : scanL (l.drop i.toNat) i out = scanL (l.drop (i + 1).toNat) (i + 1) (out ++ lineOf i (at_ l i)) := by
  rw [drop_at h0 h1, scanL, if_neg hx]
theorem scan_bad {l : List ByteArray} {i : Int} {out : List LineT} (h0 : 0 ≤ i) (h1 : i < l.length) (hx : 0 ≤ idxR (at_ l i)) : scanL (l.drop i.toNat) i out = ([], i + 1, 10) := by
  rw [drop_at h0 h1, scanL, if_pos hx]
theorem scan_end {l : List ByteArray} {i : Int} {out : List LineT} (h : (l.length : Int) ≤ i) : scanL (l.drop i.toNat) i out = (out, 0, 0) := by
  rw [List.drop_of_length_le (by omega)]; rfl
end Go.Proofs.L
namespace Go.Proofs.L
open Go Go.AH
set_option maxRecDepth 4000
set_option linter.unusedSimpArgs false
set_option linter.unusedVariables false
variable [LexG]
theorem c_lex_Lines (s : ByteArray) : PC Tryz.prog 16 [.str s] (.tup [.sl ((linesR s).1).length (((linesR s).1).flatMap eLine), .int .i64 ((linesR s).2.1), .int .i64 ((linesR s).2.2)]) := by
 intro H0
 refine ACalls.of_body' (n := 45) rfl rfl rfl rfl ?_
 have m0 := Mono.refl H0
 refine Sr ?_
 refine A rfl rfl (A rfl rfl (A rfl rfl ?_))
 refine AWP.seq ?_
 refine Sr ?_
 refine V rfl rfl (C rfl (AOp.lenStr rfl rfl u_9 (B rfl rfl rfl rfl ?_)))
 refine AOps.nil ?_
 change AWP _ _ _ _ _ _
 by_cases b1 : (s.size : Int) > 65536
 refine ct_ rfl (decide_eq_true b1) ?_
 refine Sr ?_
 refine A rfl rfl (A rfl rfl (A rfl rfl ?_))
 refine rt_ ?_
 refine Fin.frz 2 (Own.nil H0 H0 1) rfl m0 fun H2 m3 k4 => ?_
 refine Rr (Res.three rfl rfl rfl rfl) ?_ m3
 exact congrArg AV.tup (lc (congrArg (fun l : List LineT => AV.sl l.length (l.flatMap eLine)) (show ([] : List LineT) = (linesR s).1 from by rw [linesR_big (by omega)])) (lc (congrArg (AV.int .i64) (show (0 : Int) = (linesR s).2.1 from by rw [linesR_big (by omega)])) (lc (congrArg (AV.int .i64) (show (13 : Int) = (linesR s).2.2 from by rw [linesR_big (by omega)])) rfl)))
 refine cf_ rfl (decide_eq_false b1) ?_
 refine AWP.skip ?_
 refine Sr ?_
 refine A rfl rfl ?_
 refine AWP.seq ?_
 refine Sr ?_
 refine V rfl rfl (C rfl (Pc («as» := [.str s, .str ⟨#[10]⟩]) rfl rfl (rfl) tf_26 (c_Split s (by omega)) ?_))
 intro H5 m6
 have m7 := m0.trans m6
 refine C rfl (AOp.len (m := (pieces s).length) rfl rfl (.inr (.inl ⟨_, rfl⟩)) u_57 (V rfl rfl ?_))
 refine bk_ ?_
 refine AWP.loop (fun q8 fq Hq => ∃ (i : Int) (out : List LineT) (w5 : AV), q8 = (((pieces s).length : Int) - i).toNat ∧ fq 15 = .int .i64 i ∧ fq 13 = .sl (pieces s).length ((pieces s).map eStr) ∧ fq 14 = .int .i64 (((pieces s).length) : Int) ∧ fq 5 = w5 ∧ Own H0 Hq 2 w5 (out).length ((out).flatMap eLine) ∧ Mono H0 Hq ∧ (0 ≤ i) ∧ (i ≤ (pieces s).length) ∧ (linesR s = scanL ((pieces s).drop i.toNat) i out) ∧ ((out.length : Int) ≤ i)) (k := (((pieces s).length : Int) - 0).toNat) ?_ ?_
 exact ⟨0, ([] : List LineT), .snil, rfl, rfl, rfl, rfl, rfl, Own.nil _ _ _, m7, by omega, by omega, by exact linesR_start (by omega), by simp⟩
 rintro _ f10 H9 ⟨i, out, w5, rfl, s11, s12, s13, s14, o15, m16, hi0, hi1, hsc, hol⟩
 refine AWP.seq ?_
 have hpl := pieces_len s
 refine AWP.region rfl ?_
 refine B rfl s11 s13 rfl ?_
 refine AWP.seq ?_
 by_cases b17 : i < (((pieces s).length) : Int)
 refine ct_ rfl (decide_eq_true b17) ?_
 refine AWP.skip ?_
 refine AWP.seq ?_
 refine bk_ ?_
 refine AWP.seq ?_
 have hps := piece_size (s := s) hi0 (by omega)
 refine AWP.region rfl ?_
 refine V rfl s11 (C rfl (iS_ rfl s12 s11 sl_57 (by omega) (by omega) (L rfl rfl ty_9 (ld1 (by omega) (by omega)) (A rfl rfl (A rfl rfl ?_)))))
 refine AWP.seq ?_
 refine Sr ?_
 refine V rfl rfl (C rfl (Pc («as» := [.str (at_ (pieces s) i), .fn 28 []]) rfl rfl (rfl) tf_27 (c_IndexFunc (at_ (pieces s) i) (by omega)) ?_))
 intro H18 m19
 have o20 := Own.mono o15 m19
 have m21 := m16.trans m19
 refine B rfl rfl rfl rfl ?_
 refine AOps.nil ?_
 change AWP _ _ _ _ _ _
 by_cases b22 : idxR (at_ (pieces s) i) ≥ 0
 refine ct_ rfl (decide_eq_true b22) ?_
 refine Sr ?_
 refine V rfl rfl (B rfl rfl rfl (iadd (by omega)) (A rfl rfl (A rfl rfl (A rfl rfl ?_))))
 refine rt_ ?_
 refine Fin.frz 2 (Own.nil H0 H18 1) rfl m21 fun H23 m24 k25 => ?_
 refine Rr (Res.three rfl rfl rfl rfl) ?_ m24
 exact congrArg AV.tup (lc (congrArg (fun l : List LineT => AV.sl l.length (l.flatMap eLine)) (show ([] : List LineT) = (linesR s).1 from by rw [hsc, scan_bad hi0 (by omega) (by omega)])) (lc (congrArg (AV.int .i64) (show (i + 1 : Int) = (linesR s).2.1 from by rw [hsc, scan_bad hi0 (by omega) (by omega)])) (lc (congrArg (AV.int .i64) (show (10 : Int) = (linesR s).2.2 from by rw [hsc, scan_bad hi0 (by omega) (by omega)])) rfl)))
 refine cf_ rfl (decide_eq_false b22) ?_
 refine AWP.skip ?_
 refine AWP.seq ?_
 have hok := idxR_neg.1 (show idxR (at_ (pieces s) i) < 0 by omega)
 refine AWP.region rfl ?_
 refine V rfl rfl (C rfl (Pc («as» := [.str (at_ (pieces s) i), .str ⟨#[35]⟩]) rfl rfl (rfl) tf_29 (c_Cut (at_ (pieces s) i) (by omega)) ?_))
 intro H27 m28
 have o29 := Own.mono o20 m28
 have m30 := m21.trans m28
 refine V rfl rfl (E rfl rfl rfl (E rfl rfl rfl (E rfl rfl rfl (A rfl rfl ?_))))
 refine AWP.seq ?_
 have hcs := cut1_size (at_ (pieces s) i)
 refine AWP.region rfl ?_
 refine V rfl rfl (C rfl (Pc («as» := [.str (cut1 (at_ (pieces s) i))]) rfl rfl (rfl) tf_30 (c_Fields (cut1 (at_ (pieces s) i)) (by omega) (cut1_asc hok)) ?_))
 intro H31 m32
 have o33 := Own.mono o29 m32
 have m34 := m30.trans m32
 refine A rfl rfl ?_
 refine Sr ?_
 refine V rfl rfl (C rfl (AOp.len (m := (wordsB (cut1 (at_ (pieces s) i))).length) rfl rfl (.inr (.inl ⟨_, rfl⟩)) u_57 (B rfl rfl rfl rfl ?_)))
 refine AOps.nil ?_
 change AWP _ _ _ _ _ _
 by_cases b35 : (((wordsB (cut1 (at_ (pieces s) i))).length) : Int) > 0
 refine ct_ rfl (decide_eq_true b35) ?_
 refine AWP.region rfl ?_
 refine V rfl s14 (V rfl rfl (B rfl rfl rfl (iadd (by omega)) (V rfl rfl (C rfl (Bl (cells := [.int .i64 (i + 1), .sl (wordsB (cut1 (at_ (pieces s) i))).length ((wordsB (cut1 (at_ (pieces s) i))).map eStr)]) rfl tz_59 pl_59 rfl rfl (C rfl (AOp.buildSlice (cells := [.int .i64 (i + 1), .sl (wordsB (cut1 (at_ (pieces s) i))).length ((wordsB (cut1 (at_ (pieces s) i))).map eStr)]) rfl u_51 ts_59 tz_59 rfl rfl rfl ?_)))))))
 intro i36 H37 n38 h39 k40
 have o42 := Own.keep o33 k40 (Own.notnew o33 n38)
 have m44 := Mono.new m34 n38 k40
 refine C rfl (AOp.append_own (es := 2) (m := 1) (len := ((out).length)) (old := (out).flatMap eLine) (cells := [.int .i64 (i + 1), .sl (wordsB (cut1 (at_ (pieces s) i))).length ((wordsB (cut1 (at_ (pieces s) i))).map eStr)]) rfl u_51 ts_59 tzn_59 tb_59 (by decide) ni_51 rfl o42 m44 rfl (.slm h39 rfl) (one_of rfl) (by decide) (by first | omega | (simp; omega)) ?_)
 intro v45 H46 o47 m48 k49 j50
 have o51 := Own.snocM (xs := ((out) : List LineT)) (y := (LineT.mk (i + 1) (wordsB (cut1 (at_ (pieces s) i))))) (e := eLine) (by simp) o47
 refine A rfl rfl ?_
 refine AWP.region rfl ?_
 refine B rfl s11 rfl (iadd (by omega)) (V rfl rfl ?_)
 refine AOps.nil ?_
 exact ⟨_, by omega, i + 1, out ++ lineOf i (at_ (pieces s) i), v45, rfl, rfl, s12, s13, rfl, (have hx : (((out) ++ [(LineT.mk (i + 1) (wordsB (cut1 (at_ (pieces s) i))))]) : List LineT) = (out ++ lineOf i (at_ (pieces s) i)) := (by rw [lineOf_T (by omega)]); Own.re o51 (congrArg List.length hx) (congrArg (fun l : List LineT => l.flatMap eLine) hx)), m48, by omega, by omega, by rw [hsc]; exact scan_step hi0 (by omega) (by omega), by exact lineOf_grow _ hol⟩
 refine cf_ rfl (decide_eq_false b35) ?_
 refine AWP.skip ?_
 refine AWP.region rfl ?_
 refine B rfl s11 rfl (iadd (by omega)) (V rfl rfl ?_)
 refine AOps.nil ?_
 exact ⟨_, by omega, i + 1, out ++ lineOf i (at_ (pieces s) i), w5, rfl, rfl, s12, s13, s14, (have hx : ((out) : List LineT) = (out ++ lineOf i (at_ (pieces s) i)) := (by rw [lineOf_F (by omega)]; simp); Own.re o33 (congrArg List.length hx) (congrArg (fun l : List LineT => l.flatMap eLine) hx)), m34, by omega, by omega, by rw [hsc]; exact scan_step hi0 (by omega) (by omega), by exact lineOf_grow _ hol⟩
 refine cf_ rfl (decide_eq_false b17) ?_
 refine AWP.exit ?_
 change AWP _ _ _ _ _ _
 refine Sr ?_
 refine V rfl s14 (A rfl rfl (A rfl rfl (A rfl rfl ?_)))
 refine rt_ ?_
 refine Fin.frz 2 o15 rfl m16 fun H52 m53 k54 => ?_
 refine Rr (Res.three rfl rfl rfl rfl) ?_ m53
 exact congrArg AV.tup (lc (congrArg (fun l : List LineT => AV.sl l.length (l.flatMap eLine)) (show ((out) : List LineT) = (linesR s).1 from by rw [hsc, scan_end (by omega)])) (lc (congrArg (AV.int .i64) (show (0 : Int) = (linesR s).2.1 from by rw [hsc, scan_end (by omega)])) (lc (congrArg (AV.int .i64) (show (0 : Int) = (linesR s).2.2 from by rw [hsc, scan_end (by omega)])) rfl)))
end Go.Proofs.L
namespace Go.Proofs.L
open Go Go.AH Go.Lib
set_option maxRecDepth 4000
set_option linter.unusedSectionVars false
variable [LexG]
structure RS where
  out : List LineT
  no : Int
  ws : List ByteArray
  wd : List Int
  rem : Bool
def stepR (c : Int) (σ : RS) : RS :=
  let rem := σ.rem || decide (c = 35)
  let brk := decide (c = 10) || (decide (c = 32) || rem)
  let ws := if brk = true then (if 0 < (σ.wd.length : Int) then σ.ws ++ [bytesB σ.wd] else σ.ws) else σ.ws
  let wd := if brk = true then [] else σ.wd ++ [c]
  if decide (c = 10) = true then ⟨if 0 < (ws.length : Int) then σ.out ++ [⟨σ.no, ws⟩] else σ.out, σ.no + 1, [], wd, false⟩ else ⟨σ.out, σ.no, ws, wd, rem⟩
def badB (c : Int) : Prop := c ≠ 10 ∧ (c < 32 ∨ 126 < c)
instance (c : Int) : Decidable (badB c) := by unfold badB; infer_instance
def refGo : List Int → RS → List LineT × Int × Int
  | [], σ => (σ.out, 0, 0)
  | c :: r, σ => if badB c then ([], σ.no, 10) else refGo r (stepR c σ)
def bytesL (s : ByteArray) : List Int := (s.data.toList.map fun b => (b.toNat : Int)) ++ [10]
theorem bytesL_len (s : ByteArray) : (bytesL s).length = s.size + 1 := by simp [bytesL, blen]
def refR (s : ByteArray) : List LineT × Int × Int := if 65536 < (s.size : Int) then ([], 0, 13) else refGo (bytesL s) ⟨[], 1, [], [], false⟩
theorem refR_big {s : ByteArray} (h : 65536 < (s.size : Int)) : refR s = ([], 0, 13) := if_pos h
theorem refR_start {s : ByteArray} (h : ¬ 65536 < (s.size : Int)) : refR s = refGo ((bytesL s).drop (0 : Int).toNat) ⟨[], 1, [], [], false⟩ := if_neg h
theorem bytesL_in {s : ByteArray} {i : Int} (h0 : 0 ≤ i) (h1 : i < s.size) : at_ (bytesL s) i = byt s i := by
  unfold at_ bytesL byt
  have hl : i.toNat < s.data.toList.length := by rw [blen]; omega
  rw [List.getD_eq_getElem?_getD, List.getElem?_append_left (by simpa using hl), List.getD_eq_getElem?_getD, List.getElem?_map, List.getElem?_eq_getElem hl]
  rfl
theorem bytesL_end {s : ByteArray} {i : Int} (h0 : 0 ≤ i) (h1 : i = s.size) : at_ (bytesL s) i = 10 := by
  unfold at_ bytesL
  have hl : i.toNat = s.data.toList.length := by rw [blen]; omega
  rw [List.getD_eq_getElem?_getD, List.getElem?_append_right (by simp [hl]), hl]
  simp
theorem ref_step {s : ByteArray} {i c : Int} {σ : RS} (h0 : 0 ≤ i) (h1 : i ≤ s.size) (hc : at_ (bytesL s) i = c) (hx : ¬ badB c) : refGo ((bytesL s).drop i.toNat) σ = refGo ((bytesL s).drop (i + 1).toNat) (stepR c σ) := by
  rw [drop_at h0 (by rw [bytesL_len]; omega), hc, refGo, if_neg hx]
theorem ref_bad {s : ByteArray} {i c : Int} {σ : RS} (h0 : 0 ≤ i) (h1 : i ≤ s.size) (hc : at_ (bytesL s) i = c) (hx : badB c) : refGo ((bytesL s).drop i.toNat) σ = ([], σ.no, 10) := by
  rw [drop_at h0 (by rw [bytesL_len]; omega), hc, refGo, if_pos hx]
theorem ref_end {s : ByteArray} {i : Int} {σ : RS} (h : (s.size : Int) + 1 ≤ i) : refGo ((bytesL s).drop i.toNat) σ = (σ.out, 0, 0) := by
  rw [List.drop_of_length_le (by rw [bytesL_len]; omega)]; rfl
end Go.Proofs.L
namespace Go.Proofs.L
open Go Go.AH
set_option maxRecDepth 4000
set_option linter.unusedSimpArgs false
set_option linter.unusedVariables false
variable [LexG]
theorem c_ref_Lines (s : ByteArray) : PC Tryz.prog 18 [.str s] (.tup [.sl ((refR s).1).length (((refR s).1).flatMap eLine), .int .i64 ((refR s).2.1), .int .i64 ((refR s).2.2)]) := by
 intro H0
 refine ACalls.of_body' (n := 79) rfl rfl rfl rfl ?_
 have m0 := Mono.refl H0
 refine Sr ?_
 refine A rfl rfl (A rfl rfl (A rfl rfl ?_))
 refine AWP.seq ?_
 refine Sr ?_
 refine V rfl rfl (C rfl (AOp.lenStr rfl rfl u_9 (B rfl rfl rfl rfl ?_)))
 refine AOps.nil ?_
 change AWP _ _ _ _ _ _
 by_cases b1 : (s.size : Int) > 65536
 refine ct_ rfl (decide_eq_true b1) ?_
 refine Sr ?_
 refine A rfl rfl (A rfl rfl (A rfl rfl ?_))
 refine rt_ ?_
 refine Fin.frz 2 (Own.nil H0 H0 1) rfl m0 fun H2 m3 k4 => ?_
 refine Rr (Res.three rfl rfl rfl rfl) ?_ m3
 exact congrArg AV.tup (lc (congrArg (fun l : List LineT => AV.sl l.length (l.flatMap eLine)) (show ([] : List LineT) = (refR s).1 from by rw [refR_big (by omega)])) (lc (congrArg (AV.int .i64) (show (0 : Int) = (refR s).2.1 from by rw [refR_big (by omega)])) (lc (congrArg (AV.int .i64) (show (13 : Int) = (refR s).2.2 from by rw [refR_big (by omega)])) rfl)))
 refine cf_ rfl (decide_eq_false b1) ?_
 refine AWP.skip ?_
 refine Sr ?_
 refine C rfl (AOp.buildSlice (cells := []) rfl u_51 ts_59 tz_59 rfl rfl rfl ?_)
 intro i5 H6 n7 h8 k9
 have z10 := Mono.free m0 n7
 have m11 := Mono.new m0 n7 k9
 obtain ⟨v12, e13⟩ : ∃ v : AV, v = .slm i5 0 2 0 0 := ⟨_, rfl⟩
 have o14 : Own H0 H6 2 v12 0 [] := .inr ⟨_, _, e13, h8, z10, rfl⟩
 refine A rfl e13.symm ?_
 refine Sr ?_
 refine A rfl rfl ?_
 refine Sr ?_
 refine C rfl (AOp.buildSlice (cells := []) rfl u_57 ts_9 tz_9 rfl rfl rfl ?_)
 intro i15 H16 n17 h18 k19
 have z20 := Mono.free m11 n17
 have o21 := Own.keep o14 k19 (Own.notnew o14 n17)
 have no22 := Own.notnew o14 n17
 have m23 := Mono.new m11 n17 k19
 obtain ⟨v24, e25⟩ : ∃ v : AV, v = .slm i15 0 1 0 0 := ⟨_, rfl⟩
 have o26 : Own H0 H16 1 v24 0 [] := .inr ⟨_, _, e25, h18, z20, rfl⟩
 have sp27 : Sep v24 v12 := by rw [e25]; exact Sep.ofNotId no22
 refine A rfl e25.symm ?_
 refine Sr ?_
 refine C rfl (AOp.buildSlice (cells := []) rfl u_75 ts_5 tz_5 rfl rfl rfl ?_)
 intro i28 H29 n30 h31 k32
 have z33 := Mono.free m23 n30
 have o34 := Own.keep o21 k32 (Own.notnew o21 n30)
 have no35 := Own.notnew o21 n30
 have o36 := Own.keep o26 k32 (Own.notnew o26 n30)
 have no37 := Own.notnew o26 n30
 have m38 := Mono.new m23 n30 k32
 obtain ⟨v39, e40⟩ : ∃ v : AV, v = .slm i28 0 1 0 0 := ⟨_, rfl⟩
 have o41 : Own H0 H29 1 v39 0 [] := .inr ⟨_, _, e40, h31, z33, rfl⟩
 have sp42 : Sep v39 v12 := by rw [e40]; exact Sep.ofNotId no35
 have sp43 : Sep v39 v24 := by rw [e40]; exact Sep.ofNotId no37
 refine A rfl e40.symm ?_
 refine Sr ?_
 refine A rfl rfl ?_
 refine AWP.seq ?_
 refine Sr ?_
 refine A rfl rfl ?_
 refine bk_ ?_
 refine AWP.loop (fun q44 fq Hq => ∃ (i : Int) (out : List LineT) (no : Int) (ws : List ByteArray) (wd : List Int) (rem : Bool) (w5 : AV) (w7 : AV) (w8 : AV), q44 = ((s.size : Int) + 1 - i).toNat ∧ fq 10 = .int .i64 i ∧ fq 6 = .int .i64 no ∧ fq 9 = .bool rem ∧ fq 0 = .str s ∧ fq 5 = w5 ∧ Own H0 Hq 2 w5 (out).length ((out).flatMap eLine) ∧ fq 7 = w7 ∧ Own H0 Hq 1 w7 (ws).length ((ws).map eStr) ∧ fq 8 = w8 ∧ Own H0 Hq 1 w8 (wd).length ((wd).map eI_u8) ∧ Sep w5 w7 ∧ Sep w5 w8 ∧ Sep w7 w8 ∧ Mono H0 Hq ∧ (0 ≤ i) ∧ (i ≤ s.size + 1) ∧ (1 ≤ no ∧ no ≤ i + 1) ∧ ((out.length : Int) ≤ i) ∧ ((ws.length : Int) ≤ i) ∧ ((wd.length : Int) ≤ i) ∧ (refR s = refGo ((bytesL s).drop i.toNat) (RS.mk out no ws wd rem))) (k := ((s.size : Int) + 1 - 0).toNat) ?_ ?_
 exact ⟨0, [], 1, [], [], false, v12, v24, v39, rfl, rfl, rfl, rfl, rfl, rfl, o34, rfl, o36, rfl, o41, (Sep.symm sp27), (Sep.symm sp42), (Sep.symm sp43), m38, by omega, by omega, by omega, by simp, by simp, by simp, by exact refR_start (by omega)⟩
 rintro _ f46 H45 ⟨i, out, no, ws, wd, rem, w5, w7, w8, rfl, s47, s48, s49, s50, s51, o52, s53, o54, s55, o56, sp57, sp58, sp59, m60, hi0, hi1, hno, hol, hwl, hdl, hsc⟩
 refine AWP.seq ?_
 refine Sr ?_
 refine V rfl s47 (V rfl s50 (C rfl (AOp.lenStr rfl rfl u_9 (B rfl rfl rfl rfl ?_))))
 refine AOps.nil ?_
 change AWP _ _ _ _ _ _
 by_cases b61 : i ≤ (s.size : Int)
 refine ct_ rfl (decide_eq_true b61) ?_
 refine AWP.skip ?_
 refine AWP.seq ?_
 refine bk_ ?_
 refine Sr ?_
 refine A rfl rfl ?_
 refine AWP.seq ?_
 refine Sr ?_
 refine V rfl s47 (V rfl s50 (C rfl (AOp.lenStr rfl rfl u_9 (B rfl rfl rfl rfl ?_))))
 refine AOps.nil ?_
 change AWP _ _ _ _ _ _
 by_cases b62 : i < (s.size : Int)
 refine ct_ rfl (decide_eq_true b62) ?_
 refine AWP.region rfl ?_
 refine V rfl s50 (V rfl s47 ?_)
 have hb63 := byt_rng s i
 refine C rfl (AOp.indexB rfl rfl rfl u_9 (by omega) (by omega) (A rfl rfl ?_))
 refine AWP.seq ?_
 refine Sr ?_
 refine V rfl rfl (B rfl rfl rfl ine (V rfl rfl ?_))
 by_cases b64 : byt s i = 10
 refine N rfl rfl (nb (decide_eq_true b64)) (N rfl rfl (nb (decide_eq_true b64)) (N rfl rfl (nb (decide_eq_true b64)) (AOps.un rfl rfl rfl rfl rfl rfl rfl (AOps.un rfl rfl rfl rfl rfl rfl rfl (N rfl rfl (nb (decide_eq_true b64)) (C rfl (Pf _ rfl rfl (nb (decide_eq_true b64)) rfl ?_)))))))
 refine cf_ rfl rfl ?_
 refine AWP.skip ?_
 refine AWP.seq ?_
 refine Sr ?_
 refine V rfl rfl (B rfl rfl rfl ieq ?_)
 refine AOps.nil ?_
 change AWP _ _ _ _ _ _
 by_cases b65 : byt s i = 35
 refine ct_ rfl (decide_eq_true b65) ?_
 refine AWP.region rfl ?_
 refine A rfl rfl ?_
 refine AWP.seq ?_
 refine Sr ?_
 refine V rfl rfl (B rfl rfl rfl ieq (V rfl rfl (N rfl rfl (decide_eq_true b64) (N rfl rfl (decide_eq_true b64) (C rfl (Pt _ rfl rfl (decide_eq_true b64) rfl (V rfl rfl (N rfl rfl rfl (C rfl (Pt _ rfl rfl rfl rfl ?_))))))))))
 refine ct_ rfl rfl ?_
 refine AWP.seq ?_
 refine Sr ?_
 refine V rfl s55 (C rfl (AOp.len_own (m := ((wd).length)) rfl rfl o56 u_75 (B rfl rfl rfl rfl ?_)))
 refine AOps.nil ?_
 change AWP _ _ _ _ _ _
 by_cases b66 : (((wd).length) : Int) > 0
 refine ct_ rfl (decide_eq_true b66) ?_
 refine AWP.region rfl ?_
 refine V rfl s53 (V rfl s55 (C rfl (AOp.bytesS (l := ((wd) : List Int)) rfl rfl o56.src u_75 u_5 u_9 (C rfl (AOp.buildSlice (cells := [.str (bytesB (wd))]) rfl u_57 ts_9 tz_9 rfl rfl rfl ?_)))))
 intro i67 H68 n69 h70 k71
 have o73 := Own.keep o52 k71 (Own.notnew o52 n69)
 have o75 := Own.keep o54 k71 (Own.notnew o54 n69)
 have m79 := Mono.new m60 n69 k71
 refine C rfl (AOp.append_own (es := 1) (m := 1) (len := ((ws).length)) (old := (ws).map eStr) (cells := [.str (bytesB (wd))]) rfl u_57 ts_9 tzn_9 tb_9 (by decide) ni_57 rfl o75 m79 rfl (.slm h70 rfl) (one_of rfl) (by decide) (by first | omega | (simp; omega)) ?_)
 intro v80 H81 o82 m83 k84 j85
 have o86 := Own.snoc1 (xs := ((ws) : List ByteArray)) (y := bytesB (wd)) (e := eStr) (by simp) o82
 have sp88 := Own.sep o73 sp57 j85
 have o87 := Own.stay o73 sp57 k84
 refine A rfl rfl ?_
 refine AWP.region rfl ?_
 refine A rfl rfl ?_
 refine Sr ?_
 refine V rfl rfl (B rfl rfl rfl ieq ?_)
 refine ct_ rfl (decide_eq_true b64) ?_
 refine AWP.seq ?_
 refine Sr ?_
 refine V rfl rfl (C rfl (AOp.len_own (m := (((ws) ++ [bytesB (wd)]).length)) rfl rfl o86 u_57 (B rfl rfl rfl rfl ?_)))
 refine AOps.nil ?_
 change AWP _ _ _ _ _ _
 by_cases b91 : ((((ws) ++ [bytesB (wd)]).length) : Int) > 0
 refine ct_ rfl (decide_eq_true b91) ?_
 refine AWP.frz 7 o86 rfl m83 fun H92 m93 k94 => ?_
 have o95 := Own.stay o87 sp88 (fun i hi _ => k94 i hi)
 skip
 refine AWP.region rfl ?_
 refine V rfl s51 (V rfl s48 (V rfl rfl (C rfl (Bl (cells := [.int .i64 no, .sl ((ws) ++ [bytesB (wd)]).length (((ws) ++ [bytesB (wd)]).map eStr)]) rfl tz_59 pl_59 rfl rfl (C rfl (AOp.buildSlice (cells := [.int .i64 no, .sl ((ws) ++ [bytesB (wd)]).length (((ws) ++ [bytesB (wd)]).map eStr)]) rfl u_51 ts_59 tz_59 rfl rfl rfl ?_))))))
 intro i97 H98 n99 h100 k101
 have o103 := Own.keep o95 k101 (Own.notnew o95 n99)
 have m107 := Mono.new m93 n99 k101
 refine C rfl (AOp.append_own (es := 2) (m := 1) (len := ((out).length)) (old := (out).flatMap eLine) (cells := [.int .i64 no, .sl ((ws) ++ [bytesB (wd)]).length (((ws) ++ [bytesB (wd)]).map eStr)]) rfl u_51 ts_59 tzn_59 tb_59 (by decide) ni_51 rfl o103 m107 rfl (.slm h100 rfl) (one_of rfl) (by decide) (by first | omega | (simp; omega)) ?_)
 intro v108 H109 o110 m111 k112 j113
 have o114 := Own.snocM (xs := ((out) : List LineT)) (y := (LineT.mk no ((ws) ++ [bytesB (wd)]))) (e := eLine) (by simp) o110
 refine A rfl rfl ?_
 refine Sr ?_
 refine A rfl rfl ?_
 refine Sr ?_
 refine V rfl s48 (B rfl rfl rfl (iadd (by omega)) (A rfl rfl ?_))
 refine AWP.region rfl ?_
 refine A rfl rfl ?_
 refine AWP.region rfl ?_
 refine V rfl s47 (B rfl rfl rfl (iadd (by omega)) (A rfl rfl ?_))
 refine AOps.nil ?_
 exact ⟨_, by omega, i + 1, (out) ++ [(LineT.mk no ((ws) ++ [bytesB (wd)]))], no + 1, [], [], false, v108, .snil, .snil, rfl, rfl, rfl, rfl, s50, rfl, o114, rfl, Own.nil _ _ _, rfl, Own.nil _ _ _, (Sep.nilR _), (Sep.nilR _), (Sep.nilL _), m111, by omega, by omega, by omega, by first | omega | (simp <;> omega), by first | omega | (simp <;> omega), by first | omega | (simp <;> omega), by first | (exfalso; omega) | (exfalso; have hl : 0 < (((ws ++ [bytesB wd]).length : Nat) : Int) := (by simp <;> omega); omega) | (rw [hsc, ref_step hi0 (by omega) (bytesL_in hi0 (by omega)) (by unfold badB; omega)]; exact congrArg (refGo ((bytesL s).drop (i + 1).toNat)) (show stepR (byt s i) (RS.mk out no ws wd rem) = RS.mk ((out) ++ [(LineT.mk no ((ws) ++ [bytesB (wd)]))]) (no + 1) ([]) ([]) false from by first | (exfalso; omega) | simp only [stepR, (decide_eq_true b64), (decide_eq_true b65), (eq_true (show 0 < (wd.length : Int) from by omega)), (eq_true (show 0 < (((ws ++ [bytesB wd]).length : Nat) : Int) from by first | omega | (simp <;> omega))), Bool.or_true, Bool.true_or, Bool.or_false, Bool.false_or, if_true, if_false, Bool.false_eq_true, decide_true, decide_false]))⟩
 refine cf_ rfl (decide_eq_false b91) ?_
 refine AWP.skip ?_
 refine Sr ?_
 refine A rfl rfl ?_
 refine Sr ?_
 refine V rfl s48 (B rfl rfl rfl (iadd (by omega)) (A rfl rfl ?_))
 refine AWP.region rfl ?_
 refine A rfl rfl ?_
 refine AWP.region rfl ?_
 refine V rfl s47 (B rfl rfl rfl (iadd (by omega)) (A rfl rfl ?_))
 refine AOps.nil ?_
 exact ⟨_, by omega, i + 1, out, no + 1, [], [], false, w5, .snil, .snil, rfl, rfl, rfl, rfl, s50, s51, o87, rfl, Own.nil _ _ _, rfl, Own.nil _ _ _, (Sep.nilR _), (Sep.nilR _), (Sep.nilL _), m83, by omega, by omega, by omega, by first | omega | (simp <;> omega), by first | omega | (simp <;> omega), by first | omega | (simp <;> omega), by first | (exfalso; omega) | (exfalso; have hl : 0 < (((ws ++ [bytesB wd]).length : Nat) : Int) := (by simp <;> omega); omega) | (rw [hsc, ref_step hi0 (by omega) (bytesL_in hi0 (by omega)) (by unfold badB; omega)]; exact congrArg (refGo ((bytesL s).drop (i + 1).toNat)) (show stepR (byt s i) (RS.mk out no ws wd rem) = RS.mk out (no + 1) ([]) ([]) false from by first | (exfalso; omega) | simp only [stepR, (decide_eq_true b64), (decide_eq_true b65), (eq_true (show 0 < (wd.length : Int) from by omega)), (eq_true (show 0 < (((ws ++ [bytesB wd]).length : Nat) : Int) from by first | omega | (simp <;> omega))), Bool.or_true, Bool.true_or, Bool.or_false, Bool.false_or, if_true, if_false, Bool.false_eq_true, decide_true, decide_false]))⟩
 refine cf_ rfl (decide_eq_false b66) ?_
 refine AWP.skip ?_
 refine AWP.region rfl ?_
 refine A rfl rfl ?_
 refine Sr ?_
 refine V rfl rfl (B rfl rfl rfl ieq ?_)
 refine ct_ rfl (decide_eq_true b64) ?_
 refine AWP.seq ?_
 refine Sr ?_
 refine V rfl s53 (C rfl (AOp.len_own (m := ((ws).length)) rfl rfl o54 u_57 (B rfl rfl rfl rfl ?_)))
 refine AOps.nil ?_
 change AWP _ _ _ _ _ _
 by_cases b117 : (((ws).length) : Int) > 0
 refine ct_ rfl (decide_eq_true b117) ?_
 refine AWP.frz 7 o54 s53 m60 fun H118 m119 k120 => ?_
 have o121 := Own.stay o52 sp57 (fun i hi _ => k120 i hi)
 skip
 refine AWP.region rfl ?_
 refine V rfl s51 (V rfl s48 (V rfl rfl (C rfl (Bl (cells := [.int .i64 no, .sl (ws).length ((ws).map eStr)]) rfl tz_59 pl_59 rfl rfl (C rfl (AOp.buildSlice (cells := [.int .i64 no, .sl (ws).length ((ws).map eStr)]) rfl u_51 ts_59 tz_59 rfl rfl rfl ?_))))))
 intro i123 H124 n125 h126 k127
 have o129 := Own.keep o121 k127 (Own.notnew o121 n125)
 have m133 := Mono.new m119 n125 k127
 refine C rfl (AOp.append_own (es := 2) (m := 1) (len := ((out).length)) (old := (out).flatMap eLine) (cells := [.int .i64 no, .sl (ws).length ((ws).map eStr)]) rfl u_51 ts_59 tzn_59 tb_59 (by decide) ni_51 rfl o129 m133 rfl (.slm h126 rfl) (one_of rfl) (by decide) (by first | omega | (simp; omega)) ?_)
 intro v134 H135 o136 m137 k138 j139
 have o140 := Own.snocM (xs := ((out) : List LineT)) (y := (LineT.mk no (ws))) (e := eLine) (by simp) o136
 refine A rfl rfl ?_
 refine Sr ?_
 refine A rfl rfl ?_
 refine Sr ?_
 refine V rfl s48 (B rfl rfl rfl (iadd (by omega)) (A rfl rfl ?_))
 refine AWP.region rfl ?_
 refine A rfl rfl ?_
 refine AWP.region rfl ?_
 refine V rfl s47 (B rfl rfl rfl (iadd (by omega)) (A rfl rfl ?_))
 refine AOps.nil ?_
 exact ⟨_, by omega, i + 1, (out) ++ [(LineT.mk no (ws))], no + 1, [], [], false, v134, .snil, .snil, rfl, rfl, rfl, rfl, s50, rfl, o140, rfl, Own.nil _ _ _, rfl, Own.nil _ _ _, (Sep.nilR _), (Sep.nilR _), (Sep.nilL _), m137, by omega, by omega, by omega, by first | omega | (simp <;> omega), by first | omega | (simp <;> omega), by first | omega | (simp <;> omega), by first | (exfalso; omega) | (exfalso; have hl : 0 < (((ws ++ [bytesB wd]).length : Nat) : Int) := (by simp <;> omega); omega) | (rw [hsc, ref_step hi0 (by omega) (bytesL_in hi0 (by omega)) (by unfold badB; omega)]; exact congrArg (refGo ((bytesL s).drop (i + 1).toNat)) (show stepR (byt s i) (RS.mk out no ws wd rem) = RS.mk ((out) ++ [(LineT.mk no (ws))]) (no + 1) ([]) ([]) false from by first | (exfalso; omega) | simp only [stepR, (decide_eq_true b64), (decide_eq_true b65), (eq_false (show ¬ 0 < (wd.length : Int) from by omega)), (eq_true (show 0 < (ws.length : Int) from by omega)), (eq_true (show 0 < (((ws ++ [bytesB wd]).length : Nat) : Int) from by first | omega | (simp <;> omega))), Bool.or_true, Bool.true_or, Bool.or_false, Bool.false_or, if_true, if_false, Bool.false_eq_true, decide_true, decide_false]))⟩
 refine cf_ rfl (decide_eq_false b117) ?_
 refine AWP.skip ?_
 refine Sr ?_
 refine A rfl rfl ?_
 refine Sr ?_
 refine V rfl s48 (B rfl rfl rfl (iadd (by omega)) (A rfl rfl ?_))
 refine AWP.region rfl ?_
 refine A rfl rfl ?_
 refine AWP.region rfl ?_
 refine V rfl s47 (B rfl rfl rfl (iadd (by omega)) (A rfl rfl ?_))
 refine AOps.nil ?_
 exact ⟨_, by omega, i + 1, out, no + 1, [], [], false, w5, .snil, .snil, rfl, rfl, rfl, rfl, s50, s51, o52, rfl, Own.nil _ _ _, rfl, Own.nil _ _ _, (Sep.nilR _), (Sep.nilR _), (Sep.nilL _), m60, by omega, by omega, by omega, by first | omega | (simp <;> omega), by first | omega | (simp <;> omega), by first | omega | (simp <;> omega), by first | (exfalso; omega) | (exfalso; have hl : 0 < (((ws ++ [bytesB wd]).length : Nat) : Int) := (by simp <;> omega); omega) | (rw [hsc, ref_step hi0 (by omega) (bytesL_in hi0 (by omega)) (by unfold badB; omega)]; exact congrArg (refGo ((bytesL s).drop (i + 1).toNat)) (show stepR (byt s i) (RS.mk out no ws wd rem) = RS.mk out (no + 1) ([]) ([]) false from by first | (exfalso; omega) | simp only [stepR, (decide_eq_true b64), (decide_eq_true b65), (eq_false (show ¬ 0 < (wd.length : Int) from by omega)), (eq_false (show ¬ 0 < (ws.length : Int) from by omega)), (eq_true (show 0 < (((ws ++ [bytesB wd]).length : Nat) : Int) from by first | omega | (simp <;> omega))), Bool.or_true, Bool.true_or, Bool.or_false, Bool.false_or, if_true, if_false, Bool.false_eq_true, decide_true, decide_false]))⟩
 refine cf_ rfl (decide_eq_false b65) ?_
 refine AWP.skip ?_
 refine AWP.seq ?_
 refine Sr ?_
 refine V rfl rfl (B rfl rfl rfl ieq (V rfl rfl (N rfl rfl (decide_eq_true b64) (N rfl rfl (decide_eq_true b64) (C rfl (Pt _ rfl rfl (decide_eq_true b64) rfl (V rfl rfl (N rfl rfl rfl (C rfl (Pt _ rfl rfl rfl rfl ?_))))))))))
 refine ct_ rfl rfl ?_
 refine AWP.seq ?_
 refine Sr ?_
 refine V rfl s55 (C rfl (AOp.len_own (m := ((wd).length)) rfl rfl o56 u_75 (B rfl rfl rfl rfl ?_)))
 refine AOps.nil ?_
 change AWP _ _ _ _ _ _
 by_cases b143 : (((wd).length) : Int) > 0
 refine ct_ rfl (decide_eq_true b143) ?_
 refine AWP.region rfl ?_
 refine V rfl s53 (V rfl s55 (C rfl (AOp.bytesS (l := ((wd) : List Int)) rfl rfl o56.src u_75 u_5 u_9 (C rfl (AOp.buildSlice (cells := [.str (bytesB (wd))]) rfl u_57 ts_9 tz_9 rfl rfl rfl ?_)))))
 intro i144 H145 n146 h147 k148
 have o150 := Own.keep o52 k148 (Own.notnew o52 n146)
 have o152 := Own.keep o54 k148 (Own.notnew o54 n146)
 have m156 := Mono.new m60 n146 k148
 refine C rfl (AOp.append_own (es := 1) (m := 1) (len := ((ws).length)) (old := (ws).map eStr) (cells := [.str (bytesB (wd))]) rfl u_57 ts_9 tzn_9 tb_9 (by decide) ni_57 rfl o152 m156 rfl (.slm h147 rfl) (one_of rfl) (by decide) (by first | omega | (simp; omega)) ?_)
 intro v157 H158 o159 m160 k161 j162
 have o163 := Own.snoc1 (xs := ((ws) : List ByteArray)) (y := bytesB (wd)) (e := eStr) (by simp) o159
 have sp165 := Own.sep o150 sp57 j162
 have o164 := Own.stay o150 sp57 k161
 refine A rfl rfl ?_
 refine AWP.region rfl ?_
 refine A rfl rfl ?_
 refine Sr ?_
 refine V rfl rfl (B rfl rfl rfl ieq ?_)
 refine ct_ rfl (decide_eq_true b64) ?_
 refine AWP.seq ?_
 refine Sr ?_
 refine V rfl rfl (C rfl (AOp.len_own (m := (((ws) ++ [bytesB (wd)]).length)) rfl rfl o163 u_57 (B rfl rfl rfl rfl ?_)))
 refine AOps.nil ?_
 change AWP _ _ _ _ _ _
 by_cases b168 : ((((ws) ++ [bytesB (wd)]).length) : Int) > 0
 refine ct_ rfl (decide_eq_true b168) ?_
 refine AWP.frz 7 o163 rfl m160 fun H169 m170 k171 => ?_
 have o172 := Own.stay o164 sp165 (fun i hi _ => k171 i hi)
 skip
 refine AWP.region rfl ?_
 refine V rfl s51 (V rfl s48 (V rfl rfl (C rfl (Bl (cells := [.int .i64 no, .sl ((ws) ++ [bytesB (wd)]).length (((ws) ++ [bytesB (wd)]).map eStr)]) rfl tz_59 pl_59 rfl rfl (C rfl (AOp.buildSlice (cells := [.int .i64 no, .sl ((ws) ++ [bytesB (wd)]).length (((ws) ++ [bytesB (wd)]).map eStr)]) rfl u_51 ts_59 tz_59 rfl rfl rfl ?_))))))
 intro i174 H175 n176 h177 k178
 have o180 := Own.keep o172 k178 (Own.notnew o172 n176)
 have m184 := Mono.new m170 n176 k178
 refine C rfl (AOp.append_own (es := 2) (m := 1) (len := ((out).length)) (old := (out).flatMap eLine) (cells := [.int .i64 no, .sl ((ws) ++ [bytesB (wd)]).length (((ws) ++ [bytesB (wd)]).map eStr)]) rfl u_51 ts_59 tzn_59 tb_59 (by decide) ni_51 rfl o180 m184 rfl (.slm h177 rfl) (one_of rfl) (by decide) (by first | omega | (simp; omega)) ?_)
 intro v185 H186 o187 m188 k189 j190
 have o191 := Own.snocM (xs := ((out) : List LineT)) (y := (LineT.mk no ((ws) ++ [bytesB (wd)]))) (e := eLine) (by simp) o187
 refine A rfl rfl ?_
 refine Sr ?_
 refine A rfl rfl ?_
 refine Sr ?_
 refine V rfl s48 (B rfl rfl rfl (iadd (by omega)) (A rfl rfl ?_))
 refine AWP.region rfl ?_
 refine A rfl rfl ?_
 refine AWP.region rfl ?_
 refine V rfl s47 (B rfl rfl rfl (iadd (by omega)) (A rfl rfl ?_))
 refine AOps.nil ?_
 exact ⟨_, by omega, i + 1, (out) ++ [(LineT.mk no ((ws) ++ [bytesB (wd)]))], no + 1, [], [], false, v185, .snil, .snil, rfl, rfl, rfl, rfl, s50, rfl, o191, rfl, Own.nil _ _ _, rfl, Own.nil _ _ _, (Sep.nilR _), (Sep.nilR _), (Sep.nilL _), m188, by omega, by omega, by omega, by first | omega | (simp <;> omega), by first | omega | (simp <;> omega), by first | omega | (simp <;> omega), by first | (exfalso; omega) | (exfalso; have hl : 0 < (((ws ++ [bytesB wd]).length : Nat) : Int) := (by simp <;> omega); omega) | (rw [hsc, ref_step hi0 (by omega) (bytesL_in hi0 (by omega)) (by unfold badB; omega)]; exact congrArg (refGo ((bytesL s).drop (i + 1).toNat)) (show stepR (byt s i) (RS.mk out no ws wd rem) = RS.mk ((out) ++ [(LineT.mk no ((ws) ++ [bytesB (wd)]))]) (no + 1) ([]) ([]) false from by first | (exfalso; omega) | simp only [stepR, (decide_eq_true b64), (decide_eq_false b65), (eq_true (show 0 < (wd.length : Int) from by omega)), (eq_true (show 0 < (((ws ++ [bytesB wd]).length : Nat) : Int) from by first | omega | (simp <;> omega))), Bool.or_true, Bool.true_or, Bool.or_false, Bool.false_or, if_true, if_false, Bool.false_eq_true, decide_true, decide_false]))⟩
 refine cf_ rfl (decide_eq_false b168) ?_
 refine AWP.skip ?_
 refine Sr ?_
 refine A rfl rfl ?_
 refine Sr ?_
 refine V rfl s48 (B rfl rfl rfl (iadd (by omega)) (A rfl rfl ?_))
 refine AWP.region rfl ?_
 refine A rfl rfl ?_
 refine AWP.region rfl ?_
 refine V rfl s47 (B rfl rfl rfl (iadd (by omega)) (A rfl rfl ?_))
 refine AOps.nil ?_
 exact ⟨_, by omega, i + 1, out, no + 1, [], [], false, w5, .snil, .snil, rfl, rfl, rfl, rfl, s50, s51, o164, rfl, Own.nil _ _ _, rfl, Own.nil _ _ _, (Sep.nilR _), (Sep.nilR _), (Sep.nilL _), m160, by omega, by omega, by omega, by first | omega | (simp <;> omega), by first | omega | (simp <;> omega), by first | omega | (simp <;> omega), by first | (exfalso; omega) | (exfalso; have hl : 0 < (((ws ++ [bytesB wd]).length : Nat) : Int) := (by simp <;> omega); omega) | (rw [hsc, ref_step hi0 (by omega) (bytesL_in hi0 (by omega)) (by unfold badB; omega)]; exact congrArg (refGo ((bytesL s).drop (i + 1).toNat)) (show stepR (byt s i) (RS.mk out no ws wd rem) = RS.mk out (no + 1) ([]) ([]) false from by first | (exfalso; omega) | simp only [stepR, (decide_eq_true b64), (decide_eq_false b65), (eq_true (show 0 < (wd.length : Int) from by omega)), (eq_true (show 0 < (((ws ++ [bytesB wd]).length : Nat) : Int) from by first | omega | (simp <;> omega))), Bool.or_true, Bool.true_or, Bool.or_false, Bool.false_or, if_true, if_false, Bool.false_eq_true, decide_true, decide_false]))⟩
 refine cf_ rfl (decide_eq_false b143) ?_
 refine AWP.skip ?_
 refine AWP.region rfl ?_
 refine A rfl rfl ?_
 refine Sr ?_
 refine V rfl rfl (B rfl rfl rfl ieq ?_)
 refine ct_ rfl (decide_eq_true b64) ?_
 refine AWP.seq ?_
 refine Sr ?_
 refine V rfl s53 (C rfl (AOp.len_own (m := ((ws).length)) rfl rfl o54 u_57 (B rfl rfl rfl rfl ?_)))
 refine AOps.nil ?_
 change AWP _ _ _ _ _ _
 by_cases b194 : (((ws).length) : Int) > 0
 refine ct_ rfl (decide_eq_true b194) ?_
 refine AWP.frz 7 o54 s53 m60 fun H195 m196 k197 => ?_
 have o198 := Own.stay o52 sp57 (fun i hi _ => k197 i hi)
 skip
 refine AWP.region rfl ?_
 refine V rfl s51 (V rfl s48 (V rfl rfl (C rfl (Bl (cells := [.int .i64 no, .sl (ws).length ((ws).map eStr)]) rfl tz_59 pl_59 rfl rfl (C rfl (AOp.buildSlice (cells := [.int .i64 no, .sl (ws).length ((ws).map eStr)]) rfl u_51 ts_59 tz_59 rfl rfl rfl ?_))))))
 intro i200 H201 n202 h203 k204
 have o206 := Own.keep o198 k204 (Own.notnew o198 n202)
 have m210 := Mono.new m196 n202 k204
 refine C rfl (AOp.append_own (es := 2) (m := 1) (len := ((out).length)) (old := (out).flatMap eLine) (cells := [.int .i64 no, .sl (ws).length ((ws).map eStr)]) rfl u_51 ts_59 tzn_59 tb_59 (by decide) ni_51 rfl o206 m210 rfl (.slm h203 rfl) (one_of rfl) (by decide) (by first | omega | (simp; omega)) ?_)
 intro v211 H212 o213 m214 k215 j216
 have o217 := Own.snocM (xs := ((out) : List LineT)) (y := (LineT.mk no (ws))) (e := eLine) (by simp) o213
 refine A rfl rfl ?_
 refine Sr ?_
 refine A rfl rfl ?_
 refine Sr ?_
 refine V rfl s48 (B rfl rfl rfl (iadd (by omega)) (A rfl rfl ?_))
 refine AWP.region rfl ?_
 refine A rfl rfl ?_
 refine AWP.region rfl ?_
 refine V rfl s47 (B rfl rfl rfl (iadd (by omega)) (A rfl rfl ?_))
 refine AOps.nil ?_
 exact ⟨_, by omega, i + 1, (out) ++ [(LineT.mk no (ws))], no + 1, [], [], false, v211, .snil, .snil, rfl, rfl, rfl, rfl, s50, rfl, o217, rfl, Own.nil _ _ _, rfl, Own.nil _ _ _, (Sep.nilR _), (Sep.nilR _), (Sep.nilL _), m214, by omega, by omega, by omega, by first | omega | (simp <;> omega), by first | omega | (simp <;> omega), by first | omega | (simp <;> omega), by first | (exfalso; omega) | (exfalso; have hl : 0 < (((ws ++ [bytesB wd]).length : Nat) : Int) := (by simp <;> omega); omega) | (rw [hsc, ref_step hi0 (by omega) (bytesL_in hi0 (by omega)) (by unfold badB; omega)]; exact congrArg (refGo ((bytesL s).drop (i + 1).toNat)) (show stepR (byt s i) (RS.mk out no ws wd rem) = RS.mk ((out) ++ [(LineT.mk no (ws))]) (no + 1) ([]) ([]) false from by first | (exfalso; omega) | simp only [stepR, (decide_eq_true b64), (decide_eq_false b65), (eq_false (show ¬ 0 < (wd.length : Int) from by omega)), (eq_true (show 0 < (ws.length : Int) from by omega)), (eq_true (show 0 < (((ws ++ [bytesB wd]).length : Nat) : Int) from by first | omega | (simp <;> omega))), Bool.or_true, Bool.true_or, Bool.or_false, Bool.false_or, if_true, if_false, Bool.false_eq_true, decide_true, decide_false]))⟩
 refine cf_ rfl (decide_eq_false b194) ?_
 refine AWP.skip ?_
 refine Sr ?_
 refine A rfl rfl ?_
 refine Sr ?_
 refine V rfl s48 (B rfl rfl rfl (iadd (by omega)) (A rfl rfl ?_))
 refine AWP.region rfl ?_
 refine A rfl rfl ?_
 refine AWP.region rfl ?_
 refine V rfl s47 (B rfl rfl rfl (iadd (by omega)) (A rfl rfl ?_))
 refine AOps.nil ?_
 exact ⟨_, by omega, i + 1, out, no + 1, [], [], false, w5, .snil, .snil, rfl, rfl, rfl, rfl, s50, s51, o52, rfl, Own.nil _ _ _, rfl, Own.nil _ _ _, (Sep.nilR _), (Sep.nilR _), (Sep.nilL _), m60, by omega, by omega, by omega, by first | omega | (simp <;> omega), by first | omega | (simp <;> omega), by first | omega | (simp <;> omega), by first | (exfalso; omega) | (exfalso; have hl : 0 < (((ws ++ [bytesB wd]).length : Nat) : Int) := (by simp <;> omega); omega) | (rw [hsc, ref_step hi0 (by omega) (bytesL_in hi0 (by omega)) (by unfold badB; omega)]; exact congrArg (refGo ((bytesL s).drop (i + 1).toNat)) (show stepR (byt s i) (RS.mk out no ws wd rem) = RS.mk out (no + 1) ([]) ([]) false from by first | (exfalso; omega) | simp only [stepR, (decide_eq_true b64), (decide_eq_false b65), (eq_false (show ¬ 0 < (wd.length : Int) from by omega)), (eq_false (show ¬ 0 < (ws.length : Int) from by omega)), (eq_true (show 0 < (((ws ++ [bytesB wd]).length : Nat) : Int) from by first | omega | (simp <;> omega))), Bool.or_true, Bool.true_or, Bool.or_false, Bool.false_or, if_true, if_false, Bool.false_eq_true, decide_true, decide_false]))⟩
 refine Y rfl rfl rfl (nb (decide_eq_false b64)) (Mv _ rfl rfl (Y rfl rfl rfl (nb (decide_eq_false b64)) (Bi _ rfl rfl rfl rfl (Y rfl rfl rfl (nb (decide_eq_false b64)) (Mv _ rfl rfl ?_)))))
 by_cases b220 : byt s i < 32
 refine N rfl rfl (decide_eq_true b220) (N rfl rfl (decide_eq_true b220) (Y rfl rfl rfl (nb (decide_eq_false b64)) (Pt _ rfl rfl (decide_eq_true b220) rfl (C rfl (Pt _ rfl rfl (nb (decide_eq_false b64)) rfl ?_)))))
 refine ct_ rfl rfl ?_
 refine Sr ?_
 refine V rfl s48 (A rfl rfl (A rfl rfl (A rfl rfl ?_)))
 refine rt_ ?_
 refine Fin.frz 2 (Own.nil H0 H45 1) rfl m60 fun H221 m222 k223 => ?_
 refine Rr (Res.three rfl rfl rfl rfl) ?_ m222
 exact congrArg AV.tup (lc (congrArg (fun l : List LineT => AV.sl l.length (l.flatMap eLine)) (show ([] : List LineT) = (refR s).1 from by rw [hsc, ref_bad hi0 (by omega) (bytesL_in hi0 (by omega)) (by unfold badB; omega)])) (lc (congrArg (AV.int .i64) (show (no : Int) = (refR s).2.1 from by rw [hsc, ref_bad hi0 (by omega) (bytesL_in hi0 (by omega)) (by unfold badB; omega)])) (lc (congrArg (AV.int .i64) (show (10 : Int) = (refR s).2.2 from by rw [hsc, ref_bad hi0 (by omega) (bytesL_in hi0 (by omega)) (by unfold badB; omega)])) rfl)))
 refine Y rfl rfl rfl (decide_eq_false b220) (Mv _ rfl rfl (Y rfl rfl rfl (decide_eq_false b220) (Bi _ rfl rfl rfl rfl (Y rfl rfl rfl (nb (decide_eq_false b64)) (Pf _ rfl rfl (decide_eq_false b220) rfl (C rfl (Pt _ rfl rfl (nb (decide_eq_false b64)) rfl ?_)))))))
 refine AOps.nil ?_
 change AWP _ _ _ _ _ _
 by_cases b227 : byt s i > 126
 refine ct_ rfl (decide_eq_true b227) ?_
 refine Sr ?_
 refine V rfl s48 (A rfl rfl (A rfl rfl (A rfl rfl ?_)))
 refine rt_ ?_
 refine Fin.frz 2 (Own.nil H0 H45 1) rfl m60 fun H228 m229 k230 => ?_
 refine Rr (Res.three rfl rfl rfl rfl) ?_ m229
 exact congrArg AV.tup (lc (congrArg (fun l : List LineT => AV.sl l.length (l.flatMap eLine)) (show ([] : List LineT) = (refR s).1 from by rw [hsc, ref_bad hi0 (by omega) (bytesL_in hi0 (by omega)) (by unfold badB; omega)])) (lc (congrArg (AV.int .i64) (show (no : Int) = (refR s).2.1 from by rw [hsc, ref_bad hi0 (by omega) (bytesL_in hi0 (by omega)) (by unfold badB; omega)])) (lc (congrArg (AV.int .i64) (show (10 : Int) = (refR s).2.2 from by rw [hsc, ref_bad hi0 (by omega) (bytesL_in hi0 (by omega)) (by unfold badB; omega)])) rfl)))
 refine cf_ rfl (decide_eq_false b227) ?_
 refine AWP.skip ?_
 refine AWP.seq ?_
 refine Sr ?_
 refine V rfl rfl (B rfl rfl rfl ieq ?_)
 refine AOps.nil ?_
 change AWP _ _ _ _ _ _
 by_cases b234 : byt s i = 35
 refine ct_ rfl (decide_eq_true b234) ?_
 refine AWP.region rfl ?_
 refine A rfl rfl ?_
 refine AWP.seq ?_
 refine Sr ?_
 refine V rfl rfl (B rfl rfl rfl ieq (V rfl rfl (Y rfl rfl rfl (decide_eq_false b64) (Mv _ rfl rfl (Y rfl rfl rfl (decide_eq_false b64) (Bi _ rfl rfl rfl ieq (C rfl (Pf _ rfl rfl (decide_eq_false b64) rfl (V rfl rfl ?_)))))))))
 by_cases b235 : byt s i = 32
 refine N rfl rfl (decide_eq_true b235) (C rfl (Pt _ rfl rfl (decide_eq_true b235) rfl ?_))
 refine ct_ rfl rfl ?_
 refine AWP.seq ?_
 refine Sr ?_
 refine V rfl s55 (C rfl (AOp.len_own (m := ((wd).length)) rfl rfl o56 u_75 (B rfl rfl rfl rfl ?_)))
 refine AOps.nil ?_
 change AWP _ _ _ _ _ _
 by_cases b236 : (((wd).length) : Int) > 0
 refine ct_ rfl (decide_eq_true b236) ?_
 refine AWP.region rfl ?_
 refine V rfl s53 (V rfl s55 (C rfl (AOp.bytesS (l := ((wd) : List Int)) rfl rfl o56.src u_75 u_5 u_9 (C rfl (AOp.buildSlice (cells := [.str (bytesB (wd))]) rfl u_57 ts_9 tz_9 rfl rfl rfl ?_)))))
 intro i237 H238 n239 h240 k241
 have o243 := Own.keep o52 k241 (Own.notnew o52 n239)
 have o245 := Own.keep o54 k241 (Own.notnew o54 n239)
 have m249 := Mono.new m60 n239 k241
 refine C rfl (AOp.append_own (es := 1) (m := 1) (len := ((ws).length)) (old := (ws).map eStr) (cells := [.str (bytesB (wd))]) rfl u_57 ts_9 tzn_9 tb_9 (by decide) ni_57 rfl o245 m249 rfl (.slm h240 rfl) (one_of rfl) (by decide) (by first | omega | (simp; omega)) ?_)
 intro v250 H251 o252 m253 k254 j255
 have o256 := Own.snoc1 (xs := ((ws) : List ByteArray)) (y := bytesB (wd)) (e := eStr) (by simp) o252
 have sp258 := Own.sep o243 sp57 j255
 have o257 := Own.stay o243 sp57 k254
 refine A rfl rfl ?_
 refine AWP.region rfl ?_
 refine A rfl rfl ?_
 refine Sr ?_
 refine V rfl rfl (B rfl rfl rfl ieq ?_)
 refine cf_ rfl (decide_eq_false b64) ?_
 refine AWP.skip ?_
 refine AWP.region rfl ?_
 refine V rfl s47 (B rfl rfl rfl (iadd (by omega)) (A rfl rfl ?_))
 refine AOps.nil ?_
 exact ⟨_, by omega, i + 1, out, no, (ws) ++ [bytesB (wd)], [], true, w5, v250, .snil, rfl, rfl, s48, rfl, s50, s51, o257, rfl, o256, rfl, Own.nil _ _ _, sp258, (Sep.nilR _), (Sep.nilR _), m253, by omega, by omega, by omega, by first | omega | (simp <;> omega), by first | omega | (simp <;> omega), by first | omega | (simp <;> omega), by first | (exfalso; omega) | (exfalso; have hl : 0 < (((ws ++ [bytesB wd]).length : Nat) : Int) := (by simp <;> omega); omega) | (rw [hsc, ref_step hi0 (by omega) (bytesL_in hi0 (by omega)) (by unfold badB; omega)]; exact congrArg (refGo ((bytesL s).drop (i + 1).toNat)) (show stepR (byt s i) (RS.mk out no ws wd rem) = RS.mk out no ((ws) ++ [bytesB (wd)]) ([]) true from by first | (exfalso; omega) | simp only [stepR, (decide_eq_false b64), (decide_eq_true b234), (decide_eq_true b235), (eq_true (show 0 < (wd.length : Int) from by omega)), (eq_true (show 0 < (((ws ++ [bytesB wd]).length : Nat) : Int) from by first | omega | (simp <;> omega))), Bool.or_true, Bool.true_or, Bool.or_false, Bool.false_or, if_true, if_false, Bool.false_eq_true, decide_true, decide_false]))⟩
 refine cf_ rfl (decide_eq_false b236) ?_
 refine AWP.skip ?_
 refine AWP.region rfl ?_
 refine A rfl rfl ?_
 refine Sr ?_
 refine V rfl rfl (B rfl rfl rfl ieq ?_)
 refine cf_ rfl (decide_eq_false b64) ?_
 refine AWP.skip ?_
 refine AWP.region rfl ?_
 refine V rfl s47 (B rfl rfl rfl (iadd (by omega)) (A rfl rfl ?_))
 refine AOps.nil ?_
 exact ⟨_, by omega, i + 1, out, no, ws, [], true, w5, w7, .snil, rfl, rfl, s48, rfl, s50, s51, o52, s53, o54, rfl, Own.nil _ _ _, sp57, (Sep.nilR _), (Sep.nilR _), m60, by omega, by omega, by omega, by first | omega | (simp <;> omega), by first | omega | (simp <;> omega), by first | omega | (simp <;> omega), by first | (exfalso; omega) | (exfalso; have hl : 0 < (((ws ++ [bytesB wd]).length : Nat) : Int) := (by simp <;> omega); omega) | (rw [hsc, ref_step hi0 (by omega) (bytesL_in hi0 (by omega)) (by unfold badB; omega)]; exact congrArg (refGo ((bytesL s).drop (i + 1).toNat)) (show stepR (byt s i) (RS.mk out no ws wd rem) = RS.mk out no ws ([]) true from by first | (exfalso; omega) | simp only [stepR, (decide_eq_false b64), (decide_eq_true b234), (decide_eq_true b235), (eq_false (show ¬ 0 < (wd.length : Int) from by omega)), (eq_true (show 0 < (((ws ++ [bytesB wd]).length : Nat) : Int) from by first | omega | (simp <;> omega))), Bool.or_true, Bool.true_or, Bool.or_false, Bool.false_or, if_true, if_false, Bool.false_eq_true, decide_true, decide_false]))⟩
 refine Y rfl rfl rfl (decide_eq_false b235) (Mv _ rfl rfl (C rfl (Pf _ rfl rfl (decide_eq_false b235) rfl ?_)))
 refine ct_ rfl rfl ?_
 refine AWP.seq ?_
 refine Sr ?_
 refine V rfl s55 (C rfl (AOp.len_own (m := ((wd).length)) rfl rfl o56 u_75 (B rfl rfl rfl rfl ?_)))
 refine AOps.nil ?_
 change AWP _ _ _ _ _ _
 by_cases b261 : (((wd).length) : Int) > 0
 refine ct_ rfl (decide_eq_true b261) ?_
 refine AWP.region rfl ?_
 refine V rfl s53 (V rfl s55 (C rfl (AOp.bytesS (l := ((wd) : List Int)) rfl rfl o56.src u_75 u_5 u_9 (C rfl (AOp.buildSlice (cells := [.str (bytesB (wd))]) rfl u_57 ts_9 tz_9 rfl rfl rfl ?_)))))
 intro i262 H263 n264 h265 k266
 have o268 := Own.keep o52 k266 (Own.notnew o52 n264)
 have o270 := Own.keep o54 k266 (Own.notnew o54 n264)
 have m274 := Mono.new m60 n264 k266
 refine C rfl (AOp.append_own (es := 1) (m := 1) (len := ((ws).length)) (old := (ws).map eStr) (cells := [.str (bytesB (wd))]) rfl u_57 ts_9 tzn_9 tb_9 (by decide) ni_57 rfl o270 m274 rfl (.slm h265 rfl) (one_of rfl) (by decide) (by first | omega | (simp; omega)) ?_)
 intro v275 H276 o277 m278 k279 j280
 have o281 := Own.snoc1 (xs := ((ws) : List ByteArray)) (y := bytesB (wd)) (e := eStr) (by simp) o277
 have sp283 := Own.sep o268 sp57 j280
 have o282 := Own.stay o268 sp57 k279
 refine A rfl rfl ?_
 refine AWP.region rfl ?_
 refine A rfl rfl ?_
 refine Sr ?_
 refine V rfl rfl (B rfl rfl rfl ieq ?_)
 refine cf_ rfl (decide_eq_false b64) ?_
 refine AWP.skip ?_
 refine AWP.region rfl ?_
 refine V rfl s47 (B rfl rfl rfl (iadd (by omega)) (A rfl rfl ?_))
 refine AOps.nil ?_
 exact ⟨_, by omega, i + 1, out, no, (ws) ++ [bytesB (wd)], [], true, w5, v275, .snil, rfl, rfl, s48, rfl, s50, s51, o282, rfl, o281, rfl, Own.nil _ _ _, sp283, (Sep.nilR _), (Sep.nilR _), m278, by omega, by omega, by omega, by first | omega | (simp <;> omega), by first | omega | (simp <;> omega), by first | omega | (simp <;> omega), by first | (exfalso; omega) | (exfalso; have hl : 0 < (((ws ++ [bytesB wd]).length : Nat) : Int) := (by simp <;> omega); omega) | (rw [hsc, ref_step hi0 (by omega) (bytesL_in hi0 (by omega)) (by unfold badB; omega)]; exact congrArg (refGo ((bytesL s).drop (i + 1).toNat)) (show stepR (byt s i) (RS.mk out no ws wd rem) = RS.mk out no ((ws) ++ [bytesB (wd)]) ([]) true from by first | (exfalso; omega) | simp only [stepR, (decide_eq_false b64), (decide_eq_true b234), (decide_eq_false b235), (eq_true (show 0 < (wd.length : Int) from by omega)), (eq_true (show 0 < (((ws ++ [bytesB wd]).length : Nat) : Int) from by first | omega | (simp <;> omega))), Bool.or_true, Bool.true_or, Bool.or_false, Bool.false_or, if_true, if_false, Bool.false_eq_true, decide_true, decide_false]))⟩
 refine cf_ rfl (decide_eq_false b261) ?_
 refine AWP.skip ?_
 refine AWP.region rfl ?_
 refine A rfl rfl ?_
 refine Sr ?_
 refine V rfl rfl (B rfl rfl rfl ieq ?_)
 refine cf_ rfl (decide_eq_false b64) ?_
 refine AWP.skip ?_
 refine AWP.region rfl ?_
 refine V rfl s47 (B rfl rfl rfl (iadd (by omega)) (A rfl rfl ?_))
 refine AOps.nil ?_
 exact ⟨_, by omega, i + 1, out, no, ws, [], true, w5, w7, .snil, rfl, rfl, s48, rfl, s50, s51, o52, s53, o54, rfl, Own.nil _ _ _, sp57, (Sep.nilR _), (Sep.nilR _), m60, by omega, by omega, by omega, by first | omega | (simp <;> omega), by first | omega | (simp <;> omega), by first | omega | (simp <;> omega), by first | (exfalso; omega) | (exfalso; have hl : 0 < (((ws ++ [bytesB wd]).length : Nat) : Int) := (by simp <;> omega); omega) | (rw [hsc, ref_step hi0 (by omega) (bytesL_in hi0 (by omega)) (by unfold badB; omega)]; exact congrArg (refGo ((bytesL s).drop (i + 1).toNat)) (show stepR (byt s i) (RS.mk out no ws wd rem) = RS.mk out no ws ([]) true from by first | (exfalso; omega) | simp only [stepR, (decide_eq_false b64), (decide_eq_true b234), (decide_eq_false b235), (eq_false (show ¬ 0 < (wd.length : Int) from by omega)), (eq_true (show 0 < (((ws ++ [bytesB wd]).length : Nat) : Int) from by first | omega | (simp <;> omega))), Bool.or_true, Bool.true_or, Bool.or_false, Bool.false_or, if_true, if_false, Bool.false_eq_true, decide_true, decide_false]))⟩
 refine cf_ rfl (decide_eq_false b234) ?_
 refine AWP.skip ?_
 refine AWP.seq ?_
 refine Sr ?_
 refine V rfl rfl (B rfl rfl rfl ieq (V rfl rfl (Y rfl rfl rfl (decide_eq_false b64) (Mv _ rfl rfl (Y rfl rfl rfl (decide_eq_false b64) (Bi _ rfl rfl rfl ieq (C rfl (Pf _ rfl rfl (decide_eq_false b64) rfl (V rfl rfl ?_)))))))))
 by_cases b286 : byt s i = 32
 refine N rfl rfl (decide_eq_true b286) (C rfl (Pt _ rfl rfl (decide_eq_true b286) rfl ?_))
 refine ct_ rfl rfl ?_
 refine AWP.seq ?_
 refine Sr ?_
 refine V rfl s55 (C rfl (AOp.len_own (m := ((wd).length)) rfl rfl o56 u_75 (B rfl rfl rfl rfl ?_)))
 refine AOps.nil ?_
 change AWP _ _ _ _ _ _
 by_cases b287 : (((wd).length) : Int) > 0
 refine ct_ rfl (decide_eq_true b287) ?_
 refine AWP.region rfl ?_
 refine V rfl s53 (V rfl s55 (C rfl (AOp.bytesS (l := ((wd) : List Int)) rfl rfl o56.src u_75 u_5 u_9 (C rfl (AOp.buildSlice (cells := [.str (bytesB (wd))]) rfl u_57 ts_9 tz_9 rfl rfl rfl ?_)))))
 intro i288 H289 n290 h291 k292
 have o294 := Own.keep o52 k292 (Own.notnew o52 n290)
 have o296 := Own.keep o54 k292 (Own.notnew o54 n290)
 have m300 := Mono.new m60 n290 k292
 refine C rfl (AOp.append_own (es := 1) (m := 1) (len := ((ws).length)) (old := (ws).map eStr) (cells := [.str (bytesB (wd))]) rfl u_57 ts_9 tzn_9 tb_9 (by decide) ni_57 rfl o296 m300 rfl (.slm h291 rfl) (one_of rfl) (by decide) (by first | omega | (simp; omega)) ?_)
 intro v301 H302 o303 m304 k305 j306
 have o307 := Own.snoc1 (xs := ((ws) : List ByteArray)) (y := bytesB (wd)) (e := eStr) (by simp) o303
 have sp309 := Own.sep o294 sp57 j306
 have o308 := Own.stay o294 sp57 k305
 refine A rfl rfl ?_
 refine AWP.region rfl ?_
 refine A rfl rfl ?_
 refine Sr ?_
 refine V rfl rfl (B rfl rfl rfl ieq ?_)
 refine cf_ rfl (decide_eq_false b64) ?_
 refine AWP.skip ?_
 refine AWP.region rfl ?_
 refine V rfl s47 (B rfl rfl rfl (iadd (by omega)) (A rfl rfl ?_))
 refine AOps.nil ?_
 exact ⟨_, by omega, i + 1, out, no, (ws) ++ [bytesB (wd)], [], rem, w5, v301, .snil, rfl, rfl, s48, s49, s50, s51, o308, rfl, o307, rfl, Own.nil _ _ _, sp309, (Sep.nilR _), (Sep.nilR _), m304, by omega, by omega, by omega, by first | omega | (simp <;> omega), by first | omega | (simp <;> omega), by first | omega | (simp <;> omega), by first | (exfalso; omega) | (exfalso; have hl : 0 < (((ws ++ [bytesB wd]).length : Nat) : Int) := (by simp <;> omega); omega) | (rw [hsc, ref_step hi0 (by omega) (bytesL_in hi0 (by omega)) (by unfold badB; omega)]; exact congrArg (refGo ((bytesL s).drop (i + 1).toNat)) (show stepR (byt s i) (RS.mk out no ws wd rem) = RS.mk out no ((ws) ++ [bytesB (wd)]) ([]) rem from by first | (exfalso; omega) | simp only [stepR, (decide_eq_false b64), (decide_eq_false b234), (decide_eq_true b286), (eq_true (show 0 < (wd.length : Int) from by omega)), (eq_true (show 0 < (((ws ++ [bytesB wd]).length : Nat) : Int) from by first | omega | (simp <;> omega))), Bool.or_true, Bool.true_or, Bool.or_false, Bool.false_or, if_true, if_false, Bool.false_eq_true, decide_true, decide_false]))⟩
 refine cf_ rfl (decide_eq_false b287) ?_
 refine AWP.skip ?_
 refine AWP.region rfl ?_
 refine A rfl rfl ?_
 refine Sr ?_
 refine V rfl rfl (B rfl rfl rfl ieq ?_)
 refine cf_ rfl (decide_eq_false b64) ?_
 refine AWP.skip ?_
 refine AWP.region rfl ?_
 refine V rfl s47 (B rfl rfl rfl (iadd (by omega)) (A rfl rfl ?_))
 refine AOps.nil ?_
 exact ⟨_, by omega, i + 1, out, no, ws, [], rem, w5, w7, .snil, rfl, rfl, s48, s49, s50, s51, o52, s53, o54, rfl, Own.nil _ _ _, sp57, (Sep.nilR _), (Sep.nilR _), m60, by omega, by omega, by omega, by first | omega | (simp <;> omega), by first | omega | (simp <;> omega), by first | omega | (simp <;> omega), by first | (exfalso; omega) | (exfalso; have hl : 0 < (((ws ++ [bytesB wd]).length : Nat) : Int) := (by simp <;> omega); omega) | (rw [hsc, ref_step hi0 (by omega) (bytesL_in hi0 (by omega)) (by unfold badB; omega)]; exact congrArg (refGo ((bytesL s).drop (i + 1).toNat)) (show stepR (byt s i) (RS.mk out no ws wd rem) = RS.mk out no ws ([]) rem from by first | (exfalso; omega) | simp only [stepR, (decide_eq_false b64), (decide_eq_false b234), (decide_eq_true b286), (eq_false (show ¬ 0 < (wd.length : Int) from by omega)), (eq_true (show 0 < (((ws ++ [bytesB wd]).length : Nat) : Int) from by first | omega | (simp <;> omega))), Bool.or_true, Bool.true_or, Bool.or_false, Bool.false_or, if_true, if_false, Bool.false_eq_true, decide_true, decide_false]))⟩
 refine Y rfl rfl rfl (decide_eq_false b286) (Mv _ rfl s49 (C rfl (Pf _ rfl rfl (decide_eq_false b286) rfl ?_)))
 refine AOps.nil ?_
 change AWP _ _ _ _ _ _
 rcases Bool.eq_false_or_eq_true (rem) with b312 | b312
 refine ct_ rfl b312 ?_
 refine AWP.seq ?_
 refine Sr ?_
 refine V rfl s55 (C rfl (AOp.len_own (m := ((wd).length)) rfl rfl o56 u_75 (B rfl rfl rfl rfl ?_)))
 refine AOps.nil ?_
 change AWP _ _ _ _ _ _
 by_cases b313 : (((wd).length) : Int) > 0
 refine ct_ rfl (decide_eq_true b313) ?_
 refine AWP.region rfl ?_
 refine V rfl s53 (V rfl s55 (C rfl (AOp.bytesS (l := ((wd) : List Int)) rfl rfl o56.src u_75 u_5 u_9 (C rfl (AOp.buildSlice (cells := [.str (bytesB (wd))]) rfl u_57 ts_9 tz_9 rfl rfl rfl ?_)))))
 intro i314 H315 n316 h317 k318
 have o320 := Own.keep o52 k318 (Own.notnew o52 n316)
 have o322 := Own.keep o54 k318 (Own.notnew o54 n316)
 have m326 := Mono.new m60 n316 k318
 refine C rfl (AOp.append_own (es := 1) (m := 1) (len := ((ws).length)) (old := (ws).map eStr) (cells := [.str (bytesB (wd))]) rfl u_57 ts_9 tzn_9 tb_9 (by decide) ni_57 rfl o322 m326 rfl (.slm h317 rfl) (one_of rfl) (by decide) (by first | omega | (simp; omega)) ?_)
 intro v327 H328 o329 m330 k331 j332
 have o333 := Own.snoc1 (xs := ((ws) : List ByteArray)) (y := bytesB (wd)) (e := eStr) (by simp) o329
 have sp335 := Own.sep o320 sp57 j332
 have o334 := Own.stay o320 sp57 k331
 refine A rfl rfl ?_
 refine AWP.region rfl ?_
 refine A rfl rfl ?_
 refine Sr ?_
 refine V rfl rfl (B rfl rfl rfl ieq ?_)
 refine cf_ rfl (decide_eq_false b64) ?_
 refine AWP.skip ?_
 refine AWP.region rfl ?_
 refine V rfl s47 (B rfl rfl rfl (iadd (by omega)) (A rfl rfl ?_))
 refine AOps.nil ?_
 exact ⟨_, by omega, i + 1, out, no, (ws) ++ [bytesB (wd)], [], rem, w5, v327, .snil, rfl, rfl, s48, s49, s50, s51, o334, rfl, o333, rfl, Own.nil _ _ _, sp335, (Sep.nilR _), (Sep.nilR _), m330, by omega, by omega, by omega, by first | omega | (simp <;> omega), by first | omega | (simp <;> omega), by first | omega | (simp <;> omega), by first | (exfalso; omega) | (exfalso; have hl : 0 < (((ws ++ [bytesB wd]).length : Nat) : Int) := (by simp <;> omega); omega) | (rw [hsc, ref_step hi0 (by omega) (bytesL_in hi0 (by omega)) (by unfold badB; omega)]; exact congrArg (refGo ((bytesL s).drop (i + 1).toNat)) (show stepR (byt s i) (RS.mk out no ws wd rem) = RS.mk out no ((ws) ++ [bytesB (wd)]) ([]) rem from by first | (exfalso; omega) | simp only [stepR, (decide_eq_false b64), (decide_eq_false b234), (decide_eq_false b286), b312, (eq_true (show 0 < (wd.length : Int) from by omega)), (eq_true (show 0 < (((ws ++ [bytesB wd]).length : Nat) : Int) from by first | omega | (simp <;> omega))), Bool.or_true, Bool.true_or, Bool.or_false, Bool.false_or, if_true, if_false, Bool.false_eq_true, decide_true, decide_false]))⟩
 refine cf_ rfl (decide_eq_false b313) ?_
 refine AWP.skip ?_
 refine AWP.region rfl ?_
 refine A rfl rfl ?_
 refine Sr ?_
 refine V rfl rfl (B rfl rfl rfl ieq ?_)
 refine cf_ rfl (decide_eq_false b64) ?_
 refine AWP.skip ?_
 refine AWP.region rfl ?_
 refine V rfl s47 (B rfl rfl rfl (iadd (by omega)) (A rfl rfl ?_))
 refine AOps.nil ?_
 exact ⟨_, by omega, i + 1, out, no, ws, [], rem, w5, w7, .snil, rfl, rfl, s48, s49, s50, s51, o52, s53, o54, rfl, Own.nil _ _ _, sp57, (Sep.nilR _), (Sep.nilR _), m60, by omega, by omega, by omega, by first | omega | (simp <;> omega), by first | omega | (simp <;> omega), by first | omega | (simp <;> omega), by first | (exfalso; omega) | (exfalso; have hl : 0 < (((ws ++ [bytesB wd]).length : Nat) : Int) := (by simp <;> omega); omega) | (rw [hsc, ref_step hi0 (by omega) (bytesL_in hi0 (by omega)) (by unfold badB; omega)]; exact congrArg (refGo ((bytesL s).drop (i + 1).toNat)) (show stepR (byt s i) (RS.mk out no ws wd rem) = RS.mk out no ws ([]) rem from by first | (exfalso; omega) | simp only [stepR, (decide_eq_false b64), (decide_eq_false b234), (decide_eq_false b286), b312, (eq_false (show ¬ 0 < (wd.length : Int) from by omega)), (eq_true (show 0 < (((ws ++ [bytesB wd]).length : Nat) : Int) from by first | omega | (simp <;> omega))), Bool.or_true, Bool.true_or, Bool.or_false, Bool.false_or, if_true, if_false, Bool.false_eq_true, decide_true, decide_false]))⟩
 refine cf_ rfl b312 ?_
 refine AWP.region rfl ?_
 refine V rfl s55 (V rfl rfl (C rfl (AOp.buildSlice (cells := [.int .u8 (byt s i)]) rfl u_75 ts_5 tz_5 rfl rfl rfl ?_)))
 intro i338 H339 n340 h341 k342
 have o344 := Own.keep o52 k342 (Own.notnew o52 n340)
 have o346 := Own.keep o54 k342 (Own.notnew o54 n340)
 have o348 := Own.keep o56 k342 (Own.notnew o56 n340)
 have m350 := Mono.new m60 n340 k342
 refine C rfl (AOp.append_own (es := 1) (m := 1) (len := ((wd).length)) (old := (wd).map eI_u8) (cells := [.int .u8 (byt s i)]) rfl u_75 ts_5 tzn_5 tb_5 (by decide) ni_75 rfl o348 m350 rfl (.slm h341 rfl) (one_of rfl) (by decide) (by first | omega | (simp; omega)) ?_)
 intro v351 H352 o353 m354 k355 j356
 have o357 := Own.snoc1 (xs := ((wd) : List Int)) (y := byt s i) (e := eI_u8) (by simp) o353
 have sp359 := Own.sep o344 sp58 j356
 have o358 := Own.stay o344 sp58 k355
 have sp361 := Own.sep o346 sp59 j356
 have o360 := Own.stay o346 sp59 k355
 refine A rfl rfl ?_
 refine Sr ?_
 refine V rfl rfl (B rfl rfl rfl ieq ?_)
 refine cf_ rfl (decide_eq_false b64) ?_
 refine AWP.skip ?_
 refine AWP.region rfl ?_
 refine V rfl s47 (B rfl rfl rfl (iadd (by omega)) (A rfl rfl ?_))
 refine AOps.nil ?_
 exact ⟨_, by omega, i + 1, out, no, ws, (wd) ++ [byt s i], rem, w5, w7, v351, rfl, rfl, s48, s49, s50, s51, o358, s53, o360, rfl, o357, sp57, sp359, sp361, m354, by omega, by omega, by omega, by first | omega | (simp <;> omega), by first | omega | (simp <;> omega), by first | omega | (simp <;> omega), by first | (exfalso; omega) | (exfalso; have hl : 0 < (((ws ++ [bytesB wd]).length : Nat) : Int) := (by simp <;> omega); omega) | (rw [hsc, ref_step hi0 (by omega) (bytesL_in hi0 (by omega)) (by unfold badB; omega)]; exact congrArg (refGo ((bytesL s).drop (i + 1).toNat)) (show stepR (byt s i) (RS.mk out no ws wd rem) = RS.mk out no ws ((wd) ++ [byt s i]) rem from by first | (exfalso; omega) | simp only [stepR, (decide_eq_false b64), (decide_eq_false b234), (decide_eq_false b286), b312, (eq_true (show 0 < (((ws ++ [bytesB wd]).length : Nat) : Int) from by first | omega | (simp <;> omega))), Bool.or_true, Bool.true_or, Bool.or_false, Bool.false_or, if_true, if_false, Bool.false_eq_true, decide_true, decide_false]))⟩
 refine cf_ rfl (decide_eq_false b62) ?_
 refine AWP.skip ?_
 refine AWP.seq ?_
 refine Sr ?_
 refine V rfl rfl (B rfl rfl rfl ine (V rfl rfl (N rfl rfl (nb (decide_eq_true (by decide))) (N rfl rfl (nb (decide_eq_true (by decide))) (N rfl rfl (nb (decide_eq_true (by decide))) ?_)))))
 refine AOps.un rfl rfl rfl rfl rfl rfl rfl (AOps.un rfl rfl rfl rfl rfl rfl rfl (N rfl rfl (nb (decide_eq_true (by decide))) (C rfl (Pf _ rfl rfl (nb (decide_eq_true (by decide))) rfl ?_))))
 refine cf_ rfl rfl ?_
 refine AWP.skip ?_
 refine AWP.seq ?_
 refine Sr ?_
 refine V rfl rfl (B rfl rfl rfl ieq ?_)
 refine cf_ rfl (decide_eq_false (by decide)) ?_
 refine AWP.skip ?_
 refine AWP.seq ?_
 refine Sr ?_
 refine V rfl rfl (B rfl rfl rfl ieq (V rfl rfl (N rfl rfl (decide_eq_true (by decide)) (N rfl rfl (decide_eq_true (by decide)) (C rfl (Pt _ rfl rfl (decide_eq_true (by decide)) rfl (V rfl rfl (N rfl rfl rfl (C rfl (Pt _ rfl rfl rfl rfl ?_))))))))))
 refine ct_ rfl rfl ?_
 refine AWP.seq ?_
 refine Sr ?_
 refine V rfl s55 (C rfl (AOp.len_own (m := ((wd).length)) rfl rfl o56 u_75 (B rfl rfl rfl rfl ?_)))
 refine AOps.nil ?_
 change AWP _ _ _ _ _ _
 by_cases b362 : (((wd).length) : Int) > 0
 refine ct_ rfl (decide_eq_true b362) ?_
 refine AWP.region rfl ?_
 refine V rfl s53 (V rfl s55 (C rfl (AOp.bytesS (l := ((wd) : List Int)) rfl rfl o56.src u_75 u_5 u_9 (C rfl (AOp.buildSlice (cells := [.str (bytesB (wd))]) rfl u_57 ts_9 tz_9 rfl rfl rfl ?_)))))
 intro i363 H364 n365 h366 k367
 have o369 := Own.keep o52 k367 (Own.notnew o52 n365)
 have o371 := Own.keep o54 k367 (Own.notnew o54 n365)
 have m375 := Mono.new m60 n365 k367
 refine C rfl (AOp.append_own (es := 1) (m := 1) (len := ((ws).length)) (old := (ws).map eStr) (cells := [.str (bytesB (wd))]) rfl u_57 ts_9 tzn_9 tb_9 (by decide) ni_57 rfl o371 m375 rfl (.slm h366 rfl) (one_of rfl) (by decide) (by first | omega | (simp; omega)) ?_)
 intro v376 H377 o378 m379 k380 j381
 have o382 := Own.snoc1 (xs := ((ws) : List ByteArray)) (y := bytesB (wd)) (e := eStr) (by simp) o378
 have sp384 := Own.sep o369 sp57 j381
 have o383 := Own.stay o369 sp57 k380
 refine A rfl rfl ?_
 refine AWP.region rfl ?_
 refine A rfl rfl ?_
 refine Sr ?_
 refine V rfl rfl (B rfl rfl rfl ieq ?_)
 refine ct_ rfl (decide_eq_true (by decide)) ?_
 refine AWP.seq ?_
 refine Sr ?_
 refine V rfl rfl (C rfl (AOp.len_own (m := (((ws) ++ [bytesB (wd)]).length)) rfl rfl o382 u_57 (B rfl rfl rfl rfl ?_)))
 refine AOps.nil ?_
 change AWP _ _ _ _ _ _
 by_cases b387 : ((((ws) ++ [bytesB (wd)]).length) : Int) > 0
 refine ct_ rfl (decide_eq_true b387) ?_
 refine AWP.frz 7 o382 rfl m379 fun H388 m389 k390 => ?_
 have o391 := Own.stay o383 sp384 (fun i hi _ => k390 i hi)
 skip
 refine AWP.region rfl ?_
 refine V rfl s51 (V rfl s48 (V rfl rfl (C rfl (Bl (cells := [.int .i64 no, .sl ((ws) ++ [bytesB (wd)]).length (((ws) ++ [bytesB (wd)]).map eStr)]) rfl tz_59 pl_59 rfl rfl (C rfl (AOp.buildSlice (cells := [.int .i64 no, .sl ((ws) ++ [bytesB (wd)]).length (((ws) ++ [bytesB (wd)]).map eStr)]) rfl u_51 ts_59 tz_59 rfl rfl rfl ?_))))))
 intro i393 H394 n395 h396 k397
 have o399 := Own.keep o391 k397 (Own.notnew o391 n395)
 have m403 := Mono.new m389 n395 k397
 refine C rfl (AOp.append_own (es := 2) (m := 1) (len := ((out).length)) (old := (out).flatMap eLine) (cells := [.int .i64 no, .sl ((ws) ++ [bytesB (wd)]).length (((ws) ++ [bytesB (wd)]).map eStr)]) rfl u_51 ts_59 tzn_59 tb_59 (by decide) ni_51 rfl o399 m403 rfl (.slm h396 rfl) (one_of rfl) (by decide) (by first | omega | (simp; omega)) ?_)
 intro v404 H405 o406 m407 k408 j409
 have o410 := Own.snocM (xs := ((out) : List LineT)) (y := (LineT.mk no ((ws) ++ [bytesB (wd)]))) (e := eLine) (by simp) o406
 refine A rfl rfl ?_
 refine Sr ?_
 refine A rfl rfl ?_
 refine Sr ?_
 refine V rfl s48 (B rfl rfl rfl (iadd (by omega)) (A rfl rfl ?_))
 refine AWP.region rfl ?_
 refine A rfl rfl ?_
 refine AWP.region rfl ?_
 refine V rfl s47 (B rfl rfl rfl (iadd (by omega)) (A rfl rfl ?_))
 refine AOps.nil ?_
 exact ⟨_, by omega, i + 1, (out) ++ [(LineT.mk no ((ws) ++ [bytesB (wd)]))], no + 1, [], [], false, v404, .snil, .snil, rfl, rfl, rfl, rfl, s50, rfl, o410, rfl, Own.nil _ _ _, rfl, Own.nil _ _ _, (Sep.nilR _), (Sep.nilR _), (Sep.nilL _), m407, by omega, by omega, by omega, by first | omega | (simp <;> omega), by first | omega | (simp <;> omega), by first | omega | (simp <;> omega), by first | (exfalso; omega) | (exfalso; have hl : 0 < (((ws ++ [bytesB wd]).length : Nat) : Int) := (by simp <;> omega); omega) | (rw [hsc, ref_step hi0 (by omega) (bytesL_end hi0 (by omega)) (by unfold badB; omega)]; exact congrArg (refGo ((bytesL s).drop (i + 1).toNat)) (show stepR 10 (RS.mk out no ws wd rem) = RS.mk ((out) ++ [(LineT.mk no ((ws) ++ [bytesB (wd)]))]) (no + 1) ([]) ([]) false from by first | (exfalso; omega) | simp only [stepR, (eq_true (show 0 < (wd.length : Int) from by omega)), (show decide ((10 : Int) = 10) = true from rfl), (show decide ((10 : Int) = 32) = false from rfl), (show decide ((10 : Int) = 35) = false from rfl), (eq_true (show 0 < (((ws ++ [bytesB wd]).length : Nat) : Int) from by first | omega | (simp <;> omega))), Bool.or_true, Bool.true_or, Bool.or_false, Bool.false_or, if_true, if_false, Bool.false_eq_true, decide_true, decide_false]))⟩
 refine cf_ rfl (decide_eq_false b387) ?_
 refine AWP.skip ?_
 refine Sr ?_
 refine A rfl rfl ?_
 refine Sr ?_
 refine V rfl s48 (B rfl rfl rfl (iadd (by omega)) (A rfl rfl ?_))
 refine AWP.region rfl ?_
 refine A rfl rfl ?_
 refine AWP.region rfl ?_
 refine V rfl s47 (B rfl rfl rfl (iadd (by omega)) (A rfl rfl ?_))
 refine AOps.nil ?_
 exact ⟨_, by omega, i + 1, out, no + 1, [], [], false, w5, .snil, .snil, rfl, rfl, rfl, rfl, s50, s51, o383, rfl, Own.nil _ _ _, rfl, Own.nil _ _ _, (Sep.nilR _), (Sep.nilR _), (Sep.nilL _), m379, by omega, by omega, by omega, by first | omega | (simp <;> omega), by first | omega | (simp <;> omega), by first | omega | (simp <;> omega), by first | (exfalso; omega) | (exfalso; have hl : 0 < (((ws ++ [bytesB wd]).length : Nat) : Int) := (by simp <;> omega); omega) | (rw [hsc, ref_step hi0 (by omega) (bytesL_end hi0 (by omega)) (by unfold badB; omega)]; exact congrArg (refGo ((bytesL s).drop (i + 1).toNat)) (show stepR 10 (RS.mk out no ws wd rem) = RS.mk out (no + 1) ([]) ([]) false from by first | (exfalso; omega) | simp only [stepR, (eq_true (show 0 < (wd.length : Int) from by omega)), (show decide ((10 : Int) = 10) = true from rfl), (show decide ((10 : Int) = 32) = false from rfl), (show decide ((10 : Int) = 35) = false from rfl), (eq_true (show 0 < (((ws ++ [bytesB wd]).length : Nat) : Int) from by first | omega | (simp <;> omega))), Bool.or_true, Bool.true_or, Bool.or_false, Bool.false_or, if_true, if_false, Bool.false_eq_true, decide_true, decide_false]))⟩
 refine cf_ rfl (decide_eq_false b362) ?_
 refine AWP.skip ?_
 refine AWP.region rfl ?_
 refine A rfl rfl ?_
 refine Sr ?_
 refine V rfl rfl (B rfl rfl rfl ieq ?_)
 refine ct_ rfl (decide_eq_true (by decide)) ?_
 refine AWP.seq ?_
 refine Sr ?_
 refine V rfl s53 (C rfl (AOp.len_own (m := ((ws).length)) rfl rfl o54 u_57 (B rfl rfl rfl rfl ?_)))
 refine AOps.nil ?_
 change AWP _ _ _ _ _ _
 by_cases b413 : (((ws).length) : Int) > 0
 refine ct_ rfl (decide_eq_true b413) ?_
 refine AWP.frz 7 o54 s53 m60 fun H414 m415 k416 => ?_
 have o417 := Own.stay o52 sp57 (fun i hi _ => k416 i hi)
 skip
 refine AWP.region rfl ?_
 refine V rfl s51 (V rfl s48 (V rfl rfl (C rfl (Bl (cells := [.int .i64 no, .sl (ws).length ((ws).map eStr)]) rfl tz_59 pl_59 rfl rfl (C rfl (AOp.buildSlice (cells := [.int .i64 no, .sl (ws).length ((ws).map eStr)]) rfl u_51 ts_59 tz_59 rfl rfl rfl ?_))))))
 intro i419 H420 n421 h422 k423
 have o425 := Own.keep o417 k423 (Own.notnew o417 n421)
 have m429 := Mono.new m415 n421 k423
 refine C rfl (AOp.append_own (es := 2) (m := 1) (len := ((out).length)) (old := (out).flatMap eLine) (cells := [.int .i64 no, .sl (ws).length ((ws).map eStr)]) rfl u_51 ts_59 tzn_59 tb_59 (by decide) ni_51 rfl o425 m429 rfl (.slm h422 rfl) (one_of rfl) (by decide) (by first | omega | (simp; omega)) ?_)
 intro v430 H431 o432 m433 k434 j435
 have o436 := Own.snocM (xs := ((out) : List LineT)) (y := (LineT.mk no (ws))) (e := eLine) (by simp) o432
 refine A rfl rfl ?_
 refine Sr ?_
 refine A rfl rfl ?_
 refine Sr ?_
 refine V rfl s48 (B rfl rfl rfl (iadd (by omega)) (A rfl rfl ?_))
 refine AWP.region rfl ?_
 refine A rfl rfl ?_
 refine AWP.region rfl ?_
 refine V rfl s47 (B rfl rfl rfl (iadd (by omega)) (A rfl rfl ?_))
 refine AOps.nil ?_
 exact ⟨_, by omega, i + 1, (out) ++ [(LineT.mk no (ws))], no + 1, [], [], false, v430, .snil, .snil, rfl, rfl, rfl, rfl, s50, rfl, o436, rfl, Own.nil _ _ _, rfl, Own.nil _ _ _, (Sep.nilR _), (Sep.nilR _), (Sep.nilL _), m433, by omega, by omega, by omega, by first | omega | (simp <;> omega), by first | omega | (simp <;> omega), by first | omega | (simp <;> omega), by first | (exfalso; omega) | (exfalso; have hl : 0 < (((ws ++ [bytesB wd]).length : Nat) : Int) := (by simp <;> omega); omega) | (rw [hsc, ref_step hi0 (by omega) (bytesL_end hi0 (by omega)) (by unfold badB; omega)]; exact congrArg (refGo ((bytesL s).drop (i + 1).toNat)) (show stepR 10 (RS.mk out no ws wd rem) = RS.mk ((out) ++ [(LineT.mk no (ws))]) (no + 1) ([]) ([]) false from by first | (exfalso; omega) | simp only [stepR, (eq_false (show ¬ 0 < (wd.length : Int) from by omega)), (eq_true (show 0 < (ws.length : Int) from by omega)), (show decide ((10 : Int) = 10) = true from rfl), (show decide ((10 : Int) = 32) = false from rfl), (show decide ((10 : Int) = 35) = false from rfl), (eq_true (show 0 < (((ws ++ [bytesB wd]).length : Nat) : Int) from by first | omega | (simp <;> omega))), Bool.or_true, Bool.true_or, Bool.or_false, Bool.false_or, if_true, if_false, Bool.false_eq_true, decide_true, decide_false]))⟩
 refine cf_ rfl (decide_eq_false b413) ?_
 refine AWP.skip ?_
 refine Sr ?_
 refine A rfl rfl ?_
 refine Sr ?_
 refine V rfl s48 (B rfl rfl rfl (iadd (by omega)) (A rfl rfl ?_))
 refine AWP.region rfl ?_
 refine A rfl rfl ?_
 refine AWP.region rfl ?_
 refine V rfl s47 (B rfl rfl rfl (iadd (by omega)) (A rfl rfl ?_))
 refine AOps.nil ?_
 exact ⟨_, by omega, i + 1, out, no + 1, [], [], false, w5, .snil, .snil, rfl, rfl, rfl, rfl, s50, s51, o52, rfl, Own.nil _ _ _, rfl, Own.nil _ _ _, (Sep.nilR _), (Sep.nilR _), (Sep.nilL _), m60, by omega, by omega, by omega, by first | omega | (simp <;> omega), by first | omega | (simp <;> omega), by first | omega | (simp <;> omega), by first | (exfalso; omega) | (exfalso; have hl : 0 < (((ws ++ [bytesB wd]).length : Nat) : Int) := (by simp <;> omega); omega) | (rw [hsc, ref_step hi0 (by omega) (bytesL_end hi0 (by omega)) (by unfold badB; omega)]; exact congrArg (refGo ((bytesL s).drop (i + 1).toNat)) (show stepR 10 (RS.mk out no ws wd rem) = RS.mk out (no + 1) ([]) ([]) false from by first | (exfalso; omega) | simp only [stepR, (eq_false (show ¬ 0 < (wd.length : Int) from by omega)), (eq_false (show ¬ 0 < (ws.length : Int) from by omega)), (show decide ((10 : Int) = 10) = true from rfl), (show decide ((10 : Int) = 32) = false from rfl), (show decide ((10 : Int) = 35) = false from rfl), (eq_true (show 0 < (((ws ++ [bytesB wd]).length : Nat) : Int) from by first | omega | (simp <;> omega))), Bool.or_true, Bool.true_or, Bool.or_false, Bool.false_or, if_true, if_false, Bool.false_eq_true, decide_true, decide_false]))⟩
 refine cf_ rfl (decide_eq_false b61) ?_
 refine AWP.exit ?_
 change AWP _ _ _ _ _ _
 refine Sr ?_
 refine V rfl s51 (A rfl rfl (A rfl rfl (A rfl rfl ?_)))
 refine rt_ ?_
 refine Fin.frz 2 o52 rfl m60 fun H439 m440 k441 => ?_
 refine Rr (Res.three rfl rfl rfl rfl) ?_ m440
 exact congrArg AV.tup (lc (congrArg (fun l : List LineT => AV.sl l.length (l.flatMap eLine)) (show ((out) : List LineT) = (refR s).1 from by rw [hsc, ref_end (by omega)])) (lc (congrArg (AV.int .i64) (show (0 : Int) = (refR s).2.1 from by rw [hsc, ref_end (by omega)])) (lc (congrArg (AV.int .i64) (show (0 : Int) = (refR s).2.2 from by rw [hsc, ref_end (by omega)])) rfl)))
end Go.Proofs.L
namespace Go.Proofs.L
open Go Go.AH Go.Lib
set_option maxRecDepth 4000
set_option linter.unusedSectionVars false
variable [LexG]
end Go.Proofs.L
namespace Go.Proofs.S
open Go Go.AH Go.Proofs.L
set_option linter.unusedSectionVars false
variable [LexG]
instance : Inhabited (Except Int Unit) := ⟨.ok ()⟩
def gd {α : Type} (b : Bool) (k : Int) (x : Except Int α) : Except Int α := if b = true then x else .error k
theorem gT {α : Type} {b : Bool} {k : Int} {x y : Except Int α} (h : b = true) (e : x = y) : gd b k x = y := (if_pos h).trans e
theorem gF {α : Type} {b : Bool} {k : Int} {x : Except Int α} (h : b = false) : gd b k x = .error k := if_neg (by rw [h]; exact Bool.false_ne_true)
theorem pbF {b : Bool} {k : Int} (h : b = false) : (if b = true then (Except.ok () : Except Int Unit) else .error k) = .error k := if_neg (by rw [h]; exact Bool.false_ne_true)
theorem pbT {b : Bool} {k : Int} (h : b = true) : (if b = true then (Except.ok () : Except Int Unit) else .error k) = .ok () := if_pos h
def numsB (w : List ByteArray) : Bool := w.all fun x => (R_lex_Number x).2
def numsL (w : List ByteArray) : List Int := w.map fun x => (R_lex_Number x).1
def cntB (w : List ByteArray) (n : Int) : Bool := numsB w && decide ((w.length : Int) = n)
def inB (lo hi : Int) (l : List Int) : Bool := l.all fun x => decide (lo ≤ x) && decide (x ≤ hi)
def namedB (w : List ByteArray) (k least : Int) : Bool := decide (least ≤ (w.length : Int)) && (w.take k.toNat).all nameB
def colR (n : List Int) : ColT := ⟨at_ n 0, at_ n 1, at_ n 2⟩
def ptR (n : List Int) : VT := ⟨at_ n 0, at_ n 1, at_ n 2⟩
def idxN (l : List ByteArray) (x : ByteArray) : Int := match l.findIdx? fun y => decide (y = x) with | some i => i | none => -1
structure Rd where
  cam : CamT
  sky : ColT
  lights : List LightT
  mats : List MatT
  texs : List TexT
  skins : List SkinT
  cages : List CageT
  hc : Bool
  hs : Bool
  deriving Inhabited
def lastC (cs : List CageT) : CageT := cs.getLastD ⟨[], [], []⟩
def putC (cs : List CageT) (c : CageT) : List CageT := cs.dropLast ++ [c]
def matX (s : Rd) (x : ByteArray) : Int := idxN (s.mats.map MatT.Name) x
def texX (s : Rd) (x : ByteArray) : Int := idxN (s.texs.map TexT.Name) x
def skinX (s : Rd) (x : ByteArray) : Int := idxN (s.skins.map SkinT.Name) x
def dash : ByteArray := ⟨#[45]⟩
def cameraP (s : Rd) (w : List ByteArray) : Except Int Rd :=
  let n := numsL w
  gd (cntB w 16) 10 (gd (!s.hc) 12 (gd (inB (-16384) 16384 (n.take 6)) 11 (gd (inB (-32) 32 ((n.drop 6).take 6)) 11 (gd (inB 1 64 ((n.drop 12).take 2)) 11
    (gd (inB 1 4 [at_ n 14]) 11 (gd (inB 0 8 [at_ n 15]) 11 (.ok { s with hc := true, cam := ⟨ptR n, ptR (n.drop 3), ptR (n.drop 6), ptR (n.drop 9), at_ n 12, at_ n 13, at_ n 14, at_ n 15⟩ })))))))
def skyP (s : Rd) (w : List ByteArray) : Except Int Rd :=
  let n := numsL w
  gd (cntB w 3) 10 (gd (!s.hs) 12 (gd (inB 0 255 n) 11 (.ok { s with hs := true, sky := colR n })))
def lightP (s : Rd) (w : List ByteArray) : Except Int Rd :=
  let n := numsL w
  gd (cntB w 6) 10 (gd (decide ((s.lights.length : Int) < 4)) 13 (gd (inB (-16384) 16384 (n.take 3)) 11 (gd (inB 0 255 (n.drop 3)) 11
    (.ok { s with lights := s.lights ++ [⟨ptR n, colR (n.drop 3)⟩] }))))
def textureP (s : Rd) (w : List ByteArray) : Except Int Rd :=
  let n := numsL (w.drop 1)
  gd (namedB w 1 3) 10 (gd (numsB (w.drop 1)) 10 (gd (decide (at_ n 0 * at_ n 1 = (n.length : Int) - 2)) 10 (gd (decide ((s.texs.length : Int) < 4)) 13 (gd (decide (texX s (at_ w 0) < 0)) 12
    (gd (inB 1 16 (n.take 2)) 11 (gd (inB 0 255 (n.drop 2)) 11 (.ok { s with texs := s.texs ++ [⟨at_ w 0, at_ n 0, at_ n 1, n.drop 2⟩] })))))))
def materialP (s : Rd) (w : List ByteArray) : Except Int Rd :=
  let n := numsL (w.drop 1)
  gd (namedB w 1 9) 10 (gd (cntB (w.drop 1) 8) 10 (gd (decide ((s.mats.length : Int) < 8)) 13 (gd (decide (matX s (at_ w 0) < 0)) 12
    (gd (inB 0 255 (n.take 3)) 11 (gd (inB 0 256 [at_ n 3, at_ n 5, at_ n 6]) 11 (gd (inB 1 64 [at_ n 4]) 11 (gd (inB 0 256 [at_ n 5 + at_ n 6]) 11 (gd (inB 64 1024 [at_ n 7]) 11
      (.ok { s with mats := s.mats ++ [⟨at_ w 0, colR n, at_ n 3, at_ n 4, at_ n 5, at_ n 6, at_ n 7⟩] })))))))))
def cageW (w : List ByteArray) : List ByteArray := [at_ w 2, at_ w 3, at_ w 5]
def cageOk (w : List ByteArray) : Bool := decide ((w.length : Int) = 6) && (decide (at_ w 4 = dash) || nameB (at_ w 4))
def cageHas (s : Rd) (w : List ByteArray) : Bool := decide (skinX s (at_ w 0) < 0) && (decide (matX s (at_ w 1) ≥ 0) && (decide (at_ w 4 = dash) || decide (texX s (at_ w 4) ≥ 0)))
def cageP (s : Rd) (w : List ByteArray) : Except Int Rd :=
  let n := numsL (cageW w)
  gd (namedB w 2 6) 10 (gd (cageOk w) 10 (gd (numsB (cageW w)) 10 (gd (decide ((s.skins.length : Int) < 8)) 13 (gd (cageHas s w) 12
    (gd (inB 0 2 [at_ n 0]) 11 (gd (inB 1 65536 [at_ n 1]) 11 (gd (inB 0 255 [at_ n 2]) 11
      (.ok { s with skins := s.skins ++ [⟨at_ w 0, matX s (at_ w 1), at_ n 0, at_ n 1, texX s (at_ w 4), at_ n 2⟩], cages := s.cages ++ [⟨[], [], []⟩] }))))))))
def vertexP (s : Rd) (w : List ByteArray) : Except Int Rd :=
  let n := numsL w; let c := lastC s.cages
  gd (cntB w 3) 10 (gd (decide ((s.cages.length : Int) > 0)) 15 (gd (decide ((c.Verts.length : Int) < 64)) 13 (gd (inB (-16384) 16384 n) 11
    (.ok { s with cages := putC s.cages { c with Verts := c.Verts ++ [ptR n] } }))))
def faceP (s : Rd) (w : List ByteArray) : Except Int Rd :=
  let n := numsL w; let c := lastC s.cages
  gd (numsB w) 10 (gd (decide ((w.length : Int) ≥ 3) && decide ((w.length : Int) ≤ 8)) 10 (gd (decide ((s.cages.length : Int) > 0)) 15 (gd (decide ((c.Faces.length : Int) < 64)) 13 (gd (inB 0 ((c.Verts.length : Int) - 1) n) 11
    (.ok { s with cages := putC s.cages { c with Faces := c.Faces ++ [n] } })))))
def creaseP (s : Rd) (w : List ByteArray) : Except Int Rd :=
  let n := numsL w; let c := lastC s.cages
  gd (cntB w 3) 10 (gd (decide ((s.cages.length : Int) > 0)) 15 (gd (decide ((c.Creases.length : Int) < 128)) 13 (gd (inB 0 ((c.Verts.length : Int) - 1) (n.take 2)) 11
    (gd (!decide (at_ n 0 = at_ n 1)) 11 (gd (inB 1 255 [at_ n 2]) 11
    (.ok { s with cages := putC s.cages { c with Creases := c.Creases ++ [⟨at_ n 0, at_ n 1, at_ n 2⟩] } }))))))
def kCamera : ByteArray := ⟨#[99, 97, 109, 101, 114, 97]⟩
def kSky : ByteArray := ⟨#[115, 107, 121]⟩
def kLight : ByteArray := ⟨#[108, 105, 103, 104, 116]⟩
def kTexture : ByteArray := ⟨#[116, 101, 120, 116, 117, 114, 101]⟩
def kMaterial : ByteArray := ⟨#[109, 97, 116, 101, 114, 105, 97, 108]⟩
def kCage : ByteArray := ⟨#[99, 97, 103, 101]⟩
def kV : ByteArray := ⟨#[118]⟩
def kF : ByteArray := ⟨#[102]⟩
def kCrease : ByteArray := ⟨#[99, 114, 101, 97, 115, 101]⟩
def lineP (s : Rd) (w : List ByteArray) : Except Int Rd :=
  if at_ w 0 = kCamera then cameraP s (w.drop 1) else if at_ w 0 = kSky then skyP s (w.drop 1) else if at_ w 0 = kLight then lightP s (w.drop 1) else
  if at_ w 0 = kTexture then textureP s (w.drop 1) else if at_ w 0 = kMaterial then materialP s (w.drop 1) else if at_ w 0 = kCage then cageP s (w.drop 1) else
  if at_ w 0 = kV then vertexP s (w.drop 1) else if at_ w 0 = kF then faceP s (w.drop 1) else if at_ w 0 = kCrease then creaseP s (w.drop 1) else .error 10
def rd0 : Rd := ⟨⟨⟨0, 0, 0⟩, ⟨0, 0, 0⟩, ⟨0, 0, 0⟩, ⟨0, 0, 0⟩, 0, 0, 0, 0⟩, ⟨0, 0, 0⟩, [], [], [], [], [], false, false⟩
def Rd.scene (s : Rd) : SceneT := ⟨s.cam, s.sky, s.lights, s.mats, s.texs, s.skins, s.cages⟩
def foldP : Rd → List LineT → Except (Int × Int) Rd
  | s, [] => .ok s
  | s, l :: r => match lineP s l.Words with | .ok t => foldP t r | .error k => .error (l.No, k)
def endP (x : Except (Int × Int) Rd) : SceneT × Int × Int := match x with
  | .ok s => if s.hc = true then (s.scene, 0, 0) else (rd0.scene, 0, 15)
  | .error e => (rd0.scene, e)
def parseR (s : ByteArray) : SceneT × Int × Int := if (linesR s).2.2 = 0 then endP (foldP rd0 (linesR s).1) else (rd0.scene, (linesR s).2.1, (linesR s).2.2)
structure RdOk (s : Rd) : Prop where
  l : s.lights.length ≤ 4
  m : s.mats.length ≤ 8
  t : s.texs.length ≤ 4
  k : s.skins.length ≤ 8
  c : s.cages.length = s.skins.length
  v : ∀ c ∈ s.cages, c.Verts.length ≤ 64 ∧ c.Faces.length ≤ 64 ∧ c.Creases.length ≤ 128
end Go.Proofs.S
namespace Go.Proofs.L
open Go Go.AH Go.ChangeShapes Go.WideShapes Go.ChangeAt Go.RowKit Go.Deep Go.Proofs.YtfddnapdeihchaaGreatDoor
set_option maxRecDepth 8000
set_option linter.unusedSimpArgs false
set_option linter.unusedVariables false
theorem gSp : Tryz.prog.globalNamed "strings.asciiSpace" = some 0 := by kernel_rfl
theorem gSpT : (Tryz.prog.globals[0]?).map (·.type) = some 118 := by kernel_rfl
theorem gES : Tryz.prog.globalNamed "strconv.ErrSyntax" = some 6 := by kernel_rfl
theorem gEST : (Tryz.prog.globals[6]?).map (·.type) = some 94 := by kernel_rfl
theorem star : "*" ++ "errors.errorString" = "*errors.errorString" := by decide
theorem row_es (u : TypeId) (h : Tryz.prog.typeName? 3 u = some "*errors.errorString") : u = 207 :=
  typeName_ptr_named (nm := "errors.errorString") (by rw [star]; kernel_rfl) (by kernel_rfl) (by decide) u (by rw [star]; exact h)
theorem var_heap {P : Program} {w : World} {name : String} {g : Nat} {cs : Array Value} (h : w.var? P name = some cs) (hg : P.globalNamed name = some g) : ∃ T fr, w.heap[g]? = some (.cells cs T fr) := by
  unfold World.var? at h
  rw [hg] at h
  simp only [Option.bind_some] at h
  split at h
  · rename_i cs' T fr e
    cases h
    exact ⟨T, fr, e⟩
  · cases h
theorem cell_heap {w : World} {g : Nat} {v : Value} (h : w.cell? ⟨g, 0, none⟩ = some v) : ∃ cs T fr, w.heap[g]? = some (.cells cs T fr) ∧ cs[0]? = some v := by
  unfold World.cell? at h
  split at h
  · rename_i cs T fr e
    simp at h
    exact ⟨cs, T, fr, e, h⟩
  · cases h
theorem frz0 [LexG] {W : World} {g : Nat} {o : Obj} (h : W.heap[g]? = some o) : Frz W idM nH g := ⟨(Array.getElem?_eq_some_iff.1 h).1, nH_owned⟩
theorem globs_of {W : World} (hH : laidMetH Tryz.prog Rows.sceneParsesUptoRow.laid W) (hS : W.ShapedOpen Tryz.prog) : ∃ I : LexG, @GOK (@instG I) W idM nH := by
  have h : laidMet Tryz.prog Rows.sceneParsesUptoRow.laid W := by
    rw [← Go.MakeChecks.laidMetH_plain Tryz.prog _ _ (by kernel_rfl)]; exact hH
  have h1 : laidMet Tryz.prog [("strings.asciiSpace", Lib.tabData .u8 Lib.asciiSpaceTab)] W := by
    have := h.filter fun x => x.1 == "strings.asciiSpace"
    rw [show (Rows.sceneParsesUptoRow.laid.filter fun x => x.1 == "strings.asciiSpace") = [("strings.asciiSpace", Lib.tabData .u8 Lib.asciiSpaceTab)] by kernel_rfl] at this
    exact this
  have h2 : laidMet Tryz.prog [("strconv.ErrSyntax", .iface "*errors.errorString" (.ptr (.agg [.lit (.string [105, 110, 118, 97, 108, 105, 100, 32, 115, 121, 110, 116, 97, 120])])))] W := by
    have := h.filter fun x => x.1 == "strconv.ErrSyntax"
    rw [show (Rows.sceneParsesUptoRow.laid.filter fun x => x.1 == "strconv.ErrSyntax") = [("strconv.ErrSyntax", .iface "*errors.errorString" (.ptr (.agg [.lit (.string [105, 110, 118, 97, 108, 105, 100, 32, 115, 121, 110, 116, 97, 120])])))] by kernel_rfl] at this
    exact this
  have t1 := Lib.tabIs_of_head (rest := []) gSp gSpT Tryz.underlying118 Tryz.underlying5 (by kernel_rfl) (by kernel_rfl) h1
  obtain ⟨T0, fr0, b0⟩ := var_heap t1 gSp
  obtain ⟨a, s, v3, _⟩ := laid_sentinel h2 gES gEST (Tryz.underlying94.trans rfl) row_es Tryz.underlying207 Tryz.underlying209 rfl rfl Tryz.underlying9 (by kernel_rfl) (by kernel_rfl)
  obtain ⟨T3, fr3, b3⟩ := var_heap v3 gES
  obtain ⟨m, hm⟩ := Proofs.cell_of_shapedOpen_int (P := Tryz.prog) (g := 2) (t := 3) (zero := #[.int .i64 0]) (k := .i64) hS (by decide +kernel) (by kernel_rfl) rfl (by kernel_rfl) (by kernel_rfl) Tryz.underlying3
  obtain ⟨cm, T2, fr2, b2, hcm⟩ := cell_heap hm
  let I : LexG := ⟨cm, m, hcm, #[.iface 207 (.pointer (some a))], .iface 207 (.pointer (some a)), rfl, .inr ⟨_, _, rfl⟩⟩
  refine ⟨I, ⟨fun g c hg => (by cases hg), fun g cs hg => ?_⟩⟩
  have hg : lexBlk g = some cs := hg
  unfold lexBlk at hg
  split at hg
  · rename_i e; subst e; cases hg
    exact ⟨frz0 b0, T0, fr0, b0⟩
  · split at hg
    · rename_i e; subst e; cases hg
      exact ⟨frz0 b2, T2, fr2, b2⟩
    · split at hg
      · rename_i e; subst e; cases hg
        exact ⟨frz0 b3, T3, fr3, b3⟩
      · cases hg
theorem own : ownKnob Tryz.prog.godebug = none := by kernel_rfl
end Go.Proofs.L
namespace Go.AH
variable [Globs]
set_option linter.unusedSectionVars false
open Go
section
variable {H0 H H2 : Heap} {es len id ver : Nat} {v : AV} {cells cells' : List AV}
theorem Own.at_ (e : v = .slm id ver es 0 len) (h : Own H0 H es v len cells) : H id = some (.row ver cells) ∧ H0 id = none ∧ cells.length = len * es := by
  rcases h with ⟨h, _, _⟩ | ⟨i, w, h1, h2, h3, h4⟩
  · rw [e] at h; cases h
  · rw [e] at h1; cases h1; exact ⟨h2, h3, h4⟩
theorem Own.store {len' : Nat} (e : v = .slm id ver es 0 len) (h : Own H0 H es v len cells) (hs : H2 id = some (.row ver cells')) (hl : len' = len) (hc : cells'.length = len * es) : Own H0 H2 es v len' cells' := by
  subst hl
  exact .inr ⟨id, ver, e, hs, (h.at_ e).2.1, hc⟩
end
end Go.AH
namespace Go.AH
variable [Globs]
set_option linter.unusedSectionVars false
open Go
end Go.AH
namespace Go.AH
variable [Globs]
set_option linter.unusedSectionVars false
open Go
def AOpX (P : Program) (n : Nat) (o : Oper) (K : (Nat → AV) → Heap → Prop) (X : Exit → (Nat → AV) → Heap → Prop) (f : Nat → AV) (H : Heap) : Prop :=
  ∀ μ a w, SR n w μ f H a → o.wp P a w (fun a' w' => ∃ μ' f' H', SR n w' μ' f' H' a' ∧ Ext w μ H w' μ' H' ∧ K f' H') (fun e a' w' => ∃ μ' f' H', SR n w' μ' f' H' a' ∧ Ext w μ H w' μ' H' ∧ X e f' H')
def AOpsX (P : Program) (n : Nat) (ops : Array Oper) (Q : Exit → (Nat → AV) → Heap → Prop) : List Nat → (Nat → AV) → Heap → Prop
  | [], f, H => Q .normal f H
  | i :: l, f, H => ∃ o, ops[i]? = some o ∧ ((o.guard = none ∧ AOpX P n o (AOpsX P n ops Q l) Q f H) ∨
      (∃ j want oj d b, o.guard = some (j, want) ∧ ops[j]? = some oj ∧ oj.dst = some d ∧ f d = gAV b ∧
        (b = some want → AOpX P n o (AOpsX P n ops Q l) Q f H) ∧ (b ≠ some want → ∃ d', o.dst = some d' ∧ Nat.ble (d' + 1) n = true ∧ AOpsX P n ops Q l (upd f d' (.tup [])) H)))
section
variable {P : Program} {n : Nat} {Q : Exit → (Nat → AV) → Heap → Prop} {f : Nat → AV} {H : Heap}
theorem AOp.x {o : Oper} {K : (Nat → AV) → Heap → Prop} {X : Exit → (Nat → AV) → Heap → Prop} (h : AOp P n o K f H) : AOpX P n o K X f H := fun μ a w hs => h μ a w hs _
theorem AOpsX.nil {ops : Array Oper} (h : Q .normal f H) : AOpsX P n ops Q [] f H := h
theorem AOpsX.cons {ops : Array Oper} {i : Nat} {l : List Nat} {o : Oper} (ho : ops[i]? = some o) (hg : o.guard = none) (h : AOp P n o (AOpsX P n ops Q l) f H) : AOpsX P n ops Q (i :: l) f H := ⟨o, ho, .inl ⟨hg, h.x⟩⟩
theorem AOpsX.consX {ops : Array Oper} {i : Nat} {l : List Nat} {o : Oper} (ho : ops[i]? = some o) (hg : o.guard = none) (h : AOpX P n o (AOpsX P n ops Q l) Q f H) : AOpsX P n ops Q (i :: l) f H := ⟨o, ho, .inl ⟨hg, h⟩⟩
theorem AOpsX.sound {ops : Array Oper} : ∀ (l : List Nat) (f : Nat → AV) (H : Heap), AOpsX P n ops Q l f H → ∀ μ a w, SR n w μ f H a → wpOps P ops (Post n μ H w Q) l a w
  | [], f, H, h, μ, _, _, hs => ⟨μ, f, H, hs, .refl _ _ _, h⟩
  | i :: l, f, H, h, μ, a, w, hs => by
    obtain ⟨o, ho, h⟩ := h
    have go : AOpX P n o (AOpsX P n ops Q l) Q f H → o.wp P a w (wpOps P ops (Post n μ H w Q) l) (Post n μ H w Q) := by
      intro h
      refine Oper.wp_mono ?_ ?_ (h μ a w hs)
      · rintro a' w' ⟨μ', f', H', h1, h2, h3⟩
        refine wpOps_mono ?_ l _ _ (AOpsX.sound l f' H' h3 μ' a' w' h1)
        rintro e2 a2 w2 ⟨μ2, f2, H2, g1, g2, g3⟩
        exact ⟨μ2, f2, H2, g1, h2.trans g2, g3⟩
      · exact fun e a w _ h => h
    unfold wpOps
    simp only [ho]
    rcases h with ⟨hg, h⟩ | ⟨j, want, oj, d, b, hg, hj, hd, hf, h1, h2⟩
    · simp only [Region.wanted, hg, if_true]
      exact .inl (go h)
    · simp only [Region.wanted, hg, yielded_of hs hj hd hf]
      by_cases hb : b = some want
      · subst hb
        simp only [BEq.rfl, if_true]
        exact .inl (go (h1 rfl))
      · have hbe : (b == some want) = false := by simpa using hb
        obtain ⟨d', hd', hn, h3⟩ := h2 hb
        simp only [hbe, Bool.false_eq_true, if_false, hd']
        exact AOpsX.sound l _ H h3 μ _ w (hs.put (.refl _ _ _) hs.hr hn (.tup rfl (by simp)))
theorem AOp.imp {o : Oper} {K K' : (Nat → AV) → Heap → Prop} (hk : ∀ f H, K f H → K' f H) (h : AOp P n o K f H) : AOp P n o K' f H := fun μ a w hs E =>
  Oper.wp_mono (fun _ _ ⟨μ', f', H', h1, h2, h3⟩ => ⟨μ', f', H', h1, h2, hk _ _ h3⟩) (fun _ _ _ _ h => h) (h μ a w hs E)
theorem AOps.x {ops : Array Oper} {K : (Nat → AV) → Heap → Prop} (hK : ∀ f H, K f H → Q .normal f H) : ∀ (l : List Nat) (f : Nat → AV) (H : Heap), AOps P n ops K l f H → AOpsX P n ops Q l f H
  | [], f, H, h => hK f H h
  | i :: l, f, H, h => by
    obtain ⟨o, ho, h⟩ := h
    refine ⟨o, ho, ?_⟩
    rcases h with ⟨hg, h⟩ | ⟨j, want, oj, d, b, hg, hj, hd, hf, h1, h2⟩
    · exact .inl ⟨hg, (AOp.imp (fun f H h => AOps.x hK l f H h) h).x⟩
    · refine .inr ⟨j, want, oj, d, b, hg, hj, hd, hf, fun e => (AOp.imp (fun f H h => AOps.x hK l f H h) (h1 e)).x, fun e => ?_⟩
      obtain ⟨d', hd', hn, h3⟩ := h2 e
      exact ⟨d', hd', hn, AOps.x hK l _ H h3⟩
theorem AOpsX.yesX {ops : Array Oper} {i : Nat} {l : List Nat} {o oj : Oper} {j d d' : Nat} {b want : Bool} (ho : ops[i]? = some o) (hg : o.guard = some (j, want)) (hj : ops[j]? = some oj) (hd : oj.dst = some d) (hd' : o.dst = some d') (hn : Nat.ble (d' + 1) n = true) (hf : f d = .bool b) (hb : b = want) (h : AOpX P n o (AOpsX P n ops Q l) Q f H) : AOpsX P n ops Q (i :: l) f H :=
  ⟨o, ho, .inr ⟨j, want, oj, d, some b, hg, hj, hd, hf, fun _ => h, fun e => absurd (congrArg some hb) e⟩⟩
theorem AOpsX.yes {ops : Array Oper} {i : Nat} {l : List Nat} {o oj : Oper} {j d d' : Nat} {b want : Bool} (ho : ops[i]? = some o) (hg : o.guard = some (j, want)) (hj : ops[j]? = some oj) (hd : oj.dst = some d) (hd' : o.dst = some d') (hn : Nat.ble (d' + 1) n = true) (hf : f d = .bool b) (hb : b = want) (h : AOp P n o (AOpsX P n ops Q l) f H) : AOpsX P n ops Q (i :: l) f H :=
  .yesX ho hg hj hd hd' hn hf hb h.x
theorem AOpsX.no {ops : Array Oper} {i : Nat} {l : List Nat} {o oj : Oper} {j d d' : Nat} {b want : Bool} (ho : ops[i]? = some o) (hg : o.guard = some (j, want)) (hj : ops[j]? = some oj) (hd : oj.dst = some d) (hd' : o.dst = some d') (hn : Nat.ble (d' + 1) n = true) (hf : f d = .bool b) (hb : b ≠ want) (h : AOpsX P n ops Q l (upd f d' (.tup [])) H) : AOpsX P n ops Q (i :: l) f H :=
  ⟨o, ho, .inr ⟨j, want, oj, d, some b, hg, hj, hd, hf, fun e => absurd (Option.some.inj e) hb, fun _ => ⟨d', hd', hn, h⟩⟩⟩
theorem AOpsX.un {ops : Array Oper} {i : Nat} {l : List Nat} {o oj : Oper} {j d d' : Nat} {want : Bool} (ho : ops[i]? = some o) (hg : o.guard = some (j, want)) (hj : ops[j]? = some oj) (hd : oj.dst = some d) (hd' : o.dst = some d') (hn : Nat.ble (d' + 1) n = true) (hf : f d = .tup []) (h : AOpsX P n ops Q l (upd f d' (.tup [])) H) : AOpsX P n ops Q (i :: l) f H :=
  ⟨o, ho, .inr ⟨j, want, oj, d, none, hg, hj, hd, hf, fun e => (by cases e), fun _ => ⟨d', hd', hn, h⟩⟩⟩
theorem AWP.regionX {id : Nat} {ops : Array Oper} {l : List Nat} (hl : List.range ops.size = l) (h : AOpsX P n ops Q l f H) : AWP P n (.region id ops false) Q f H :=
  fun μ a w hs => wp_region (hl ▸ AOpsX.sound l f H h μ a w hs)
end
def ACallsX (P : Program) (g : FuncId) (args : List AV) (H : Heap) (R : AV → Heap → Prop) (X : List PanicEntry → Heap → Prop) : Prop :=
  ∀ μ w (vs : Array Value), HR w μ H → VRs w μ H args vs.toList →
    Calls P g vs w fun e w' => (∃ v, e = .returned v ∧ ∃ μ' H' r, HR w' μ' H' ∧ VR w' μ' H' r v ∧ Ext w μ H w' μ' H' ∧ R r H') ∨ (∃ ch, e = .panicked ch ∧ ∃ μ' H', HR w' μ' H' ∧ Ext w μ H w' μ' H' ∧ X ch H')
theorem ACalls.x {P : Program} {g : FuncId} {args : List AV} {H : Heap} {R : AV → Heap → Prop} {X : List PanicEntry → Heap → Prop} (h : ACalls P g args H R) : ACallsX P g args H R X :=
  fun μ w vs h1 h2 => (h μ w vs h1 h2).mono fun _ _ h => .inl h
theorem ACallsX.of_body {P : Program} {g : FuncId} {fn : Func} {c : Code} {args : List AV} {H : Heap} {R : AV → Heap → Prop} {X : List PanicEntry → Heap → Prop} {n : Nat}
    (hf : P.funcs[g]? = some fn) (hb : fn.body = some c) (hn : fn.ntmps = n) (hle : Nat.ble args.length n = true)
    (h : AWP P n c (fun e f' H' => ((e = .normal ∨ e = .ret) ∧ ∃ r, Res P n fn f' H' r ∧ R r H') ∨ ∃ ch, e = .panic ch ∧ X ch H') (entry args) H) (hd : Globs.dfr = [] := by rfl) : ACallsX P g args H R X := by
  intro μ w vs hr hv
  have hlen : args.length = vs.size := by simpa using hv.1
  have hle' : args.length ≤ n := Nat.le_of_ble_eq_true hle
  refine calls_of_wp hf hb ?_
  have hs : SR n w μ (entry args) H { tmps := vs ++ Array.replicate (fn.ntmps - vs.size) undef, defers := [] } := by
    refine ⟨hr, by simp [hn]; omega, fun t => ?_, hd.symm⟩
    unfold entry
    rcases Nat.lt_or_ge t args.length with ht | ht
    · have h1 : args[t]? = some args[t] := List.getElem?_eq_getElem ht
      have h2 : vs.toList[t]? = some vs[t] := by simp [hlen ▸ ht]
      have := hv.2 t _ _ h1 h2
      have e1 : args.getD t .undef = args[t] := by simp [ht]
      have e2 : (vs ++ Array.replicate (fn.ntmps - vs.size) undef).getD t undef = vs[t] := by
        simp [Array.getD_eq_getD_getElem?, Array.getElem?_append, hlen ▸ ht]
      rw [e1, e2]; exact this
    · have e1 : args.getD t .undef = .undef := by simp [ht]
      rw [e1]; exact .undef _
  refine wp_mono (h μ _ w hs) ?_
  rintro e a' w' ⟨μ', f', H', h1, h2, ⟨h3, r, h4, h5⟩ | ⟨ch, rfl, h6⟩⟩
  · obtain ⟨v, hv1, hv2⟩ := h4 μ' a' w' h1
    rcases h3 with rfl | rfl
    · exact ⟨h1.defers.trans hd, v, hv1, .inl ⟨v, rfl, μ', H', r, h1.hr, hv2, h2, h5⟩⟩
    · exact ⟨h1.defers.trans hd, v, hv1, .inl ⟨v, rfl, μ', H', r, h1.hr, hv2, h2, h5⟩⟩
  · exact ⟨h1.defers.trans hd, .inr ⟨ch, rfl, μ', H', h1.hr, h2, h6⟩⟩
section
variable {P : Program} {n d : Nat} {f : Nat → AV} {H : Heap} {K : (Nat → AV) → Heap → Prop} {Q : Exit → (Nat → AV) → Heap → Prop} {ty : TypeId} {pos : String} {after : Array Edge} {guard : Option (Nat × Bool)}
theorem AOpX.call {g : FuncId} {c : Operand} {args : Array Operand} {at_ : Array TypeId} {caps as_ : List AV} {R : AV → Heap → Prop} {X : List PanicEntry → Heap → Prop} {dst : Option Nat} (hn : ∀ d, dst = some d → Nat.ble (d + 1) n = true) (hc : ev f c = .fn g caps) (has : args.toList.map (ev f) = as_) (ht : TFun P g)
    (hC : ACallsX P g (as_ ++ caps) H R X) (hK : ∀ r H', R r H' → K (match dst with | some d => upd f d r | none => f) H') (hX : ∀ ch H', X ch H' → Q (.panic ch) f H') : AOpX P n ⟨dst, .call { callee := .value c, args, argTypes := at_ }, ty, pos, after, guard⟩ K Q f H := by
  intro μ a w hs
  have h1 := hs.ev c; rw [hc] at h1
  obtain ⟨fn, t1, t2, t3⟩ := ht
  generalize hz : a.eval c = z at h1
  cases h1 with
  | fn hl hcv =>
    rename_i vs
    have hargs : VRs w μ H (as_ ++ caps) ((args.map a.eval ++ vs : Array Value)).toList := by
      have h2 := VRs_ev hs args.toList
      rw [has] at h2
      refine ⟨by have := h2.1; simp at this ⊢; omega, fun j x y hx hy => ?_⟩
      rcases Nat.lt_or_ge j as_.length with h | h
      · rw [List.getElem?_append_left h] at hx
        have hl2 : j < (args.map a.eval).size := by have := h2.1; simp at this ⊢; omega
        rw [Array.toList_append, List.getElem?_append_left (by simpa using hl2)] at hy
        refine h2.2 j x y hx ?_
        simpa using hy
      · rw [List.getElem?_append_right h] at hx
        have hl2 : (args.map a.eval).toList.length = as_.length := by have := h2.1; simp at this ⊢; omega
        rw [Array.toList_append, List.getElem?_append_right (by omega), hl2] at hy
        exact hcv _ x y hx (by simpa using hy)
    have hrun : (execOp a.eval ⟨dst, .call { callee := .value c, args, argTypes := at_ }, ty, pos, after, guard⟩).run P w = .ok (.enter g (args.map a.eval ++ vs)) w := by
      have t2' : fn.name ≠ "runtime.NumGoroutine" := by simpa using t2
      have t3' : fn.body ≠ none := fun h => by rw [h] at t3; cases t3
      simp [execOp, resolve, hz, Deferred.ofValue, invoke, callFunc, t1, t2', t3']
    unfold Oper.wp
    rw [hrun]
    refine (hC μ w _ hs.hr hargs).mono ?_
    rintro e w' (⟨v, rfl, μ', H', r, g1, g2, g3, g4⟩ | ⟨ch, rfl, μ', H', g1, g3, g4⟩)
    · cases dst with
      | some d => exact ⟨μ', _, H', hs.put g3 g1 (hn d rfl) g2, g3, hK r H' g4⟩
      | none => exact ⟨μ', _, H', hs.stay g3 g1, g3, hK r H' g4⟩
    · exact ⟨μ', f, H', hs.stay g3 g1, g3, hX ch H' g4⟩
theorem AOpX.panic {x : Operand} {t : TypeId} {k : IntKind} {m : Int} {dst : Option Nat} (hx : ev f x = .iface t (.int k m)) (hX : Q (.panic [{ v := .iface t (.int k m), recovered := false }]) f H) : AOpX P n ⟨dst, .panic x, ty, pos, after, guard⟩ K Q f H := by
  intro μ a w hs
  have h1 := hs.ev x; rw [hx] at h1
  generalize hz : a.eval x = z at h1
  cases h1 with
  | iface h =>
    cases h
    unfold Oper.wp
    have hrun : (execOp a.eval ⟨dst, .panic x, ty, pos, after, guard⟩).run P w = .halt (.panic (.iface t (.int k m))) w := by
      simp [execOp, hz]; rfl
    rw [hrun]
    exact ⟨μ, f, H, hs, .refl _ _ _, hX⟩
end
end Go.AH
namespace Go.AH
variable [Globs]
set_option linter.unusedSectionVars false
open Go
abbrev pan (t : TypeId) (k : Int) : List PanicEntry := [{ v := .iface t (.int .i64 k), recovered := false }]
def PX {α : Type} (P : Program) (t : TypeId) (g : FuncId) (args : List AV) (E : Except Int α) (enc : α → AV) : Prop :=
  ∀ H, ACallsX P g args H (fun r H' => ∃ x, E = .ok x ∧ r = enc x ∧ Mono H H') (fun ch H' => ∃ k, E = .error k ∧ ch = pan t k ∧ Mono H H')
theorem ACallsX.of_body' {P : Program} {g : FuncId} {fn : Func} {c : Code} {args : List AV} {H : Heap} {R : AV → Heap → Prop} {X : List PanicEntry → Heap → Prop} {n : Nat}
    (hf : P.funcs[g]? = some fn) (hb : fn.body = some c) (hn : fn.ntmps = n) (hle : Nat.ble args.length n = true)
    (h : AWP P n c (fun e f H => (∃ f' H', Ghost n f H f' H' ∧ (e = .normal ∨ e = .ret) ∧ ∃ r, Res P n fn f' H' r ∧ R r H') ∨ (∃ ch, e = .panic ch ∧ X ch H)) (entry args) H) (hd : Globs.dfr = [] := by rfl) : ACallsX P g args H R X :=
  .of_body hf hb hn hle (fun μ a w hs => by
    refine wp_mono (h μ a w hs) ?_
    rintro e a' w' ⟨μ', f', H', g1, g2, ⟨f3, H3, gh, q⟩ | q⟩
    · obtain ⟨k1, k2⟩ := gh _ _ _ g1
      exact ⟨μ', f3, H3, k1, g2.trans k2, .inl q⟩
    · exact ⟨μ', f', H', g1, g2, .inr q⟩) hd
section
variable {P : Program} {n d : Nat} {f : Nat → AV} {H H0 : Heap} {K : (Nat → AV) → Heap → Prop} {Q : Exit → (Nat → AV) → Heap → Prop} {ty : TypeId} {pos : String} {after : Array Edge} {guard : Option (Nat × Bool)} {t : TypeId} {g : FuncId} {c : Operand} {args : Array Operand} {at_ : Array TypeId} {caps as_ : List AV}
theorem AOpX.ghost {o : Oper} {f' : Nat → AV} {H' : Heap} (hg : Ghost n f H f' H') (h : AOpX P n o K Q f' H') : AOpX P n o K Q f H := by
  intro μ a w hs
  obtain ⟨h1, h2⟩ := hg μ a w hs
  refine Oper.wp_mono ?_ ?_ (h μ a w h1)
  · rintro a' w' ⟨μ', f2, H2, g1, g2, g3⟩
    exact ⟨μ', f2, H2, g1, h2.trans g2, g3⟩
  · rintro e a' w' _ ⟨μ', f2, H2, g1, g2, g3⟩
    exact ⟨μ', f2, H2, g1, h2.trans g2, g3⟩
theorem AOpX.frz {o : Oper} {v : AV} {es len : Nat} {cells : List AV} (t : Nat) (h : Own H0 H es v len cells) (ht : f t = v) (hm : Mono H0 H) (hK : ∀ H', Mono H0 H' → (∀ i, NotId v i → H' i = H i) → AOpX P n o K Q (upd f t (.sl len cells)) H') : AOpX P n o K Q f H :=
  let ⟨H', g, m, k⟩ := Ghost.own (n := n) h ht hm
  .ghost g (hK H' m k)
theorem AOpX.callE {R : AV → Heap → Prop} {X : List PanicEntry → Heap → Prop} {dst : Option Nat} (hn : ∀ d, dst = some d → Nat.ble (d + 1) n = true) (hc : ev f c = .fn g caps) (has : args.toList.map (ev f) ++ caps = as_) (ht : TFun P g)
    (hC : ACallsX P g as_ H R X) (hK : ∀ r H', R r H' → K (match dst with | some d => upd f d r | none => f) H') (hX : ∀ ch H', X ch H' → Q (.panic ch) f H') : AOpX P n ⟨dst, .call { callee := .value c, args, argTypes := at_ }, ty, pos, after, guard⟩ K Q f H :=
  .call hn hc rfl ht (by rw [has]; exact hC) hK hX
theorem AOpX.px {α : Type} {E : Except Int α} {enc : α → AV} (hn : Nat.ble (d + 1) n = true) (hc : ev f c = .fn g caps) (has : args.toList.map (ev f) ++ caps = as_) (ht : TFun P g)
    (hC : PX P t g as_ E enc) (hK : ∀ x H', E = .ok x → Mono H H' → K (upd f d (enc x)) H') (hX : ∀ k H', E = .error k → Mono H H' → Q (.panic (pan t k)) f H') : AOpX P n ⟨some d, .call { callee := .value c, args, argTypes := at_ }, ty, pos, after, guard⟩ K Q f H :=
  .callE (by rintro _ ⟨⟩; exact hn) hc has ht (hC H) (by rintro r H' ⟨x, e, rfl, m⟩; exact hK x H' e m) (by rintro ch H' ⟨k, e, rfl, m⟩; exact hX k H' e m)
theorem AOpX.need {b : Bool} {k : Int} {u : AV} (hn : Nat.ble (d + 1) n = true) (hc : ev f c = .fn g caps) (has : args.toList.map (ev f) ++ caps = as_) (ht : TFun P g)
    (hC : PX P t g as_ (if b = true then Except.ok () else .error k) fun _ => u) (hK : b = true → ∀ H', Mono H H' → K (upd f d u) H') (hX : b = false → ∀ H', Mono H H' → Q (.panic (pan t k)) f H') : AOpX P n ⟨some d, .call { callee := .value c, args, argTypes := at_ }, ty, pos, after, guard⟩ K Q f H :=
  .px hn hc has ht hC (fun _ H' e m => by
    cases b with
    | true => exact hK rfl H' m
    | false => simp at e) (fun k' H' e m => by
    cases b with
    | true => simp at e
    | false => simp at e; subst e; exact hX rfl H' m)
end
theorem PC.px {α : Type} {P : Program} {t : TypeId} {g : FuncId} {args : List AV} {r : AV} {x : α} {enc : α → AV} (h : PC P g args r) (hr : r = enc x) : PX P t g args (.ok x) enc :=
  fun H => ((h H).mono fun _ _ ⟨e, m⟩ => ⟨x, rfl, e.trans hr, m⟩).x
def noHp : Heap := fun _ => none
theorem noHp_owned {μ : Nat → Nat} {b : Nat} : ¬ Owned μ noHp b := by rintro ⟨id, B, h, _⟩; cases h
inductive LowA : AV → Prop where
  | undef : LowA .undef
  | int (k : IntKind) (n : Int) : LowA (.int k n)
  | bool (b : Bool) : LowA (.bool b)
  | str (s : ByteArray) : LowA (.str s)
  | sl (len : Nat) (cells : List AV) (h : ∀ x ∈ cells, LowA x) : LowA (.sl len cells)
  | fptr (cells : List AV) (off : Nat) (h : ∀ x ∈ cells, LowA x) : LowA (.fptr cells off)
  | fn (f : FuncId) (caps : List AV) (h : ∀ x ∈ caps, LowA x) : LowA (.fn f caps)
theorem VR.lowA {w : World} {μ μ' : Nat → Nat} {H : Heap} {x : AV} {v : Value} (h : VR w μ H x v) (hl : LowA x) : VR w μ' noHp x v := by
  induction h with
  | undef v => exact .undef v
  | int k n => exact .int k n
  | bool b => exact .bool b
  | str s => exact .str s
  | sl0 a cap => exact .sl0 a cap
  | sl hlen hf hc _ ih =>
    cases hl with
    | sl _ _ hl => exact .sl hlen ⟨hf.1, noHp_owned⟩ hc fun j x hj => ih j x hj (hl x (List.mem_of_getElem? hj))
  | nilptr => cases hl
  | ptr _ _ => cases hl
  | iter _ => cases hl
  | fptr hf hc _ ih =>
    cases hl with
    | fptr _ _ hl => exact .fptr ⟨hf.1, noHp_owned⟩ hc fun j x hj => ih j x hj (hl x (List.mem_of_getElem? hj))
  | snil => cases hl
  | slm _ _ _ => cases hl
  | mapnil => cases hl
  | map _ => cases hl
  | nilfn => cases hl
  | fn hl2 _ ih =>
    cases hl with
    | fn _ _ hl => exact .fn hl2 fun j x y hx hy => ih j x y hx hy (hl x (List.mem_of_getElem? hx))
  | nilIface => cases hl
  | iface _ _ => cases hl
  | agg _ _ _ => cases hl
  | tup _ _ _ => cases hl
theorem HR.low {w : World} {μ : Nat → Nat} {H : Heap} (hv : ∀ g, Globs.val g = none) (h : HR w μ H) : HR w (fun i => i) noHp where
  rows := fun _ _ _ h => by cases h
  maps := fun _ _ h => by cases h
  born := fun _ _ _ _ h => by cases h
  iters := fun _ _ h => by cases h
  inj := fun _ _ _ _ h => by cases h
  fin := ⟨0, fun _ _ => rfl⟩
  glob := ⟨fun g c hg => (by rw [hv g] at hg; cases hg), fun g cs hg => let ⟨h1, h2⟩ := h.glob.blk g cs hg; ⟨⟨h1.1, noHp_owned⟩, h2⟩⟩
theorem PC.liveI {P : Program} {g : FuncId} {args args0 : List AV} {k : IntKind} {z : Int} {H : Heap} (hv : ∀ g, Globs.val g = none) (h : PC P g args0 (.int k z))
    (ht : ∀ w μ (vs : List Value), HR w μ H → VRs w μ H args vs → VRs w (fun i => i) noHp args0 vs) : ACalls P g args H fun r H' => r = .int k z ∧ H' = H := by
  intro μ w vs hr hvs
  refine (h noHp (fun i => i) w vs (hr.low hv) (ht w μ _ hr hvs)).mono ?_
  rintro e w' ⟨v, rfl, μ', H', r, _, h2, h3, rfl, _⟩
  cases h2
  obtain ⟨e1, e2⟩ := old_Ext hr h3.size (fun b hb => (h3.frz b ⟨hb, noHp_owned⟩).1) h3.rest
  exact ⟨_, rfl, μ, H, _, e2, .int _ _, e1, rfl, rfl⟩
end Go.AH
namespace Go.AH
variable [Globs]
set_option linter.unusedSectionVars false
open Go
section
variable {P : Program} {n : Nat} {Q : Exit → (Nat → AV) → Heap → Prop} {f : Nat → AV} {H : Heap}
theorem AWP.region_anyX {id : Nat} {ops : Array Oper} (hm : P.follows .mixedOrders = true) (hback : backB ops = true) (I : (Nat → Bool) → (Nat → AV) → Heap → Prop)
    (h0 : I (fun _ => false) f H)
    (step : ∀ S i o, ops[i]? = some o → S i = false → (∀ e ∈ o.after, Region.binds .any e = true → S e.on = true) → ∀ f H, I S f H →
      (o.guard = none ∧ AOpX P n o (I (fun k => Nat.beq k i || S k)) Q f H) ∨
      (∃ j want oj d b, o.guard = some (j, want) ∧ ops[j]? = some oj ∧ oj.dst = some d ∧ f d = gAV b ∧
        (b = some want → AOpX P n o (I (fun k => Nat.beq k i || S k)) Q f H) ∧
        (b ≠ some want → ∃ d', o.dst = some d' ∧ Nat.ble (d' + 1) n = true ∧ I (fun k => Nat.beq k i || S k) (upd f d' (.tup [])) H)))
    (fin : ∀ S f H, (∀ i, i < ops.size → S i = true) → I S f H → Q .normal f H) : AWP P n (.region id ops true) Q f H := by
  have key : ∀ (fuel : Nat) (listed : Array Bool), listed.size = ops.size → left ops.size (listedOf listed) = fuel → ∀ μ f H a w, SR n w μ f H a → I (listedOf listed) f H →
      wpAny P .any ops (Post n μ H w Q) fuel listed a w := by
    intro fuel
    induction fuel with
    | zero =>
      intro listed hsz hl μ f H a w hs hI
      have hall := left_zero hl
      refine ⟨?_, μ, f, H, hs, .refl _ _ _, fin _ f H hall hI⟩
      cases hr : Region.ready .any ops listed with
      | nil => rfl
      | cons i l =>
        have hi : i ∈ Region.ready .any ops listed := by rw [hr]; exact List.mem_cons_self
        obtain ⟨h1, o, ho, _⟩ := mem_ready.1 hi
        have hlt : i < ops.size := by
          rcases Nat.lt_or_ge i ops.size with h' | h'
          · exact h'
          · rw [Array.getElem?_eq_none h'] at ho; cases ho
        have h2 := hall i hlt
        simp only [listedOf, Array.getD_eq_getD_getElem?] at h1 h2
        rw [Array.getElem?_eq_getElem (hsz ▸ hlt)] at h1 h2
        simp only [Option.getD_some] at h1 h2
        rw [h1] at h2; cases h2
    | succ fuel ih =>
      intro listed hsz hl μ f H a w hs hI
      refine ⟨fun hr => ?_, fun i hi => ?_⟩
      · exfalso
        obtain ⟨i, hi1, hi2, hi3⟩ := left_pos (m := ops.size) (S := listedOf listed) (by omega)
        have : i ∈ Region.ready .any ops listed := by
          refine mem_ready.2 ⟨?_, ops[i], Array.getElem?_eq_getElem hi1, fun e he hb => ?_⟩
          · simp only [listedOf, Array.getD_eq_getD_getElem?] at hi2 ⊢
            rw [Array.getElem?_eq_getElem (hsz ▸ hi1)] at hi2 ⊢
            exact hi2
          · exact hi3 _ (backB_spec hback (Array.getElem?_eq_getElem hi1) he hb)
        rw [hr] at this; cases this
      · obtain ⟨h1, o, ho, h2⟩ := mem_ready.1 hi
        have hlt : i < ops.size := by
          rcases Nat.lt_or_ge i ops.size with h' | h'
          · exact h'
          · rw [Array.getElem?_eq_none h'] at ho; cases ho
        have hSi : listedOf listed i = false := by
          simp only [listedOf, Array.getD_eq_getD_getElem?] at h1 ⊢
          rw [Array.getElem?_eq_getElem (hsz ▸ hlt)] at h1 ⊢
          exact h1
        have hset := listedOf_set (l := listed) (i := i) (by omega)
        have hleft : left ops.size (listedOf (listed.setIfInBounds i true)) = fuel := by
          rw [hset]
          have := left_set (m := ops.size) (S := listedOf listed) hlt hSi
          omega
        have go : ∀ μ' f' H' a' w', SR n w' μ' f' H' a' → Ext w μ H w' μ' H' → I (fun k => Nat.beq k i || listedOf listed k) f' H' →
            wpAny P .any ops (Post n μ H w Q) fuel (listed.setIfInBounds i true) a' w' := by
          intro μ' f' H' a' w' hs' he' hI'
          rw [← hset] at hI'
          have h3 := ih (listed.setIfInBounds i true) (by simp [hsz]) hleft μ' f' H' a' w' hs' hI'
          have mono : ∀ (fuel : Nat) (l : Array Bool) (a : Act) (w1 : World), wpAny P .any ops (Post n μ' H' w' Q) fuel l a w1 → wpAny P .any ops (Post n μ H w Q) fuel l a w1 := by
            have hq : ∀ e a w1, Post n μ' H' w' Q e a w1 → Post n μ H w Q e a w1 := by
              rintro e a w1 ⟨μ2, f2, H2, g1, g2, g3⟩
              exact ⟨μ2, f2, H2, g1, he'.trans g2, g3⟩
            intro fuel
            induction fuel with
            | zero => intro l a w1 h; exact ⟨h.1, hq _ _ _ h.2⟩
            | succ fuel ih2 =>
              intro l a w1 h
              refine ⟨fun h0 => hq _ _ _ (h.1 h0), fun j hj => ?_⟩
              have h4 := h.2 j hj
              unfold wpOp at h4 ⊢
              split
              · rename_i hn; simp only [hn] at h4; exact ih2 _ _ _ h4
              · rename_i oj hoj
                simp only [hoj] at h4
                split
                · rename_i hw
                  simp only [hw, if_true] at h4
                  rcases h4 with h4 | ⟨h5, a1, w2, h6⟩
                  · exact .inl (Oper.wp_mono (fun a w h => ih2 _ a w h) (fun e a w _ h => hq e a w h) h4)
                  · exact .inr ⟨h5, a1, w2, hq _ _ _ h6⟩
                · rename_i hw
                  simp only [hw] at h4
                  exact ih2 _ _ _ h4
          exact mono _ _ _ _ h3
        have opgo : AOpX P n o (I (fun k => Nat.beq k i || listedOf listed k)) Q f H → o.wp P a w (wpAny P .any ops (Post n μ H w Q) fuel (listed.setIfInBounds i true)) (Post n μ H w Q) := by
          intro hop
          refine Oper.wp_mono ?_ ?_ (hop μ a w hs)
          · rintro a' w' ⟨μ', f', H', g1, g2, g3⟩
            exact go μ' f' H' a' w' g1 g2 g3
          · intro e a w _ h; exact h
        unfold wpOp
        simp only [ho]
        rcases step (listedOf listed) i o ho hSi h2 f H hI with ⟨hg, hop⟩ | ⟨j, want, oj, d, b, hg, hj, hd, hf, hyes, hno⟩
        · simp only [Region.wanted, hg, if_true]
          exact .inl (opgo hop)
        · simp only [Region.wanted, hg, yielded_of hs hj hd hf]
          by_cases hb : b = some want
          · subst hb
            simp only [BEq.rfl, if_true]
            exact .inl (opgo (hyes rfl))
          · have hbe : (b == some want) = false := by simpa using hb
            simp only [hbe, Bool.false_eq_true, if_false]
            obtain ⟨d', hd', hn', hI'⟩ := hno hb
            rw [hd']
            exact go μ _ H _ w (hs.put (.refl _ _ _) hs.hr hn' (.tup rfl (by simp))) (.refl _ _ _) hI'
  intro μ a w hs
  have hh : ({ w with drawn := w.drawn + 1 } : World).heap = w.heap := rfl
  have hs' : SR n { w with drawn := w.drawn + 1 } μ f H a := hs.stay (.heap hh ⟨rfl, rfl, rfl, fun _ => Nat.le_succ _⟩) (hs.hr.heap hh)
  refine wp_region_any hm ?_
  have hS0 : listedOf (Array.replicate ops.size false) = fun _ => false := by
    funext k
    simp only [listedOf, Array.getD_eq_getD_getElem?, Array.getElem?_replicate]
    split <;> rfl
  have hl0 : left ops.size (listedOf (Array.replicate ops.size false)) = ops.size := by
    rw [hS0]; unfold left; rw [List.filter_eq_self.2 (by simp)]; simp
  have := key ops.size (Array.replicate ops.size false) (by simp) hl0 μ f H a _ hs' (by rw [hS0]; exact h0)
  have mono : ∀ (fuel : Nat) (l : Array Bool) (a : Act) (w1 : World), wpAny P .any ops (Post n μ H { w with drawn := w.drawn + 1 } Q) fuel l a w1 → wpAny P .any ops (Post n μ H w Q) fuel l a w1 := by
    have hq : ∀ e a w1, Post n μ H { w with drawn := w.drawn + 1 } Q e a w1 → Post n μ H w Q e a w1 := by
      rintro e a w1 ⟨μ2, f2, H2, g1, g2, g3⟩
      exact ⟨μ2, f2, H2, g1, (Ext.heap hh ⟨rfl, rfl, rfl, fun _ => Nat.le_succ _⟩).trans g2, g3⟩
    intro fuel
    induction fuel with
    | zero => intro l a w1 h; exact ⟨h.1, hq _ _ _ h.2⟩
    | succ fuel ih2 =>
      intro l a w1 h
      refine ⟨fun h0 => hq _ _ _ (h.1 h0), fun j hj => ?_⟩
      have h4 := h.2 j hj
      unfold wpOp at h4 ⊢
      split
      · rename_i hn; simp only [hn] at h4; exact ih2 _ _ _ h4
      · rename_i oj hoj
        simp only [hoj] at h4
        split
        · rename_i hw
          simp only [hw, if_true] at h4
          rcases h4 with h4 | ⟨h5, a1, w2, h6⟩
          · exact .inl (Oper.wp_mono (fun a w h => ih2 _ a w h) (fun e a w _ h => hq e a w h) h4)
          · exact .inr ⟨h5, a1, w2, hq _ _ _ h6⟩
        · rename_i hw
          simp only [hw] at h4
          exact ih2 _ _ _ h4
  exact mono _ _ _ _ this
theorem AWP.region_quietX {id : Nat} {ops : Array Oper} (hm : P.follows .mixedOrders = true) (hback : backB ops = true) (k : Nat) (tail : List Nat) (htl : (List.range ops.size).drop k = tail) (hq : quietB ops k = true) (M : Heap → Prop) (hM : M H)
    (h : QE P n ops M (fun f => ∀ H', M H' → AOpsX P n ops Q tail f H') k 0 f) : AWP P n (.region id ops true) Q f H := by
  obtain ⟨L, h⟩ := h
  have hL : L.length = k := by have := h.len; omega
  obtain ⟨hT, hops⟩ := h.get
  simp only [quietB, Bool.and_eq_true] at hq
  obtain ⟨⟨hk, hq1⟩, hq2⟩ := hq
  have hk := Nat.le_of_ble_eq_true hk
  rw [List.all_eq_true] at hq1 hq2
  subst htl
  -- what holds at each set: the frame is the sequential one; once the head is through, the tail's own condition
  let I : (Nat → Bool) → (Nat → AV) → Heap → Prop := fun S f' H' => Dn ops S ∧
    ((∀ i, k ≤ i → i < ops.size → S i = false) ∧ (∀ t, f' t = cur L 0 S f t) ∧ M H' ∨
     ∃ i, k < i ∧ i ≤ ops.size ∧ (∀ j, j < i → S j = true) ∧ (∀ j, i ≤ j → j < ops.size → S j = false) ∧ AOpsX P n ops Q ((List.range ops.size).drop i) f' H')
  have beqf : ∀ x y : Nat, x ≠ y → Nat.beq x y = false := fun x y h => by
    cases hb : Nat.beq x y with
    | false => rfl
    | true => exact absurd (Nat.eq_of_beq_eq_true hb) h
  have hdn : ∀ (S : Nat → Bool) i o, Dn ops S → ops[i]? = some o → (∀ e ∈ o.after, Region.binds .any e = true → S e.on = true) → Dn ops (fun k => Nat.beq k i || S k) := by
    intro S i o hD ho hr j oj hj hS e he hb
    by_cases hji : j = i
    · subst hji
      rw [ho] at hj; cases hj
      simp [hr e he hb]
    · have hS : (Nat.beq j i || S j) = true := hS
      rw [beqf _ _ hji, Bool.false_or] at hS
      simp [hD j oj hj hS e he hb]
  have bef : ∀ (S : Nat → Bool), Dn ops S → ∀ i m j, (befL ops.toList [])[i]? = some m → m.testBit j = true → S i = true → S j = true := fun S hD => bef_spec hD ops.toList [] (fun j => by simp) (fun i m j hi => by simp at hi)
  have befD : ∀ (S : Nat → Bool), Dn ops S → ∀ i j, ((befL ops.toList []).getD i 0).testBit j = true → S i = true → S j = true := by
    intro S hD i j hb hS
    rcases Nat.lt_or_ge i (befL ops.toList []).length with h | h
    · rw [List.getD_eq_getElem?_getD, List.getElem?_eq_getElem h, Option.getD_some] at hb
      exact bef S hD i _ j (List.getElem?_eq_getElem h) hb hS
    · rw [List.getD_eq_getElem?_getD, List.getElem?_eq_none h, Option.getD_none] at hb
      simp at hb
  refine AWP.region_anyX hm hback I ⟨fun _ _ _ h => (by cases h), .inl ⟨fun _ _ _ => rfl, fun t => (cur_other L 0 f fun _ _ _ _ => rfl).symm, hM⟩⟩ ?_ ?_
  · -- a step
    intro S i o ho hSi hr f' H' ⟨hD, hcase⟩
    have hi : i < ops.size := by
      rcases Nat.lt_or_ge i ops.size with h' | h'
      · exact h'
      · rw [Array.getElem?_eq_none h'] at ho; cases ho
    have hD' := hdn S i o hD ho hr
    have hSi' : (fun k => Nat.beq k i || S k) i = true := by simp
    -- the tail's operations, from a state at which all before i are through
    have tailstep : k ≤ i → (∀ j, j < i → S j = true) → (∀ j, i ≤ j → j < ops.size → S j = false) → AOpsX P n ops Q ((List.range ops.size).drop i) f' H' →
        (o.guard = none ∧ AOpX P n o (I (fun k => Nat.beq k i || S k)) Q f' H') ∨
        (∃ j want oj d b, o.guard = some (j, want) ∧ ops[j]? = some oj ∧ oj.dst = some d ∧ f' d = gAV b ∧ (b = some want → AOpX P n o (I (fun k => Nat.beq k i || S k)) Q f' H') ∧ (b ≠ some want → ∃ d', o.dst = some d' ∧ Nat.ble (d' + 1) n = true ∧ I (fun k => Nat.beq k i || S k) (upd f' d' (.tup [])) H')) := by
      intro hki hbef hlow hA
      have hdrop : (List.range ops.size).drop i = i :: (List.range ops.size).drop (i + 1) := by
        rw [List.drop_eq_getElem_cons (by simpa using hi)]; simp
      rw [hdrop] at hA
      obtain ⟨o', ho', hA⟩ := hA
      rw [ho] at ho'; cases ho'
      have hI : ∀ f2 H2, AOpsX P n ops Q ((List.range ops.size).drop (i + 1)) f2 H2 → I (fun k => Nat.beq k i || S k) f2 H2 := fun f2 H2 h =>
        ⟨hD', .inr ⟨i + 1, by omega, by omega, fun j hj => by
          by_cases hji : j = i
          · subst hji; simp
          · simp [hbef j (by omega)], fun j hj1 hj2 => by show (Nat.beq j i || S j) = false; rw [beqf _ _ (by omega), Bool.false_or]; exact hlow j (by omega) hj2, h⟩⟩
      have mono : AOpX P n o (AOpsX P n ops Q ((List.range ops.size).drop (i + 1))) Q f' H' → AOpX P n o (I (fun k => Nat.beq k i || S k)) Q f' H' := fun h μ a w hs =>
        Oper.wp_mono (fun a' w' ⟨μ', f2, H2, g1, g2, g3⟩ => ⟨μ', f2, H2, g1, g2, hI _ _ g3⟩) (fun _ _ _ _ h => h) (h μ a w hs)
      rcases hA with ⟨hg, hA⟩ | ⟨j, want, oj, d, b, hg, hj, hd, hfb, h1, h2⟩
      · exact .inl ⟨hg, mono hA⟩
      · refine .inr ⟨j, want, oj, d, b, hg, hj, hd, hfb, fun e => mono (h1 e), fun e => ?_⟩
        obtain ⟨d', hd', hn', h3⟩ := h2 e
        exact ⟨d', hd', hn', hI _ _ h3⟩
    rcases hcase with ⟨hlow, hf, hM'⟩ | ⟨i0, h1, h2, h3, h4, h5⟩
    · by_cases hik : i < k
      · -- in the head
        have hLi : i < L.length := by omega
        obtain ⟨o', ho', hd, hop⟩ := hops i L[i].1 L[i].2 (List.getElem?_eq_getElem hLi)
        rw [Nat.zero_add, ho] at ho'
        cases ho'
        have hq := hq1 i (List.mem_range.2 hik)
        rw [ho] at hq
        simp only [hd, Bool.true_and, List.all_eq_true, List.mem_range] at hq
        -- who writes a slot that i looks at, or writes
        have hw : ∀ t, t ∈ tmpsOf o ++ guardSlot ops o ++ [L[i].1] → ∀ j p, L[j]? = some p → p.1 = t → j ≠ i → (j < i → S j = true) ∧ (i < j → S j = false) := by
          intro t ht j p hj hp hne
          have hjk : j < k := by
            have := (List.getElem?_eq_some_iff.1 hj).1; omega
          have h1 := hq t (by simpa using ht) j hjk
          obtain ⟨oj, hoj, hdj, _⟩ := hops j p.1 p.2 hj
          rw [Nat.zero_add] at hoj
          have hds : (ops.toList.map (·.dst))[j]? = some (some p.1) := by simp [hoj, hdj]
          rw [hds] at h1
          simp only [beqf _ _ (Ne.symm hne), Bool.false_or, hp] at h1
          have htt : Nat.beq t t = true := by simp
          rw [htt] at h1
          simp only [Bool.not_true, Bool.false_or] at h1
          refine ⟨fun hlt => ?_, fun hlt => ?_⟩
          · rw [if_pos hlt] at h1
            have := befD _ hD' i j h1 hSi'
            have this : (Nat.beq j i || S j) = true := this
            rw [beqf _ _ hne, Bool.false_or] at this
            exact this
          · rw [if_neg (by omega)] at h1
            cases hSj : S j with
            | false => rfl
            | true =>
              have := befD S hD j i h1 hSj
              rw [hSi] at this; cases this
        have hval : ∀ t, t ∈ tmpsOf o ++ guardSlot ops o ++ [L[i].1] → f' t = cur (L.take i) 0 (fun _ => true) f t := by
          intro t ht
          rw [hf t]
          refine cur_take L 0 f i (fun j p hj hp hlt => ?_) (fun j p hj hp hge => ?_)
          · rw [Nat.zero_add]; exact (hw t ht j p hj hp (by omega)).1 hlt
          · rw [Nat.zero_add]
            by_cases hji : j = i
            · rw [hji]; exact hSi
            · exact (hw t ht j p hj hp hji).2 (by omega)
        have hnew : ∀ f2, f2 = upd f' L[i].1 L[i].2 → ∀ t, f2 t = cur L 0 (fun k => Nat.beq k i || S k) f t := by
          intro f2 h2 t
          rw [h2, cur_set L 0 f L[i].1 L[i].2 i (by omega) (List.getElem?_eq_getElem hLi) hSi (fun j p hj hp hlt => by
            rw [Nat.zero_add]; exact (hw L[i].1 (by simp) j p hj hp (by omega)).2 hlt) t, upd_eq, upd_eq, hf t]
        have hI : ∀ f2 H2, f2 = upd f' L[i].1 L[i].2 ∧ M H2 → I (fun k => Nat.beq k i || S k) f2 H2 := fun f2 H2 ⟨e, m⟩ =>
          ⟨hD', .inl ⟨fun j hj hj2 => by show (Nat.beq j i || S j) = false; rw [beqf _ _ (by omega), Bool.false_or]; exact hlow j hj hj2, hnew f2 e, m⟩⟩
        have mono : ∀ {K K' : (Nat → AV) → Heap → Prop}, (∀ f H, K f H → K' f H) → AOp P n o K f' H' → AOpX P n o K' Q f' H' := fun hk h => (AOp.imp hk h).x
        rcases hop with ⟨hg, hop⟩ | ⟨j, want, oj, dj, b, hg, hj, hdj, hfb, hyes, hno⟩
        · exact .inl ⟨hg, mono hI (hop f' H' (fun t ht => hval t (by have := List.elem_iff.1 ht; simp [this])) hM')⟩
        · refine .inr ⟨j, want, oj, dj, b, hg, hj, hdj, ?_, fun hb => mono hI (hyes hb f' H' (fun t ht => hval t (by have := List.elem_iff.1 ht; simp [this])) hM'), fun hb => ?_⟩
          · rw [hval dj (by simp [guardSlot, hg, hj, hdj])]; exact hfb
          · obtain ⟨hv, hn⟩ := hno hb
            exact ⟨L[i].1, hd, hn, hI _ _ ⟨by rw [hv], hM'⟩⟩
      · -- the tail begins
        have hki : k ≤ i := by omega
        have hbef : ∀ j, j < i → S j = true := by
          intro j hj
          have h1 := hq2 i (List.mem_range.2 hi)
          simp only [Bool.or_eq_true, decide_eq_true_eq, List.all_eq_true, List.mem_range] at h1
          rcases h1 with h1 | h1
          · omega
          · have : (Nat.beq j i || S j) = true := befD _ hD' i j (h1 j hj) hSi'
            rw [beqf _ _ (by omega), Bool.false_or] at this
            exact this
        have hik' : i = k := by
          rcases Nat.lt_or_ge k i with h | h
          · have := hbef k h; rw [hlow k (Nat.le_refl _) (by omega)] at this; cases this
          · omega
        subst hik'
        refine tailstep (Nat.le_refl _) hbef hlow ?_
        have hfall : f' = cur L 0 (fun _ => true) f := by
          funext t
          rw [hf t]
          exact cur_congr L 0 f f rfl fun j p hj _ => by
            have := (List.getElem?_eq_some_iff.1 hj).1
            rw [Nat.zero_add]; exact hbef j (by omega)
        rw [hfall]
        exact hT H' hM'
    · have hii : i = i0 := by
        have hge : i0 ≤ i := by
          rcases Nat.lt_or_ge i i0 with h | h
          · rw [h3 i h] at hSi; cases hSi
          · exact h
        rcases Nat.lt_or_ge i0 i with h | h
        · have h1' := hq2 i (List.mem_range.2 hi)
          simp only [Bool.or_eq_true, decide_eq_true_eq, List.all_eq_true, List.mem_range] at h1'
          rcases h1' with h1' | h1'
          · omega
          · have : (Nat.beq i0 i || S i0) = true := befD _ hD' i i0 (h1' i0 h) hSi'
            rw [beqf _ _ (by omega), Bool.false_or, h4 i0 (Nat.le_refl _) (by omega)] at this
            cases this
        · omega
      subst hii
      exact tailstep (by omega) h3 h4 h5
  · -- the end
    intro S f' H' hall ⟨hD, hcase⟩
    rcases hcase with ⟨hlow, hf, hM'⟩ | ⟨i0, h1, h2, h3, h4, h5⟩
    · have hkn : k = ops.size := by
        rcases Nat.lt_or_ge k ops.size with h | h
        · have := hlow k (Nat.le_refl _) h; rw [hall k h] at this; cases this
        · omega
      have hfall : f' = cur L 0 (fun _ => true) f := by
        funext t
        rw [hf t]
        exact cur_congr L 0 f f rfl fun j p hj _ => by
          have := (List.getElem?_eq_some_iff.1 hj).1
          rw [Nat.zero_add]; exact hall j (by omega)
      have h5 := hT H' hM'
      rw [← hfall, hkn, List.drop_of_length_le (by simp)] at h5
      exact h5
    · have hi0 : i0 = ops.size := by
        rcases Nat.lt_or_ge i0 ops.size with h | h
        · have := h4 i0 (Nat.le_refl _) h; rw [hall i0 h] at this; cases this
        · omega
      rw [hi0, List.drop_of_length_le (by simp)] at h5
      exact h5
end
end Go.AH
namespace Go.Proofs.S
open Go Go.AH
variable [Globs]
set_option linter.unusedSectionVars false
abbrev GE := Nat × AV × Nat × List AV
def MO (H0 H : Heap) (L : List GE) : Prop := (∀ e ∈ L, Own H0 H e.1 e.2.1 e.2.2.1 e.2.2.2) ∧ L.Pairwise fun a b => Sep a.2.1 b.2.1
def NotIdM (L : List GE) (i : Nat) : Prop := ∀ e ∈ L, NotId e.2.1 i
def SepM (L : List GE) (v : AV) : Prop := ∀ e ∈ L, Sep e.2.1 v
section
variable {H0 H H' : Heap} {L : List GE} {v v' : AV} {i : Nat}
theorem MO.mono (h : MO H0 H L) (m : Mono H H') : MO H0 H' L := ⟨fun e he => (h.1 e he).mono m, h.2⟩
theorem MO.keep (h : MO H0 H L) (ho : ∀ j, j ≠ i → H' j = H j) (hn : NotIdM L i) : MO H0 H' L := ⟨fun e he => (h.1 e he).keep ho (hn e he), h.2⟩
theorem MO.notnew (h : MO H0 H L) (hi : H i = none) : NotIdM L i := fun e he => (h.1 e he).notnew hi
theorem MO.stay (h : MO H0 H L) (hs : SepM L v) (hk : ∀ i, NotId v i → H i ≠ none → H' i = H i) : MO H0 H' L := ⟨fun e he => (h.1 e he).stay (hs e he) hk, h.2⟩
theorem MO.stay2 {rid : Nat} (h : MO H0 H L) (hs : SepM L v) (hr : NotIdM L rid) (hk : ∀ i, i ≠ rid → NotId v i → H' i = H i) : MO H0 H' L := ⟨fun e he => (h.1 e he).stay2 (hs e he) (hr e he) hk, h.2⟩
theorem MO.sep (h : MO H0 H L) (hs : SepM L v) (hk : ∀ i, NotId v i → H i ≠ none → NotId v' i) : SepM L v' := fun e he => (h.1 e he).sep (hs e he) hk
theorem SepM.nilR (L : List GE) : SepM L .snil := fun _ _ => .nilR _
theorem SepM.ofNotId {i a b c d : Nat} (h : NotIdM L i) : SepM L (.slm i a b c d) := fun e he => Sep.ofNotId' (h e he)
theorem MO.fresh {es len : Nat} {v : AV} {cells : List AV} (h : MO H0 H L) (o : Own H H' es v len cells) : SepM L v := fun e he => Sep.fresh (h.1 e he) o
theorem MO.free {j : Nat} {b : AB} (h : MO H0 H L) (hb : H0 j = some b) : NotIdM L j := fun e he => Own.free (h.1 e he) hb
theorem MO.at {e : GE} (i : Nat) (h : MO H0 H L) (hi : L[i]? = some e) : Own H0 H e.1 e.2.1 e.2.2.1 e.2.2.2 ∧ MO H0 H (L.eraseIdx i) ∧ SepM (L.eraseIdx i) e.2.1 := by
  refine ⟨h.1 e (List.mem_of_getElem? hi), ⟨fun x hx => h.1 x (List.mem_of_mem_eraseIdx hx), h.2.sublist (List.eraseIdx_sublist _ _)⟩, fun x hx => ?_⟩
  obtain ⟨j, hj, hx⟩ := List.mem_eraseIdx_iff_getElem?.1 hx
  have hp := List.pairwise_iff_getElem.1 h.2
  obtain ⟨h1, h2⟩ := List.getElem?_eq_some_iff.1 hi
  obtain ⟨h3, h4⟩ := List.getElem?_eq_some_iff.1 hx
  rcases Nat.lt_or_gt_of_ne hj with hlt | hlt
  · have := hp j i h3 h1 hlt; rw [h2, h4] at this; exact this
  · have := hp i j h1 h3 hlt; rw [h2, h4] at this; exact this.symm
theorem MO.put {e : GE} (i : Nat) (hi : i < L.length) (h : MO H0 H (L.eraseIdx i)) (ho : Own H0 H e.1 e.2.1 e.2.2.1 e.2.2.2) (hs : SepM (L.eraseIdx i) e.2.1) : MO H0 H (L.set i e) := by
  have hm : ∀ j x, j ≠ i → L[j]? = some x → x ∈ L.eraseIdx i := fun j x hj hx => List.mem_eraseIdx_iff_getElem?.2 ⟨j, hj, hx⟩
  refine ⟨fun x hx => ?_, List.pairwise_iff_getElem.2 fun j k hj hk hjk => ?_⟩
  · obtain ⟨j, hj⟩ := List.getElem?_of_mem hx
    rw [List.getElem?_set] at hj
    by_cases hne : i = j
    · rw [if_pos hne, if_pos hi] at hj; cases hj; exact ho
    · rw [if_neg hne] at hj; exact h.1 x (hm j x (fun e => hne e.symm) hj)
  · have hj' : j < L.length := by simpa using hj
    have hk' : k < L.length := by simpa using hk
    rw [List.getElem_set, List.getElem_set]
    by_cases h1 : i = j
    · have h2 : ¬ i = k := by omega
      rw [if_pos h1, if_neg h2]
      exact (hs _ (hm k _ (fun e => h2 e.symm) (List.getElem?_eq_getElem hk'))).symm
    · rw [if_neg h1]
      by_cases h2 : i = k
      · rw [if_pos h2]
        exact hs _ (hm j _ (fun e => h1 e.symm) (List.getElem?_eq_getElem hj'))
      · rw [if_neg h2]
        have hp := List.pairwise_iff_getElem.1 h.2
        -- both stand in the rest, in their order
        have key : ∀ m (hm : m < L.length), m ≠ i → ∃ m', (L.eraseIdx i)[m']? = some L[m] ∧ (m < i → m' = m) ∧ (i < m → m' = m - 1) := by
          intro m hm hne
          rcases Nat.lt_or_gt_of_ne hne with hlt | hlt
          · exact ⟨m, by rw [List.getElem?_eraseIdx, if_pos hlt]; exact List.getElem?_eq_getElem hm, fun _ => rfl, fun h => by omega⟩
          · refine ⟨m - 1, ?_, fun h => by omega, fun _ => rfl⟩
            rw [List.getElem?_eraseIdx, if_neg (by omega), show m - 1 + 1 = m by omega]
            exact List.getElem?_eq_getElem hm
        obtain ⟨j', e1, a1, a2⟩ := key j hj' (fun e => h1 e.symm)
        obtain ⟨k', e2, b1, b2⟩ := key k hk' (fun e => h2 e.symm)
        obtain ⟨g1, g2⟩ := List.getElem?_eq_some_iff.1 e1
        obtain ⟨g3, g4⟩ := List.getElem?_eq_some_iff.1 e2
        have hlt : j' < k' := by
          rcases Nat.lt_or_gt_of_ne h1 with hx | hx <;> rcases Nat.lt_or_gt_of_ne h2 with hy | hy
          · have := a2 hx; have := b2 hy; omega
          · omega
          · have := a1 hx; have := b2 hy; omega
          · have := a1 hx; have := b1 hy; omega
        have := hp j' k' g1 g3 hlt
        rw [g2, g4] at this; exact this
theorem NotIdM.at {e : GE} (j : Nat) (h : NotIdM L i) (hi : L[j]? = some e) : NotId e.2.1 i := h e (List.mem_of_getElem? hi)
theorem NotIdM.erase (j : Nat) (h : NotIdM L i) : NotIdM (L.eraseIdx j) i := fun x hx => h x (List.mem_of_mem_eraseIdx hx)
theorem NotIdM.put {e : GE} (j : Nat) (h : NotIdM (L.eraseIdx j) i) (hw : NotId e.2.1 i) : NotIdM (L.set j e) i := fun x hx => by
  obtain ⟨k, hk⟩ := List.getElem?_of_mem hx
  rw [List.getElem?_set] at hk
  split at hk
  · split at hk
    · cases hk; exact hw
    · cases hk
  · rename_i hne; exact h x (List.mem_eraseIdx_iff_getElem?.2 ⟨k, fun e => hne e.symm, hk⟩)
theorem SepM.at {e : GE} (j : Nat) (h : SepM L v) (hi : L[j]? = some e) : Sep e.2.1 v := h e (List.mem_of_getElem? hi)
theorem SepM.erase (j : Nat) (h : SepM L v) : SepM (L.eraseIdx j) v := fun x hx => h x (List.mem_of_mem_eraseIdx hx)
theorem SepM.put {e : GE} (j : Nat) (h : SepM (L.eraseIdx j) v) (hw : Sep e.2.1 v) : SepM (L.set j e) v := fun x hx => by
  obtain ⟨k, hk⟩ := List.getElem?_of_mem hx
  rw [List.getElem?_set] at hk
  split at hk
  · split at hk
    · cases hk; exact hw
    · cases hk
  · rename_i hne; exact h x (List.mem_eraseIdx_iff_getElem?.2 ⟨k, fun e => hne e.symm, hk⟩)
end
end Go.Proofs.S
namespace Go.Proofs.S
open Go Go.AH Go.Proofs.L
set_option linter.unusedSectionVars false
variable [LexG]
def rdC (cam : CamT) (sky : ColT) (vL vM vT vS vC : AV) (hc hs : Bool) : List AV :=
  [.int .i64 cam.Eye.X, .int .i64 cam.Eye.Y, .int .i64 cam.Eye.Z, .int .i64 cam.First.X, .int .i64 cam.First.Y, .int .i64 cam.First.Z, .int .i64 cam.Right.X, .int .i64 cam.Right.Y, .int .i64 cam.Right.Z,
   .int .i64 cam.Down.X, .int .i64 cam.Down.Y, .int .i64 cam.Down.Z, .int .i64 cam.W, .int .i64 cam.H, .int .i64 cam.Grid, .int .i64 cam.Depth, .int .i64 sky.R, .int .i64 sky.G, .int .i64 sky.B,
   vL, vM, vT, vS, vC, .bool hc, .bool hs]
def cgC (cs : List CageT) (a b c : AV) : List AV := if cs = [] then [] else cs.dropLast.flatMap eCage ++ [a, b, c]
def rdL (s : Rd) (vL vM vT vS vC vV vF vK : AV) : List GE :=
  [(6, vL, s.lights.length, s.lights.flatMap eLight), (9, vM, s.mats.length, s.mats.flatMap eMat), (4, vT, s.texs.length, s.texs.flatMap eTex), (6, vS, s.skins.length, s.skins.flatMap eSkin),
   (3, vC, s.cages.length, cgC s.cages vV vF vK), (3, vV, (lastC s.cages).Verts.length, (lastC s.cages).Verts.flatMap eV), (1, vF, (lastC s.cages).Faces.length, (lastC s.cages).Faces.map eF), (3, vK, (lastC s.cages).Creases.length, (lastC s.cages).Creases.flatMap eCr)]
structure RDv (B H : Heap) (id ver : Nat) (s : Rd) (vL vM vT vS vC vV vF vK : AV) : Prop where
  row : H id = some (.row ver (rdC s.cam s.sky vL vM vT vS vC s.hc s.hs))
  base : B id = none
  grp : MO B H (rdL s vL vM vT vS vC vV vF vK)
  nid : NotIdM (rdL s vL vM vT vS vC vV vF vK) id
def RD (B H : Heap) (id ver : Nat) (s : Rd) : Prop := ∃ vL vM vT vS vC vV vF vK, RDv B H id ver s vL vM vT vS vC vV vF vK
theorem RD.mono {B H H' : Heap} {id ver : Nat} {s : Rd} (h : RD B H id ver s) (m : Mono H H') : RD B H' id ver s := by
  obtain ⟨_, _, _, _, _, _, _, _, h1, h2, h3, h4⟩ := h
  exact ⟨_, _, _, _, _, _, _, _, m _ _ h1, h2, h3.mono m, h4⟩
theorem putC_len {cs : List CageT} {c : CageT} (h : cs ≠ []) : (putC cs c).length = cs.length := by
  have := List.length_pos_iff.2 h; simp [putC]; omega
theorem lastC_put {cs : List CageT} {c : CageT} : lastC (putC cs c) = c := by simp [lastC, putC]
theorem cgC_put {cs : List CageT} {c : CageT} {x y z : AV} : cgC (putC cs c) x y z = cs.dropLast.flatMap eCage ++ [x, y, z] := by simp [cgC, putC]
theorem cgC_ne {cs : List CageT} {x y z : AV} (h : cs ≠ []) : cgC cs x y z = cs.dropLast.flatMap eCage ++ [x, y, z] := if_neg h
theorem cgC_push {cs : List CageT} {c : CageT} {x y z : AV} : cgC (cs ++ [c]) x y z = cs.flatMap eCage ++ [x, y, z] := by simp [cgC]
theorem lastC_push {cs : List CageT} {c : CageT} : lastC (cs ++ [c]) = c := by simp [lastC]
theorem drop_len (cs : List CageT) : (cs.dropLast.flatMap eCage).length = ((cs.length : Int) - 1).toNat * 3 := by
  rw [flatMap_length eCage_len, List.length_dropLast]; congr 1; omega
theorem last_eq {cs : List CageT} (h : cs ≠ []) : cs = cs.dropLast ++ [lastC cs] := by
  rcases List.eq_nil_or_concat cs with rfl | ⟨l, a, rfl⟩
  · exact absurd rfl h
  · simp [lastC]
theorem ldC {P cs : List AV} {m k : Nat} {v : AV} (hP : P.length = m * 3) (h : loadv false 1 k cs = some v) : loadv false 1 (m * 3 + k) (P ++ cs) = some v := by
  simp only [loadv, Bool.false_eq_true, if_false] at h ⊢
  rw [← hP]
  first | (rw [List.getElem?_append_right (by omega), Nat.add_sub_cancel_left]; exact h) | skip
theorem ldC0 {P cs : List AV} {m : Nat} {v : AV} (hP : P.length = m * 3) (h : loadv false 1 0 cs = some v) : loadv false 1 (m * 3) (P ++ cs) = some v := ldC (k := 0) hP h
theorem ldCA {P : List AV} {m : Nat} {a b c : AV} (hP : P.length = m * 3) : loadv true 3 (m * 3) (P ++ [a, b, c]) = some (.agg [a, b, c]) := by
  rw [← hP]
  have e : ∀ k : Nat, k.ble k = true := fun k => Nat.ble_eq_true_of_le (Nat.le_refl _)
  simp [loadv, e]
theorem wrC {P cs vs C : List AV} {m k : Nat} (hP : P.length = m * 3) (h : writeL cs k vs = C) : writeL (P ++ cs) (m * 3 + k) vs = P ++ C := wr_skip hP rfl h
theorem wrC0 {P cs vs C : List AV} {m : Nat} (hP : P.length = m * 3) (h : writeL cs 0 vs = C) : writeL (P ++ cs) (m * 3) vs = P ++ C := wr_skip hP rfl h
theorem RDv.upC {B H : Heap} {id ver : Nat} {s : Rd} {vL vM vT vS vC vV vF vK : AV} {c : CageT} (hne : s.cages ≠ []) (row : H id = some (.row ver (rdC s.cam s.sky vL vM vT vS vC s.hc s.hs))) (base : B id = none)
    (g : MO B H [(6, vL, s.lights.length, s.lights.flatMap eLight), (9, vM, s.mats.length, s.mats.flatMap eMat), (4, vT, s.texs.length, s.texs.flatMap eTex), (6, vS, s.skins.length, s.skins.flatMap eSkin),
      (3, vC, s.cages.length, s.cages.dropLast.flatMap eCage ++ [vV, vF, vK]), (3, vV, c.Verts.length, c.Verts.flatMap eV), (1, vF, c.Faces.length, c.Faces.map eF), (3, vK, c.Creases.length, c.Creases.flatMap eCr)])
    (hn : NotIdM [(6, vL, s.lights.length, s.lights.flatMap eLight), (9, vM, s.mats.length, s.mats.flatMap eMat), (4, vT, s.texs.length, s.texs.flatMap eTex), (6, vS, s.skins.length, s.skins.flatMap eSkin),
      (3, vC, s.cages.length, s.cages.dropLast.flatMap eCage ++ [vV, vF, vK]), (3, vV, c.Verts.length, c.Verts.flatMap eV), (1, vF, c.Faces.length, c.Faces.map eF), (3, vK, c.Creases.length, c.Creases.flatMap eCr)] id) : RDv B H id ver { s with cages := putC s.cages c } vL vM vT vS vC vV vF vK := by
  refine ⟨row, base, ?_, ?_⟩
  · show MO B H [_, _, _, _, _, _, _, _]
    simp only [putC_len hne, cgC_put, lastC_put]
    exact g
  · show NotIdM [_, _, _, _, _, _, _, _] id
    simp only [putC_len hne, cgC_put, lastC_put]
    exact hn
section
variable {n : Nat} {f : Nat → AV} {B H : Heap}
theorem RDv.freezeC {id ver : Nat} {s : Rd} {vL vM vT vS vC vV vF vK : AV} (h : RDv B H id ver s vL vM vT vS vC vV vF vK) (hm : Mono B H) : ∃ H', Ghost n f H f H' ∧ Mono B H' ∧ H' id = some (.row ver (rdC s.cam s.sky vL vM vT vS vC s.hc s.hs)) ∧
    MO B H' [(6, vL, s.lights.length, s.lights.flatMap eLight), (9, vM, s.mats.length, s.mats.flatMap eMat), (4, vT, s.texs.length, s.texs.flatMap eTex), (6, vS, s.skins.length, s.skins.flatMap eSkin), (3, vC, s.cages.length, s.cages.flatMap eCage)] ∧ NotIdM [(6, vL, s.lights.length, s.lights.flatMap eLight), (9, vM, s.mats.length, s.mats.flatMap eMat), (4, vT, s.texs.length, s.texs.flatMap eTex), (6, vS, s.skins.length, s.skins.flatMap eSkin), (3, vC, s.cages.length, s.cages.flatMap eCage)] id := by
  obtain ⟨hrow, hB, hg, hn⟩ := h
  have hn5 : NotIdM [(6, vL, s.lights.length, s.lights.flatMap eLight), (9, vM, s.mats.length, s.mats.flatMap eMat), (4, vT, s.texs.length, s.texs.flatMap eTex), (6, vS, s.skins.length, s.skins.flatMap eSkin), (3, vC, s.cages.length, s.cages.flatMap eCage)] id := by
    intro e he
    simp only [List.mem_cons, List.not_mem_nil, or_false] at he
    rcases he with rfl | rfl | rfl | rfl | rfl
    · exact hn.at 0 rfl
    · exact hn.at 1 rfl
    · exact hn.at 2 rfl
    · exact hn.at 3 rfl
    · have nC : NotId vC id := hn.at 4 rfl
      exact nC
  have rest : ∀ {H' : Heap}, (∀ e ∈ [(6, vL, s.lights.length, s.lights.flatMap eLight), (9, vM, s.mats.length, s.mats.flatMap eMat), (4, vT, s.texs.length, s.texs.flatMap eTex), (6, vS, s.skins.length, s.skins.flatMap eSkin)], Own B H' e.1 e.2.1 e.2.2.1 e.2.2.2) →
      Own B H' 3 vC s.cages.length (s.cages.flatMap eCage) → MO B H' [(6, vL, s.lights.length, s.lights.flatMap eLight), (9, vM, s.mats.length, s.mats.flatMap eMat), (4, vT, s.texs.length, s.texs.flatMap eTex), (6, vS, s.skins.length, s.skins.flatMap eSkin), (3, vC, s.cages.length, s.cages.flatMap eCage)] := by
    intro H' h1 h2
    refine ⟨fun e he => ?_, ?_⟩
    · rcases List.mem_append.1 (show e ∈ [(6, vL, s.lights.length, s.lights.flatMap eLight), (9, vM, s.mats.length, s.mats.flatMap eMat), (4, vT, s.texs.length, s.texs.flatMap eTex), (6, vS, s.skins.length, s.skins.flatMap eSkin)] ++ [(3, vC, s.cages.length, s.cages.flatMap eCage)] from he) with he | he
      · exact h1 e he
      · simp at he; subst he; exact h2
    · have := hg.2
      simp only [rdL, List.pairwise_cons, List.mem_cons, List.not_mem_nil, or_false, forall_eq_or_imp, forall_eq, List.Pairwise.nil, and_true, false_imp_iff, implies_true] at this ⊢
      simp_all
  by_cases hne : s.cages = []
  · refine ⟨H, .refl, hm, hrow, rest (fun e he => hg.1 e ?_) ?_, hn5⟩
    · simp only [rdL, List.mem_cons, List.not_mem_nil, or_false] at he ⊢
      rcases he with rfl | rfl | rfl | rfl <;> simp
    · have := (hg.at 4 rfl).1
      rw [hne] at this ⊢
      exact this
  · have oC : Own B H 3 vC s.cages.length (cgC s.cages vV vF vK) := (hg.at 4 rfl).1
    have oV : Own B H 3 vV (lastC s.cages).Verts.length ((lastC s.cages).Verts.flatMap eV) := (hg.at 5 rfl).1
    have oF : Own B H 1 vF (lastC s.cages).Faces.length ((lastC s.cages).Faces.map eF) := (hg.at 6 rfl).1
    have oK : Own B H 3 vK (lastC s.cages).Creases.length ((lastC s.cages).Creases.flatMap eCr) := (hg.at 7 rfl).1
    have nV : NotId vV id := hn.at 5 rfl
    have nF : NotId vF id := hn.at 6 rfl
    have nK : NotId vK id := hn.at 7 rfl
    have hp := hg.2
    simp only [rdL, List.pairwise_cons, List.mem_cons, List.not_mem_nil, or_false, forall_eq_or_imp, forall_eq, List.Pairwise.nil, and_true, false_imp_iff, implies_true] at hp
    obtain ⟨⟨_, _, _, _, lV, lF, lK⟩, ⟨_, _, _, mV, mF, mK⟩, ⟨_, _, tV, tF, tK⟩, ⟨_, sV, sF, sK⟩, ⟨cV, cF, cK⟩, ⟨vF_, vK_⟩, fK⟩ := hp
    rw [cgC_ne hne] at oC
    obtain ⟨i, v, rfl, hi, hBi, hlen⟩ := oC.pos (List.length_pos_iff.2 hne)
    have iV : NotId vV i := cV.notId rfl
    have iF : NotId vF i := cF.notId rfl
    have iK : NotId vK i := cK.notId rfl
    have hL := drop_len s.cages
    generalize hP : s.cages.dropLast.flatMap eCage = P at hi hL hlen
    have hid : id ≠ i := fun e => by
      have := hn.at 4 rfl
      exact this _ _ _ _ _ rfl e
    obtain ⟨H1, g1, r1, m1, k1⟩ := Ghost.ownCell (n := n) (f := f) (k := P.length) oV hi hBi (by simp) iV hm
    have oF1 := oF.stay2 vF_.symm iF k1
    have oK1 := oK.stay2 vK_.symm iK k1
    obtain ⟨H2, g2, r2, m2, k2⟩ := Ghost.ownCell (n := n) (f := f) (k := P.length + 1) oF1 r1 hBi (by simp) iF m1
    have oK2 := oK1.stay2 fK.symm iK k2
    obtain ⟨H3, g3, r3, m3, k3⟩ := Ghost.ownCell (n := n) (f := f) (k := P.length + 2) oK2 r2 hBi (by simp) iK m2
    refine ⟨H3, g1.trans (g2.trans g3), m3, ?_, rest ?_ (.inr ⟨i, v, rfl, ?_, hBi, by rw [flatMap_length eCage_len]⟩), hn5⟩
    · exact (k3 _ hid nK).trans ((k2 _ hid nF).trans ((k1 _ hid nV).trans hrow))
    · intro e he
      have ho : Own B H e.1 e.2.1 e.2.2.1 e.2.2.2 ∧ Sep e.2.1 vV ∧ Sep e.2.1 vF ∧ Sep e.2.1 vK ∧ NotId e.2.1 i := by
        have hC : ∀ w, Sep w (.slm i v 3 0 s.cages.length) → NotId w i := fun w h => h.symm.notId rfl
        have hall := hg.1
        have hp2 := hg.2
        simp only [rdL, List.pairwise_cons, List.mem_cons, List.not_mem_nil, or_false, forall_eq_or_imp, forall_eq, List.Pairwise.nil, and_true, false_imp_iff, implies_true] at hp2
        simp only [List.mem_cons, List.not_mem_nil, or_false] at he
        rcases he with rfl | rfl | rfl | rfl
        · exact ⟨hall _ (by simp [rdL]), lV, lF, lK, hC _ hp2.1.2.2.2.1⟩
        · exact ⟨hall _ (by simp [rdL]), mV, mF, mK, hC _ hp2.2.1.2.2.1⟩
        · exact ⟨hall _ (by simp [rdL]), tV, tF, tK, hC _ hp2.2.2.1.2.1⟩
        · exact ⟨hall _ (by simp [rdL]), sV, sF, sK, hC _ hp2.2.2.2.1.1⟩
      obtain ⟨o, a, b, c, d⟩ := ho
      exact ((o.stay2 a d k1).stay2 b d k2).stay2 c d k3
    · rw [r3]
      congr 2
      conv => rhs; rw [last_eq hne, List.flatMap_append, hP]
      simp [eCage, List.set_append]
theorem RD.freeze {id ver : Nat} {s : Rd} (h : RD B H id ver s) (hm : Mono B H) : ∃ H', Ghost n f H f H' ∧ Mono B H' ∧ H' id = some (.row ver (eScene s.scene ++ [.bool s.hc, .bool s.hs])) := by
  obtain ⟨vL, vM, vT, vS, vC, vV, vF, vK, h⟩ := h
  have hn := h.nid
  have hB := h.base
  obtain ⟨H0, g0, m0, r0, hg, _⟩ := h.freezeC (n := n) (f := f) hm
  have hp := hg.2
  simp only [List.pairwise_cons, List.mem_cons, List.not_mem_nil, or_false, forall_eq_or_imp, forall_eq, List.Pairwise.nil, and_true, false_imp_iff, implies_true] at hp
  obtain ⟨⟨lm, lt, ls, lc⟩, ⟨mt, ms, mc⟩, ⟨ts, tc⟩, sc⟩ := hp
  have nL : NotId vL id := hn.at 0 rfl
  have nM : NotId vM id := hn.at 1 rfl
  have nT : NotId vT id := hn.at 2 rfl
  have nS : NotId vS id := hn.at 3 rfl
  have nC : NotId vC id := hn.at 4 rfl
  have oL : Own B H0 6 vL _ _ := hg.1 (6, vL, s.lights.length, s.lights.flatMap eLight) (by simp)
  have oM : Own B H0 9 vM _ _ := hg.1 (9, vM, s.mats.length, s.mats.flatMap eMat) (by simp)
  have oT : Own B H0 4 vT _ _ := hg.1 (4, vT, s.texs.length, s.texs.flatMap eTex) (by simp)
  have oS : Own B H0 6 vS _ _ := hg.1 (6, vS, s.skins.length, s.skins.flatMap eSkin) (by simp)
  have oC : Own B H0 3 vC _ _ := hg.1 (3, vC, s.cages.length, s.cages.flatMap eCage) (by simp)
  obtain ⟨H1, g1, r1, m1, k1⟩ := Ghost.ownCell (n := n) (f := f) (k := 19) oL r0 hB rfl nL m0
  have oM1 := oM.stay2 lm.symm nM k1; have oT1 := oT.stay2 lt.symm nT k1; have oS1 := oS.stay2 ls.symm nS k1; have oC1 := oC.stay2 lc.symm nC k1
  obtain ⟨H2, g2, r2, m2, k2⟩ := Ghost.ownCell (n := n) (f := f) (k := 20) oM1 r1 hB rfl nM m1
  have oT2 := oT1.stay2 mt.symm nT k2; have oS2 := oS1.stay2 ms.symm nS k2; have oC2 := oC1.stay2 mc.symm nC k2
  obtain ⟨H3, g3, r3, m3, k3⟩ := Ghost.ownCell (n := n) (f := f) (k := 21) oT2 r2 hB rfl nT m2
  have oS3 := oS2.stay2 ts.symm nS k3; have oC3 := oC2.stay2 tc.symm nC k3
  obtain ⟨H4, g4, r4, m4, k4⟩ := Ghost.ownCell (n := n) (f := f) (k := 22) oS3 r3 hB rfl nS m3
  have oC4 := oC3.stay2 sc.symm nC k4
  obtain ⟨H5, g5, r5, m5, k5⟩ := Ghost.ownCell (n := n) (f := f) (k := 23) oC4 r4 hB rfl nC m4
  exact ⟨H5, g0.trans (g1.trans (g2.trans (g3.trans (g4.trans g5)))), m5, r5⟩
theorem AWP.freezeC {P : Program} {c : Code} {Q : Exit → (Nat → AV) → Heap → Prop} {id ver : Nat} {s : Rd} {vL vM vT vS vC vV vF vK : AV} (h : RDv B H id ver s vL vM vT vS vC vV vF vK) (hm : Mono B H)
    (hK : ∀ H', Mono B H' → H' id = some (.row ver (rdC s.cam s.sky vL vM vT vS vC s.hc s.hs)) → MO B H' [(6, vL, s.lights.length, s.lights.flatMap eLight), (9, vM, s.mats.length, s.mats.flatMap eMat), (4, vT, s.texs.length, s.texs.flatMap eTex), (6, vS, s.skins.length, s.skins.flatMap eSkin), (3, vC, s.cages.length, s.cages.flatMap eCage)] → NotIdM [(6, vL, s.lights.length, s.lights.flatMap eLight), (9, vM, s.mats.length, s.mats.flatMap eMat), (4, vT, s.texs.length, s.texs.flatMap eTex), (6, vS, s.skins.length, s.skins.flatMap eSkin), (3, vC, s.cages.length, s.cages.flatMap eCage)] id → AWP P n c Q f H') : AWP P n c Q f H :=
  let ⟨H', g, m, r, a, b⟩ := h.freezeC (n := n) (f := f) hm
  AWP.ghost g (hK H' m r a b)
theorem AWP.rdFreeze {P : Program} {c : Code} {Q : Exit → (Nat → AV) → Heap → Prop} {id ver : Nat} {s : Rd} (h : RD B H id ver s) (hm : Mono B H) (hK : ∀ H', Mono B H' → H' id = some (.row ver (eScene s.scene ++ [.bool s.hc, .bool s.hs])) → AWP P n c Q f H') : AWP P n c Q f H :=
  let ⟨H', g, m, r⟩ := h.freeze (n := n) (f := f) hm
  AWP.ghost g (hK H' m r)
end
theorem RDv.push {B H : Heap} {id ver : Nat} {s : Rd} {vL vM vT vS vC : AV} (row : H id = some (.row ver (rdC s.cam s.sky vL vM vT vS vC s.hc s.hs))) (base : B id = none)
    (g : MO B H [(6, vL, s.lights.length, s.lights.flatMap eLight), (9, vM, s.mats.length, s.mats.flatMap eMat), (4, vT, s.texs.length, s.texs.flatMap eTex), (6, vS, s.skins.length, s.skins.flatMap eSkin), (3, vC, s.cages.length + 1, s.cages.flatMap eCage ++ [.snil, .snil, .snil])])
    (hn : NotIdM [(6, vL, s.lights.length, s.lights.flatMap eLight), (9, vM, s.mats.length, s.mats.flatMap eMat), (4, vT, s.texs.length, s.texs.flatMap eTex), (6, vS, s.skins.length, s.skins.flatMap eSkin), (3, vC, s.cages.length + 1, s.cages.flatMap eCage ++ [.snil, .snil, .snil])] id) : RDv B H id ver { s with cages := s.cages ++ [⟨[], [], []⟩] } vL vM vT vS vC .snil .snil .snil := by
  refine ⟨row, base, ?_, ?_⟩
  · show MO B H [_, _, _, _, _, _, _, _]
    simp only [lastC_push, cgC_push, List.length_append, List.length_cons, List.length_nil]
    have h1 := g.1
    have h2 := g.2
    refine ⟨fun e he => ?_, ?_⟩
    · simp only [List.mem_cons, List.not_mem_nil, or_false] at he
      rcases he with rfl | rfl | rfl | rfl | rfl | rfl | rfl | rfl
      · exact h1 _ (by simp)
      · exact h1 _ (by simp)
      · exact h1 _ (by simp)
      · exact h1 _ (by simp)
      · exact h1 _ (by simp)
      · exact .nil _ _ _
      · exact .nil _ _ _
      · exact .nil _ _ _
    · simp only [List.pairwise_cons, List.mem_cons, List.not_mem_nil, or_false, forall_eq_or_imp, forall_eq, List.Pairwise.nil, and_true, false_imp_iff, implies_true] at h2 ⊢
      simp_all [Sep.nilR]
  · intro e he
    simp only [rdL, lastC_push, List.mem_cons, List.not_mem_nil, or_false] at he
    rcases he with rfl | rfl | rfl | rfl | rfl | rfl | rfl | rfl
    · exact hn.at 0 rfl
    · exact hn.at 1 rfl
    · exact hn.at 2 rfl
    · exact hn.at 3 rfl
    · have nC : NotId vC id := hn.at 4 rfl
      exact nC
    · exact .nil _
    · exact .nil _
    · exact .nil _
def eCg : Option CageT → List AV
  | some c => eCage c
  | none => [.snil, .snil, .snil]
theorem eCg_all (cs : List CageT) : (cs.map some).flatMap eCg = cs.flatMap eCage := by simp [List.flatMap_map, eCg]
theorem eCg_push (cs : List CageT) : (cs.map some ++ [none]).flatMap eCg = cs.flatMap eCage ++ [.snil, .snil, .snil] := by
  rw [List.flatMap_append, eCg_all]; rfl
theorem Own.rowOf {B H : Heap} {es len i vr : Nat} {v : AV} {cells : List AV} (h : Own B H es v len cells) (e : v = .slm i vr es 0 len) : H i = some (.row vr cells) ∧ B i = none ∧ cells.length = len * es := by
  rcases h with ⟨h1, _, _⟩ | ⟨id, ver, h1, h2, h3, h4⟩
  · rw [h1] at e; cases e
  · rw [h1] at e; cases e; exact ⟨h2, h3, h4⟩
theorem SepM.nid {L : List GE} {v : AV} {i a b c d : Nat} (h : SepM L v) (e : v = .slm i a b c d) : NotIdM L i := fun x hx => (h x hx).symm.notId e
theorem SepM.of {L : List GE} {v : AV} {i a b c d : Nat} (h : NotIdM L i) (e : v = .slm i a b c d) : SepM L v := by subst e; exact .ofNotId h
theorem Sep.of {w v : AV} {i a b c d : Nat} (h : NotId w i) (e : v = .slm i a b c d) : Sep w v := by subst e; exact (Sep.ofNotId h).symm
theorem Mono.mono {A B C : Heap} (a : Mono A B) (b : Mono B C) : Mono A C := a.trans b
theorem gE {α : Type} {b : Bool} {k0 k : Int} {x : Except Int α} (h : (if b = true then (Except.ok () : Except Int Unit) else .error k0) = .error k) : gd b k0 x = .error k := by
  cases b
  · exact (if_neg Bool.false_ne_true).trans (by cases h; rfl)
  · cases h
end Go.Proofs.S
