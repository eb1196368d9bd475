/- A part of the proof that a law answers true for every input of its row: own work, by an AI agent. -/
import Derived.Test.YtcpepibkopbhgaaDoorB01
import Derived.KernelRfl
set_option linter.unusedSimpArgs false
set_option linter.unusedVariables false
namespace Go.Proofs.L
open Go Go.AH
set_option maxRecDepth 4000
set_option linter.unusedSimpArgs false
set_option linter.unusedVariables false
variable [LexG]
theorem c_ref_Lines (s : ByteArray) : PC Tryd.prog 11 [.str s] (.tup [.sl ((refR s).1).length (((refR s).1).flatMap eLine), .int .i64 ((refR s).2.1), .int .i64 ((refR s).2.2)]) := by
 intro H0
 refine ACalls.of_body' (n := 79) rfl rfl rfl rfl ?_
 have m0 := Mono.refl H0
 refine AWP.seq ?_
 refine AWP.region (l := [0, 1, 2]) rfl ?_
 refine AOps.cons rfl rfl (AOp.assign (.snil) rfl rfl ?_)
 refine AOps.cons rfl rfl (AOp.assign (.int .i64 0) rfl rfl ?_)
 refine AOps.cons rfl rfl (AOp.assign (.int .i64 0) rfl rfl ?_)
 refine AOps.nil ?_
 change AWP _ _ _ _ _ _
 refine AWP.seq ?_
 refine AWP.seq ?_
 refine AWP.region (l := [0, 1, 2]) rfl ?_
 refine AOps.cons rfl rfl (AOp.move (.str s) rfl rfl ?_)
 refine AOps.cons rfl rfl (AOp.lenStr rfl rfl u_9 ?_)
 refine AOps.cons rfl rfl (AOp.bin (.bool (decide ((s.size : Int) > 65536))) rfl rfl rfl rfl ?_)
 refine AOps.nil ?_
 change AWP _ _ _ _ _ _
 by_cases b1 : (s.size : Int) > 65536
 ·
  refine AWP.condT rfl (decide_eq_true b1) ?_
  refine AWP.seq ?_
  refine AWP.region (l := [0, 1, 2]) rfl ?_
  refine AOps.cons rfl rfl (AOp.assign (.snil) rfl rfl ?_)
  refine AOps.cons rfl rfl (AOp.assign (.int .i64 0) rfl rfl ?_)
  refine AOps.cons rfl rfl (AOp.assign (.int .i64 13) rfl rfl ?_)
  refine AOps.nil ?_
  change AWP _ _ _ _ _ _
  refine AWP.ret ?_
  refine Fin.frz 2 (Own.nil H0 H0 1) rfl m0 fun H2 m3 k4 => ?_
  refine ⟨_, _, Ghost.refl, .inr rfl, _, Res.three rfl rfl rfl rfl, ?_, m3⟩
  exact congrArg AV.tup (lc (congrArg (fun l : List LineT => AV.sl l.length (l.flatMap eLine)) (show ([] : List LineT) = (refR s).1 from by rw [refR_big (by omega)])) (lc (congrArg (AV.int .i64) (show (0 : Int) = (refR s).2.1 from by rw [refR_big (by omega)])) (lc (congrArg (AV.int .i64) (show (13 : Int) = (refR s).2.2 from by rw [refR_big (by omega)])) rfl)))
 ·
  refine AWP.condF rfl (decide_eq_false b1) ?_
  refine AWP.skip ?_
  change AWP _ _ _ _ _ _
  refine AWP.seq ?_
  refine AWP.region (l := [0, 1]) rfl ?_
  refine AOps.cons rfl rfl (AOp.buildSlice (cells := []) rfl u_23 ts_35 tz_35 rfl rfl rfl ?_)
  intro i5 H6 n7 h8 k9
  have z10 := Mono.free m0 n7
  have m11 := Mono.new m0 n7 k9
  obtain ⟨v12, e13⟩ : ∃ v : AV, v = .slm i5 0 2 0 0 := ⟨_, rfl⟩
  have o14 : Own H0 H6 2 v12 0 [] := .inr ⟨_, _, e13, h8, z10, rfl⟩
  refine AOps.cons rfl rfl (AOp.assign (v12) rfl e13.symm ?_)
  refine AOps.nil ?_
  change AWP _ _ _ _ _ _
  refine AWP.seq ?_
  refine AWP.region (l := [0]) rfl ?_
  refine AOps.cons rfl rfl (AOp.assign (.int .i64 1) rfl rfl ?_)
  refine AOps.nil ?_
  change AWP _ _ _ _ _ _
  refine AWP.seq ?_
  refine AWP.region (l := [0, 1]) rfl ?_
  refine AOps.cons rfl rfl (AOp.buildSlice (cells := []) rfl u_33 ts_9 tz_9 rfl rfl rfl ?_)
  intro i15 H16 n17 h18 k19
  have z20 := Mono.free m11 n17
  have o21 := Own.keep o14 k19 (Own.notnew o14 n17)
  have no22 := Own.notnew o14 n17
  have m23 := Mono.new m11 n17 k19
  obtain ⟨v24, e25⟩ : ∃ v : AV, v = .slm i15 0 1 0 0 := ⟨_, rfl⟩
  have o26 : Own H0 H16 1 v24 0 [] := .inr ⟨_, _, e25, h18, z20, rfl⟩
  have sp27 : Sep v24 v12 := by rw [e25]; exact Sep.ofNotId no22
  refine AOps.cons rfl rfl (AOp.assign (v24) rfl e25.symm ?_)
  refine AOps.nil ?_
  change AWP _ _ _ _ _ _
  refine AWP.seq ?_
  refine AWP.region (l := [0, 1]) rfl ?_
  refine AOps.cons rfl rfl (AOp.buildSlice (cells := []) rfl u_45 ts_5 tz_5 rfl rfl rfl ?_)
  intro i28 H29 n30 h31 k32
  have z33 := Mono.free m23 n30
  have o34 := Own.keep o21 k32 (Own.notnew o21 n30)
  have no35 := Own.notnew o21 n30
  have o36 := Own.keep o26 k32 (Own.notnew o26 n30)
  have no37 := Own.notnew o26 n30
  have m38 := Mono.new m23 n30 k32
  obtain ⟨v39, e40⟩ : ∃ v : AV, v = .slm i28 0 1 0 0 := ⟨_, rfl⟩
  have o41 : Own H0 H29 1 v39 0 [] := .inr ⟨_, _, e40, h31, z33, rfl⟩
  have sp42 : Sep v39 v12 := by rw [e40]; exact Sep.ofNotId no35
  have sp43 : Sep v39 v24 := by rw [e40]; exact Sep.ofNotId no37
  refine AOps.cons rfl rfl (AOp.assign (v39) rfl e40.symm ?_)
  refine AOps.nil ?_
  change AWP _ _ _ _ _ _
  refine AWP.seq ?_
  refine AWP.region (l := [0]) rfl ?_
  refine AOps.cons rfl rfl (AOp.assign (.bool false) rfl rfl ?_)
  refine AOps.nil ?_
  change AWP _ _ _ _ _ _
  refine AWP.seq ?_
  refine AWP.seq ?_
  refine AWP.region (l := [0]) rfl ?_
  refine AOps.cons rfl rfl (AOp.assign (.int .i64 0) rfl rfl ?_)
  refine AOps.nil ?_
  change AWP _ _ _ _ _ _
  refine AWP.block ?_
  refine AWP.loop (fun q44 fq Hq => ∃ (i : Int) (out : List LineT) (no : Int) (ws : List ByteArray) (wd : List Int) (rem : Bool) (w5 : AV) (w7 : AV) (w8 : AV), q44 = ((s.size : Int) + 1 - i).toNat ∧ fq 10 = .int .i64 i ∧ fq 6 = .int .i64 no ∧ fq 9 = .bool rem ∧ fq 0 = .str s ∧ fq 5 = w5 ∧ Own H0 Hq 2 w5 (out).length ((out).flatMap eLine) ∧ fq 7 = w7 ∧ Own H0 Hq 1 w7 (ws).length ((ws).map eStr) ∧ fq 8 = w8 ∧ Own H0 Hq 1 w8 (wd).length ((wd).map eI_u8) ∧ Sep w5 w7 ∧ Sep w5 w8 ∧ Sep w7 w8 ∧ Mono H0 Hq ∧ (0 ≤ i) ∧ (i ≤ s.size + 1) ∧ (1 ≤ no ∧ no ≤ i + 1) ∧ ((out.length : Int) ≤ i) ∧ ((ws.length : Int) ≤ i) ∧ ((wd.length : Int) ≤ i) ∧ (refR s = refGo ((bytesL s).drop i.toNat) (RS.mk out no ws wd rem))) (k := ((s.size : Int) + 1 - 0).toNat) ?_ ?_
  ·
   exact ⟨0, [], 1, [], [], false, v12, v24, v39, rfl, rfl, rfl, rfl, rfl, rfl, o34, rfl, o36, rfl, o41, (Sep.symm sp27), (Sep.symm sp42), (Sep.symm sp43), m38, by omega, by omega, by omega, by simp, by simp, by simp, by exact refR_start (by omega)⟩
  ·
   rintro _ f46 H45 ⟨i, out, no, ws, wd, rem, w5, w7, w8, rfl, s47, s48, s49, s50, s51, o52, s53, o54, s55, o56, sp57, sp58, sp59, m60, hi0, hi1, hno, hol, hwl, hdl, hsc⟩
   refine AWP.seq ?_
   refine AWP.seq ?_
   refine AWP.region (l := [0, 1, 2, 3]) rfl ?_
   refine AOps.cons rfl rfl (AOp.move (.int .i64 i) rfl s47 ?_)
   refine AOps.cons rfl rfl (AOp.move (.str s) rfl s50 ?_)
   refine AOps.cons rfl rfl (AOp.lenStr rfl rfl u_9 ?_)
   refine AOps.cons rfl rfl (AOp.bin (.bool (decide (i ≤ (s.size : Int)))) rfl rfl rfl rfl ?_)
   refine AOps.nil ?_
   change AWP _ _ _ _ _ _
   by_cases b61 : i ≤ (s.size : Int)
   ·
    refine AWP.condT rfl (decide_eq_true b61) ?_
    refine AWP.skip ?_
    change AWP _ _ _ _ _ _
    refine AWP.seq ?_
    refine AWP.block ?_
    refine AWP.seq ?_
    refine AWP.region (l := [0]) rfl ?_
    refine AOps.cons rfl rfl (AOp.assign (.int .u8 10) rfl rfl ?_)
    refine AOps.nil ?_
    change AWP _ _ _ _ _ _
    refine AWP.seq ?_
    refine AWP.seq ?_
    refine AWP.region (l := [0, 1, 2, 3]) rfl ?_
    refine AOps.cons rfl rfl (AOp.move (.int .i64 i) rfl s47 ?_)
    refine AOps.cons rfl rfl (AOp.move (.str s) rfl s50 ?_)
    refine AOps.cons rfl rfl (AOp.lenStr rfl rfl u_9 ?_)
    refine AOps.cons rfl rfl (AOp.bin (.bool (decide (i < (s.size : Int)))) rfl rfl rfl rfl ?_)
    refine AOps.nil ?_
    change AWP _ _ _ _ _ _
    by_cases b62 : i < (s.size : Int)
    ·
     refine AWP.condT rfl (decide_eq_true b62) ?_
     refine AWP.region (l := [0, 1, 2, 3]) rfl ?_
     refine AOps.cons rfl rfl (AOp.move (.str s) rfl s50 ?_)
     refine AOps.cons rfl rfl (AOp.move (.int .i64 i) rfl s47 ?_)
     have hb63 := byt_rng s i
     refine AOps.cons rfl rfl (AOp.indexB rfl rfl rfl u_9 (by omega) (by omega) ?_)
     refine AOps.cons rfl rfl (AOp.assign (.int .u8 (byt s i)) rfl rfl ?_)
     refine AOps.nil ?_
     change AWP _ _ _ _ _ _
     refine AWP.seq ?_
     refine AWP.seq ?_
     refine AWP.region (l := [0, 1, 2, 3, 4, 5, 6, 7, 8, 9]) rfl ?_
     refine AOps.cons rfl rfl (AOp.move (.int .u8 (byt s i)) rfl rfl ?_)
     refine AOps.cons rfl rfl (AOp.bin (.bool (!decide (byt s i = 10))) rfl rfl rfl ine ?_)
     refine AOps.cons rfl rfl (AOp.move (.bool (!decide (byt s i = 10))) rfl rfl ?_)
     by_cases b64 : byt s i = 10
     ·
      refine AOps.no rfl rfl rfl rfl rfl rfl rfl (ble_of (nb (decide_eq_true b64)) (by decide)) ?_
      refine AOps.no rfl rfl rfl rfl rfl rfl rfl (ble_of (nb (decide_eq_true b64)) (by decide)) ?_
      refine AOps.no rfl rfl rfl rfl rfl rfl rfl (ble_of (nb (decide_eq_true b64)) (by decide)) ?_
      refine AOps.un rfl rfl rfl rfl rfl rfl rfl ?_
      refine AOps.un rfl rfl rfl rfl rfl rfl rfl ?_
      refine AOps.no rfl rfl rfl rfl rfl rfl rfl (ble_of (nb (decide_eq_true b64)) (by decide)) ?_
      refine AOps.cons rfl rfl (AOp.pickF (.bool false) rfl rfl (nb (decide_eq_true b64)) rfl ?_)
      refine AOps.nil ?_
      change AWP _ _ _ _ _ _
      refine AWP.condF rfl rfl ?_
      refine AWP.skip ?_
      change AWP _ _ _ _ _ _
      refine AWP.seq ?_
      refine AWP.seq ?_
      refine AWP.region (l := [0, 1]) rfl ?_
      refine AOps.cons rfl rfl (AOp.move (.int .u8 (byt s i)) rfl rfl ?_)
      refine AOps.cons rfl rfl (AOp.bin (.bool (decide (byt s i = 35))) rfl rfl rfl ieq ?_)
      refine AOps.nil ?_
      change AWP _ _ _ _ _ _
      by_cases b65 : byt s i = 35
      ·
       refine AWP.condT rfl (decide_eq_true b65) ?_
       refine AWP.region (l := [0]) rfl ?_
       refine AOps.cons rfl rfl (AOp.assign (.bool true) rfl rfl ?_)
       refine AOps.nil ?_
       change AWP _ _ _ _ _ _
       refine AWP.seq ?_
       refine AWP.seq ?_
       refine AWP.region (l := [0, 1, 2, 3, 4, 5, 6, 7, 8]) rfl ?_
       refine AOps.cons rfl rfl (AOp.move (.int .u8 (byt s i)) rfl rfl ?_)
       refine AOps.cons rfl rfl (AOp.bin (.bool (decide (byt s i = 10))) rfl rfl rfl ieq ?_)
       refine AOps.cons rfl rfl (AOp.move (.bool (decide (byt s i = 10))) rfl rfl ?_)
       refine AOps.no rfl rfl rfl rfl rfl rfl rfl (ble_of (decide_eq_true b64) (by decide)) ?_
       refine AOps.no rfl rfl rfl rfl rfl rfl rfl (ble_of (decide_eq_true b64) (by decide)) ?_
       refine AOps.cons rfl rfl (AOp.pickT (.bool true) rfl rfl (decide_eq_true b64) rfl ?_)
       refine AOps.cons rfl rfl (AOp.move (.bool true) rfl rfl ?_)
       refine AOps.no rfl rfl rfl rfl rfl rfl rfl (ble_of rfl (by decide)) ?_
       refine AOps.cons rfl rfl (AOp.pickT (.bool true) rfl rfl rfl rfl ?_)
       refine AOps.nil ?_
       change AWP _ _ _ _ _ _
       refine AWP.condT rfl rfl ?_
       refine AWP.seq ?_
       refine AWP.seq ?_
       refine AWP.region (l := [0, 1, 2]) rfl ?_
       refine AOps.cons rfl rfl (AOp.move (w8) rfl s55 ?_)
       refine AOps.cons rfl rfl (AOp.len_own (m := ((wd).length)) rfl rfl o56 u_45 ?_)
       refine AOps.cons rfl rfl (AOp.bin (.bool (decide ((((wd).length) : Int) > 0))) rfl rfl rfl rfl ?_)
       refine AOps.nil ?_
       change AWP _ _ _ _ _ _
       by_cases b66 : (((wd).length) : Int) > 0
       ·
        refine AWP.condT rfl (decide_eq_true b66) ?_
        refine AWP.region (l := [0, 1, 2, 3, 4, 5]) rfl ?_
        refine AOps.cons rfl rfl (AOp.move (w7) rfl s53 ?_)
        refine AOps.cons rfl rfl (AOp.move (w8) rfl s55 ?_)
        refine AOps.cons rfl rfl (AOp.bytesS (l := (wd)) rfl rfl o56.src u_45 u_5 u_9 ?_)
        refine AOps.cons rfl rfl (AOp.buildSlice (cells := [.str (bytesB (wd))]) rfl u_33 ts_9 tz_9 rfl rfl rfl ?_)
        intro i67 H68 n69 h70 k71
        have z72 := Mono.free m60 n69
        have o73 := Own.keep o52 k71 (Own.notnew o52 n69)
        have no74 := Own.notnew o52 n69
        have o75 := Own.keep o54 k71 (Own.notnew o54 n69)
        have no76 := Own.notnew o54 n69
        have o77 := Own.keep o56 k71 (Own.notnew o56 n69)
        have no78 := Own.notnew o56 n69
        have m79 := Mono.new m60 n69 k71
        refine AOps.cons rfl rfl (AOp.append_own (es := 1) (m := 1) (len := ((ws).length)) (old := (ws).map eStr) (cells := [.str (bytesB (wd))]) rfl u_33 ts_9 tzn_9 tb_9 (by decide) ni_33 rfl o75 m79 rfl (.slm h70 rfl) (one_of rfl) (by decide) (by first | omega | (simp; omega)) ?_)
        intro v80 H81 o82 m83 k84 j85
        have o86 := Own.snoc1 (xs := ((ws) : List ByteArray)) (y := bytesB (wd)) (e := eStr) (by simp) o82
        have sp88 := Own.sep o73 sp57 j85
        have o87 := Own.stay o73 sp57 k84
        have sp90 := Own.sep o77 (Sep.symm sp59) j85
        have o89 := Own.stay o77 (Sep.symm sp59) k84
        refine AOps.cons rfl rfl (AOp.assign (v80) rfl rfl ?_)
        refine AOps.nil ?_
        change AWP _ _ _ _ _ _
        refine AWP.region (l := [0]) rfl ?_
        refine AOps.cons rfl rfl (AOp.assign (.snil) rfl rfl ?_)
        refine AOps.nil ?_
        change AWP _ _ _ _ _ _
        refine AWP.seq ?_
        refine AWP.region (l := [0, 1]) rfl ?_
        refine AOps.cons rfl rfl (AOp.move (.int .u8 (byt s i)) rfl rfl ?_)
        refine AOps.cons rfl rfl (AOp.bin (.bool (decide (byt s i = 10))) rfl rfl rfl ieq ?_)
        refine AOps.nil ?_
        change AWP _ _ _ _ _ _
        refine AWP.condT rfl (decide_eq_true b64) ?_
        refine AWP.seq ?_
        refine AWP.seq ?_
        refine AWP.region (l := [0, 1, 2]) rfl ?_
        refine AOps.cons rfl rfl (AOp.move (v80) rfl rfl ?_)
        refine AOps.cons rfl rfl (AOp.len_own (m := (((ws) ++ [bytesB (wd)]).length)) rfl rfl o86 u_33 ?_)
        refine AOps.cons rfl rfl (AOp.bin (.bool (decide (((((ws) ++ [bytesB (wd)]).length) : Int) > 0))) rfl rfl rfl rfl ?_)
        refine AOps.nil ?_
        change AWP _ _ _ _ _ _
        by_cases b91 : ((((ws) ++ [bytesB (wd)]).length) : Int) > 0
        ·
         refine AWP.condT rfl (decide_eq_true b91) ?_
         refine AWP.frz 7 o86 rfl m83 fun H92 m93 k94 => ?_
         have o95 := Own.stay o87 sp88 (fun i hi _ => k94 i hi)
         have o96 := Own.stay o89 sp90 (fun i hi _ => k94 i hi)
         skip
         refine AWP.region (l := [0, 1, 2, 3, 4, 5, 6]) rfl ?_
         refine AOps.cons rfl rfl (AOp.move (w5) rfl s51 ?_)
         refine AOps.cons rfl rfl (AOp.move (.int .i64 no) rfl s48 ?_)
         refine AOps.cons rfl rfl (AOp.move (.sl ((ws) ++ [bytesB (wd)]).length (((ws) ++ [bytesB (wd)]).map eStr)) rfl rfl ?_)
         refine AOps.cons rfl rfl (AOp.build (cells := [.int .i64 no, .sl ((ws) ++ [bytesB (wd)]).length (((ws) ++ [bytesB (wd)]).map eStr)]) rfl tz_35 pl_35 rfl rfl ?_)
         refine AOps.cons rfl rfl (AOp.buildSlice (cells := [.int .i64 no, .sl ((ws) ++ [bytesB (wd)]).length (((ws) ++ [bytesB (wd)]).map eStr)]) rfl u_23 ts_35 tz_35 rfl rfl rfl ?_)
         intro i97 H98 n99 h100 k101
         have z102 := Mono.free m93 n99
         have o103 := Own.keep o95 k101 (Own.notnew o95 n99)
         have no104 := Own.notnew o95 n99
         have o105 := Own.keep o96 k101 (Own.notnew o96 n99)
         have no106 := Own.notnew o96 n99
         have m107 := Mono.new m93 n99 k101
         refine AOps.cons rfl rfl (AOp.append_own (es := 2) (m := 1) (len := ((out).length)) (old := (out).flatMap eLine) (cells := [.int .i64 no, .sl ((ws) ++ [bytesB (wd)]).length (((ws) ++ [bytesB (wd)]).map eStr)]) rfl u_23 ts_35 tzn_35 tb_35 (by decide) ni_23 rfl o103 m107 rfl (.slm h100 rfl) (one_of rfl) (by decide) (by first | omega | (simp; omega)) ?_)
         intro v108 H109 o110 m111 k112 j113
         have o114 := Own.snocM (xs := ((out) : List LineT)) (y := (LineT.mk no ((ws) ++ [bytesB (wd)]))) (e := eLine) (by simp) o110
         have sp116 := Own.sep o105 (Sep.symm sp58) j113
         have o115 := Own.stay o105 (Sep.symm sp58) k112
         refine AOps.cons rfl rfl (AOp.assign (v108) rfl rfl ?_)
         refine AOps.nil ?_
         change AWP _ _ _ _ _ _
         refine AWP.seq ?_
         refine AWP.region (l := [0]) rfl ?_
         refine AOps.cons rfl rfl (AOp.assign (.snil) rfl rfl ?_)
         refine AOps.nil ?_
         change AWP _ _ _ _ _ _
         refine AWP.seq ?_
         refine AWP.region (l := [0, 1, 2]) rfl ?_
         refine AOps.cons rfl rfl (AOp.move (.int .i64 no) rfl s48 ?_)
         refine AOps.cons rfl rfl (AOp.bin (.int .i64 (no + 1)) rfl rfl rfl (iadd (by omega)) ?_)
         refine AOps.cons rfl rfl (AOp.assign (.int .i64 (no + 1)) rfl rfl ?_)
         refine AOps.nil ?_
         change AWP _ _ _ _ _ _
         refine AWP.region (l := [0]) rfl ?_
         refine AOps.cons rfl rfl (AOp.assign (.bool false) rfl rfl ?_)
         refine AOps.nil ?_
         change AWP _ _ _ _ _ _
         refine AWP.region (l := [0, 1, 2]) rfl ?_
         refine AOps.cons rfl rfl (AOp.move (.int .i64 i) rfl s47 ?_)
         refine AOps.cons rfl rfl (AOp.bin (.int .i64 (i + 1)) rfl rfl rfl (iadd (by omega)) ?_)
         refine AOps.cons rfl rfl (AOp.assign (.int .i64 (i + 1)) rfl rfl ?_)
         refine AOps.nil ?_
         exact ⟨_, by omega, i + 1, (out) ++ [(LineT.mk no ((ws) ++ [bytesB (wd)]))], no + 1, [], [], false, v108, .snil, .snil, rfl, rfl, rfl, rfl, s50, rfl, o114, rfl, Own.nil _ _ _, rfl, Own.nil _ _ _, (Sep.nilR _), (Sep.nilR _), (Sep.nilL _), m111, by omega, by omega, by omega, by first | omega | (simp <;> omega), by first | omega | (simp <;> omega), by first | omega | (simp <;> omega), by first | (exfalso; omega) | (exfalso; have hl : 0 < (((ws ++ [bytesB wd]).length : Nat) : Int) := (by simp <;> omega); omega) | (rw [hsc, ref_step hi0 (by omega) (bytesL_in hi0 (by omega)) (by unfold badB; omega)]; exact congrArg (refGo ((bytesL s).drop (i + 1).toNat)) (show stepR (byt s i) (RS.mk out no ws wd rem) = RS.mk ((out) ++ [(LineT.mk no ((ws) ++ [bytesB (wd)]))]) (no + 1) ([]) ([]) false from by first | (exfalso; omega) | simp only [stepR, (decide_eq_true b64), (decide_eq_true b65), (eq_true (show 0 < (wd.length : Int) from by omega)), (eq_true (show 0 < (((ws ++ [bytesB wd]).length : Nat) : Int) from by first | omega | (simp <;> omega))), Bool.or_true, Bool.true_or, Bool.or_false, Bool.false_or, if_true, if_false, Bool.false_eq_true, decide_true, decide_false]))⟩
        ·
         refine AWP.condF rfl (decide_eq_false b91) ?_
         refine AWP.skip ?_
         change AWP _ _ _ _ _ _
         refine AWP.seq ?_
         refine AWP.region (l := [0]) rfl ?_
         refine AOps.cons rfl rfl (AOp.assign (.snil) rfl rfl ?_)
         refine AOps.nil ?_
         change AWP _ _ _ _ _ _
         refine AWP.seq ?_
         refine AWP.region (l := [0, 1, 2]) rfl ?_
         refine AOps.cons rfl rfl (AOp.move (.int .i64 no) rfl s48 ?_)
         refine AOps.cons rfl rfl (AOp.bin (.int .i64 (no + 1)) rfl rfl rfl (iadd (by omega)) ?_)
         refine AOps.cons rfl rfl (AOp.assign (.int .i64 (no + 1)) rfl rfl ?_)
         refine AOps.nil ?_
         change AWP _ _ _ _ _ _
         refine AWP.region (l := [0]) rfl ?_
         refine AOps.cons rfl rfl (AOp.assign (.bool false) rfl rfl ?_)
         refine AOps.nil ?_
         change AWP _ _ _ _ _ _
         refine AWP.region (l := [0, 1, 2]) rfl ?_
         refine AOps.cons rfl rfl (AOp.move (.int .i64 i) rfl s47 ?_)
         refine AOps.cons rfl rfl (AOp.bin (.int .i64 (i + 1)) rfl rfl rfl (iadd (by omega)) ?_)
         refine AOps.cons rfl rfl (AOp.assign (.int .i64 (i + 1)) rfl rfl ?_)
         refine AOps.nil ?_
         exact ⟨_, by omega, i + 1, out, no + 1, [], [], false, w5, .snil, .snil, rfl, rfl, rfl, rfl, s50, s51, o87, rfl, Own.nil _ _ _, rfl, Own.nil _ _ _, (Sep.nilR _), (Sep.nilR _), (Sep.nilL _), m83, by omega, by omega, by omega, by first | omega | (simp <;> omega), by first | omega | (simp <;> omega), by first | omega | (simp <;> omega), by first | (exfalso; omega) | (exfalso; have hl : 0 < (((ws ++ [bytesB wd]).length : Nat) : Int) := (by simp <;> omega); omega) | (rw [hsc, ref_step hi0 (by omega) (bytesL_in hi0 (by omega)) (by unfold badB; omega)]; exact congrArg (refGo ((bytesL s).drop (i + 1).toNat)) (show stepR (byt s i) (RS.mk out no ws wd rem) = RS.mk out (no + 1) ([]) ([]) false from by first | (exfalso; omega) | simp only [stepR, (decide_eq_true b64), (decide_eq_true b65), (eq_true (show 0 < (wd.length : Int) from by omega)), (eq_true (show 0 < (((ws ++ [bytesB wd]).length : Nat) : Int) from by first | omega | (simp <;> omega))), Bool.or_true, Bool.true_or, Bool.or_false, Bool.false_or, if_true, if_false, Bool.false_eq_true, decide_true, decide_false]))⟩
       ·
        refine AWP.condF rfl (decide_eq_false b66) ?_
        refine AWP.skip ?_
        change AWP _ _ _ _ _ _
        refine AWP.region (l := [0]) rfl ?_
        refine AOps.cons rfl rfl (AOp.assign (.snil) rfl rfl ?_)
        refine AOps.nil ?_
        change AWP _ _ _ _ _ _
        refine AWP.seq ?_
        refine AWP.region (l := [0, 1]) rfl ?_
        refine AOps.cons rfl rfl (AOp.move (.int .u8 (byt s i)) rfl rfl ?_)
        refine AOps.cons rfl rfl (AOp.bin (.bool (decide (byt s i = 10))) rfl rfl rfl ieq ?_)
        refine AOps.nil ?_
        change AWP _ _ _ _ _ _
        refine AWP.condT rfl (decide_eq_true b64) ?_
        refine AWP.seq ?_
        refine AWP.seq ?_
        refine AWP.region (l := [0, 1, 2]) rfl ?_
        refine AOps.cons rfl rfl (AOp.move (w7) rfl s53 ?_)
        refine AOps.cons rfl rfl (AOp.len_own (m := ((ws).length)) rfl rfl o54 u_33 ?_)
        refine AOps.cons rfl rfl (AOp.bin (.bool (decide ((((ws).length) : Int) > 0))) rfl rfl rfl rfl ?_)
        refine AOps.nil ?_
        change AWP _ _ _ _ _ _
        by_cases b117 : (((ws).length) : Int) > 0
        ·
         refine AWP.condT rfl (decide_eq_true b117) ?_
         refine AWP.frz 7 o54 s53 m60 fun H118 m119 k120 => ?_
         have o121 := Own.stay o52 sp57 (fun i hi _ => k120 i hi)
         have o122 := Own.stay o56 (Sep.symm sp59) (fun i hi _ => k120 i hi)
         skip
         refine AWP.region (l := [0, 1, 2, 3, 4, 5, 6]) rfl ?_
         refine AOps.cons rfl rfl (AOp.move (w5) rfl s51 ?_)
         refine AOps.cons rfl rfl (AOp.move (.int .i64 no) rfl s48 ?_)
         refine AOps.cons rfl rfl (AOp.move (.sl (ws).length ((ws).map eStr)) rfl rfl ?_)
         refine AOps.cons rfl rfl (AOp.build (cells := [.int .i64 no, .sl (ws).length ((ws).map eStr)]) rfl tz_35 pl_35 rfl rfl ?_)
         refine AOps.cons rfl rfl (AOp.buildSlice (cells := [.int .i64 no, .sl (ws).length ((ws).map eStr)]) rfl u_23 ts_35 tz_35 rfl rfl rfl ?_)
         intro i123 H124 n125 h126 k127
         have z128 := Mono.free m119 n125
         have o129 := Own.keep o121 k127 (Own.notnew o121 n125)
         have no130 := Own.notnew o121 n125
         have o131 := Own.keep o122 k127 (Own.notnew o122 n125)
         have no132 := Own.notnew o122 n125
         have m133 := Mono.new m119 n125 k127
         refine AOps.cons rfl rfl (AOp.append_own (es := 2) (m := 1) (len := ((out).length)) (old := (out).flatMap eLine) (cells := [.int .i64 no, .sl (ws).length ((ws).map eStr)]) rfl u_23 ts_35 tzn_35 tb_35 (by decide) ni_23 rfl o129 m133 rfl (.slm h126 rfl) (one_of rfl) (by decide) (by first | omega | (simp; omega)) ?_)
         intro v134 H135 o136 m137 k138 j139
         have o140 := Own.snocM (xs := ((out) : List LineT)) (y := (LineT.mk no (ws))) (e := eLine) (by simp) o136
         have sp142 := Own.sep o131 (Sep.symm sp58) j139
         have o141 := Own.stay o131 (Sep.symm sp58) k138
         refine AOps.cons rfl rfl (AOp.assign (v134) rfl rfl ?_)
         refine AOps.nil ?_
         change AWP _ _ _ _ _ _
         refine AWP.seq ?_
         refine AWP.region (l := [0]) rfl ?_
         refine AOps.cons rfl rfl (AOp.assign (.snil) rfl rfl ?_)
         refine AOps.nil ?_
         change AWP _ _ _ _ _ _
         refine AWP.seq ?_
         refine AWP.region (l := [0, 1, 2]) rfl ?_
         refine AOps.cons rfl rfl (AOp.move (.int .i64 no) rfl s48 ?_)
         refine AOps.cons rfl rfl (AOp.bin (.int .i64 (no + 1)) rfl rfl rfl (iadd (by omega)) ?_)
         refine AOps.cons rfl rfl (AOp.assign (.int .i64 (no + 1)) rfl rfl ?_)
         refine AOps.nil ?_
         change AWP _ _ _ _ _ _
         refine AWP.region (l := [0]) rfl ?_
         refine AOps.cons rfl rfl (AOp.assign (.bool false) rfl rfl ?_)
         refine AOps.nil ?_
         change AWP _ _ _ _ _ _
         refine AWP.region (l := [0, 1, 2]) rfl ?_
         refine AOps.cons rfl rfl (AOp.move (.int .i64 i) rfl s47 ?_)
         refine AOps.cons rfl rfl (AOp.bin (.int .i64 (i + 1)) rfl rfl rfl (iadd (by omega)) ?_)
         refine AOps.cons rfl rfl (AOp.assign (.int .i64 (i + 1)) rfl rfl ?_)
         refine AOps.nil ?_
         exact ⟨_, by omega, i + 1, (out) ++ [(LineT.mk no (ws))], no + 1, [], [], false, v134, .snil, .snil, rfl, rfl, rfl, rfl, s50, rfl, o140, rfl, Own.nil _ _ _, rfl, Own.nil _ _ _, (Sep.nilR _), (Sep.nilR _), (Sep.nilL _), m137, by omega, by omega, by omega, by first | omega | (simp <;> omega), by first | omega | (simp <;> omega), by first | omega | (simp <;> omega), by first | (exfalso; omega) | (exfalso; have hl : 0 < (((ws ++ [bytesB wd]).length : Nat) : Int) := (by simp <;> omega); omega) | (rw [hsc, ref_step hi0 (by omega) (bytesL_in hi0 (by omega)) (by unfold badB; omega)]; exact congrArg (refGo ((bytesL s).drop (i + 1).toNat)) (show stepR (byt s i) (RS.mk out no ws wd rem) = RS.mk ((out) ++ [(LineT.mk no (ws))]) (no + 1) ([]) ([]) false from by first | (exfalso; omega) | simp only [stepR, (decide_eq_true b64), (decide_eq_true b65), (eq_false (show ¬ 0 < (wd.length : Int) from by omega)), (eq_true (show 0 < (ws.length : Int) from by omega)), (eq_true (show 0 < (((ws ++ [bytesB wd]).length : Nat) : Int) from by first | omega | (simp <;> omega))), Bool.or_true, Bool.true_or, Bool.or_false, Bool.false_or, if_true, if_false, Bool.false_eq_true, decide_true, decide_false]))⟩
        ·
         refine AWP.condF rfl (decide_eq_false b117) ?_
         refine AWP.skip ?_
         change AWP _ _ _ _ _ _
         refine AWP.seq ?_
         refine AWP.region (l := [0]) rfl ?_
         refine AOps.cons rfl rfl (AOp.assign (.snil) rfl rfl ?_)
         refine AOps.nil ?_
         change AWP _ _ _ _ _ _
         refine AWP.seq ?_
         refine AWP.region (l := [0, 1, 2]) rfl ?_
         refine AOps.cons rfl rfl (AOp.move (.int .i64 no) rfl s48 ?_)
         refine AOps.cons rfl rfl (AOp.bin (.int .i64 (no + 1)) rfl rfl rfl (iadd (by omega)) ?_)
         refine AOps.cons rfl rfl (AOp.assign (.int .i64 (no + 1)) rfl rfl ?_)
         refine AOps.nil ?_
         change AWP _ _ _ _ _ _
         refine AWP.region (l := [0]) rfl ?_
         refine AOps.cons rfl rfl (AOp.assign (.bool false) rfl rfl ?_)
         refine AOps.nil ?_
         change AWP _ _ _ _ _ _
         refine AWP.region (l := [0, 1, 2]) rfl ?_
         refine AOps.cons rfl rfl (AOp.move (.int .i64 i) rfl s47 ?_)
         refine AOps.cons rfl rfl (AOp.bin (.int .i64 (i + 1)) rfl rfl rfl (iadd (by omega)) ?_)
         refine AOps.cons rfl rfl (AOp.assign (.int .i64 (i + 1)) rfl rfl ?_)
         refine AOps.nil ?_
         exact ⟨_, by omega, i + 1, out, no + 1, [], [], false, w5, .snil, .snil, rfl, rfl, rfl, rfl, s50, s51, o52, rfl, Own.nil _ _ _, rfl, Own.nil _ _ _, (Sep.nilR _), (Sep.nilR _), (Sep.nilL _), m60, by omega, by omega, by omega, by first | omega | (simp <;> omega), by first | omega | (simp <;> omega), by first | omega | (simp <;> omega), by first | (exfalso; omega) | (exfalso; have hl : 0 < (((ws ++ [bytesB wd]).length : Nat) : Int) := (by simp <;> omega); omega) | (rw [hsc, ref_step hi0 (by omega) (bytesL_in hi0 (by omega)) (by unfold badB; omega)]; exact congrArg (refGo ((bytesL s).drop (i + 1).toNat)) (show stepR (byt s i) (RS.mk out no ws wd rem) = RS.mk out (no + 1) ([]) ([]) false from by first | (exfalso; omega) | simp only [stepR, (decide_eq_true b64), (decide_eq_true b65), (eq_false (show ¬ 0 < (wd.length : Int) from by omega)), (eq_false (show ¬ 0 < (ws.length : Int) from by omega)), (eq_true (show 0 < (((ws ++ [bytesB wd]).length : Nat) : Int) from by first | omega | (simp <;> omega))), Bool.or_true, Bool.true_or, Bool.or_false, Bool.false_or, if_true, if_false, Bool.false_eq_true, decide_true, decide_false]))⟩
      ·
       refine AWP.condF rfl (decide_eq_false b65) ?_
       refine AWP.skip ?_
       change AWP _ _ _ _ _ _
       refine AWP.seq ?_
       refine AWP.seq ?_
       refine AWP.region (l := [0, 1, 2, 3, 4, 5, 6, 7, 8]) rfl ?_
       refine AOps.cons rfl rfl (AOp.move (.int .u8 (byt s i)) rfl rfl ?_)
       refine AOps.cons rfl rfl (AOp.bin (.bool (decide (byt s i = 10))) rfl rfl rfl ieq ?_)
       refine AOps.cons rfl rfl (AOp.move (.bool (decide (byt s i = 10))) rfl rfl ?_)
       refine AOps.no rfl rfl rfl rfl rfl rfl rfl (ble_of (decide_eq_true b64) (by decide)) ?_
       refine AOps.no rfl rfl rfl rfl rfl rfl rfl (ble_of (decide_eq_true b64) (by decide)) ?_
       refine AOps.cons rfl rfl (AOp.pickT (.bool true) rfl rfl (decide_eq_true b64) rfl ?_)
       refine AOps.cons rfl rfl (AOp.move (.bool true) rfl rfl ?_)
       refine AOps.no rfl rfl rfl rfl rfl rfl rfl (ble_of rfl (by decide)) ?_
       refine AOps.cons rfl rfl (AOp.pickT (.bool true) rfl rfl rfl rfl ?_)
       refine AOps.nil ?_
       change AWP _ _ _ _ _ _
       refine AWP.condT rfl rfl ?_
       refine AWP.seq ?_
       refine AWP.seq ?_
       refine AWP.region (l := [0, 1, 2]) rfl ?_
       refine AOps.cons rfl rfl (AOp.move (w8) rfl s55 ?_)
       refine AOps.cons rfl rfl (AOp.len_own (m := ((wd).length)) rfl rfl o56 u_45 ?_)
       refine AOps.cons rfl rfl (AOp.bin (.bool (decide ((((wd).length) : Int) > 0))) rfl rfl rfl rfl ?_)
       refine AOps.nil ?_
       change AWP _ _ _ _ _ _
       by_cases b143 : (((wd).length) : Int) > 0
       ·
        refine AWP.condT rfl (decide_eq_true b143) ?_
        refine AWP.region (l := [0, 1, 2, 3, 4, 5]) rfl ?_
        refine AOps.cons rfl rfl (AOp.move (w7) rfl s53 ?_)
        refine AOps.cons rfl rfl (AOp.move (w8) rfl s55 ?_)
        refine AOps.cons rfl rfl (AOp.bytesS (l := (wd)) rfl rfl o56.src u_45 u_5 u_9 ?_)
        refine AOps.cons rfl rfl (AOp.buildSlice (cells := [.str (bytesB (wd))]) rfl u_33 ts_9 tz_9 rfl rfl rfl ?_)
        intro i144 H145 n146 h147 k148
        have z149 := Mono.free m60 n146
        have o150 := Own.keep o52 k148 (Own.notnew o52 n146)
        have no151 := Own.notnew o52 n146
        have o152 := Own.keep o54 k148 (Own.notnew o54 n146)
        have no153 := Own.notnew o54 n146
        have o154 := Own.keep o56 k148 (Own.notnew o56 n146)
        have no155 := Own.notnew o56 n146
        have m156 := Mono.new m60 n146 k148
        refine AOps.cons rfl rfl (AOp.append_own (es := 1) (m := 1) (len := ((ws).length)) (old := (ws).map eStr) (cells := [.str (bytesB (wd))]) rfl u_33 ts_9 tzn_9 tb_9 (by decide) ni_33 rfl o152 m156 rfl (.slm h147 rfl) (one_of rfl) (by decide) (by first | omega | (simp; omega)) ?_)
        intro v157 H158 o159 m160 k161 j162
        have o163 := Own.snoc1 (xs := ((ws) : List ByteArray)) (y := bytesB (wd)) (e := eStr) (by simp) o159
        have sp165 := Own.sep o150 sp57 j162
        have o164 := Own.stay o150 sp57 k161
        have sp167 := Own.sep o154 (Sep.symm sp59) j162
        have o166 := Own.stay o154 (Sep.symm sp59) k161
        refine AOps.cons rfl rfl (AOp.assign (v157) rfl rfl ?_)
        refine AOps.nil ?_
        change AWP _ _ _ _ _ _
        refine AWP.region (l := [0]) rfl ?_
        refine AOps.cons rfl rfl (AOp.assign (.snil) rfl rfl ?_)
        refine AOps.nil ?_
        change AWP _ _ _ _ _ _
        refine AWP.seq ?_
        refine AWP.region (l := [0, 1]) rfl ?_
        refine AOps.cons rfl rfl (AOp.move (.int .u8 (byt s i)) rfl rfl ?_)
        refine AOps.cons rfl rfl (AOp.bin (.bool (decide (byt s i = 10))) rfl rfl rfl ieq ?_)
        refine AOps.nil ?_
        change AWP _ _ _ _ _ _
        refine AWP.condT rfl (decide_eq_true b64) ?_
        refine AWP.seq ?_
        refine AWP.seq ?_
        refine AWP.region (l := [0, 1, 2]) rfl ?_
        refine AOps.cons rfl rfl (AOp.move (v157) rfl rfl ?_)
        refine AOps.cons rfl rfl (AOp.len_own (m := (((ws) ++ [bytesB (wd)]).length)) rfl rfl o163 u_33 ?_)
        refine AOps.cons rfl rfl (AOp.bin (.bool (decide (((((ws) ++ [bytesB (wd)]).length) : Int) > 0))) rfl rfl rfl rfl ?_)
        refine AOps.nil ?_
        change AWP _ _ _ _ _ _
        by_cases b168 : ((((ws) ++ [bytesB (wd)]).length) : Int) > 0
        ·
         refine AWP.condT rfl (decide_eq_true b168) ?_
         refine AWP.frz 7 o163 rfl m160 fun H169 m170 k171 => ?_
         have o172 := Own.stay o164 sp165 (fun i hi _ => k171 i hi)
         have o173 := Own.stay o166 sp167 (fun i hi _ => k171 i hi)
         skip
         refine AWP.region (l := [0, 1, 2, 3, 4, 5, 6]) rfl ?_
         refine AOps.cons rfl rfl (AOp.move (w5) rfl s51 ?_)
         refine AOps.cons rfl rfl (AOp.move (.int .i64 no) rfl s48 ?_)
         refine AOps.cons rfl rfl (AOp.move (.sl ((ws) ++ [bytesB (wd)]).length (((ws) ++ [bytesB (wd)]).map eStr)) rfl rfl ?_)
         refine AOps.cons rfl rfl (AOp.build (cells := [.int .i64 no, .sl ((ws) ++ [bytesB (wd)]).length (((ws) ++ [bytesB (wd)]).map eStr)]) rfl tz_35 pl_35 rfl rfl ?_)
         refine AOps.cons rfl rfl (AOp.buildSlice (cells := [.int .i64 no, .sl ((ws) ++ [bytesB (wd)]).length (((ws) ++ [bytesB (wd)]).map eStr)]) rfl u_23 ts_35 tz_35 rfl rfl rfl ?_)
         intro i174 H175 n176 h177 k178
         have z179 := Mono.free m170 n176
         have o180 := Own.keep o172 k178 (Own.notnew o172 n176)
         have no181 := Own.notnew o172 n176
         have o182 := Own.keep o173 k178 (Own.notnew o173 n176)
         have no183 := Own.notnew o173 n176
         have m184 := Mono.new m170 n176 k178
         refine AOps.cons rfl rfl (AOp.append_own (es := 2) (m := 1) (len := ((out).length)) (old := (out).flatMap eLine) (cells := [.int .i64 no, .sl ((ws) ++ [bytesB (wd)]).length (((ws) ++ [bytesB (wd)]).map eStr)]) rfl u_23 ts_35 tzn_35 tb_35 (by decide) ni_23 rfl o180 m184 rfl (.slm h177 rfl) (one_of rfl) (by decide) (by first | omega | (simp; omega)) ?_)
         intro v185 H186 o187 m188 k189 j190
         have o191 := Own.snocM (xs := ((out) : List LineT)) (y := (LineT.mk no ((ws) ++ [bytesB (wd)]))) (e := eLine) (by simp) o187
         have sp193 := Own.sep o182 (Sep.symm sp58) j190
         have o192 := Own.stay o182 (Sep.symm sp58) k189
         refine AOps.cons rfl rfl (AOp.assign (v185) rfl rfl ?_)
         refine AOps.nil ?_
         change AWP _ _ _ _ _ _
         refine AWP.seq ?_
         refine AWP.region (l := [0]) rfl ?_
         refine AOps.cons rfl rfl (AOp.assign (.snil) rfl rfl ?_)
         refine AOps.nil ?_
         change AWP _ _ _ _ _ _
         refine AWP.seq ?_
         refine AWP.region (l := [0, 1, 2]) rfl ?_
         refine AOps.cons rfl rfl (AOp.move (.int .i64 no) rfl s48 ?_)
         refine AOps.cons rfl rfl (AOp.bin (.int .i64 (no + 1)) rfl rfl rfl (iadd (by omega)) ?_)
         refine AOps.cons rfl rfl (AOp.assign (.int .i64 (no + 1)) rfl rfl ?_)
         refine AOps.nil ?_
         change AWP _ _ _ _ _ _
         refine AWP.region (l := [0]) rfl ?_
         refine AOps.cons rfl rfl (AOp.assign (.bool false) rfl rfl ?_)
         refine AOps.nil ?_
         change AWP _ _ _ _ _ _
         refine AWP.region (l := [0, 1, 2]) rfl ?_
         refine AOps.cons rfl rfl (AOp.move (.int .i64 i) rfl s47 ?_)
         refine AOps.cons rfl rfl (AOp.bin (.int .i64 (i + 1)) rfl rfl rfl (iadd (by omega)) ?_)
         refine AOps.cons rfl rfl (AOp.assign (.int .i64 (i + 1)) rfl rfl ?_)
         refine AOps.nil ?_
         exact ⟨_, by omega, i + 1, (out) ++ [(LineT.mk no ((ws) ++ [bytesB (wd)]))], no + 1, [], [], false, v185, .snil, .snil, rfl, rfl, rfl, rfl, s50, rfl, o191, rfl, Own.nil _ _ _, rfl, Own.nil _ _ _, (Sep.nilR _), (Sep.nilR _), (Sep.nilL _), m188, by omega, by omega, by omega, by first | omega | (simp <;> omega), by first | omega | (simp <;> omega), by first | omega | (simp <;> omega), by first | (exfalso; omega) | (exfalso; have hl : 0 < (((ws ++ [bytesB wd]).length : Nat) : Int) := (by simp <;> omega); omega) | (rw [hsc, ref_step hi0 (by omega) (bytesL_in hi0 (by omega)) (by unfold badB; omega)]; exact congrArg (refGo ((bytesL s).drop (i + 1).toNat)) (show stepR (byt s i) (RS.mk out no ws wd rem) = RS.mk ((out) ++ [(LineT.mk no ((ws) ++ [bytesB (wd)]))]) (no + 1) ([]) ([]) false from by first | (exfalso; omega) | simp only [stepR, (decide_eq_true b64), (decide_eq_false b65), (eq_true (show 0 < (wd.length : Int) from by omega)), (eq_true (show 0 < (((ws ++ [bytesB wd]).length : Nat) : Int) from by first | omega | (simp <;> omega))), Bool.or_true, Bool.true_or, Bool.or_false, Bool.false_or, if_true, if_false, Bool.false_eq_true, decide_true, decide_false]))⟩
        ·
         refine AWP.condF rfl (decide_eq_false b168) ?_
         refine AWP.skip ?_
         change AWP _ _ _ _ _ _
         refine AWP.seq ?_
         refine AWP.region (l := [0]) rfl ?_
         refine AOps.cons rfl rfl (AOp.assign (.snil) rfl rfl ?_)
         refine AOps.nil ?_
         change AWP _ _ _ _ _ _
         refine AWP.seq ?_
         refine AWP.region (l := [0, 1, 2]) rfl ?_
         refine AOps.cons rfl rfl (AOp.move (.int .i64 no) rfl s48 ?_)
         refine AOps.cons rfl rfl (AOp.bin (.int .i64 (no + 1)) rfl rfl rfl (iadd (by omega)) ?_)
         refine AOps.cons rfl rfl (AOp.assign (.int .i64 (no + 1)) rfl rfl ?_)
         refine AOps.nil ?_
         change AWP _ _ _ _ _ _
         refine AWP.region (l := [0]) rfl ?_
         refine AOps.cons rfl rfl (AOp.assign (.bool false) rfl rfl ?_)
         refine AOps.nil ?_
         change AWP _ _ _ _ _ _
         refine AWP.region (l := [0, 1, 2]) rfl ?_
         refine AOps.cons rfl rfl (AOp.move (.int .i64 i) rfl s47 ?_)
         refine AOps.cons rfl rfl (AOp.bin (.int .i64 (i + 1)) rfl rfl rfl (iadd (by omega)) ?_)
         refine AOps.cons rfl rfl (AOp.assign (.int .i64 (i + 1)) rfl rfl ?_)
         refine AOps.nil ?_
         exact ⟨_, by omega, i + 1, out, no + 1, [], [], false, w5, .snil, .snil, rfl, rfl, rfl, rfl, s50, s51, o164, rfl, Own.nil _ _ _, rfl, Own.nil _ _ _, (Sep.nilR _), (Sep.nilR _), (Sep.nilL _), m160, by omega, by omega, by omega, by first | omega | (simp <;> omega), by first | omega | (simp <;> omega), by first | omega | (simp <;> omega), by first | (exfalso; omega) | (exfalso; have hl : 0 < (((ws ++ [bytesB wd]).length : Nat) : Int) := (by simp <;> omega); omega) | (rw [hsc, ref_step hi0 (by omega) (bytesL_in hi0 (by omega)) (by unfold badB; omega)]; exact congrArg (refGo ((bytesL s).drop (i + 1).toNat)) (show stepR (byt s i) (RS.mk out no ws wd rem) = RS.mk out (no + 1) ([]) ([]) false from by first | (exfalso; omega) | simp only [stepR, (decide_eq_true b64), (decide_eq_false b65), (eq_true (show 0 < (wd.length : Int) from by omega)), (eq_true (show 0 < (((ws ++ [bytesB wd]).length : Nat) : Int) from by first | omega | (simp <;> omega))), Bool.or_true, Bool.true_or, Bool.or_false, Bool.false_or, if_true, if_false, Bool.false_eq_true, decide_true, decide_false]))⟩
       ·
        refine AWP.condF rfl (decide_eq_false b143) ?_
        refine AWP.skip ?_
        change AWP _ _ _ _ _ _
        refine AWP.region (l := [0]) rfl ?_
        refine AOps.cons rfl rfl (AOp.assign (.snil) rfl rfl ?_)
        refine AOps.nil ?_
        change AWP _ _ _ _ _ _
        refine AWP.seq ?_
        refine AWP.region (l := [0, 1]) rfl ?_
        refine AOps.cons rfl rfl (AOp.move (.int .u8 (byt s i)) rfl rfl ?_)
        refine AOps.cons rfl rfl (AOp.bin (.bool (decide (byt s i = 10))) rfl rfl rfl ieq ?_)
        refine AOps.nil ?_
        change AWP _ _ _ _ _ _
        refine AWP.condT rfl (decide_eq_true b64) ?_
        refine AWP.seq ?_
        refine AWP.seq ?_
        refine AWP.region (l := [0, 1, 2]) rfl ?_
        refine AOps.cons rfl rfl (AOp.move (w7) rfl s53 ?_)
        refine AOps.cons rfl rfl (AOp.len_own (m := ((ws).length)) rfl rfl o54 u_33 ?_)
        refine AOps.cons rfl rfl (AOp.bin (.bool (decide ((((ws).length) : Int) > 0))) rfl rfl rfl rfl ?_)
        refine AOps.nil ?_
        change AWP _ _ _ _ _ _
        by_cases b194 : (((ws).length) : Int) > 0
        ·
         refine AWP.condT rfl (decide_eq_true b194) ?_
         refine AWP.frz 7 o54 s53 m60 fun H195 m196 k197 => ?_
         have o198 := Own.stay o52 sp57 (fun i hi _ => k197 i hi)
         have o199 := Own.stay o56 (Sep.symm sp59) (fun i hi _ => k197 i hi)
         skip
         refine AWP.region (l := [0, 1, 2, 3, 4, 5, 6]) rfl ?_
         refine AOps.cons rfl rfl (AOp.move (w5) rfl s51 ?_)
         refine AOps.cons rfl rfl (AOp.move (.int .i64 no) rfl s48 ?_)
         refine AOps.cons rfl rfl (AOp.move (.sl (ws).length ((ws).map eStr)) rfl rfl ?_)
         refine AOps.cons rfl rfl (AOp.build (cells := [.int .i64 no, .sl (ws).length ((ws).map eStr)]) rfl tz_35 pl_35 rfl rfl ?_)
         refine AOps.cons rfl rfl (AOp.buildSlice (cells := [.int .i64 no, .sl (ws).length ((ws).map eStr)]) rfl u_23 ts_35 tz_35 rfl rfl rfl ?_)
         intro i200 H201 n202 h203 k204
         have z205 := Mono.free m196 n202
         have o206 := Own.keep o198 k204 (Own.notnew o198 n202)
         have no207 := Own.notnew o198 n202
         have o208 := Own.keep o199 k204 (Own.notnew o199 n202)
         have no209 := Own.notnew o199 n202
         have m210 := Mono.new m196 n202 k204
         refine AOps.cons rfl rfl (AOp.append_own (es := 2) (m := 1) (len := ((out).length)) (old := (out).flatMap eLine) (cells := [.int .i64 no, .sl (ws).length ((ws).map eStr)]) rfl u_23 ts_35 tzn_35 tb_35 (by decide) ni_23 rfl o206 m210 rfl (.slm h203 rfl) (one_of rfl) (by decide) (by first | omega | (simp; omega)) ?_)
         intro v211 H212 o213 m214 k215 j216
         have o217 := Own.snocM (xs := ((out) : List LineT)) (y := (LineT.mk no (ws))) (e := eLine) (by simp) o213
         have sp219 := Own.sep o208 (Sep.symm sp58) j216
         have o218 := Own.stay o208 (Sep.symm sp58) k215
         refine AOps.cons rfl rfl (AOp.assign (v211) rfl rfl ?_)
         refine AOps.nil ?_
         change AWP _ _ _ _ _ _
         refine AWP.seq ?_
         refine AWP.region (l := [0]) rfl ?_
         refine AOps.cons rfl rfl (AOp.assign (.snil) rfl rfl ?_)
         refine AOps.nil ?_
         change AWP _ _ _ _ _ _
         refine AWP.seq ?_
         refine AWP.region (l := [0, 1, 2]) rfl ?_
         refine AOps.cons rfl rfl (AOp.move (.int .i64 no) rfl s48 ?_)
         refine AOps.cons rfl rfl (AOp.bin (.int .i64 (no + 1)) rfl rfl rfl (iadd (by omega)) ?_)
         refine AOps.cons rfl rfl (AOp.assign (.int .i64 (no + 1)) rfl rfl ?_)
         refine AOps.nil ?_
         change AWP _ _ _ _ _ _
         refine AWP.region (l := [0]) rfl ?_
         refine AOps.cons rfl rfl (AOp.assign (.bool false) rfl rfl ?_)
         refine AOps.nil ?_
         change AWP _ _ _ _ _ _
         refine AWP.region (l := [0, 1, 2]) rfl ?_
         refine AOps.cons rfl rfl (AOp.move (.int .i64 i) rfl s47 ?_)
         refine AOps.cons rfl rfl (AOp.bin (.int .i64 (i + 1)) rfl rfl rfl (iadd (by omega)) ?_)
         refine AOps.cons rfl rfl (AOp.assign (.int .i64 (i + 1)) rfl rfl ?_)
         refine AOps.nil ?_
         exact ⟨_, by omega, i + 1, (out) ++ [(LineT.mk no (ws))], no + 1, [], [], false, v211, .snil, .snil, rfl, rfl, rfl, rfl, s50, rfl, o217, rfl, Own.nil _ _ _, rfl, Own.nil _ _ _, (Sep.nilR _), (Sep.nilR _), (Sep.nilL _), m214, by omega, by omega, by omega, by first | omega | (simp <;> omega), by first | omega | (simp <;> omega), by first | omega | (simp <;> omega), by first | (exfalso; omega) | (exfalso; have hl : 0 < (((ws ++ [bytesB wd]).length : Nat) : Int) := (by simp <;> omega); omega) | (rw [hsc, ref_step hi0 (by omega) (bytesL_in hi0 (by omega)) (by unfold badB; omega)]; exact congrArg (refGo ((bytesL s).drop (i + 1).toNat)) (show stepR (byt s i) (RS.mk out no ws wd rem) = RS.mk ((out) ++ [(LineT.mk no (ws))]) (no + 1) ([]) ([]) false from by first | (exfalso; omega) | simp only [stepR, (decide_eq_true b64), (decide_eq_false b65), (eq_false (show ¬ 0 < (wd.length : Int) from by omega)), (eq_true (show 0 < (ws.length : Int) from by omega)), (eq_true (show 0 < (((ws ++ [bytesB wd]).length : Nat) : Int) from by first | omega | (simp <;> omega))), Bool.or_true, Bool.true_or, Bool.or_false, Bool.false_or, if_true, if_false, Bool.false_eq_true, decide_true, decide_false]))⟩
        ·
         refine AWP.condF rfl (decide_eq_false b194) ?_
         refine AWP.skip ?_
         change AWP _ _ _ _ _ _
         refine AWP.seq ?_
         refine AWP.region (l := [0]) rfl ?_
         refine AOps.cons rfl rfl (AOp.assign (.snil) rfl rfl ?_)
         refine AOps.nil ?_
         change AWP _ _ _ _ _ _
         refine AWP.seq ?_
         refine AWP.region (l := [0, 1, 2]) rfl ?_
         refine AOps.cons rfl rfl (AOp.move (.int .i64 no) rfl s48 ?_)
         refine AOps.cons rfl rfl (AOp.bin (.int .i64 (no + 1)) rfl rfl rfl (iadd (by omega)) ?_)
         refine AOps.cons rfl rfl (AOp.assign (.int .i64 (no + 1)) rfl rfl ?_)
         refine AOps.nil ?_
         change AWP _ _ _ _ _ _
         refine AWP.region (l := [0]) rfl ?_
         refine AOps.cons rfl rfl (AOp.assign (.bool false) rfl rfl ?_)
         refine AOps.nil ?_
         change AWP _ _ _ _ _ _
         refine AWP.region (l := [0, 1, 2]) rfl ?_
         refine AOps.cons rfl rfl (AOp.move (.int .i64 i) rfl s47 ?_)
         refine AOps.cons rfl rfl (AOp.bin (.int .i64 (i + 1)) rfl rfl rfl (iadd (by omega)) ?_)
         refine AOps.cons rfl rfl (AOp.assign (.int .i64 (i + 1)) rfl rfl ?_)
         refine AOps.nil ?_
         exact ⟨_, by omega, i + 1, out, no + 1, [], [], false, w5, .snil, .snil, rfl, rfl, rfl, rfl, s50, s51, o52, rfl, Own.nil _ _ _, rfl, Own.nil _ _ _, (Sep.nilR _), (Sep.nilR _), (Sep.nilL _), m60, by omega, by omega, by omega, by first | omega | (simp <;> omega), by first | omega | (simp <;> omega), by first | omega | (simp <;> omega), by first | (exfalso; omega) | (exfalso; have hl : 0 < (((ws ++ [bytesB wd]).length : Nat) : Int) := (by simp <;> omega); omega) | (rw [hsc, ref_step hi0 (by omega) (bytesL_in hi0 (by omega)) (by unfold badB; omega)]; exact congrArg (refGo ((bytesL s).drop (i + 1).toNat)) (show stepR (byt s i) (RS.mk out no ws wd rem) = RS.mk out (no + 1) ([]) ([]) false from by first | (exfalso; omega) | simp only [stepR, (decide_eq_true b64), (decide_eq_false b65), (eq_false (show ¬ 0 < (wd.length : Int) from by omega)), (eq_false (show ¬ 0 < (ws.length : Int) from by omega)), (eq_true (show 0 < (((ws ++ [bytesB wd]).length : Nat) : Int) from by first | omega | (simp <;> omega))), Bool.or_true, Bool.true_or, Bool.or_false, Bool.false_or, if_true, if_false, Bool.false_eq_true, decide_true, decide_false]))⟩
     ·
      refine AOps.yes rfl rfl rfl rfl rfl rfl rfl (nb (decide_eq_false b64)) (AOp.move (.int .u8 (byt s i)) rfl rfl ?_)
      refine AOps.yes rfl rfl rfl rfl rfl rfl rfl (nb (decide_eq_false b64)) (AOp.bin (.bool (decide (byt s i < 32))) rfl rfl rfl rfl ?_)
      refine AOps.yes rfl rfl rfl rfl rfl rfl rfl (nb (decide_eq_false b64)) (AOp.move (.bool (decide (byt s i < 32))) rfl rfl ?_)
      by_cases b220 : byt s i < 32
      ·
       refine AOps.no rfl rfl rfl rfl rfl rfl rfl (ble_of (decide_eq_true b220) (by decide)) ?_
       refine AOps.no rfl rfl rfl rfl rfl rfl rfl (ble_of (decide_eq_true b220) (by decide)) ?_
       refine AOps.yes rfl rfl rfl rfl rfl rfl rfl (nb (decide_eq_false b64)) (AOp.pickT (.bool true) rfl rfl (decide_eq_true b220) rfl ?_)
       refine AOps.cons rfl rfl (AOp.pickT (.bool true) rfl rfl (nb (decide_eq_false b64)) rfl ?_)
       refine AOps.nil ?_
       change AWP _ _ _ _ _ _
       refine AWP.condT rfl rfl ?_
       refine AWP.seq ?_
       refine AWP.region (l := [0, 1, 2, 3]) rfl ?_
       refine AOps.cons rfl rfl (AOp.move (.int .i64 no) rfl s48 ?_)
       refine AOps.cons rfl rfl (AOp.assign (.snil) rfl rfl ?_)
       refine AOps.cons rfl rfl (AOp.assign (.int .i64 no) rfl rfl ?_)
       refine AOps.cons rfl rfl (AOp.assign (.int .i64 10) rfl rfl ?_)
       refine AOps.nil ?_
       change AWP _ _ _ _ _ _
       refine AWP.ret ?_
       refine Fin.frz 2 (Own.nil H0 H45 1) rfl m60 fun H221 m222 k223 => ?_
       have o224 := Own.stay o52 (Sep.nilR _) (fun i hi _ => k223 i hi)
       have o225 := Own.stay o54 (Sep.nilR _) (fun i hi _ => k223 i hi)
       have o226 := Own.stay o56 (Sep.nilR _) (fun i hi _ => k223 i hi)
       refine ⟨_, _, Ghost.refl, .inr rfl, _, Res.three rfl rfl rfl rfl, ?_, m222⟩
       exact congrArg AV.tup (lc (congrArg (fun l : List LineT => AV.sl l.length (l.flatMap eLine)) (show ([] : List LineT) = (refR s).1 from by rw [hsc, ref_bad hi0 (by omega) (bytesL_in hi0 (by omega)) (by unfold badB; omega)])) (lc (congrArg (AV.int .i64) (show (no : Int) = (refR s).2.1 from by rw [hsc, ref_bad hi0 (by omega) (bytesL_in hi0 (by omega)) (by unfold badB; omega)])) (lc (congrArg (AV.int .i64) (show (10 : Int) = (refR s).2.2 from by rw [hsc, ref_bad hi0 (by omega) (bytesL_in hi0 (by omega)) (by unfold badB; omega)])) rfl)))
      ·
       refine AOps.yes rfl rfl rfl rfl rfl rfl rfl (decide_eq_false b220) (AOp.move (.int .u8 (byt s i)) rfl rfl ?_)
       refine AOps.yes rfl rfl rfl rfl rfl rfl rfl (decide_eq_false b220) (AOp.bin (.bool (decide (byt s i > 126))) rfl rfl rfl rfl ?_)
       refine AOps.yes rfl rfl rfl rfl rfl rfl rfl (nb (decide_eq_false b64)) (AOp.pickF (.bool (decide (byt s i > 126))) rfl rfl (decide_eq_false b220) rfl ?_)
       refine AOps.cons rfl rfl (AOp.pickT (.bool (decide (byt s i > 126))) rfl rfl (nb (decide_eq_false b64)) rfl ?_)
       refine AOps.nil ?_
       change AWP _ _ _ _ _ _
       by_cases b227 : byt s i > 126
       ·
        refine AWP.condT rfl (decide_eq_true b227) ?_
        refine AWP.seq ?_
        refine AWP.region (l := [0, 1, 2, 3]) rfl ?_
        refine AOps.cons rfl rfl (AOp.move (.int .i64 no) rfl s48 ?_)
        refine AOps.cons rfl rfl (AOp.assign (.snil) rfl rfl ?_)
        refine AOps.cons rfl rfl (AOp.assign (.int .i64 no) rfl rfl ?_)
        refine AOps.cons rfl rfl (AOp.assign (.int .i64 10) rfl rfl ?_)
        refine AOps.nil ?_
        change AWP _ _ _ _ _ _
        refine AWP.ret ?_
        refine Fin.frz 2 (Own.nil H0 H45 1) rfl m60 fun H228 m229 k230 => ?_
        have o231 := Own.stay o52 (Sep.nilR _) (fun i hi _ => k230 i hi)
        have o232 := Own.stay o54 (Sep.nilR _) (fun i hi _ => k230 i hi)
        have o233 := Own.stay o56 (Sep.nilR _) (fun i hi _ => k230 i hi)
        refine ⟨_, _, Ghost.refl, .inr rfl, _, Res.three rfl rfl rfl rfl, ?_, m229⟩
        exact congrArg AV.tup (lc (congrArg (fun l : List LineT => AV.sl l.length (l.flatMap eLine)) (show ([] : List LineT) = (refR s).1 from by rw [hsc, ref_bad hi0 (by omega) (bytesL_in hi0 (by omega)) (by unfold badB; omega)])) (lc (congrArg (AV.int .i64) (show (no : Int) = (refR s).2.1 from by rw [hsc, ref_bad hi0 (by omega) (bytesL_in hi0 (by omega)) (by unfold badB; omega)])) (lc (congrArg (AV.int .i64) (show (10 : Int) = (refR s).2.2 from by rw [hsc, ref_bad hi0 (by omega) (bytesL_in hi0 (by omega)) (by unfold badB; omega)])) rfl)))
       ·
        refine AWP.condF rfl (decide_eq_false b227) ?_
        refine AWP.skip ?_
        change AWP _ _ _ _ _ _
        refine AWP.seq ?_
        refine AWP.seq ?_
        refine AWP.region (l := [0, 1]) rfl ?_
        refine AOps.cons rfl rfl (AOp.move (.int .u8 (byt s i)) rfl rfl ?_)
        refine AOps.cons rfl rfl (AOp.bin (.bool (decide (byt s i = 35))) rfl rfl rfl ieq ?_)
        refine AOps.nil ?_
        change AWP _ _ _ _ _ _
        by_cases b234 : byt s i = 35
        ·
         refine AWP.condT rfl (decide_eq_true b234) ?_
         refine AWP.region (l := [0]) rfl ?_
         refine AOps.cons rfl rfl (AOp.assign (.bool true) rfl rfl ?_)
         refine AOps.nil ?_
         change AWP _ _ _ _ _ _
         refine AWP.seq ?_
         refine AWP.seq ?_
         refine AWP.region (l := [0, 1, 2, 3, 4, 5, 6, 7, 8]) rfl ?_
         refine AOps.cons rfl rfl (AOp.move (.int .u8 (byt s i)) rfl rfl ?_)
         refine AOps.cons rfl rfl (AOp.bin (.bool (decide (byt s i = 10))) rfl rfl rfl ieq ?_)
         refine AOps.cons rfl rfl (AOp.move (.bool (decide (byt s i = 10))) rfl rfl ?_)
         refine AOps.yes rfl rfl rfl rfl rfl rfl rfl (decide_eq_false b64) (AOp.move (.int .u8 (byt s i)) rfl rfl ?_)
         refine AOps.yes rfl rfl rfl rfl rfl rfl rfl (decide_eq_false b64) (AOp.bin (.bool (decide (byt s i = 32))) rfl rfl rfl ieq ?_)
         refine AOps.cons rfl rfl (AOp.pickF (.bool (decide (byt s i = 32))) rfl rfl (decide_eq_false b64) rfl ?_)
         refine AOps.cons rfl rfl (AOp.move (.bool (decide (byt s i = 32))) rfl rfl ?_)
         by_cases b235 : byt s i = 32
         ·
          refine AOps.no rfl rfl rfl rfl rfl rfl rfl (ble_of (decide_eq_true b235) (by decide)) ?_
          refine AOps.cons rfl rfl (AOp.pickT (.bool true) rfl rfl (decide_eq_true b235) rfl ?_)
          refine AOps.nil ?_
          change AWP _ _ _ _ _ _
          refine AWP.condT rfl rfl ?_
          refine AWP.seq ?_
          refine AWP.seq ?_
          refine AWP.region (l := [0, 1, 2]) rfl ?_
          refine AOps.cons rfl rfl (AOp.move (w8) rfl s55 ?_)
          refine AOps.cons rfl rfl (AOp.len_own (m := ((wd).length)) rfl rfl o56 u_45 ?_)
          refine AOps.cons rfl rfl (AOp.bin (.bool (decide ((((wd).length) : Int) > 0))) rfl rfl rfl rfl ?_)
          refine AOps.nil ?_
          change AWP _ _ _ _ _ _
          by_cases b236 : (((wd).length) : Int) > 0
          ·
           refine AWP.condT rfl (decide_eq_true b236) ?_
           refine AWP.region (l := [0, 1, 2, 3, 4, 5]) rfl ?_
           refine AOps.cons rfl rfl (AOp.move (w7) rfl s53 ?_)
           refine AOps.cons rfl rfl (AOp.move (w8) rfl s55 ?_)
           refine AOps.cons rfl rfl (AOp.bytesS (l := (wd)) rfl rfl o56.src u_45 u_5 u_9 ?_)
           refine AOps.cons rfl rfl (AOp.buildSlice (cells := [.str (bytesB (wd))]) rfl u_33 ts_9 tz_9 rfl rfl rfl ?_)
           intro i237 H238 n239 h240 k241
           have z242 := Mono.free m60 n239
           have o243 := Own.keep o52 k241 (Own.notnew o52 n239)
           have no244 := Own.notnew o52 n239
           have o245 := Own.keep o54 k241 (Own.notnew o54 n239)
           have no246 := Own.notnew o54 n239
           have o247 := Own.keep o56 k241 (Own.notnew o56 n239)
           have no248 := Own.notnew o56 n239
           have m249 := Mono.new m60 n239 k241
           refine AOps.cons rfl rfl (AOp.append_own (es := 1) (m := 1) (len := ((ws).length)) (old := (ws).map eStr) (cells := [.str (bytesB (wd))]) rfl u_33 ts_9 tzn_9 tb_9 (by decide) ni_33 rfl o245 m249 rfl (.slm h240 rfl) (one_of rfl) (by decide) (by first | omega | (simp; omega)) ?_)
           intro v250 H251 o252 m253 k254 j255
           have o256 := Own.snoc1 (xs := ((ws) : List ByteArray)) (y := bytesB (wd)) (e := eStr) (by simp) o252
           have sp258 := Own.sep o243 sp57 j255
           have o257 := Own.stay o243 sp57 k254
           have sp260 := Own.sep o247 (Sep.symm sp59) j255
           have o259 := Own.stay o247 (Sep.symm sp59) k254
           refine AOps.cons rfl rfl (AOp.assign (v250) rfl rfl ?_)
           refine AOps.nil ?_
           change AWP _ _ _ _ _ _
           refine AWP.region (l := [0]) rfl ?_
           refine AOps.cons rfl rfl (AOp.assign (.snil) rfl rfl ?_)
           refine AOps.nil ?_
           change AWP _ _ _ _ _ _
           refine AWP.seq ?_
           refine AWP.region (l := [0, 1]) rfl ?_
           refine AOps.cons rfl rfl (AOp.move (.int .u8 (byt s i)) rfl rfl ?_)
           refine AOps.cons rfl rfl (AOp.bin (.bool (decide (byt s i = 10))) rfl rfl rfl ieq ?_)
           refine AOps.nil ?_
           change AWP _ _ _ _ _ _
           refine AWP.condF rfl (decide_eq_false b64) ?_
           refine AWP.skip ?_
           change AWP _ _ _ _ _ _
           refine AWP.region (l := [0, 1, 2]) rfl ?_
           refine AOps.cons rfl rfl (AOp.move (.int .i64 i) rfl s47 ?_)
           refine AOps.cons rfl rfl (AOp.bin (.int .i64 (i + 1)) rfl rfl rfl (iadd (by omega)) ?_)
           refine AOps.cons rfl rfl (AOp.assign (.int .i64 (i + 1)) rfl rfl ?_)
           refine AOps.nil ?_
           exact ⟨_, by omega, i + 1, out, no, (ws) ++ [bytesB (wd)], [], true, w5, v250, .snil, rfl, rfl, s48, rfl, s50, s51, o257, rfl, o256, rfl, Own.nil _ _ _, sp258, (Sep.nilR _), (Sep.nilR _), m253, by omega, by omega, by omega, by first | omega | (simp <;> omega), by first | omega | (simp <;> omega), by first | omega | (simp <;> omega), by first | (exfalso; omega) | (exfalso; have hl : 0 < (((ws ++ [bytesB wd]).length : Nat) : Int) := (by simp <;> omega); omega) | (rw [hsc, ref_step hi0 (by omega) (bytesL_in hi0 (by omega)) (by unfold badB; omega)]; exact congrArg (refGo ((bytesL s).drop (i + 1).toNat)) (show stepR (byt s i) (RS.mk out no ws wd rem) = RS.mk out no ((ws) ++ [bytesB (wd)]) ([]) true from by first | (exfalso; omega) | simp only [stepR, (decide_eq_false b64), (decide_eq_true b234), (decide_eq_true b235), (eq_true (show 0 < (wd.length : Int) from by omega)), (eq_true (show 0 < (((ws ++ [bytesB wd]).length : Nat) : Int) from by first | omega | (simp <;> omega))), Bool.or_true, Bool.true_or, Bool.or_false, Bool.false_or, if_true, if_false, Bool.false_eq_true, decide_true, decide_false]))⟩
          ·
           refine AWP.condF rfl (decide_eq_false b236) ?_
           refine AWP.skip ?_
           change AWP _ _ _ _ _ _
           refine AWP.region (l := [0]) rfl ?_
           refine AOps.cons rfl rfl (AOp.assign (.snil) rfl rfl ?_)
           refine AOps.nil ?_
           change AWP _ _ _ _ _ _
           refine AWP.seq ?_
           refine AWP.region (l := [0, 1]) rfl ?_
           refine AOps.cons rfl rfl (AOp.move (.int .u8 (byt s i)) rfl rfl ?_)
           refine AOps.cons rfl rfl (AOp.bin (.bool (decide (byt s i = 10))) rfl rfl rfl ieq ?_)
           refine AOps.nil ?_
           change AWP _ _ _ _ _ _
           refine AWP.condF rfl (decide_eq_false b64) ?_
           refine AWP.skip ?_
           change AWP _ _ _ _ _ _
           refine AWP.region (l := [0, 1, 2]) rfl ?_
           refine AOps.cons rfl rfl (AOp.move (.int .i64 i) rfl s47 ?_)
           refine AOps.cons rfl rfl (AOp.bin (.int .i64 (i + 1)) rfl rfl rfl (iadd (by omega)) ?_)
           refine AOps.cons rfl rfl (AOp.assign (.int .i64 (i + 1)) rfl rfl ?_)
           refine AOps.nil ?_
           exact ⟨_, by omega, i + 1, out, no, ws, [], true, w5, w7, .snil, rfl, rfl, s48, rfl, s50, s51, o52, s53, o54, rfl, Own.nil _ _ _, sp57, (Sep.nilR _), (Sep.nilR _), m60, by omega, by omega, by omega, by first | omega | (simp <;> omega), by first | omega | (simp <;> omega), by first | omega | (simp <;> omega), by first | (exfalso; omega) | (exfalso; have hl : 0 < (((ws ++ [bytesB wd]).length : Nat) : Int) := (by simp <;> omega); omega) | (rw [hsc, ref_step hi0 (by omega) (bytesL_in hi0 (by omega)) (by unfold badB; omega)]; exact congrArg (refGo ((bytesL s).drop (i + 1).toNat)) (show stepR (byt s i) (RS.mk out no ws wd rem) = RS.mk out no ws ([]) true from by first | (exfalso; omega) | simp only [stepR, (decide_eq_false b64), (decide_eq_true b234), (decide_eq_true b235), (eq_false (show ¬ 0 < (wd.length : Int) from by omega)), (eq_true (show 0 < (((ws ++ [bytesB wd]).length : Nat) : Int) from by first | omega | (simp <;> omega))), Bool.or_true, Bool.true_or, Bool.or_false, Bool.false_or, if_true, if_false, Bool.false_eq_true, decide_true, decide_false]))⟩
         ·
          refine AOps.yes rfl rfl rfl rfl rfl rfl rfl (decide_eq_false b235) (AOp.move (.bool true) rfl rfl ?_)
          refine AOps.cons rfl rfl (AOp.pickF (.bool true) rfl rfl (decide_eq_false b235) rfl ?_)
          refine AOps.nil ?_
          change AWP _ _ _ _ _ _
          refine AWP.condT rfl rfl ?_
          refine AWP.seq ?_
          refine AWP.seq ?_
          refine AWP.region (l := [0, 1, 2]) rfl ?_
          refine AOps.cons rfl rfl (AOp.move (w8) rfl s55 ?_)
          refine AOps.cons rfl rfl (AOp.len_own (m := ((wd).length)) rfl rfl o56 u_45 ?_)
          refine AOps.cons rfl rfl (AOp.bin (.bool (decide ((((wd).length) : Int) > 0))) rfl rfl rfl rfl ?_)
          refine AOps.nil ?_
          change AWP _ _ _ _ _ _
          by_cases b261 : (((wd).length) : Int) > 0
          ·
           refine AWP.condT rfl (decide_eq_true b261) ?_
           refine AWP.region (l := [0, 1, 2, 3, 4, 5]) rfl ?_
           refine AOps.cons rfl rfl (AOp.move (w7) rfl s53 ?_)
           refine AOps.cons rfl rfl (AOp.move (w8) rfl s55 ?_)
           refine AOps.cons rfl rfl (AOp.bytesS (l := (wd)) rfl rfl o56.src u_45 u_5 u_9 ?_)
           refine AOps.cons rfl rfl (AOp.buildSlice (cells := [.str (bytesB (wd))]) rfl u_33 ts_9 tz_9 rfl rfl rfl ?_)
           intro i262 H263 n264 h265 k266
           have z267 := Mono.free m60 n264
           have o268 := Own.keep o52 k266 (Own.notnew o52 n264)
           have no269 := Own.notnew o52 n264
           have o270 := Own.keep o54 k266 (Own.notnew o54 n264)
           have no271 := Own.notnew o54 n264
           have o272 := Own.keep o56 k266 (Own.notnew o56 n264)
           have no273 := Own.notnew o56 n264
           have m274 := Mono.new m60 n264 k266
           refine AOps.cons rfl rfl (AOp.append_own (es := 1) (m := 1) (len := ((ws).length)) (old := (ws).map eStr) (cells := [.str (bytesB (wd))]) rfl u_33 ts_9 tzn_9 tb_9 (by decide) ni_33 rfl o270 m274 rfl (.slm h265 rfl) (one_of rfl) (by decide) (by first | omega | (simp; omega)) ?_)
           intro v275 H276 o277 m278 k279 j280
           have o281 := Own.snoc1 (xs := ((ws) : List ByteArray)) (y := bytesB (wd)) (e := eStr) (by simp) o277
           have sp283 := Own.sep o268 sp57 j280
           have o282 := Own.stay o268 sp57 k279
           have sp285 := Own.sep o272 (Sep.symm sp59) j280
           have o284 := Own.stay o272 (Sep.symm sp59) k279
           refine AOps.cons rfl rfl (AOp.assign (v275) rfl rfl ?_)
           refine AOps.nil ?_
           change AWP _ _ _ _ _ _
           refine AWP.region (l := [0]) rfl ?_
           refine AOps.cons rfl rfl (AOp.assign (.snil) rfl rfl ?_)
           refine AOps.nil ?_
           change AWP _ _ _ _ _ _
           refine AWP.seq ?_
           refine AWP.region (l := [0, 1]) rfl ?_
           refine AOps.cons rfl rfl (AOp.move (.int .u8 (byt s i)) rfl rfl ?_)
           refine AOps.cons rfl rfl (AOp.bin (.bool (decide (byt s i = 10))) rfl rfl rfl ieq ?_)
           refine AOps.nil ?_
           change AWP _ _ _ _ _ _
           refine AWP.condF rfl (decide_eq_false b64) ?_
           refine AWP.skip ?_
           change AWP _ _ _ _ _ _
           refine AWP.region (l := [0, 1, 2]) rfl ?_
           refine AOps.cons rfl rfl (AOp.move (.int .i64 i) rfl s47 ?_)
           refine AOps.cons rfl rfl (AOp.bin (.int .i64 (i + 1)) rfl rfl rfl (iadd (by omega)) ?_)
           refine AOps.cons rfl rfl (AOp.assign (.int .i64 (i + 1)) rfl rfl ?_)
           refine AOps.nil ?_
           exact ⟨_, by omega, i + 1, out, no, (ws) ++ [bytesB (wd)], [], true, w5, v275, .snil, rfl, rfl, s48, rfl, s50, s51, o282, rfl, o281, rfl, Own.nil _ _ _, sp283, (Sep.nilR _), (Sep.nilR _), m278, by omega, by omega, by omega, by first | omega | (simp <;> omega), by first | omega | (simp <;> omega), by first | omega | (simp <;> omega), by first | (exfalso; omega) | (exfalso; have hl : 0 < (((ws ++ [bytesB wd]).length : Nat) : Int) := (by simp <;> omega); omega) | (rw [hsc, ref_step hi0 (by omega) (bytesL_in hi0 (by omega)) (by unfold badB; omega)]; exact congrArg (refGo ((bytesL s).drop (i + 1).toNat)) (show stepR (byt s i) (RS.mk out no ws wd rem) = RS.mk out no ((ws) ++ [bytesB (wd)]) ([]) true from by first | (exfalso; omega) | simp only [stepR, (decide_eq_false b64), (decide_eq_true b234), (decide_eq_false b235), (eq_true (show 0 < (wd.length : Int) from by omega)), (eq_true (show 0 < (((ws ++ [bytesB wd]).length : Nat) : Int) from by first | omega | (simp <;> omega))), Bool.or_true, Bool.true_or, Bool.or_false, Bool.false_or, if_true, if_false, Bool.false_eq_true, decide_true, decide_false]))⟩
          ·
           refine AWP.condF rfl (decide_eq_false b261) ?_
           refine AWP.skip ?_
           change AWP _ _ _ _ _ _
           refine AWP.region (l := [0]) rfl ?_
           refine AOps.cons rfl rfl (AOp.assign (.snil) rfl rfl ?_)
           refine AOps.nil ?_
           change AWP _ _ _ _ _ _
           refine AWP.seq ?_
           refine AWP.region (l := [0, 1]) rfl ?_
           refine AOps.cons rfl rfl (AOp.move (.int .u8 (byt s i)) rfl rfl ?_)
           refine AOps.cons rfl rfl (AOp.bin (.bool (decide (byt s i = 10))) rfl rfl rfl ieq ?_)
           refine AOps.nil ?_
           change AWP _ _ _ _ _ _
           refine AWP.condF rfl (decide_eq_false b64) ?_
           refine AWP.skip ?_
           change AWP _ _ _ _ _ _
           refine AWP.region (l := [0, 1, 2]) rfl ?_
           refine AOps.cons rfl rfl (AOp.move (.int .i64 i) rfl s47 ?_)
           refine AOps.cons rfl rfl (AOp.bin (.int .i64 (i + 1)) rfl rfl rfl (iadd (by omega)) ?_)
           refine AOps.cons rfl rfl (AOp.assign (.int .i64 (i + 1)) rfl rfl ?_)
           refine AOps.nil ?_
           exact ⟨_, by omega, i + 1, out, no, ws, [], true, w5, w7, .snil, rfl, rfl, s48, rfl, s50, s51, o52, s53, o54, rfl, Own.nil _ _ _, sp57, (Sep.nilR _), (Sep.nilR _), m60, by omega, by omega, by omega, by first | omega | (simp <;> omega), by first | omega | (simp <;> omega), by first | omega | (simp <;> omega), by first | (exfalso; omega) | (exfalso; have hl : 0 < (((ws ++ [bytesB wd]).length : Nat) : Int) := (by simp <;> omega); omega) | (rw [hsc, ref_step hi0 (by omega) (bytesL_in hi0 (by omega)) (by unfold badB; omega)]; exact congrArg (refGo ((bytesL s).drop (i + 1).toNat)) (show stepR (byt s i) (RS.mk out no ws wd rem) = RS.mk out no ws ([]) true from by first | (exfalso; omega) | simp only [stepR, (decide_eq_false b64), (decide_eq_true b234), (decide_eq_false b235), (eq_false (show ¬ 0 < (wd.length : Int) from by omega)), (eq_true (show 0 < (((ws ++ [bytesB wd]).length : Nat) : Int) from by first | omega | (simp <;> omega))), Bool.or_true, Bool.true_or, Bool.or_false, Bool.false_or, if_true, if_false, Bool.false_eq_true, decide_true, decide_false]))⟩
        ·
         refine AWP.condF rfl (decide_eq_false b234) ?_
         refine AWP.skip ?_
         change AWP _ _ _ _ _ _
         refine AWP.seq ?_
         refine AWP.seq ?_
         refine AWP.region (l := [0, 1, 2, 3, 4, 5, 6, 7, 8]) rfl ?_
         refine AOps.cons rfl rfl (AOp.move (.int .u8 (byt s i)) rfl rfl ?_)
         refine AOps.cons rfl rfl (AOp.bin (.bool (decide (byt s i = 10))) rfl rfl rfl ieq ?_)
         refine AOps.cons rfl rfl (AOp.move (.bool (decide (byt s i = 10))) rfl rfl ?_)
         refine AOps.yes rfl rfl rfl rfl rfl rfl rfl (decide_eq_false b64) (AOp.move (.int .u8 (byt s i)) rfl rfl ?_)
         refine AOps.yes rfl rfl rfl rfl rfl rfl rfl (decide_eq_false b64) (AOp.bin (.bool (decide (byt s i = 32))) rfl rfl rfl ieq ?_)
         refine AOps.cons rfl rfl (AOp.pickF (.bool (decide (byt s i = 32))) rfl rfl (decide_eq_false b64) rfl ?_)
         refine AOps.cons rfl rfl (AOp.move (.bool (decide (byt s i = 32))) rfl rfl ?_)
         by_cases b286 : byt s i = 32
         ·
          refine AOps.no rfl rfl rfl rfl rfl rfl rfl (ble_of (decide_eq_true b286) (by decide)) ?_
          refine AOps.cons rfl rfl (AOp.pickT (.bool true) rfl rfl (decide_eq_true b286) rfl ?_)
          refine AOps.nil ?_
          change AWP _ _ _ _ _ _
          refine AWP.condT rfl rfl ?_
          refine AWP.seq ?_
          refine AWP.seq ?_
          refine AWP.region (l := [0, 1, 2]) rfl ?_
          refine AOps.cons rfl rfl (AOp.move (w8) rfl s55 ?_)
          refine AOps.cons rfl rfl (AOp.len_own (m := ((wd).length)) rfl rfl o56 u_45 ?_)
          refine AOps.cons rfl rfl (AOp.bin (.bool (decide ((((wd).length) : Int) > 0))) rfl rfl rfl rfl ?_)
          refine AOps.nil ?_
          change AWP _ _ _ _ _ _
          by_cases b287 : (((wd).length) : Int) > 0
          ·
           refine AWP.condT rfl (decide_eq_true b287) ?_
           refine AWP.region (l := [0, 1, 2, 3, 4, 5]) rfl ?_
           refine AOps.cons rfl rfl (AOp.move (w7) rfl s53 ?_)
           refine AOps.cons rfl rfl (AOp.move (w8) rfl s55 ?_)
           refine AOps.cons rfl rfl (AOp.bytesS (l := (wd)) rfl rfl o56.src u_45 u_5 u_9 ?_)
           refine AOps.cons rfl rfl (AOp.buildSlice (cells := [.str (bytesB (wd))]) rfl u_33 ts_9 tz_9 rfl rfl rfl ?_)
           intro i288 H289 n290 h291 k292
           have z293 := Mono.free m60 n290
           have o294 := Own.keep o52 k292 (Own.notnew o52 n290)
           have no295 := Own.notnew o52 n290
           have o296 := Own.keep o54 k292 (Own.notnew o54 n290)
           have no297 := Own.notnew o54 n290
           have o298 := Own.keep o56 k292 (Own.notnew o56 n290)
           have no299 := Own.notnew o56 n290
           have m300 := Mono.new m60 n290 k292
           refine AOps.cons rfl rfl (AOp.append_own (es := 1) (m := 1) (len := ((ws).length)) (old := (ws).map eStr) (cells := [.str (bytesB (wd))]) rfl u_33 ts_9 tzn_9 tb_9 (by decide) ni_33 rfl o296 m300 rfl (.slm h291 rfl) (one_of rfl) (by decide) (by first | omega | (simp; omega)) ?_)
           intro v301 H302 o303 m304 k305 j306
           have o307 := Own.snoc1 (xs := ((ws) : List ByteArray)) (y := bytesB (wd)) (e := eStr) (by simp) o303
           have sp309 := Own.sep o294 sp57 j306
           have o308 := Own.stay o294 sp57 k305
           have sp311 := Own.sep o298 (Sep.symm sp59) j306
           have o310 := Own.stay o298 (Sep.symm sp59) k305
           refine AOps.cons rfl rfl (AOp.assign (v301) rfl rfl ?_)
           refine AOps.nil ?_
           change AWP _ _ _ _ _ _
           refine AWP.region (l := [0]) rfl ?_
           refine AOps.cons rfl rfl (AOp.assign (.snil) rfl rfl ?_)
           refine AOps.nil ?_
           change AWP _ _ _ _ _ _
           refine AWP.seq ?_
           refine AWP.region (l := [0, 1]) rfl ?_
           refine AOps.cons rfl rfl (AOp.move (.int .u8 (byt s i)) rfl rfl ?_)
           refine AOps.cons rfl rfl (AOp.bin (.bool (decide (byt s i = 10))) rfl rfl rfl ieq ?_)
           refine AOps.nil ?_
           change AWP _ _ _ _ _ _
           refine AWP.condF rfl (decide_eq_false b64) ?_
           refine AWP.skip ?_
           change AWP _ _ _ _ _ _
           refine AWP.region (l := [0, 1, 2]) rfl ?_
           refine AOps.cons rfl rfl (AOp.move (.int .i64 i) rfl s47 ?_)
           refine AOps.cons rfl rfl (AOp.bin (.int .i64 (i + 1)) rfl rfl rfl (iadd (by omega)) ?_)
           refine AOps.cons rfl rfl (AOp.assign (.int .i64 (i + 1)) rfl rfl ?_)
           refine AOps.nil ?_
           exact ⟨_, by omega, i + 1, out, no, (ws) ++ [bytesB (wd)], [], rem, w5, v301, .snil, rfl, rfl, s48, s49, s50, s51, o308, rfl, o307, rfl, Own.nil _ _ _, sp309, (Sep.nilR _), (Sep.nilR _), m304, by omega, by omega, by omega, by first | omega | (simp <;> omega), by first | omega | (simp <;> omega), by first | omega | (simp <;> omega), by first | (exfalso; omega) | (exfalso; have hl : 0 < (((ws ++ [bytesB wd]).length : Nat) : Int) := (by simp <;> omega); omega) | (rw [hsc, ref_step hi0 (by omega) (bytesL_in hi0 (by omega)) (by unfold badB; omega)]; exact congrArg (refGo ((bytesL s).drop (i + 1).toNat)) (show stepR (byt s i) (RS.mk out no ws wd rem) = RS.mk out no ((ws) ++ [bytesB (wd)]) ([]) rem from by first | (exfalso; omega) | simp only [stepR, (decide_eq_false b64), (decide_eq_false b234), (decide_eq_true b286), (eq_true (show 0 < (wd.length : Int) from by omega)), (eq_true (show 0 < (((ws ++ [bytesB wd]).length : Nat) : Int) from by first | omega | (simp <;> omega))), Bool.or_true, Bool.true_or, Bool.or_false, Bool.false_or, if_true, if_false, Bool.false_eq_true, decide_true, decide_false]))⟩
          ·
           refine AWP.condF rfl (decide_eq_false b287) ?_
           refine AWP.skip ?_
           change AWP _ _ _ _ _ _
           refine AWP.region (l := [0]) rfl ?_
           refine AOps.cons rfl rfl (AOp.assign (.snil) rfl rfl ?_)
           refine AOps.nil ?_
           change AWP _ _ _ _ _ _
           refine AWP.seq ?_
           refine AWP.region (l := [0, 1]) rfl ?_
           refine AOps.cons rfl rfl (AOp.move (.int .u8 (byt s i)) rfl rfl ?_)
           refine AOps.cons rfl rfl (AOp.bin (.bool (decide (byt s i = 10))) rfl rfl rfl ieq ?_)
           refine AOps.nil ?_
           change AWP _ _ _ _ _ _
           refine AWP.condF rfl (decide_eq_false b64) ?_
           refine AWP.skip ?_
           change AWP _ _ _ _ _ _
           refine AWP.region (l := [0, 1, 2]) rfl ?_
           refine AOps.cons rfl rfl (AOp.move (.int .i64 i) rfl s47 ?_)
           refine AOps.cons rfl rfl (AOp.bin (.int .i64 (i + 1)) rfl rfl rfl (iadd (by omega)) ?_)
           refine AOps.cons rfl rfl (AOp.assign (.int .i64 (i + 1)) rfl rfl ?_)
           refine AOps.nil ?_
           exact ⟨_, by omega, i + 1, out, no, ws, [], rem, w5, w7, .snil, rfl, rfl, s48, s49, s50, s51, o52, s53, o54, rfl, Own.nil _ _ _, sp57, (Sep.nilR _), (Sep.nilR _), m60, by omega, by omega, by omega, by first | omega | (simp <;> omega), by first | omega | (simp <;> omega), by first | omega | (simp <;> omega), by first | (exfalso; omega) | (exfalso; have hl : 0 < (((ws ++ [bytesB wd]).length : Nat) : Int) := (by simp <;> omega); omega) | (rw [hsc, ref_step hi0 (by omega) (bytesL_in hi0 (by omega)) (by unfold badB; omega)]; exact congrArg (refGo ((bytesL s).drop (i + 1).toNat)) (show stepR (byt s i) (RS.mk out no ws wd rem) = RS.mk out no ws ([]) rem from by first | (exfalso; omega) | simp only [stepR, (decide_eq_false b64), (decide_eq_false b234), (decide_eq_true b286), (eq_false (show ¬ 0 < (wd.length : Int) from by omega)), (eq_true (show 0 < (((ws ++ [bytesB wd]).length : Nat) : Int) from by first | omega | (simp <;> omega))), Bool.or_true, Bool.true_or, Bool.or_false, Bool.false_or, if_true, if_false, Bool.false_eq_true, decide_true, decide_false]))⟩
         ·
          refine AOps.yes rfl rfl rfl rfl rfl rfl rfl (decide_eq_false b286) (AOp.move (.bool rem) rfl s49 ?_)
          refine AOps.cons rfl rfl (AOp.pickF (.bool rem) rfl rfl (decide_eq_false b286) rfl ?_)
          refine AOps.nil ?_
          change AWP _ _ _ _ _ _
          rcases Bool.eq_false_or_eq_true (rem) with b312 | b312
          ·
           refine AWP.condT rfl b312 ?_
           refine AWP.seq ?_
           refine AWP.seq ?_
           refine AWP.region (l := [0, 1, 2]) rfl ?_
           refine AOps.cons rfl rfl (AOp.move (w8) rfl s55 ?_)
           refine AOps.cons rfl rfl (AOp.len_own (m := ((wd).length)) rfl rfl o56 u_45 ?_)
           refine AOps.cons rfl rfl (AOp.bin (.bool (decide ((((wd).length) : Int) > 0))) rfl rfl rfl rfl ?_)
           refine AOps.nil ?_
           change AWP _ _ _ _ _ _
           by_cases b313 : (((wd).length) : Int) > 0
           ·
            refine AWP.condT rfl (decide_eq_true b313) ?_
            refine AWP.region (l := [0, 1, 2, 3, 4, 5]) rfl ?_
            refine AOps.cons rfl rfl (AOp.move (w7) rfl s53 ?_)
            refine AOps.cons rfl rfl (AOp.move (w8) rfl s55 ?_)
            refine AOps.cons rfl rfl (AOp.bytesS (l := (wd)) rfl rfl o56.src u_45 u_5 u_9 ?_)
            refine AOps.cons rfl rfl (AOp.buildSlice (cells := [.str (bytesB (wd))]) rfl u_33 ts_9 tz_9 rfl rfl rfl ?_)
            intro i314 H315 n316 h317 k318
            have z319 := Mono.free m60 n316
            have o320 := Own.keep o52 k318 (Own.notnew o52 n316)
            have no321 := Own.notnew o52 n316
            have o322 := Own.keep o54 k318 (Own.notnew o54 n316)
            have no323 := Own.notnew o54 n316
            have o324 := Own.keep o56 k318 (Own.notnew o56 n316)
            have no325 := Own.notnew o56 n316
            have m326 := Mono.new m60 n316 k318
            refine AOps.cons rfl rfl (AOp.append_own (es := 1) (m := 1) (len := ((ws).length)) (old := (ws).map eStr) (cells := [.str (bytesB (wd))]) rfl u_33 ts_9 tzn_9 tb_9 (by decide) ni_33 rfl o322 m326 rfl (.slm h317 rfl) (one_of rfl) (by decide) (by first | omega | (simp; omega)) ?_)
            intro v327 H328 o329 m330 k331 j332
            have o333 := Own.snoc1 (xs := ((ws) : List ByteArray)) (y := bytesB (wd)) (e := eStr) (by simp) o329
            have sp335 := Own.sep o320 sp57 j332
            have o334 := Own.stay o320 sp57 k331
            have sp337 := Own.sep o324 (Sep.symm sp59) j332
            have o336 := Own.stay o324 (Sep.symm sp59) k331
            refine AOps.cons rfl rfl (AOp.assign (v327) rfl rfl ?_)
            refine AOps.nil ?_
            change AWP _ _ _ _ _ _
            refine AWP.region (l := [0]) rfl ?_
            refine AOps.cons rfl rfl (AOp.assign (.snil) rfl rfl ?_)
            refine AOps.nil ?_
            change AWP _ _ _ _ _ _
            refine AWP.seq ?_
            refine AWP.region (l := [0, 1]) rfl ?_
            refine AOps.cons rfl rfl (AOp.move (.int .u8 (byt s i)) rfl rfl ?_)
            refine AOps.cons rfl rfl (AOp.bin (.bool (decide (byt s i = 10))) rfl rfl rfl ieq ?_)
            refine AOps.nil ?_
            change AWP _ _ _ _ _ _
            refine AWP.condF rfl (decide_eq_false b64) ?_
            refine AWP.skip ?_
            change AWP _ _ _ _ _ _
            refine AWP.region (l := [0, 1, 2]) rfl ?_
            refine AOps.cons rfl rfl (AOp.move (.int .i64 i) rfl s47 ?_)
            refine AOps.cons rfl rfl (AOp.bin (.int .i64 (i + 1)) rfl rfl rfl (iadd (by omega)) ?_)
            refine AOps.cons rfl rfl (AOp.assign (.int .i64 (i + 1)) rfl rfl ?_)
            refine AOps.nil ?_
            exact ⟨_, by omega, i + 1, out, no, (ws) ++ [bytesB (wd)], [], rem, w5, v327, .snil, rfl, rfl, s48, s49, s50, s51, o334, rfl, o333, rfl, Own.nil _ _ _, sp335, (Sep.nilR _), (Sep.nilR _), m330, by omega, by omega, by omega, by first | omega | (simp <;> omega), by first | omega | (simp <;> omega), by first | omega | (simp <;> omega), by first | (exfalso; omega) | (exfalso; have hl : 0 < (((ws ++ [bytesB wd]).length : Nat) : Int) := (by simp <;> omega); omega) | (rw [hsc, ref_step hi0 (by omega) (bytesL_in hi0 (by omega)) (by unfold badB; omega)]; exact congrArg (refGo ((bytesL s).drop (i + 1).toNat)) (show stepR (byt s i) (RS.mk out no ws wd rem) = RS.mk out no ((ws) ++ [bytesB (wd)]) ([]) rem from by first | (exfalso; omega) | simp only [stepR, (decide_eq_false b64), (decide_eq_false b234), (decide_eq_false b286), b312, (eq_true (show 0 < (wd.length : Int) from by omega)), (eq_true (show 0 < (((ws ++ [bytesB wd]).length : Nat) : Int) from by first | omega | (simp <;> omega))), Bool.or_true, Bool.true_or, Bool.or_false, Bool.false_or, if_true, if_false, Bool.false_eq_true, decide_true, decide_false]))⟩
           ·
            refine AWP.condF rfl (decide_eq_false b313) ?_
            refine AWP.skip ?_
            change AWP _ _ _ _ _ _
            refine AWP.region (l := [0]) rfl ?_
            refine AOps.cons rfl rfl (AOp.assign (.snil) rfl rfl ?_)
            refine AOps.nil ?_
            change AWP _ _ _ _ _ _
            refine AWP.seq ?_
            refine AWP.region (l := [0, 1]) rfl ?_
            refine AOps.cons rfl rfl (AOp.move (.int .u8 (byt s i)) rfl rfl ?_)
            refine AOps.cons rfl rfl (AOp.bin (.bool (decide (byt s i = 10))) rfl rfl rfl ieq ?_)
            refine AOps.nil ?_
            change AWP _ _ _ _ _ _
            refine AWP.condF rfl (decide_eq_false b64) ?_
            refine AWP.skip ?_
            change AWP _ _ _ _ _ _
            refine AWP.region (l := [0, 1, 2]) rfl ?_
            refine AOps.cons rfl rfl (AOp.move (.int .i64 i) rfl s47 ?_)
            refine AOps.cons rfl rfl (AOp.bin (.int .i64 (i + 1)) rfl rfl rfl (iadd (by omega)) ?_)
            refine AOps.cons rfl rfl (AOp.assign (.int .i64 (i + 1)) rfl rfl ?_)
            refine AOps.nil ?_
            exact ⟨_, by omega, i + 1, out, no, ws, [], rem, w5, w7, .snil, rfl, rfl, s48, s49, s50, s51, o52, s53, o54, rfl, Own.nil _ _ _, sp57, (Sep.nilR _), (Sep.nilR _), m60, by omega, by omega, by omega, by first | omega | (simp <;> omega), by first | omega | (simp <;> omega), by first | omega | (simp <;> omega), by first | (exfalso; omega) | (exfalso; have hl : 0 < (((ws ++ [bytesB wd]).length : Nat) : Int) := (by simp <;> omega); omega) | (rw [hsc, ref_step hi0 (by omega) (bytesL_in hi0 (by omega)) (by unfold badB; omega)]; exact congrArg (refGo ((bytesL s).drop (i + 1).toNat)) (show stepR (byt s i) (RS.mk out no ws wd rem) = RS.mk out no ws ([]) rem from by first | (exfalso; omega) | simp only [stepR, (decide_eq_false b64), (decide_eq_false b234), (decide_eq_false b286), b312, (eq_false (show ¬ 0 < (wd.length : Int) from by omega)), (eq_true (show 0 < (((ws ++ [bytesB wd]).length : Nat) : Int) from by first | omega | (simp <;> omega))), Bool.or_true, Bool.true_or, Bool.or_false, Bool.false_or, if_true, if_false, Bool.false_eq_true, decide_true, decide_false]))⟩
          ·
           refine AWP.condF rfl b312 ?_
           refine AWP.region (l := [0, 1, 2, 3, 4]) rfl ?_
           refine AOps.cons rfl rfl (AOp.move (w8) rfl s55 ?_)
           refine AOps.cons rfl rfl (AOp.move (.int .u8 (byt s i)) rfl rfl ?_)
           refine AOps.cons rfl rfl (AOp.buildSlice (cells := [.int .u8 (byt s i)]) rfl u_45 ts_5 tz_5 rfl rfl rfl ?_)
           intro i338 H339 n340 h341 k342
           have z343 := Mono.free m60 n340
           have o344 := Own.keep o52 k342 (Own.notnew o52 n340)
           have no345 := Own.notnew o52 n340
           have o346 := Own.keep o54 k342 (Own.notnew o54 n340)
           have no347 := Own.notnew o54 n340
           have o348 := Own.keep o56 k342 (Own.notnew o56 n340)
           have no349 := Own.notnew o56 n340
           have m350 := Mono.new m60 n340 k342
           refine AOps.cons rfl rfl (AOp.append_own (es := 1) (m := 1) (len := ((wd).length)) (old := (wd).map eI_u8) (cells := [.int .u8 (byt s i)]) rfl u_45 ts_5 tzn_5 tb_5 (by decide) ni_45 rfl o348 m350 rfl (.slm h341 rfl) (one_of rfl) (by decide) (by first | omega | (simp; omega)) ?_)
           intro v351 H352 o353 m354 k355 j356
           have o357 := Own.snoc1 (xs := ((wd) : List Int)) (y := byt s i) (e := eI_u8) (by simp) o353
           have sp359 := Own.sep o344 sp58 j356
           have o358 := Own.stay o344 sp58 k355
           have sp361 := Own.sep o346 sp59 j356
           have o360 := Own.stay o346 sp59 k355
           refine AOps.cons rfl rfl (AOp.assign (v351) rfl rfl ?_)
           refine AOps.nil ?_
           change AWP _ _ _ _ _ _
           refine AWP.seq ?_
           refine AWP.region (l := [0, 1]) rfl ?_
           refine AOps.cons rfl rfl (AOp.move (.int .u8 (byt s i)) rfl rfl ?_)
           refine AOps.cons rfl rfl (AOp.bin (.bool (decide (byt s i = 10))) rfl rfl rfl ieq ?_)
           refine AOps.nil ?_
           change AWP _ _ _ _ _ _
           refine AWP.condF rfl (decide_eq_false b64) ?_
           refine AWP.skip ?_
           change AWP _ _ _ _ _ _
           refine AWP.region (l := [0, 1, 2]) rfl ?_
           refine AOps.cons rfl rfl (AOp.move (.int .i64 i) rfl s47 ?_)
           refine AOps.cons rfl rfl (AOp.bin (.int .i64 (i + 1)) rfl rfl rfl (iadd (by omega)) ?_)
           refine AOps.cons rfl rfl (AOp.assign (.int .i64 (i + 1)) rfl rfl ?_)
           refine AOps.nil ?_
           exact ⟨_, by omega, i + 1, out, no, ws, (wd) ++ [byt s i], rem, w5, w7, v351, rfl, rfl, s48, s49, s50, s51, o358, s53, o360, rfl, o357, sp57, sp359, sp361, m354, by omega, by omega, by omega, by first | omega | (simp <;> omega), by first | omega | (simp <;> omega), by first | omega | (simp <;> omega), by first | (exfalso; omega) | (exfalso; have hl : 0 < (((ws ++ [bytesB wd]).length : Nat) : Int) := (by simp <;> omega); omega) | (rw [hsc, ref_step hi0 (by omega) (bytesL_in hi0 (by omega)) (by unfold badB; omega)]; exact congrArg (refGo ((bytesL s).drop (i + 1).toNat)) (show stepR (byt s i) (RS.mk out no ws wd rem) = RS.mk out no ws ((wd) ++ [byt s i]) rem from by first | (exfalso; omega) | simp only [stepR, (decide_eq_false b64), (decide_eq_false b234), (decide_eq_false b286), b312, (eq_true (show 0 < (((ws ++ [bytesB wd]).length : Nat) : Int) from by first | omega | (simp <;> omega))), Bool.or_true, Bool.true_or, Bool.or_false, Bool.false_or, if_true, if_false, Bool.false_eq_true, decide_true, decide_false]))⟩
    ·
     refine AWP.condF rfl (decide_eq_false b62) ?_
     refine AWP.skip ?_
     change AWP _ _ _ _ _ _
     refine AWP.seq ?_
     refine AWP.seq ?_
     refine AWP.region (l := [0, 1, 2, 3, 4, 5, 6, 7, 8, 9]) rfl ?_
     refine AOps.cons rfl rfl (AOp.move (.int .u8 10) rfl rfl ?_)
     refine AOps.cons rfl rfl (AOp.bin (.bool (!decide (10 = 10))) rfl rfl rfl ine ?_)
     refine AOps.cons rfl rfl (AOp.move (.bool (!decide (10 = 10))) rfl rfl ?_)
     refine AOps.no rfl rfl rfl rfl rfl rfl rfl (ble_of (nb (decide_eq_true (by decide))) (by decide)) ?_
     refine AOps.no rfl rfl rfl rfl rfl rfl rfl (ble_of (nb (decide_eq_true (by decide))) (by decide)) ?_
     refine AOps.no rfl rfl rfl rfl rfl rfl rfl (ble_of (nb (decide_eq_true (by decide))) (by decide)) ?_
     refine AOps.un rfl rfl rfl rfl rfl rfl rfl ?_
     refine AOps.un rfl rfl rfl rfl rfl rfl rfl ?_
     refine AOps.no rfl rfl rfl rfl rfl rfl rfl (ble_of (nb (decide_eq_true (by decide))) (by decide)) ?_
     refine AOps.cons rfl rfl (AOp.pickF (.bool false) rfl rfl (nb (decide_eq_true (by decide))) rfl ?_)
     refine AOps.nil ?_
     change AWP _ _ _ _ _ _
     refine AWP.condF rfl rfl ?_
     refine AWP.skip ?_
     change AWP _ _ _ _ _ _
     refine AWP.seq ?_
     refine AWP.seq ?_
     refine AWP.region (l := [0, 1]) rfl ?_
     refine AOps.cons rfl rfl (AOp.move (.int .u8 10) rfl rfl ?_)
     refine AOps.cons rfl rfl (AOp.bin (.bool (decide (10 = 35))) rfl rfl rfl ieq ?_)
     refine AOps.nil ?_
     change AWP _ _ _ _ _ _
     refine AWP.condF rfl (decide_eq_false (by decide)) ?_
     refine AWP.skip ?_
     change AWP _ _ _ _ _ _
     refine AWP.seq ?_
     refine AWP.seq ?_
     refine AWP.region (l := [0, 1, 2, 3, 4, 5, 6, 7, 8]) rfl ?_
     refine AOps.cons rfl rfl (AOp.move (.int .u8 10) rfl rfl ?_)
     refine AOps.cons rfl rfl (AOp.bin (.bool (decide (10 = 10))) rfl rfl rfl ieq ?_)
     refine AOps.cons rfl rfl (AOp.move (.bool (decide (10 = 10))) rfl rfl ?_)
     refine AOps.no rfl rfl rfl rfl rfl rfl rfl (ble_of (decide_eq_true (by decide)) (by decide)) ?_
     refine AOps.no rfl rfl rfl rfl rfl rfl rfl (ble_of (decide_eq_true (by decide)) (by decide)) ?_
     refine AOps.cons rfl rfl (AOp.pickT (.bool true) rfl rfl (decide_eq_true (by decide)) rfl ?_)
     refine AOps.cons rfl rfl (AOp.move (.bool true) rfl rfl ?_)
     refine AOps.no rfl rfl rfl rfl rfl rfl rfl (ble_of rfl (by decide)) ?_
     refine AOps.cons rfl rfl (AOp.pickT (.bool true) rfl rfl rfl rfl ?_)
     refine AOps.nil ?_
     change AWP _ _ _ _ _ _
     refine AWP.condT rfl rfl ?_
     refine AWP.seq ?_
     refine AWP.seq ?_
     refine AWP.region (l := [0, 1, 2]) rfl ?_
     refine AOps.cons rfl rfl (AOp.move (w8) rfl s55 ?_)
     refine AOps.cons rfl rfl (AOp.len_own (m := ((wd).length)) rfl rfl o56 u_45 ?_)
     refine AOps.cons rfl rfl (AOp.bin (.bool (decide ((((wd).length) : Int) > 0))) rfl rfl rfl rfl ?_)
     refine AOps.nil ?_
     change AWP _ _ _ _ _ _
     by_cases b362 : (((wd).length) : Int) > 0
     ·
      refine AWP.condT rfl (decide_eq_true b362) ?_
      refine AWP.region (l := [0, 1, 2, 3, 4, 5]) rfl ?_
      refine AOps.cons rfl rfl (AOp.move (w7) rfl s53 ?_)
      refine AOps.cons rfl rfl (AOp.move (w8) rfl s55 ?_)
      refine AOps.cons rfl rfl (AOp.bytesS (l := (wd)) rfl rfl o56.src u_45 u_5 u_9 ?_)
      refine AOps.cons rfl rfl (AOp.buildSlice (cells := [.str (bytesB (wd))]) rfl u_33 ts_9 tz_9 rfl rfl rfl ?_)
      intro i363 H364 n365 h366 k367
      have z368 := Mono.free m60 n365
      have o369 := Own.keep o52 k367 (Own.notnew o52 n365)
      have no370 := Own.notnew o52 n365
      have o371 := Own.keep o54 k367 (Own.notnew o54 n365)
      have no372 := Own.notnew o54 n365
      have o373 := Own.keep o56 k367 (Own.notnew o56 n365)
      have no374 := Own.notnew o56 n365
      have m375 := Mono.new m60 n365 k367
      refine AOps.cons rfl rfl (AOp.append_own (es := 1) (m := 1) (len := ((ws).length)) (old := (ws).map eStr) (cells := [.str (bytesB (wd))]) rfl u_33 ts_9 tzn_9 tb_9 (by decide) ni_33 rfl o371 m375 rfl (.slm h366 rfl) (one_of rfl) (by decide) (by first | omega | (simp; omega)) ?_)
      intro v376 H377 o378 m379 k380 j381
      have o382 := Own.snoc1 (xs := ((ws) : List ByteArray)) (y := bytesB (wd)) (e := eStr) (by simp) o378
      have sp384 := Own.sep o369 sp57 j381
      have o383 := Own.stay o369 sp57 k380
      have sp386 := Own.sep o373 (Sep.symm sp59) j381
      have o385 := Own.stay o373 (Sep.symm sp59) k380
      refine AOps.cons rfl rfl (AOp.assign (v376) rfl rfl ?_)
      refine AOps.nil ?_
      change AWP _ _ _ _ _ _
      refine AWP.region (l := [0]) rfl ?_
      refine AOps.cons rfl rfl (AOp.assign (.snil) rfl rfl ?_)
      refine AOps.nil ?_
      change AWP _ _ _ _ _ _
      refine AWP.seq ?_
      refine AWP.region (l := [0, 1]) rfl ?_
      refine AOps.cons rfl rfl (AOp.move (.int .u8 10) rfl rfl ?_)
      refine AOps.cons rfl rfl (AOp.bin (.bool (decide (10 = 10))) rfl rfl rfl ieq ?_)
      refine AOps.nil ?_
      change AWP _ _ _ _ _ _
      refine AWP.condT rfl (decide_eq_true (by decide)) ?_
      refine AWP.seq ?_
      refine AWP.seq ?_
      refine AWP.region (l := [0, 1, 2]) rfl ?_
      refine AOps.cons rfl rfl (AOp.move (v376) rfl rfl ?_)
      refine AOps.cons rfl rfl (AOp.len_own (m := (((ws) ++ [bytesB (wd)]).length)) rfl rfl o382 u_33 ?_)
      refine AOps.cons rfl rfl (AOp.bin (.bool (decide (((((ws) ++ [bytesB (wd)]).length) : Int) > 0))) rfl rfl rfl rfl ?_)
      refine AOps.nil ?_
      change AWP _ _ _ _ _ _
      by_cases b387 : ((((ws) ++ [bytesB (wd)]).length) : Int) > 0
      ·
       refine AWP.condT rfl (decide_eq_true b387) ?_
       refine AWP.frz 7 o382 rfl m379 fun H388 m389 k390 => ?_
       have o391 := Own.stay o383 sp384 (fun i hi _ => k390 i hi)
       have o392 := Own.stay o385 sp386 (fun i hi _ => k390 i hi)
       skip
       refine AWP.region (l := [0, 1, 2, 3, 4, 5, 6]) rfl ?_
       refine AOps.cons rfl rfl (AOp.move (w5) rfl s51 ?_)
       refine AOps.cons rfl rfl (AOp.move (.int .i64 no) rfl s48 ?_)
       refine AOps.cons rfl rfl (AOp.move (.sl ((ws) ++ [bytesB (wd)]).length (((ws) ++ [bytesB (wd)]).map eStr)) rfl rfl ?_)
       refine AOps.cons rfl rfl (AOp.build (cells := [.int .i64 no, .sl ((ws) ++ [bytesB (wd)]).length (((ws) ++ [bytesB (wd)]).map eStr)]) rfl tz_35 pl_35 rfl rfl ?_)
       refine AOps.cons rfl rfl (AOp.buildSlice (cells := [.int .i64 no, .sl ((ws) ++ [bytesB (wd)]).length (((ws) ++ [bytesB (wd)]).map eStr)]) rfl u_23 ts_35 tz_35 rfl rfl rfl ?_)
       intro i393 H394 n395 h396 k397
       have z398 := Mono.free m389 n395
       have o399 := Own.keep o391 k397 (Own.notnew o391 n395)
       have no400 := Own.notnew o391 n395
       have o401 := Own.keep o392 k397 (Own.notnew o392 n395)
       have no402 := Own.notnew o392 n395
       have m403 := Mono.new m389 n395 k397
       refine AOps.cons rfl rfl (AOp.append_own (es := 2) (m := 1) (len := ((out).length)) (old := (out).flatMap eLine) (cells := [.int .i64 no, .sl ((ws) ++ [bytesB (wd)]).length (((ws) ++ [bytesB (wd)]).map eStr)]) rfl u_23 ts_35 tzn_35 tb_35 (by decide) ni_23 rfl o399 m403 rfl (.slm h396 rfl) (one_of rfl) (by decide) (by first | omega | (simp; omega)) ?_)
       intro v404 H405 o406 m407 k408 j409
       have o410 := Own.snocM (xs := ((out) : List LineT)) (y := (LineT.mk no ((ws) ++ [bytesB (wd)]))) (e := eLine) (by simp) o406
       have sp412 := Own.sep o401 (Sep.symm sp58) j409
       have o411 := Own.stay o401 (Sep.symm sp58) k408
       refine AOps.cons rfl rfl (AOp.assign (v404) rfl rfl ?_)
       refine AOps.nil ?_
       change AWP _ _ _ _ _ _
       refine AWP.seq ?_
       refine AWP.region (l := [0]) rfl ?_
       refine AOps.cons rfl rfl (AOp.assign (.snil) rfl rfl ?_)
       refine AOps.nil ?_
       change AWP _ _ _ _ _ _
       refine AWP.seq ?_
       refine AWP.region (l := [0, 1, 2]) rfl ?_
       refine AOps.cons rfl rfl (AOp.move (.int .i64 no) rfl s48 ?_)
       refine AOps.cons rfl rfl (AOp.bin (.int .i64 (no + 1)) rfl rfl rfl (iadd (by omega)) ?_)
       refine AOps.cons rfl rfl (AOp.assign (.int .i64 (no + 1)) rfl rfl ?_)
       refine AOps.nil ?_
       change AWP _ _ _ _ _ _
       refine AWP.region (l := [0]) rfl ?_
       refine AOps.cons rfl rfl (AOp.assign (.bool false) rfl rfl ?_)
       refine AOps.nil ?_
       change AWP _ _ _ _ _ _
       refine AWP.region (l := [0, 1, 2]) rfl ?_
       refine AOps.cons rfl rfl (AOp.move (.int .i64 i) rfl s47 ?_)
       refine AOps.cons rfl rfl (AOp.bin (.int .i64 (i + 1)) rfl rfl rfl (iadd (by omega)) ?_)
       refine AOps.cons rfl rfl (AOp.assign (.int .i64 (i + 1)) rfl rfl ?_)
       refine AOps.nil ?_
       exact ⟨_, by omega, i + 1, (out) ++ [(LineT.mk no ((ws) ++ [bytesB (wd)]))], no + 1, [], [], false, v404, .snil, .snil, rfl, rfl, rfl, rfl, s50, rfl, o410, rfl, Own.nil _ _ _, rfl, Own.nil _ _ _, (Sep.nilR _), (Sep.nilR _), (Sep.nilL _), m407, by omega, by omega, by omega, by first | omega | (simp <;> omega), by first | omega | (simp <;> omega), by first | omega | (simp <;> omega), by first | (exfalso; omega) | (exfalso; have hl : 0 < (((ws ++ [bytesB wd]).length : Nat) : Int) := (by simp <;> omega); omega) | (rw [hsc, ref_step hi0 (by omega) (bytesL_end hi0 (by omega)) (by unfold badB; omega)]; exact congrArg (refGo ((bytesL s).drop (i + 1).toNat)) (show stepR 10 (RS.mk out no ws wd rem) = RS.mk ((out) ++ [(LineT.mk no ((ws) ++ [bytesB (wd)]))]) (no + 1) ([]) ([]) false from by first | (exfalso; omega) | simp only [stepR, (eq_true (show 0 < (wd.length : Int) from by omega)), (show decide ((10 : Int) = 10) = true from rfl), (show decide ((10 : Int) = 32) = false from rfl), (show decide ((10 : Int) = 35) = false from rfl), (eq_true (show 0 < (((ws ++ [bytesB wd]).length : Nat) : Int) from by first | omega | (simp <;> omega))), Bool.or_true, Bool.true_or, Bool.or_false, Bool.false_or, if_true, if_false, Bool.false_eq_true, decide_true, decide_false]))⟩
      ·
       refine AWP.condF rfl (decide_eq_false b387) ?_
       refine AWP.skip ?_
       change AWP _ _ _ _ _ _
       refine AWP.seq ?_
       refine AWP.region (l := [0]) rfl ?_
       refine AOps.cons rfl rfl (AOp.assign (.snil) rfl rfl ?_)
       refine AOps.nil ?_
       change AWP _ _ _ _ _ _
       refine AWP.seq ?_
       refine AWP.region (l := [0, 1, 2]) rfl ?_
       refine AOps.cons rfl rfl (AOp.move (.int .i64 no) rfl s48 ?_)
       refine AOps.cons rfl rfl (AOp.bin (.int .i64 (no + 1)) rfl rfl rfl (iadd (by omega)) ?_)
       refine AOps.cons rfl rfl (AOp.assign (.int .i64 (no + 1)) rfl rfl ?_)
       refine AOps.nil ?_
       change AWP _ _ _ _ _ _
       refine AWP.region (l := [0]) rfl ?_
       refine AOps.cons rfl rfl (AOp.assign (.bool false) rfl rfl ?_)
       refine AOps.nil ?_
       change AWP _ _ _ _ _ _
       refine AWP.region (l := [0, 1, 2]) rfl ?_
       refine AOps.cons rfl rfl (AOp.move (.int .i64 i) rfl s47 ?_)
       refine AOps.cons rfl rfl (AOp.bin (.int .i64 (i + 1)) rfl rfl rfl (iadd (by omega)) ?_)
       refine AOps.cons rfl rfl (AOp.assign (.int .i64 (i + 1)) rfl rfl ?_)
       refine AOps.nil ?_
       exact ⟨_, by omega, i + 1, out, no + 1, [], [], false, w5, .snil, .snil, rfl, rfl, rfl, rfl, s50, s51, o383, rfl, Own.nil _ _ _, rfl, Own.nil _ _ _, (Sep.nilR _), (Sep.nilR _), (Sep.nilL _), m379, by omega, by omega, by omega, by first | omega | (simp <;> omega), by first | omega | (simp <;> omega), by first | omega | (simp <;> omega), by first | (exfalso; omega) | (exfalso; have hl : 0 < (((ws ++ [bytesB wd]).length : Nat) : Int) := (by simp <;> omega); omega) | (rw [hsc, ref_step hi0 (by omega) (bytesL_end hi0 (by omega)) (by unfold badB; omega)]; exact congrArg (refGo ((bytesL s).drop (i + 1).toNat)) (show stepR 10 (RS.mk out no ws wd rem) = RS.mk out (no + 1) ([]) ([]) false from by first | (exfalso; omega) | simp only [stepR, (eq_true (show 0 < (wd.length : Int) from by omega)), (show decide ((10 : Int) = 10) = true from rfl), (show decide ((10 : Int) = 32) = false from rfl), (show decide ((10 : Int) = 35) = false from rfl), (eq_true (show 0 < (((ws ++ [bytesB wd]).length : Nat) : Int) from by first | omega | (simp <;> omega))), Bool.or_true, Bool.true_or, Bool.or_false, Bool.false_or, if_true, if_false, Bool.false_eq_true, decide_true, decide_false]))⟩
     ·
      refine AWP.condF rfl (decide_eq_false b362) ?_
      refine AWP.skip ?_
      change AWP _ _ _ _ _ _
      refine AWP.region (l := [0]) rfl ?_
      refine AOps.cons rfl rfl (AOp.assign (.snil) rfl rfl ?_)
      refine AOps.nil ?_
      change AWP _ _ _ _ _ _
      refine AWP.seq ?_
      refine AWP.region (l := [0, 1]) rfl ?_
      refine AOps.cons rfl rfl (AOp.move (.int .u8 10) rfl rfl ?_)
      refine AOps.cons rfl rfl (AOp.bin (.bool (decide (10 = 10))) rfl rfl rfl ieq ?_)
      refine AOps.nil ?_
      change AWP _ _ _ _ _ _
      refine AWP.condT rfl (decide_eq_true (by decide)) ?_
      refine AWP.seq ?_
      refine AWP.seq ?_
      refine AWP.region (l := [0, 1, 2]) rfl ?_
      refine AOps.cons rfl rfl (AOp.move (w7) rfl s53 ?_)
      refine AOps.cons rfl rfl (AOp.len_own (m := ((ws).length)) rfl rfl o54 u_33 ?_)
      refine AOps.cons rfl rfl (AOp.bin (.bool (decide ((((ws).length) : Int) > 0))) rfl rfl rfl rfl ?_)
      refine AOps.nil ?_
      change AWP _ _ _ _ _ _
      by_cases b413 : (((ws).length) : Int) > 0
      ·
       refine AWP.condT rfl (decide_eq_true b413) ?_
       refine AWP.frz 7 o54 s53 m60 fun H414 m415 k416 => ?_
       have o417 := Own.stay o52 sp57 (fun i hi _ => k416 i hi)
       have o418 := Own.stay o56 (Sep.symm sp59) (fun i hi _ => k416 i hi)
       skip
       refine AWP.region (l := [0, 1, 2, 3, 4, 5, 6]) rfl ?_
       refine AOps.cons rfl rfl (AOp.move (w5) rfl s51 ?_)
       refine AOps.cons rfl rfl (AOp.move (.int .i64 no) rfl s48 ?_)
       refine AOps.cons rfl rfl (AOp.move (.sl (ws).length ((ws).map eStr)) rfl rfl ?_)
       refine AOps.cons rfl rfl (AOp.build (cells := [.int .i64 no, .sl (ws).length ((ws).map eStr)]) rfl tz_35 pl_35 rfl rfl ?_)
       refine AOps.cons rfl rfl (AOp.buildSlice (cells := [.int .i64 no, .sl (ws).length ((ws).map eStr)]) rfl u_23 ts_35 tz_35 rfl rfl rfl ?_)
       intro i419 H420 n421 h422 k423
       have z424 := Mono.free m415 n421
       have o425 := Own.keep o417 k423 (Own.notnew o417 n421)
       have no426 := Own.notnew o417 n421
       have o427 := Own.keep o418 k423 (Own.notnew o418 n421)
       have no428 := Own.notnew o418 n421
       have m429 := Mono.new m415 n421 k423
       refine AOps.cons rfl rfl (AOp.append_own (es := 2) (m := 1) (len := ((out).length)) (old := (out).flatMap eLine) (cells := [.int .i64 no, .sl (ws).length ((ws).map eStr)]) rfl u_23 ts_35 tzn_35 tb_35 (by decide) ni_23 rfl o425 m429 rfl (.slm h422 rfl) (one_of rfl) (by decide) (by first | omega | (simp; omega)) ?_)
       intro v430 H431 o432 m433 k434 j435
       have o436 := Own.snocM (xs := ((out) : List LineT)) (y := (LineT.mk no (ws))) (e := eLine) (by simp) o432
       have sp438 := Own.sep o427 (Sep.symm sp58) j435
       have o437 := Own.stay o427 (Sep.symm sp58) k434
       refine AOps.cons rfl rfl (AOp.assign (v430) rfl rfl ?_)
       refine AOps.nil ?_
       change AWP _ _ _ _ _ _
       refine AWP.seq ?_
       refine AWP.region (l := [0]) rfl ?_
       refine AOps.cons rfl rfl (AOp.assign (.snil) rfl rfl ?_)
       refine AOps.nil ?_
       change AWP _ _ _ _ _ _
       refine AWP.seq ?_
       refine AWP.region (l := [0, 1, 2]) rfl ?_
       refine AOps.cons rfl rfl (AOp.move (.int .i64 no) rfl s48 ?_)
       refine AOps.cons rfl rfl (AOp.bin (.int .i64 (no + 1)) rfl rfl rfl (iadd (by omega)) ?_)
       refine AOps.cons rfl rfl (AOp.assign (.int .i64 (no + 1)) rfl rfl ?_)
       refine AOps.nil ?_
       change AWP _ _ _ _ _ _
       refine AWP.region (l := [0]) rfl ?_
       refine AOps.cons rfl rfl (AOp.assign (.bool false) rfl rfl ?_)
       refine AOps.nil ?_
       change AWP _ _ _ _ _ _
       refine AWP.region (l := [0, 1, 2]) rfl ?_
       refine AOps.cons rfl rfl (AOp.move (.int .i64 i) rfl s47 ?_)
       refine AOps.cons rfl rfl (AOp.bin (.int .i64 (i + 1)) rfl rfl rfl (iadd (by omega)) ?_)
       refine AOps.cons rfl rfl (AOp.assign (.int .i64 (i + 1)) rfl rfl ?_)
       refine AOps.nil ?_
       exact ⟨_, by omega, i + 1, (out) ++ [(LineT.mk no (ws))], no + 1, [], [], false, v430, .snil, .snil, rfl, rfl, rfl, rfl, s50, rfl, o436, rfl, Own.nil _ _ _, rfl, Own.nil _ _ _, (Sep.nilR _), (Sep.nilR _), (Sep.nilL _), m433, by omega, by omega, by omega, by first | omega | (simp <;> omega), by first | omega | (simp <;> omega), by first | omega | (simp <;> omega), by first | (exfalso; omega) | (exfalso; have hl : 0 < (((ws ++ [bytesB wd]).length : Nat) : Int) := (by simp <;> omega); omega) | (rw [hsc, ref_step hi0 (by omega) (bytesL_end hi0 (by omega)) (by unfold badB; omega)]; exact congrArg (refGo ((bytesL s).drop (i + 1).toNat)) (show stepR 10 (RS.mk out no ws wd rem) = RS.mk ((out) ++ [(LineT.mk no (ws))]) (no + 1) ([]) ([]) false from by first | (exfalso; omega) | simp only [stepR, (eq_false (show ¬ 0 < (wd.length : Int) from by omega)), (eq_true (show 0 < (ws.length : Int) from by omega)), (show decide ((10 : Int) = 10) = true from rfl), (show decide ((10 : Int) = 32) = false from rfl), (show decide ((10 : Int) = 35) = false from rfl), (eq_true (show 0 < (((ws ++ [bytesB wd]).length : Nat) : Int) from by first | omega | (simp <;> omega))), Bool.or_true, Bool.true_or, Bool.or_false, Bool.false_or, if_true, if_false, Bool.false_eq_true, decide_true, decide_false]))⟩
      ·
       refine AWP.condF rfl (decide_eq_false b413) ?_
       refine AWP.skip ?_
       change AWP _ _ _ _ _ _
       refine AWP.seq ?_
       refine AWP.region (l := [0]) rfl ?_
       refine AOps.cons rfl rfl (AOp.assign (.snil) rfl rfl ?_)
       refine AOps.nil ?_
       change AWP _ _ _ _ _ _
       refine AWP.seq ?_
       refine AWP.region (l := [0, 1, 2]) rfl ?_
       refine AOps.cons rfl rfl (AOp.move (.int .i64 no) rfl s48 ?_)
       refine AOps.cons rfl rfl (AOp.bin (.int .i64 (no + 1)) rfl rfl rfl (iadd (by omega)) ?_)
       refine AOps.cons rfl rfl (AOp.assign (.int .i64 (no + 1)) rfl rfl ?_)
       refine AOps.nil ?_
       change AWP _ _ _ _ _ _
       refine AWP.region (l := [0]) rfl ?_
       refine AOps.cons rfl rfl (AOp.assign (.bool false) rfl rfl ?_)
       refine AOps.nil ?_
       change AWP _ _ _ _ _ _
       refine AWP.region (l := [0, 1, 2]) rfl ?_
       refine AOps.cons rfl rfl (AOp.move (.int .i64 i) rfl s47 ?_)
       refine AOps.cons rfl rfl (AOp.bin (.int .i64 (i + 1)) rfl rfl rfl (iadd (by omega)) ?_)
       refine AOps.cons rfl rfl (AOp.assign (.int .i64 (i + 1)) rfl rfl ?_)
       refine AOps.nil ?_
       exact ⟨_, by omega, i + 1, out, no + 1, [], [], false, w5, .snil, .snil, rfl, rfl, rfl, rfl, s50, s51, o52, rfl, Own.nil _ _ _, rfl, Own.nil _ _ _, (Sep.nilR _), (Sep.nilR _), (Sep.nilL _), m60, by omega, by omega, by omega, by first | omega | (simp <;> omega), by first | omega | (simp <;> omega), by first | omega | (simp <;> omega), by first | (exfalso; omega) | (exfalso; have hl : 0 < (((ws ++ [bytesB wd]).length : Nat) : Int) := (by simp <;> omega); omega) | (rw [hsc, ref_step hi0 (by omega) (bytesL_end hi0 (by omega)) (by unfold badB; omega)]; exact congrArg (refGo ((bytesL s).drop (i + 1).toNat)) (show stepR 10 (RS.mk out no ws wd rem) = RS.mk out (no + 1) ([]) ([]) false from by first | (exfalso; omega) | simp only [stepR, (eq_false (show ¬ 0 < (wd.length : Int) from by omega)), (eq_false (show ¬ 0 < (ws.length : Int) from by omega)), (show decide ((10 : Int) = 10) = true from rfl), (show decide ((10 : Int) = 32) = false from rfl), (show decide ((10 : Int) = 35) = false from rfl), (eq_true (show 0 < (((ws ++ [bytesB wd]).length : Nat) : Int) from by first | omega | (simp <;> omega))), Bool.or_true, Bool.true_or, Bool.or_false, Bool.false_or, if_true, if_false, Bool.false_eq_true, decide_true, decide_false]))⟩
   ·
    refine AWP.condF rfl (decide_eq_false b61) ?_
    refine AWP.exit ?_
    change AWP _ _ _ _ _ _
    refine AWP.seq ?_
    refine AWP.region (l := [0, 1, 2, 3]) rfl ?_
    refine AOps.cons rfl rfl (AOp.move (w5) rfl s51 ?_)
    refine AOps.cons rfl rfl (AOp.assign (w5) rfl rfl ?_)
    refine AOps.cons rfl rfl (AOp.assign (.int .i64 0) rfl rfl ?_)
    refine AOps.cons rfl rfl (AOp.assign (.int .i64 0) rfl rfl ?_)
    refine AOps.nil ?_
    change AWP _ _ _ _ _ _
    refine AWP.ret ?_
    refine Fin.frz 2 o52 rfl m60 fun H439 m440 k441 => ?_
    have o442 := Own.stay o54 (Sep.symm sp57) (fun i hi _ => k441 i hi)
    have o443 := Own.stay o56 (Sep.symm sp58) (fun i hi _ => k441 i hi)
    refine ⟨_, _, Ghost.refl, .inr rfl, _, Res.three rfl rfl rfl rfl, ?_, m440⟩
    exact congrArg AV.tup (lc (congrArg (fun l : List LineT => AV.sl l.length (l.flatMap eLine)) (show ((out) : List LineT) = (refR s).1 from by rw [hsc, ref_end (by omega)])) (lc (congrArg (AV.int .i64) (show (0 : Int) = (refR s).2.1 from by rw [hsc, ref_end (by omega)])) (lc (congrArg (AV.int .i64) (show (0 : Int) = (refR s).2.2 from by rw [hsc, ref_end (by omega)])) rfl)))
end Go.Proofs.L
namespace Go.Proofs.L
open Go Go.AH Go.Lib
set_option maxRecDepth 4000
set_option linter.unusedSectionVars false
variable [LexG]
theorem al_lines : linesR ⟨#[10, 97, 32, 32, 98, 35, 99, 10]⟩ = ([⟨2, [⟨#[97]⟩, ⟨#[98]⟩]⟩], 0, 0) := by kernel_rfl
theorem al_num : R_lex_Number ⟨#[45, 49, 50, 48]⟩ = (-120, true) := by kernel_rfl
theorem al_name : nameB ⟨#[97, 95, 49]⟩ = true := by kernel_rfl
end Go.Proofs.L
namespace Go.Proofs.L
open Go Go.AH
set_option maxRecDepth 4000
set_option linter.unusedSimpArgs false
set_option linter.unusedVariables false
variable [LexG]
theorem c_alive : PC Tryd.prog 9 [] (.bool true) := by
 intro H0
 refine ACalls.of_body' (n := 51) rfl rfl rfl rfl ?_
 have m0 := Mono.refl H0
 refine AWP.seq ?_
 refine AWP.region (l := [0]) rfl ?_
 refine AOps.cons rfl rfl (AOp.assign (.bool false) rfl rfl ?_)
 refine AOps.nil ?_
 change AWP _ _ _ _ _ _
 refine AWP.seq ?_
 refine AWP.region (l := [0, 1, 2, 3, 4, 5, 6, 7]) rfl ?_
 refine AOps.cons rfl rfl (AOp.pcall («as» := [.str ⟨#[10, 97, 32, 32, 98, 35, 99, 10]⟩]) rfl rfl (rfl) tf_10 ((by have h := c_lex_Lines ⟨#[10, 97, 32, 32, 98, 35, 99, 10]⟩; rw [al_lines] at h; exact h)) ?_)
 intro H1 m2
 have m3 := m0.trans m2
 refine AOps.cons rfl rfl (AOp.move (.tup [.sl ([⟨2, [⟨#[97]⟩, ⟨#[98]⟩]⟩] : List LineT).length (([⟨2, [⟨#[97]⟩, ⟨#[98]⟩]⟩] : List LineT).flatMap eLine), .int .i64 0, .int .i64 0]) rfl rfl ?_)
 refine AOps.cons rfl rfl (AOp.extract (.sl ([⟨2, [⟨#[97]⟩, ⟨#[98]⟩]⟩] : List LineT).length (([⟨2, [⟨#[97]⟩, ⟨#[98]⟩]⟩] : List LineT).flatMap eLine)) rfl rfl rfl ?_)
 refine AOps.cons rfl rfl (AOp.extract (.int .i64 0) rfl rfl rfl ?_)
 refine AOps.cons rfl rfl (AOp.extract (.int .i64 0) rfl rfl rfl ?_)
 refine AOps.cons rfl rfl (AOp.assign (.sl ([⟨2, [⟨#[97]⟩, ⟨#[98]⟩]⟩] : List LineT).length (([⟨2, [⟨#[97]⟩, ⟨#[98]⟩]⟩] : List LineT).flatMap eLine)) rfl rfl ?_)
 refine AOps.cons rfl rfl (AOp.assign (.int .i64 0) rfl rfl ?_)
 refine AOps.cons rfl rfl (AOp.assign (.int .i64 0) rfl rfl ?_)
 refine AOps.nil ?_
 change AWP _ _ _ _ _ _
 refine AWP.seq ?_
 refine AWP.region (l := [0, 1, 2, 3, 4, 5]) rfl ?_
 refine AOps.cons rfl rfl (AOp.pcall («as» := [.str ⟨#[45, 49, 50, 48]⟩]) rfl rfl (rfl) tf_13 ((by have h := c_lex_Number ⟨#[45, 49, 50, 48]⟩; rw [al_num] at h; exact h)) ?_)
 intro H4 m5
 have m6 := m3.trans m5
 refine AOps.cons rfl rfl (AOp.move (.tup [.int .i64 (-120), .bool true]) rfl rfl ?_)
 refine AOps.cons rfl rfl (AOp.extract (.int .i64 (-120)) rfl rfl rfl ?_)
 refine AOps.cons rfl rfl (AOp.extract (.bool true) rfl rfl rfl ?_)
 refine AOps.cons rfl rfl (AOp.assign (.int .i64 (-120)) rfl rfl ?_)
 refine AOps.cons rfl rfl (AOp.assign (.bool true) rfl rfl ?_)
 refine AOps.nil ?_
 change AWP _ _ _ _ _ _
 refine AWP.seq ?_
 have hl : (([⟨2, [⟨#[97]⟩, ⟨#[98]⟩]⟩] : List LineT).length : Int) = 1 := rfl
 refine AWP.region (l := [0, 1, 2, 3, 4, 5, 6, 7, 8, 9, 10, 11, 12, 13, 14, 15, 16, 17, 18, 19, 20, 21, 22, 23, 24, 25, 26, 27, 28, 29, 30, 31, 32, 33, 34, 35, 36]) rfl ?_
 refine AOps.cons rfl rfl (AOp.move (.int .i64 0) rfl rfl ?_)
 refine AOps.cons rfl rfl (AOp.bin (.bool (decide (0 = 0))) rfl rfl rfl ieq ?_)
 refine AOps.cons rfl rfl (AOp.move (.bool (decide (0 = 0))) rfl rfl ?_)
 refine AOps.yes rfl rfl rfl rfl rfl rfl rfl (decide_eq_true (by decide)) (AOp.move (.int .i64 0) rfl rfl ?_)
 refine AOps.yes rfl rfl rfl rfl rfl rfl rfl (decide_eq_true (by decide)) (AOp.bin (.bool (decide (0 = 0))) rfl rfl rfl ieq ?_)
 refine AOps.cons rfl rfl (AOp.pickT (.bool (decide (0 = 0))) rfl rfl (decide_eq_true (by decide)) rfl ?_)
 refine AOps.cons rfl rfl (AOp.move (.bool (decide (0 = 0))) rfl rfl ?_)
 refine AOps.yes rfl rfl rfl rfl rfl rfl rfl (decide_eq_true (by decide)) (AOp.move (.sl ([⟨2, [⟨#[97]⟩, ⟨#[98]⟩]⟩] : List LineT).length (([⟨2, [⟨#[97]⟩, ⟨#[98]⟩]⟩] : List LineT).flatMap eLine)) rfl rfl ?_)
 refine AOps.yes rfl rfl rfl rfl rfl rfl rfl (decide_eq_true (by decide)) (AOp.len (m := ([⟨2, [⟨#[97]⟩, ⟨#[98]⟩]⟩] : List LineT).length) rfl rfl (.inr (.inl ⟨_, rfl⟩)) u_23 ?_)
 refine AOps.yes rfl rfl rfl rfl rfl rfl rfl (decide_eq_true (by decide)) (AOp.bin (.bool (decide (((([⟨2, [⟨#[97]⟩, ⟨#[98]⟩]⟩] : List LineT).length) : Int) = 1))) rfl rfl rfl ieq ?_)
 refine AOps.cons rfl rfl (AOp.pickT (.bool (decide (((([⟨2, [⟨#[97]⟩, ⟨#[98]⟩]⟩] : List LineT).length) : Int) = 1))) rfl rfl (decide_eq_true (by decide)) rfl ?_)
 refine AOps.cons rfl rfl (AOp.move (.bool (decide (((([⟨2, [⟨#[97]⟩, ⟨#[98]⟩]⟩] : List LineT).length) : Int) = 1))) rfl rfl ?_)
 refine AOps.yes rfl rfl rfl rfl rfl rfl rfl (decide_eq_true (rfl)) (AOp.move (.sl ([⟨2, [⟨#[97]⟩, ⟨#[98]⟩]⟩] : List LineT).length (([⟨2, [⟨#[97]⟩, ⟨#[98]⟩]⟩] : List LineT).flatMap eLine)) rfl rfl ?_)
 refine AOps.yes rfl rfl rfl rfl rfl rfl rfl (decide_eq_true (rfl)) (AOp.indexAddrS rfl rfl rfl sl_23 (by omega) (by omega) ?_)
 refine AOps.yes rfl rfl rfl rfl rfl rfl rfl (decide_eq_true (rfl)) (AOp.fieldAddrF rfl rfl fl_35_0 ?_)
 refine AOps.yes rfl rfl rfl rfl rfl rfl rfl (decide_eq_true (rfl)) (AOp.loadF (.int .i64 ((at_ ([⟨2, [⟨#[97]⟩, ⟨#[98]⟩]⟩] : List LineT) 0).No)) rfl rfl ty_3 (ldF eLine_len (by omega) (by omega) rfl (by decide)) ?_)
 refine AOps.yes rfl rfl rfl rfl rfl rfl rfl (decide_eq_true (rfl)) (AOp.bin (.bool (decide ((at_ ([⟨2, [⟨#[97]⟩, ⟨#[98]⟩]⟩] : List LineT) 0).No = 2))) rfl rfl rfl ieq ?_)
 refine AOps.cons rfl rfl (AOp.pickT (.bool (decide ((at_ ([⟨2, [⟨#[97]⟩, ⟨#[98]⟩]⟩] : List LineT) 0).No = 2))) rfl rfl (decide_eq_true (rfl)) rfl ?_)
 refine AOps.cons rfl rfl (AOp.move (.bool (decide ((at_ ([⟨2, [⟨#[97]⟩, ⟨#[98]⟩]⟩] : List LineT) 0).No = 2))) rfl rfl ?_)
 refine AOps.yes rfl rfl rfl rfl rfl rfl rfl (decide_eq_true (rfl)) (AOp.move (.sl ([⟨2, [⟨#[97]⟩, ⟨#[98]⟩]⟩] : List LineT).length (([⟨2, [⟨#[97]⟩, ⟨#[98]⟩]⟩] : List LineT).flatMap eLine)) rfl rfl ?_)
 refine AOps.yes rfl rfl rfl rfl rfl rfl rfl (decide_eq_true (rfl)) (AOp.indexAddrS rfl rfl rfl sl_23 (by omega) (by omega) ?_)
 refine AOps.yes rfl rfl rfl rfl rfl rfl rfl (decide_eq_true (rfl)) (AOp.fieldAddrF rfl rfl fl_35_1 ?_)
 refine AOps.yes rfl rfl rfl rfl rfl rfl rfl (decide_eq_true (rfl)) (AOp.loadF (.sl ((at_ ([⟨2, [⟨#[97]⟩, ⟨#[98]⟩]⟩] : List LineT) 0).Words).length (((at_ ([⟨2, [⟨#[97]⟩, ⟨#[98]⟩]⟩] : List LineT) 0).Words).map eStr)) rfl rfl ty_33 (ldF eLine_len (by omega) (by omega) rfl (by decide)) ?_)
 refine AOps.yes rfl rfl rfl rfl rfl rfl rfl (decide_eq_true (rfl)) (AOp.buildSlice (cells := [.str ⟨#[97]⟩, .str ⟨#[98]⟩]) rfl u_33 ts_9 tz_9 rfl rfl rfl ?_)
 intro i7 H8 n9 h10 k11
 have z12 := Mono.free m6 n9
 have m13 := Mono.new m6 n9 k11
 obtain ⟨v14, e15⟩ : ∃ v : AV, v = .slm i7 0 1 0 2 := ⟨_, rfl⟩
 have o16 : Own H0 H8 1 v14 2 [.str ⟨#[97]⟩, .str ⟨#[98]⟩] := .inr ⟨_, _, e15, h10, z12, rfl⟩
 refine AOps.yes rfl rfl rfl rfl rfl rfl rfl (decide_eq_true (rfl)) ?_
 refine AOp.frz 38 (o16) e15.symm m13 fun H17 m18 k19 => ?_
 refine AOp.pcall («as» := [.sl ((at_ ([⟨2, [⟨#[97]⟩, ⟨#[98]⟩]⟩] : List LineT) 0).Words).length (((at_ ([⟨2, [⟨#[97]⟩, ⟨#[98]⟩]⟩] : List LineT) 0).Words).map eStr), .sl ([⟨#[97]⟩, ⟨#[98]⟩] : List ByteArray).length (([⟨#[97]⟩, ⟨#[98]⟩] : List ByteArray).map eStr)]) rfl rfl (rfl) tf_18 (c_SameTexts _ _ (by decide) (by decide)) ?_
 intro H20 m21
 have m22 := m18.trans m21
 refine AOps.cons rfl rfl (AOp.pickT (.bool (decide (((at_ ([⟨2, [⟨#[97]⟩, ⟨#[98]⟩]⟩] : List LineT) 0).Words) = ([⟨#[97]⟩, ⟨#[98]⟩] : List ByteArray)))) rfl rfl (decide_eq_true (rfl)) rfl ?_)
 refine AOps.cons rfl rfl (AOp.move (.bool (decide (((at_ ([⟨2, [⟨#[97]⟩, ⟨#[98]⟩]⟩] : List LineT) 0).Words) = ([⟨#[97]⟩, ⟨#[98]⟩] : List ByteArray)))) rfl rfl ?_)
 refine AOps.yes rfl rfl rfl rfl rfl rfl rfl (decide_eq_true (rfl)) (AOp.move (.int .i64 (-120)) rfl rfl ?_)
 refine AOps.yes rfl rfl rfl rfl rfl rfl rfl (decide_eq_true (rfl)) (AOp.bin (.bool (decide (-120 = -120))) rfl rfl rfl ieq ?_)
 refine AOps.cons rfl rfl (AOp.pickT (.bool (decide (-120 = -120))) rfl rfl (decide_eq_true (rfl)) rfl ?_)
 refine AOps.cons rfl rfl (AOp.move (.bool (decide (-120 = -120))) rfl rfl ?_)
 refine AOps.yes rfl rfl rfl rfl rfl rfl rfl (decide_eq_true (by decide)) (AOp.move (.bool true) rfl rfl ?_)
 refine AOps.cons rfl rfl (AOp.pickT (.bool true) rfl rfl (decide_eq_true (by decide)) rfl ?_)
 refine AOps.cons rfl rfl (AOp.move (.bool true) rfl rfl ?_)
 refine AOps.yes rfl rfl rfl rfl rfl rfl rfl rfl (AOp.pcall («as» := [.str ⟨#[97, 95, 49]⟩]) rfl rfl (rfl) tf_15 ((by have h := c_lex_Name ⟨#[97, 95, 49]⟩; rw [al_name] at h; exact h)) ?_)
 intro H23 m24
 have m25 := m22.trans m24
 refine AOps.cons rfl rfl (AOp.pickT (.bool true) rfl rfl rfl rfl ?_)
 refine AOps.cons rfl rfl (AOp.assign (.bool true) rfl rfl ?_)
 refine AOps.nil ?_
 change AWP _ _ _ _ _ _
 refine AWP.ret ?_
 refine ⟨_, _, Ghost.refl, .inr rfl, _, Res.one rfl rfl, ?_, m25⟩
 exact rfl
end Go.Proofs.L
namespace Go.Proofs.L
open Go Go.AH Go.Lib
set_option maxRecDepth 4000
set_option linter.unusedSectionVars false
variable [LexG]
/-! ### The two readings of a number are one -/
theorem byt_get {w : ByteArray} {k : Nat} (h : k < w.size) : ∃ b, w.data.toList[k]? = some b ∧ byt w k = b.toNat := by
  have hl : k < w.data.toList.length := h
  refine ⟨_, List.getElem?_eq_getElem hl, ?_⟩
  unfold byt
  rw [Int.toNat_natCast, List.getD_eq_getElem?_getD, List.getElem?_eq_getElem hl]
  rfl
end Go.Proofs.L
namespace Go.Proofs.L
open Go Go.AH Go.Lib
set_option maxRecDepth 4000
set_option linter.unusedSectionVars false
variable [LexG]
/-! ### The two readings of a text are one -/
abbrev toI (b : UInt8) : Int := (b.toNat : Int)
def flush (wd : List Int) : List ByteArray := if 0 < (wd.length : Int) then [bytesB wd] else []
def wordsFrom : List Int → Bool → List UInt8 → List ByteArray
  | wd, _, [] => flush wd
  | wd, true, _ :: _ => flush wd
  | wd, false, b :: p => if b = 35 then flush wd else if b = 32 then flush wd ++ wordsFrom [] false p else wordsFrom (wd ++ [toI b]) false p
def lineIf (no : Int) (ws : List ByteArray) : List LineT := if 0 < (ws.length : Int) then [⟨no, ws⟩] else []
def badP (p : List UInt8) : Bool := p.any fun b => decide (b.toNat < 32 ∨ 126 < b.toNat)
def scanQ : List (List UInt8) → RS → List LineT × Int × Int
  | [], σ => (σ.out, 0, 0)
  | p :: r, σ => if badP p = true then ([], σ.no, 10) else scanQ r ⟨σ.out ++ lineIf σ.no (σ.ws ++ wordsFrom σ.wd σ.rem p), σ.no + 1, [], [], false⟩
theorem toI_eq {b c : UInt8} : toI b = toI c ↔ b = c := ⟨fun h => UInt8.toNat_inj.1 (by have h' : (b.toNat : Int) = c.toNat := h; omega), fun h => by rw [h]⟩
theorem bad_iff {b : UInt8} (h : b ≠ 10) : badB (toI b) ↔ (b.toNat < 32 ∨ 126 < b.toNat) := by
  unfold badB
  have : toI b ≠ 10 := fun e => h (toI_eq.1 (e.trans rfl))
  simp only [toI] at *
  omega
theorem step_nl (σ : RS) : stepR 10 σ = ⟨σ.out ++ lineIf σ.no (σ.ws ++ flush σ.wd), σ.no + 1, [], [], false⟩ := by
  by_cases h : 0 < (σ.wd.length : Int)
  · have e1 := eq_true h
    simp only [stepR, lineIf, flush, decide_true, Bool.true_or, if_true, e1]
    split <;> simp
  · have e1 := eq_false h
    simp only [stepR, lineIf, flush, decide_true, Bool.true_or, if_true, e1, if_false, List.append_nil]
    split <;> simp
/-- A byte within a piece. -/
theorem step_in {b : UInt8} (hb : b ≠ 10) (σ : RS) (p : List UInt8) : (stepR (toI b) σ).out = σ.out ∧ (stepR (toI b) σ).no = σ.no ∧ (stepR (toI b) σ).ws ++ wordsFrom (stepR (toI b) σ).wd (stepR (toI b) σ).rem p = σ.ws ++ wordsFrom σ.wd σ.rem (b :: p) := by
  have h10 : ¬ toI b = 10 := fun e => hb (toI_eq.1 (e.trans rfl))
  obtain ⟨out, no, ws, wd, rem⟩ := σ
  have fl : ∀ rem', wordsFrom [] rem' p = wordsFrom [] rem' p := fun _ => rfl
  cases rem with
  | true =>
    have hw : ∀ q, wordsFrom [] true q = [] := fun q => by cases q <;> rfl
    simp only [stepR, h10, decide_false, Bool.false_or, Bool.true_or, Bool.or_true, if_true, Bool.false_eq_true, if_false, hw, wordsFrom, flush, List.append_nil, true_and]
    split <;> simp
  | false =>
    by_cases h35 : b = 35
    · have hw : ∀ q, wordsFrom [] true q = [] := fun q => by cases q <;> rfl
      subst h35
      simp only [stepR, wordsFrom, flush]
      have e : (toI 35 = 35) = True := eq_true rfl
      simp only [h10, e, decide_false, decide_true, Bool.false_or, Bool.or_true, if_true, Bool.false_eq_true, if_false, hw, List.append_nil, true_and]
      split <;> simp
    · have e35 : ¬ toI b = 35 := fun e => h35 (toI_eq.1 (e.trans rfl))
      by_cases h32 : b = 32
      · subst h32
        have e : (toI 32 = 32) = True := eq_true rfl
        simp only [stepR, wordsFrom, h10, e35, e, decide_false, decide_true, Bool.false_or, Bool.true_or, Bool.or_true, Bool.or_false, if_true, Bool.false_eq_true, if_false, true_and, if_neg h35, flush]
        split <;> simp
      · have e32 : ¬ toI b = 32 := fun e => h32 (toI_eq.1 (e.trans rfl))
        simp only [stepR, wordsFrom, h10, e35, e32, decide_false, Bool.false_or, Bool.or_false, Bool.false_eq_true, if_false, true_and, if_neg h35, if_neg h32]
theorem ref_scanQ : ∀ (l : List UInt8) (σ : RS), refGo (l.map toI ++ [10]) σ = scanQ (pcs l) σ
  | [], σ => by
    simp only [List.map_nil, List.nil_append, pcs, scanQ, badP, List.any_nil, Bool.false_eq_true, if_false, refGo, wordsFrom]
    rw [if_neg (by decide), step_nl]
  | b :: l, σ => by
    rw [List.map_cons, List.cons_append, refGo]
    by_cases hb : b = 10
    · subst hb
      rw [if_neg (by decide), pcs, if_pos rfl, scanQ]
      simp only [badP, List.any_nil, Bool.false_eq_true, if_false, wordsFrom]
      rw [ref_scanQ l, show toI 10 = 10 from rfl, step_nl]
    · obtain ⟨p, r, hp⟩ : ∃ p r, pcs l = p :: r := by
        cases hp : pcs l with
        | nil => exact absurd hp (pcs_ne l)
        | cons p r => exact ⟨p, r, rfl⟩
      have hq : pcs (b :: l) = (b :: p) :: r := by rw [pcs, if_neg hb, hp]; rfl
      rw [hq, scanQ]
      by_cases hx : badB (toI b)
      · rw [if_pos hx, if_pos (by simp [badP, (bad_iff hb).1 hx])]
      · rw [if_neg hx, ref_scanQ l, hp, scanQ]
        obtain ⟨a1, a2, a3⟩ := step_in hb σ p
        have hx' := fun e => hx ((bad_iff hb).2 e)
        rw [a1, a2, a3]
        have : badP (b :: p) = badP p := by
          unfold badP
          rw [List.any_cons, decide_eq_false hx', Bool.false_or]
        rw [this]
/-! ### Words -/
def takeH (p : List UInt8) : List UInt8 := p.takeWhile fun b => decide (b ≠ 35)
theorem cut_takeH : ∀ p : List UInt8, (cut p [35]).1 = takeH p
  | [] => by simp [cut, index, takeH]
  | b :: p => by
    have ih := cut_takeH p
    unfold takeH at ih ⊢
    unfold cut at ih ⊢
    rw [index]
    by_cases hb : b = 35
    · subst hb; simp
    · have hp : ([35] : List UInt8).isPrefixOf (b :: p) = false := by simp [List.isPrefixOf, Ne.symm hb]
      rw [hp]
      simp only [Bool.false_eq_true, if_false, List.takeWhile_cons, hb, ne_eq, not_false_eq_true, decide_true, if_true]
      have hge := index_ge p [35]
      by_cases hi : index p [35] = -1
      · rw [hi] at ih ⊢
        simp at ih ⊢
        exact ih
      · have e : (if (index p [35] == -1) = true then (-1 : Int) else index p [35] + 1) = index p [35] + 1 := if_neg (by simpa using hi)
        rw [e, if_pos (by omega)]
        rw [if_pos (by omega)] at ih
        rw [show (index p [35] + 1).toNat = (index p [35]).toNat + 1 by omega, List.take_succ_cons]
        simp only
        simp only at ih
        rw [ih]
theorem bytesB_toI (c : List UInt8) : bytesB (c.map toI) = ⟨c.toArray⟩ := by
  unfold bytesB
  simp [List.map_map, Function.comp_def]
theorem flush_toI (c : List UInt8) : flush (c.map toI) = (if c.isEmpty then [] else [c]).map fun l => ⟨l.toArray⟩ := by
  unfold flush
  cases c with
  | nil => simp
  | cons a r =>
    rw [if_pos (by simp <;> omega), bytesB_toI]
    rfl
theorem sp_iff {b : UInt8} (h : 32 ≤ b.toNat) : isSp b = decide (b = 32) := by
  have hne : ∀ c : UInt8, c.toNat < 32 → (b == c) = false := fun c hc => by
    simp only [beq_eq_false_iff_ne]
    rintro rfl
    omega
  unfold isSp
  rw [hne 9 (by decide), hne 10 (by decide), hne 11 (by decide), hne 12 (by decide), hne 13 (by decide)]
  simp only [Bool.false_or]
  rfl
theorem words_from : ∀ (p c : List UInt8), badP p = false → wordsFrom (c.map toI) false p = (fieldsGo c (takeH p)).map fun l => ⟨l.toArray⟩
  | [], c, _ => by rw [wordsFrom, flush_toI]; rfl
  | b :: p, c, h => by
    unfold badP at h
    rw [List.any_cons, Bool.or_eq_false_iff] at h
    have hb : 32 ≤ b.toNat := by have := of_decide_eq_false h.1; omega
    have ih := fun c => words_from p c h.2
    rw [wordsFrom]
    by_cases h35 : b = 35
    · subst h35
      rw [if_pos rfl, flush_toI]
      rfl
    · have hT : takeH (b :: p) = b :: takeH p := by simp [takeH, h35]
      rw [if_neg h35, hT, fieldsGo, sp_iff hb]
      by_cases h32 : b = 32
      · rw [if_pos h32, decide_eq_true h32, if_pos rfl, flush_toI]
        have := ih []
        simp only [List.map_nil] at this
        rw [this]
        cases c with
        | nil => simp
        | cons a r => simp
      · rw [if_neg h32, decide_eq_false h32, if_neg (by simp)]
        have := ih (c ++ [b])
        rw [List.map_append, List.map_cons, List.map_nil] at this
        exact this
theorem badP_iff {p : ByteArray} : badP p.data.toList = true ↔ 0 ≤ idxR p := by
  have h1 : idxR p < 0 ↔ badP p.data.toList = false := by
    rw [idxR_neg]
    constructor
    · intro h
      unfold badP
      rw [List.any_eq_false]
      intro b hb
      have := okB_mem h hb
      simp; omega
    · intro h j hj
      obtain ⟨b, hb, hv⟩ := byt_get hj
      unfold badP at h
      rw [List.any_eq_false] at h
      have := h b (List.mem_of_getElem? hb)
      simp at this
      rw [hv]; omega
  cases hb : badP p.data.toList with
  | true =>
    have hn : ¬ idxR p < 0 := fun e => by
      rw [h1.1 e] at hb
      cases hb
    exact ⟨fun _ => by omega, fun _ => rfl⟩
  | false =>
    have := h1.2 hb
    exact ⟨fun h => (by cases h), fun h => (by omega)⟩
theorem line_same {p : ByteArray} (h : badP p.data.toList = false) (i : Int) : lineOf i p = lineIf (i + 1) (wordsFrom [] false p.data.toList) := by
  have := words_from p.data.toList [] h
  simp only [List.map_nil] at this
  rw [this, ← cut_takeH]
  have e : wordsB (cut1 p) = (fieldsGo [] (cut p.data.toList [35]).1).map fun l => ⟨l.toArray⟩ := by simp [wordsB, cut1, fields]
  unfold lineOf lineIf
  rw [e]
theorem scan_same : ∀ (ps : List ByteArray) (i : Int) (out : List LineT), scanL ps i out = scanQ (ps.map (·.data.toList)) ⟨out, i + 1, [], [], false⟩
  | [], _, _ => rfl
  | p :: r, i, out => by
    rw [scanL, List.map_cons, scanQ]
    by_cases h : badP p.data.toList = true
    · rw [if_pos (badP_iff.1 h), if_pos h]
    · rw [if_neg fun e => h (badP_iff.2 e), if_neg h, scan_same r, line_same (by simpa using h), List.nil_append]
theorem lines_same (s : ByteArray) : linesR s = refR s := by
  unfold linesR refR
  split
  · rfl
  · rw [scan_same, pieces_pcs, bytesL, ref_scanQ]
    rfl
/-! ### How many -/
theorem cntF_le : ∀ (l : List UInt8) (w : Bool), cntF w l ≤ l.length
  | [], _ => by simp [cntF]
  | b :: l, w => by
    have := cntF_le l (isSp b)
    unfold cntF
    split <;> simp <;> omega
theorem words_le (p : ByteArray) : (wordsB p).length ≤ p.size := by
  have h1 : (wordsB p).length = (fields p.data.toList).length := by simp [wordsB]
  rw [h1, fields_length]
  exact cntF_le _ _
theorem scan_len : ∀ (ps : List ByteArray) (i : Int) (out : List LineT), (scanL ps i out).1.length ≤ out.length + ps.length
  | [], _, out => by simp [scanL]
  | p :: r, i, out => by
    rw [scanL]
    split
    · simp
    · have := scan_len r (i + 1) (out ++ lineOf i p)
      have hl : (lineOf i p).length ≤ 1 := by unfold lineOf; split <;> simp
      rw [List.length_append] at this
      simp only [List.length_cons]
      omega
theorem lines_len' (s : ByteArray) : (linesR s).1.length ≤ 65537 := by
  unfold linesR
  split
  · simp
  · have := scan_len (pieces s) 0 []
    have h2 := pieces_len s
    simp at this
    omega
theorem lines_len (s : ByteArray) : (linesR s).1.length ≤ 1048576 := by have := lines_len' s; omega
theorem scan_words : ∀ (ps : List ByteArray) (i : Int) (out : List LineT) (m : Nat), (∀ p ∈ ps, p.size ≤ m) → (∀ x ∈ out, x.Words.length ≤ m) → ∀ x ∈ (scanL ps i out).1, x.Words.length ≤ m
  | [], _, out, m, _, h => h
  | p :: r, i, out, m, hp, h => by
    rw [scanL]
    split
    · intro x hx; cases hx
    · refine scan_words r _ _ m (fun q hq => hp q (List.mem_cons_of_mem _ hq)) fun x hx => ?_
      rcases List.mem_append.1 hx with e | e
      · exact h x e
      · unfold lineOf at e
        split at e
        · rw [List.mem_singleton] at e
          subst e
          have h1 := words_le (cut1 p)
          have h2 := cut1_size p
          have h3 := hp p (List.mem_cons_self ..)
          show (wordsB (cut1 p)).length ≤ m
          omega
        · cases e
theorem lines_words (s : ByteArray) : ∀ x ∈ (linesR s).1, x.Words.length ≤ 1048576 := by
  unfold linesR
  split
  · intro x hx; cases hx
  · refine scan_words _ _ _ 1048576 (fun p hp => ?_) (fun x hx => by cases hx)
    have := pcs_sub s.data.toList p.data.toList (by rw [← pieces_pcs]; exact List.mem_map.2 ⟨_, hp, rfl⟩)
    have h2 : p.size ≤ s.size := this
    omega
end Go.Proofs.L
namespace Go.Proofs.L
open Go Go.AH
set_option maxRecDepth 4000
set_option linter.unusedSimpArgs false
set_option linter.unusedVariables false
variable [LexG]
theorem c_LexLines (s : ByteArray) : PC Tryd.prog 3 [.str s] (.bool true) := by
 intro H0
 refine ACalls.of_body' (n := 44) rfl rfl rfl rfl ?_
 have m0 := Mono.refl H0
 refine AWP.seq ?_
 refine AWP.region (l := [0]) rfl ?_
 refine AOps.cons rfl rfl (AOp.assign (.bool false) rfl rfl ?_)
 refine AOps.nil ?_
 change AWP _ _ _ _ _ _
 refine AWP.seq ?_
 refine AWP.seq ?_
 refine AWP.region (l := [0, 1]) rfl ?_
 refine AOps.cons rfl rfl (AOp.pcall («as» := []) rfl rfl (rfl) tf_9 (c_alive) ?_)
 intro H1 m2
 have m3 := m0.trans m2
 refine AOps.cons rfl rfl (AOp.not rfl rfl ?_)
 refine AOps.nil ?_
 change AWP _ _ _ _ _ _
 refine AWP.condF rfl rfl ?_
 refine AWP.skip ?_
 change AWP _ _ _ _ _ _
 refine AWP.seq ?_
 refine AWP.seq ?_
 refine AWP.region (l := [0, 1, 2, 3, 4, 5, 6, 7]) rfl ?_
 refine AOps.cons rfl rfl (AOp.move (.str s) rfl rfl ?_)
 refine AOps.cons rfl rfl (AOp.lenStr rfl rfl u_9 ?_)
 refine AOps.cons rfl rfl (AOp.bin (.bool (decide ((s.size : Int) > 5000))) rfl rfl rfl rfl ?_)
 refine AOps.cons rfl rfl (AOp.move (.bool (decide ((s.size : Int) > 5000))) rfl rfl ?_)
 by_cases b4 : (s.size : Int) > 5000
 ·
  refine AOps.yes rfl rfl rfl rfl rfl rfl rfl (decide_eq_true b4) (AOp.move (.str s) rfl rfl ?_)
  refine AOps.yes rfl rfl rfl rfl rfl rfl rfl (decide_eq_true b4) (AOp.lenStr rfl rfl u_9 ?_)
  refine AOps.yes rfl rfl rfl rfl rfl rfl rfl (decide_eq_true b4) (AOp.bin (.bool (decide ((s.size : Int) ≤ 65536))) rfl rfl rfl rfl ?_)
  refine AOps.cons rfl rfl (AOp.pickT (.bool (decide ((s.size : Int) ≤ 65536))) rfl rfl (decide_eq_true b4) rfl ?_)
  refine AOps.nil ?_
  change AWP _ _ _ _ _ _
  by_cases b5 : (s.size : Int) ≤ 65536
  ·
   refine AWP.condT rfl (decide_eq_true b5) ?_
   refine AWP.seq ?_
   refine AWP.region (l := [0]) rfl ?_
   refine AOps.cons rfl rfl (AOp.assign (.bool true) rfl rfl ?_)
   refine AOps.nil ?_
   change AWP _ _ _ _ _ _
   refine AWP.ret ?_
   refine ⟨_, _, Ghost.refl, .inr rfl, _, Res.one rfl rfl, ?_, m3⟩
   exact rfl
  ·
   refine AWP.condF rfl (decide_eq_false b5) ?_
   refine AWP.skip ?_
   change AWP _ _ _ _ _ _
   refine AWP.seq ?_
   refine AWP.region (l := [0, 1, 2, 3, 4, 5, 6, 7, 8]) rfl ?_
   refine AOps.cons rfl rfl (AOp.move (.str s) rfl rfl ?_)
   refine AOps.cons rfl rfl (AOp.pcall («as» := [.str s]) rfl rfl (rfl) tf_10 (c_lex_Lines _) ?_)
   intro H6 m7
   have m8 := m3.trans m7
   refine AOps.cons rfl rfl (AOp.move (.tup [.sl ((linesR s).1).length (((linesR s).1).flatMap eLine), .int .i64 ((linesR s).2.1), .int .i64 ((linesR s).2.2)]) rfl rfl ?_)
   refine AOps.cons rfl rfl (AOp.extract (.sl ((linesR s).1).length (((linesR s).1).flatMap eLine)) rfl rfl rfl ?_)
   refine AOps.cons rfl rfl (AOp.extract (.int .i64 ((linesR s).2.1)) rfl rfl rfl ?_)
   refine AOps.cons rfl rfl (AOp.extract (.int .i64 ((linesR s).2.2)) rfl rfl rfl ?_)
   refine AOps.cons rfl rfl (AOp.assign (.sl ((linesR s).1).length (((linesR s).1).flatMap eLine)) rfl rfl ?_)
   refine AOps.cons rfl rfl (AOp.assign (.int .i64 ((linesR s).2.1)) rfl rfl ?_)
   refine AOps.cons rfl rfl (AOp.assign (.int .i64 ((linesR s).2.2)) rfl rfl ?_)
   refine AOps.nil ?_
   change AWP _ _ _ _ _ _
   refine AWP.seq ?_
   refine AWP.region (l := [0, 1, 2, 3, 4, 5, 6, 7, 8]) rfl ?_
   refine AOps.cons rfl rfl (AOp.move (.str s) rfl rfl ?_)
   refine AOps.cons rfl rfl (AOp.pcall («as» := [.str s]) rfl rfl (rfl) tf_11 ((by have h := c_ref_Lines s; rw [← lines_same] at h; exact h)) ?_)
   intro H9 m10
   have m11 := m8.trans m10
   refine AOps.cons rfl rfl (AOp.move (.tup [.sl ((linesR s).1).length (((linesR s).1).flatMap eLine), .int .i64 ((linesR s).2.1), .int .i64 ((linesR s).2.2)]) rfl rfl ?_)
   refine AOps.cons rfl rfl (AOp.extract (.sl ((linesR s).1).length (((linesR s).1).flatMap eLine)) rfl rfl rfl ?_)
   refine AOps.cons rfl rfl (AOp.extract (.int .i64 ((linesR s).2.1)) rfl rfl rfl ?_)
   refine AOps.cons rfl rfl (AOp.extract (.int .i64 ((linesR s).2.2)) rfl rfl rfl ?_)
   refine AOps.cons rfl rfl (AOp.assign (.sl ((linesR s).1).length (((linesR s).1).flatMap eLine)) rfl rfl ?_)
   refine AOps.cons rfl rfl (AOp.assign (.int .i64 ((linesR s).2.1)) rfl rfl ?_)
   refine AOps.cons rfl rfl (AOp.assign (.int .i64 ((linesR s).2.2)) rfl rfl ?_)
   refine AOps.nil ?_
   change AWP _ _ _ _ _ _
   refine AWP.seq ?_
   refine AWP.region (l := [0, 1, 2, 3, 4, 5, 6, 7, 8, 9, 10, 11, 12, 13]) rfl ?_
   refine AOps.cons rfl rfl (AOp.move (.sl ((linesR s).1).length (((linesR s).1).flatMap eLine)) rfl rfl ?_)
   refine AOps.cons rfl rfl (AOp.move (.sl ((linesR s).1).length (((linesR s).1).flatMap eLine)) rfl rfl ?_)
   refine AOps.cons rfl rfl (AOp.pcall («as» := [.sl ((linesR s).1).length (((linesR s).1).flatMap eLine), .sl ((linesR s).1).length (((linesR s).1).flatMap eLine)]) rfl rfl (rfl) tf_12 (c_same ((linesR s).1) ((linesR s).1) (lines_len s) (lines_len s) (lines_words s) (lines_words s)) ?_)
   intro H12 m13
   have m14 := m11.trans m13
   refine AOps.cons rfl rfl (AOp.move (.bool (decide ((linesR s).1 = (linesR s).1))) rfl rfl ?_)
   refine AOps.yes rfl rfl rfl rfl rfl rfl rfl (decide_eq_true rfl) (AOp.move (.int .i64 ((linesR s).2.1)) rfl rfl ?_)
   refine AOps.yes rfl rfl rfl rfl rfl rfl rfl (decide_eq_true rfl) (AOp.move (.int .i64 ((linesR s).2.1)) rfl rfl ?_)
   refine AOps.yes rfl rfl rfl rfl rfl rfl rfl (decide_eq_true rfl) (AOp.bin (.bool (decide ((linesR s).2.1 = (linesR s).2.1))) rfl rfl rfl ieq ?_)
   refine AOps.cons rfl rfl (AOp.pickT (.bool (decide ((linesR s).2.1 = (linesR s).2.1))) rfl rfl (decide_eq_true rfl) rfl ?_)
   refine AOps.cons rfl rfl (AOp.move (.bool (decide ((linesR s).2.1 = (linesR s).2.1))) rfl rfl ?_)
   refine AOps.yes rfl rfl rfl rfl rfl rfl rfl (decide_eq_true rfl) (AOp.move (.int .i64 ((linesR s).2.2)) rfl rfl ?_)
   refine AOps.yes rfl rfl rfl rfl rfl rfl rfl (decide_eq_true rfl) (AOp.move (.int .i64 ((linesR s).2.2)) rfl rfl ?_)
   refine AOps.yes rfl rfl rfl rfl rfl rfl rfl (decide_eq_true rfl) (AOp.bin (.bool (decide ((linesR s).2.2 = (linesR s).2.2))) rfl rfl rfl ieq ?_)
   refine AOps.cons rfl rfl (AOp.pickT (.bool (decide ((linesR s).2.2 = (linesR s).2.2))) rfl rfl (decide_eq_true rfl) rfl ?_)
   refine AOps.cons rfl rfl (AOp.assign (.bool (decide ((linesR s).2.2 = (linesR s).2.2))) rfl rfl ?_)
   refine AOps.nil ?_
   change AWP _ _ _ _ _ _
   refine AWP.ret ?_
   refine ⟨_, _, Ghost.refl, .inr rfl, _, Res.one rfl rfl, ?_, m14⟩
   exact (congrArg AV.bool (show (decide ((linesR s).2.2 = (linesR s).2.2) : Bool) = true from by first | rfl | exact decide_eq_true rfl))
 ·
  refine AOps.no rfl rfl rfl rfl rfl rfl rfl (ble_of (decide_eq_false b4) (by decide)) ?_
  refine AOps.no rfl rfl rfl rfl rfl rfl rfl (ble_of (decide_eq_false b4) (by decide)) ?_
  refine AOps.no rfl rfl rfl rfl rfl rfl rfl (ble_of (decide_eq_false b4) (by decide)) ?_
  refine AOps.cons rfl rfl (AOp.pickF (.bool false) rfl rfl (decide_eq_false b4) rfl ?_)
  refine AOps.nil ?_
  change AWP _ _ _ _ _ _
  refine AWP.condF rfl rfl ?_
  refine AWP.skip ?_
  change AWP _ _ _ _ _ _
  refine AWP.seq ?_
  refine AWP.region (l := [0, 1, 2, 3, 4, 5, 6, 7, 8]) rfl ?_
  refine AOps.cons rfl rfl (AOp.move (.str s) rfl rfl ?_)
  refine AOps.cons rfl rfl (AOp.pcall («as» := [.str s]) rfl rfl (rfl) tf_10 (c_lex_Lines _) ?_)
  intro H15 m16
  have m17 := m3.trans m16
  refine AOps.cons rfl rfl (AOp.move (.tup [.sl ((linesR s).1).length (((linesR s).1).flatMap eLine), .int .i64 ((linesR s).2.1), .int .i64 ((linesR s).2.2)]) rfl rfl ?_)
  refine AOps.cons rfl rfl (AOp.extract (.sl ((linesR s).1).length (((linesR s).1).flatMap eLine)) rfl rfl rfl ?_)
  refine AOps.cons rfl rfl (AOp.extract (.int .i64 ((linesR s).2.1)) rfl rfl rfl ?_)
  refine AOps.cons rfl rfl (AOp.extract (.int .i64 ((linesR s).2.2)) rfl rfl rfl ?_)
  refine AOps.cons rfl rfl (AOp.assign (.sl ((linesR s).1).length (((linesR s).1).flatMap eLine)) rfl rfl ?_)
  refine AOps.cons rfl rfl (AOp.assign (.int .i64 ((linesR s).2.1)) rfl rfl ?_)
  refine AOps.cons rfl rfl (AOp.assign (.int .i64 ((linesR s).2.2)) rfl rfl ?_)
  refine AOps.nil ?_
  change AWP _ _ _ _ _ _
  refine AWP.seq ?_
  refine AWP.region (l := [0, 1, 2, 3, 4, 5, 6, 7, 8]) rfl ?_
  refine AOps.cons rfl rfl (AOp.move (.str s) rfl rfl ?_)
  refine AOps.cons rfl rfl (AOp.pcall («as» := [.str s]) rfl rfl (rfl) tf_11 ((by have h := c_ref_Lines s; rw [← lines_same] at h; exact h)) ?_)
  intro H18 m19
  have m20 := m17.trans m19
  refine AOps.cons rfl rfl (AOp.move (.tup [.sl ((linesR s).1).length (((linesR s).1).flatMap eLine), .int .i64 ((linesR s).2.1), .int .i64 ((linesR s).2.2)]) rfl rfl ?_)
  refine AOps.cons rfl rfl (AOp.extract (.sl ((linesR s).1).length (((linesR s).1).flatMap eLine)) rfl rfl rfl ?_)
  refine AOps.cons rfl rfl (AOp.extract (.int .i64 ((linesR s).2.1)) rfl rfl rfl ?_)
  refine AOps.cons rfl rfl (AOp.extract (.int .i64 ((linesR s).2.2)) rfl rfl rfl ?_)
  refine AOps.cons rfl rfl (AOp.assign (.sl ((linesR s).1).length (((linesR s).1).flatMap eLine)) rfl rfl ?_)
  refine AOps.cons rfl rfl (AOp.assign (.int .i64 ((linesR s).2.1)) rfl rfl ?_)
  refine AOps.cons rfl rfl (AOp.assign (.int .i64 ((linesR s).2.2)) rfl rfl ?_)
  refine AOps.nil ?_
  change AWP _ _ _ _ _ _
  refine AWP.seq ?_
  refine AWP.region (l := [0, 1, 2, 3, 4, 5, 6, 7, 8, 9, 10, 11, 12, 13]) rfl ?_
  refine AOps.cons rfl rfl (AOp.move (.sl ((linesR s).1).length (((linesR s).1).flatMap eLine)) rfl rfl ?_)
  refine AOps.cons rfl rfl (AOp.move (.sl ((linesR s).1).length (((linesR s).1).flatMap eLine)) rfl rfl ?_)
  refine AOps.cons rfl rfl (AOp.pcall («as» := [.sl ((linesR s).1).length (((linesR s).1).flatMap eLine), .sl ((linesR s).1).length (((linesR s).1).flatMap eLine)]) rfl rfl (rfl) tf_12 (c_same ((linesR s).1) ((linesR s).1) (lines_len s) (lines_len s) (lines_words s) (lines_words s)) ?_)
  intro H21 m22
  have m23 := m20.trans m22
  refine AOps.cons rfl rfl (AOp.move (.bool (decide ((linesR s).1 = (linesR s).1))) rfl rfl ?_)
  refine AOps.yes rfl rfl rfl rfl rfl rfl rfl (decide_eq_true rfl) (AOp.move (.int .i64 ((linesR s).2.1)) rfl rfl ?_)
  refine AOps.yes rfl rfl rfl rfl rfl rfl rfl (decide_eq_true rfl) (AOp.move (.int .i64 ((linesR s).2.1)) rfl rfl ?_)
  refine AOps.yes rfl rfl rfl rfl rfl rfl rfl (decide_eq_true rfl) (AOp.bin (.bool (decide ((linesR s).2.1 = (linesR s).2.1))) rfl rfl rfl ieq ?_)
  refine AOps.cons rfl rfl (AOp.pickT (.bool (decide ((linesR s).2.1 = (linesR s).2.1))) rfl rfl (decide_eq_true rfl) rfl ?_)
  refine AOps.cons rfl rfl (AOp.move (.bool (decide ((linesR s).2.1 = (linesR s).2.1))) rfl rfl ?_)
  refine AOps.yes rfl rfl rfl rfl rfl rfl rfl (decide_eq_true rfl) (AOp.move (.int .i64 ((linesR s).2.2)) rfl rfl ?_)
  refine AOps.yes rfl rfl rfl rfl rfl rfl rfl (decide_eq_true rfl) (AOp.move (.int .i64 ((linesR s).2.2)) rfl rfl ?_)
  refine AOps.yes rfl rfl rfl rfl rfl rfl rfl (decide_eq_true rfl) (AOp.bin (.bool (decide ((linesR s).2.2 = (linesR s).2.2))) rfl rfl rfl ieq ?_)
  refine AOps.cons rfl rfl (AOp.pickT (.bool (decide ((linesR s).2.2 = (linesR s).2.2))) rfl rfl (decide_eq_true rfl) rfl ?_)
  refine AOps.cons rfl rfl (AOp.assign (.bool (decide ((linesR s).2.2 = (linesR s).2.2))) rfl rfl ?_)
  refine AOps.nil ?_
  change AWP _ _ _ _ _ _
  refine AWP.ret ?_
  refine ⟨_, _, Ghost.refl, .inr rfl, _, Res.one rfl rfl, ?_, m23⟩
  exact (congrArg AV.bool (show (decide ((linesR s).2.2 = (linesR s).2.2) : Bool) = true from by first | rfl | exact decide_eq_true rfl))
end Go.Proofs.L
