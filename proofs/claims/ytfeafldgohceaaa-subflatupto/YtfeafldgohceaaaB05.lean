/- A part of the proof that a law answers true for every input of its row: own work, by an AI agent. -/
import Derived.Test.YtfeafldgohceaaaB04
import Derived.Test.YtfeafldgohceaaaB01
import Derived.Test.YtfeafldgohceaaaB02
import Derived.KernelRfl
import Derived.OpenShut
import Derived.Deep.Slices
import Derived.Lib.LaidTab
import Derived.Deep.OwnRows
import Derived.WideKeyArgs
import Derived.Test.YtfeafldgohceaaaRows
import Derived.WalkKit
import Derived.ProofKit
import Derived.JoinedCond
import Derived.Deep.DeepHandedRow
import Derived.Deep.Matrix
set_option linter.unusedSimpArgs false
set_option linter.unusedVariables false
set_option linter.defProp false
namespace Go.Proofs.U
open Go Go.AH Go.Proofs.T
set_option maxRecDepth 4000
set_option linter.unusedSimpArgs false
set_option linter.unusedVariables false
theorem c_weigh (vs : List VT) (fs : List (List Int)) (cr : List CrT) (hvl : vs.length ≤ 1048576) (hfl : fs.length ≤ 1048576) (hfs : ∀ l ∈ fs, l.length ≤ 1048576) (hcl : cr.length ≤ 1048576) (m : Int) (hm : 0 ≤ m ∧ m ≤ 1000) : PC Try.prog 24 [.agg [.sl vs.length (vs.flatMap eV), .sl fs.length (fs.map eF), .sl cr.length (cr.flatMap eCr)], .int .i64 m] (.int .i64 (weighZ vs fs cr m)) := by
 intro H0
 refine ACalls.of_body' (n := 60) rfl rfl rfl rfl ?_
 have m0 := Mono.refl H0
 refine AWP.seq ?_
 refine AWP.region (l := [0, 1]) rfl ?_
 refine AOps.cons rfl rfl (AOp.box (.agg [.sl vs.length (vs.flatMap eV), .sl fs.length (fs.map eF), .sl cr.length (cr.flatMap eCr)]) rfl rfl rfl ?_)
 intro i1 H2 n3 h4 k5
 have z6 := Mono.free m0 n3
 have m7 := Mono.new m0 n3 k5
 refine AOps.cons rfl rfl (AOp.assign (.int .i64 0) rfl rfl ?_)
 refine AOps.nil ?_
 change AWP _ _ _ _ _ _
 refine AWP.seq ?_
 refine AWP.seq ?_
 refine AWP.frzP 2 h4 z6 rfl m7 fun H8 m9 k10 => ?_
 refine AWP.region (l := [0, 1, 2, 3, 4, 5, 6, 7, 8, 9, 10, 11, 12, 13, 14, 15, 16, 17, 18]) rfl ?_
 refine AOps.cons rfl rfl (AOp.fieldAddrF rfl rfl fl_26_0 ?_)
 refine AOps.cons rfl rfl (AOp.loadF (.sl vs.length (vs.flatMap eV)) rfl rfl ty_22 rfl ?_)
 refine AOps.cons rfl rfl (AOp.len (m := vs.length) rfl rfl (.inr (.inl ⟨_, rfl⟩)) u_22 ?_)
 refine AOps.cons rfl rfl (AOp.move (.int .i64 m) rfl rfl ?_)
 refine AOps.cons rfl rfl (AOp.bin (.bool (decide ((vs.length : Int) > m))) rfl rfl rfl rfl ?_)
 refine AOps.cons rfl rfl (AOp.move (.bool (decide ((vs.length : Int) > m))) rfl rfl ?_)
 by_cases b11 : (vs.length : Int) > m
 ·
  refine AOps.no rfl rfl rfl rfl rfl rfl rfl (ble_of (decide_eq_true b11) (by decide)) ?_
  refine AOps.no rfl rfl rfl rfl rfl rfl rfl (ble_of (decide_eq_true b11) (by decide)) ?_
  refine AOps.no rfl rfl rfl rfl rfl rfl rfl (ble_of (decide_eq_true b11) (by decide)) ?_
  refine AOps.no rfl rfl rfl rfl rfl rfl rfl (ble_of (decide_eq_true b11) (by decide)) ?_
  refine AOps.no rfl rfl rfl rfl rfl rfl rfl (ble_of (decide_eq_true b11) (by decide)) ?_
  refine AOps.cons rfl rfl (AOp.pickT (.bool true) rfl rfl (decide_eq_true b11) rfl ?_)
  refine AOps.cons rfl rfl (AOp.move (.bool true) rfl rfl ?_)
  refine AOps.no rfl rfl rfl rfl rfl rfl rfl (ble_of rfl (by decide)) ?_
  refine AOps.no rfl rfl rfl rfl rfl rfl rfl (ble_of rfl (by decide)) ?_
  refine AOps.no rfl rfl rfl rfl rfl rfl rfl (ble_of rfl (by decide)) ?_
  refine AOps.no rfl rfl rfl rfl rfl rfl rfl (ble_of rfl (by decide)) ?_
  refine AOps.no rfl rfl rfl rfl rfl rfl rfl (ble_of rfl (by decide)) ?_
  refine AOps.cons rfl rfl (AOp.pickT (.bool true) rfl rfl rfl rfl ?_)
  refine AOps.nil ?_
  change AWP _ _ _ _ _ _
  refine AWP.condT rfl rfl ?_
  refine AWP.seq ?_
  refine AWP.region (l := [0, 1, 2]) rfl ?_
  refine AOps.cons rfl rfl (AOp.move (.int .i64 m) rfl rfl ?_)
  refine AOps.cons rfl rfl (AOp.bin (.int .i64 (m + 1)) rfl rfl rfl (iadd (by omega)) ?_)
  refine AOps.cons rfl rfl (AOp.assign (.int .i64 (m + 1)) rfl rfl ?_)
  refine AOps.nil ?_
  change AWP _ _ _ _ _ _
  refine AWP.ret ?_
  refine ⟨_, _, Ghost.refl, .inr rfl, _, Res.one rfl rfl, ?_, m9⟩
  exact (congrArg (AV.int .i64) (show (m + 1 : Int) = weighZ vs fs cr m from by unfold weighZ; rw [if_pos (by omega)]))
 ·
  refine AOps.yes rfl rfl rfl rfl rfl rfl rfl (decide_eq_false b11) (AOp.fieldAddrF rfl rfl fl_26_2 ?_)
  refine AOps.yes rfl rfl rfl rfl rfl rfl rfl (decide_eq_false b11) (AOp.loadF (.sl cr.length (cr.flatMap eCr)) rfl rfl ty_24 rfl ?_)
  refine AOps.yes rfl rfl rfl rfl rfl rfl rfl (decide_eq_false b11) (AOp.len (m := cr.length) rfl rfl (.inr (.inl ⟨_, rfl⟩)) u_24 ?_)
  refine AOps.yes rfl rfl rfl rfl rfl rfl rfl (decide_eq_false b11) (AOp.move (.int .i64 m) rfl rfl ?_)
  refine AOps.yes rfl rfl rfl rfl rfl rfl rfl (decide_eq_false b11) (AOp.bin (.bool (decide ((cr.length : Int) > m))) rfl rfl rfl rfl ?_)
  refine AOps.cons rfl rfl (AOp.pickF (.bool (decide ((cr.length : Int) > m))) rfl rfl (decide_eq_false b11) rfl ?_)
  refine AOps.cons rfl rfl (AOp.move (.bool (decide ((cr.length : Int) > m))) rfl rfl ?_)
  by_cases b12 : (cr.length : Int) > m
  ·
   refine AOps.no rfl rfl rfl rfl rfl rfl rfl (ble_of (decide_eq_true b12) (by decide)) ?_
   refine AOps.no rfl rfl rfl rfl rfl rfl rfl (ble_of (decide_eq_true b12) (by decide)) ?_
   refine AOps.no rfl rfl rfl rfl rfl rfl rfl (ble_of (decide_eq_true b12) (by decide)) ?_
   refine AOps.no rfl rfl rfl rfl rfl rfl rfl (ble_of (decide_eq_true b12) (by decide)) ?_
   refine AOps.no rfl rfl rfl rfl rfl rfl rfl (ble_of (decide_eq_true b12) (by decide)) ?_
   refine AOps.cons rfl rfl (AOp.pickT (.bool true) rfl rfl (decide_eq_true b12) rfl ?_)
   refine AOps.nil ?_
   change AWP _ _ _ _ _ _
   refine AWP.condT rfl rfl ?_
   refine AWP.seq ?_
   refine AWP.region (l := [0, 1, 2]) rfl ?_
   refine AOps.cons rfl rfl (AOp.move (.int .i64 m) rfl rfl ?_)
   refine AOps.cons rfl rfl (AOp.bin (.int .i64 (m + 1)) rfl rfl rfl (iadd (by omega)) ?_)
   refine AOps.cons rfl rfl (AOp.assign (.int .i64 (m + 1)) rfl rfl ?_)
   refine AOps.nil ?_
   change AWP _ _ _ _ _ _
   refine AWP.ret ?_
   refine ⟨_, _, Ghost.refl, .inr rfl, _, Res.one rfl rfl, ?_, m9⟩
   exact (congrArg (AV.int .i64) (show (m + 1 : Int) = weighZ vs fs cr m from by unfold weighZ; rw [if_pos (by omega)]))
  ·
   refine AOps.yes rfl rfl rfl rfl rfl rfl rfl (decide_eq_false b12) (AOp.fieldAddrF rfl rfl fl_26_1 ?_)
   refine AOps.yes rfl rfl rfl rfl rfl rfl rfl (decide_eq_false b12) (AOp.loadF (.sl fs.length (fs.map eF)) rfl rfl ty_23 rfl ?_)
   refine AOps.yes rfl rfl rfl rfl rfl rfl rfl (decide_eq_false b12) (AOp.len (m := fs.length) rfl rfl (.inr (.inl ⟨_, rfl⟩)) u_23 ?_)
   refine AOps.yes rfl rfl rfl rfl rfl rfl rfl (decide_eq_false b12) (AOp.move (.int .i64 m) rfl rfl ?_)
   refine AOps.yes rfl rfl rfl rfl rfl rfl rfl (decide_eq_false b12) (AOp.bin (.bool (decide ((fs.length : Int) > m))) rfl rfl rfl rfl ?_)
   refine AOps.cons rfl rfl (AOp.pickF (.bool (decide ((fs.length : Int) > m))) rfl rfl (decide_eq_false b12) rfl ?_)
   refine AOps.nil ?_
   change AWP _ _ _ _ _ _
   by_cases b13 : (fs.length : Int) > m
   ·
    refine AWP.condT rfl (decide_eq_true b13) ?_
    refine AWP.seq ?_
    refine AWP.region (l := [0, 1, 2]) rfl ?_
    refine AOps.cons rfl rfl (AOp.move (.int .i64 m) rfl rfl ?_)
    refine AOps.cons rfl rfl (AOp.bin (.int .i64 (m + 1)) rfl rfl rfl (iadd (by omega)) ?_)
    refine AOps.cons rfl rfl (AOp.assign (.int .i64 (m + 1)) rfl rfl ?_)
    refine AOps.nil ?_
    change AWP _ _ _ _ _ _
    refine AWP.ret ?_
    refine ⟨_, _, Ghost.refl, .inr rfl, _, Res.one rfl rfl, ?_, m9⟩
    exact (congrArg (AV.int .i64) (show (m + 1 : Int) = weighZ vs fs cr m from by unfold weighZ; rw [if_pos (by omega)]))
   ·
    refine AWP.condF rfl (decide_eq_false b13) ?_
    refine AWP.skip ?_
    change AWP _ _ _ _ _ _
    refine AWP.seq ?_
    refine AWP.region (l := [0, 1, 2, 3, 4, 5, 6, 7, 8, 9, 10, 11]) rfl ?_
    refine AOps.cons rfl rfl (AOp.fieldAddrF rfl rfl fl_26_0 ?_)
    refine AOps.cons rfl rfl (AOp.loadF (.sl vs.length (vs.flatMap eV)) rfl rfl ty_22 rfl ?_)
    refine AOps.cons rfl rfl (AOp.len (m := vs.length) rfl rfl (.inr (.inl ⟨_, rfl⟩)) u_22 ?_)
    refine AOps.cons rfl rfl (AOp.fieldAddrF rfl rfl fl_26_2 ?_)
    refine AOps.cons rfl rfl (AOp.loadF (.sl cr.length (cr.flatMap eCr)) rfl rfl ty_24 rfl ?_)
    refine AOps.cons rfl rfl (AOp.len (m := cr.length) rfl rfl (.inr (.inl ⟨_, rfl⟩)) u_24 ?_)
    refine AOps.cons rfl rfl (AOp.bin (.int .i64 ((vs.length : Int) + (cr.length : Int))) rfl rfl rfl (iadd (by omega)) ?_)
    refine AOps.cons rfl rfl (AOp.fieldAddrF rfl rfl fl_26_1 ?_)
    refine AOps.cons rfl rfl (AOp.loadF (.sl fs.length (fs.map eF)) rfl rfl ty_23 rfl ?_)
    refine AOps.cons rfl rfl (AOp.len (m := fs.length) rfl rfl (.inr (.inl ⟨_, rfl⟩)) u_23 ?_)
    refine AOps.cons rfl rfl (AOp.bin (.int .i64 ((vs.length : Int) + (cr.length : Int) + (fs.length : Int))) rfl rfl rfl (iadd (by omega)) ?_)
    refine AOps.cons rfl rfl (AOp.assign (.int .i64 ((vs.length : Int) + (cr.length : Int) + (fs.length : Int))) rfl rfl ?_)
    refine AOps.nil ?_
    change AWP _ _ _ _ _ _
    refine AWP.seq ?_
    refine AWP.seq ?_
    refine AWP.region (l := [0]) rfl ?_
    refine AOps.cons rfl rfl (AOp.assign (.int .i64 0) rfl rfl ?_)
    refine AOps.nil ?_
    change AWP _ _ _ _ _ _
    refine AWP.block ?_
    refine AWP.loop (fun q14 fq Hq => ∃ (i : Int) (n : Int), q14 = (((fs.length : Int) : Int) - i).toNat ∧ fq 6 = .int .i64 i ∧ fq 5 = .int .i64 n ∧ fq 1 = .int .i64 m ∧ fq 2 = .fptr [.sl vs.length (vs.flatMap eV), .sl fs.length (fs.map eF), .sl cr.length (cr.flatMap eCr)] 0 ∧ fq 4 = .int .i64 0 ∧ Mono H0 Hq ∧ (0 ≤ i) ∧ (i ≤ (fs.length : Int)) ∧ (0 ≤ n ∧ n ≤ 6000000) ∧ (weighS m fs ((vs.length : Int) + cr.length + fs.length) = weighS m (fs.drop i.toNat) n)) (k := (((fs.length : Int) : Int) - 0).toNat) ?_ ?_
    ·
     exact ⟨0, ((vs.length : Int) + (cr.length : Int) + (fs.length : Int)), rfl, rfl, rfl, rfl, rfl, rfl, m9, by omega, by omega, by omega, by rfl⟩
    ·
     rintro _ f16 H15 ⟨i, n, rfl, s17, s18, s19, s20, s21, m22, hi0, hi1, hn, hw⟩
     refine AWP.seq ?_
     refine AWP.seq ?_
     refine AWP.region (l := [0, 1, 2, 3, 4, 5, 6, 7, 8, 9]) rfl ?_
     refine AOps.cons rfl rfl (AOp.move (.int .i64 i) rfl s17 ?_)
     refine AOps.cons rfl rfl (AOp.fieldAddrF rfl s20 fl_26_1 ?_)
     refine AOps.cons rfl rfl (AOp.loadF (.sl fs.length (fs.map eF)) rfl rfl ty_23 rfl ?_)
     refine AOps.cons rfl rfl (AOp.len (m := fs.length) rfl rfl (.inr (.inl ⟨_, rfl⟩)) u_23 ?_)
     refine AOps.cons rfl rfl (AOp.bin (.bool (decide (i < (fs.length : Int)))) rfl rfl rfl rfl ?_)
     refine AOps.cons rfl rfl (AOp.move (.bool (decide (i < (fs.length : Int)))) rfl rfl ?_)
     by_cases b23 : i < (fs.length : Int)
     ·
      refine AOps.yes rfl rfl rfl rfl rfl rfl rfl (decide_eq_true b23) (AOp.move (.int .i64 n) rfl s18 ?_)
      refine AOps.yes rfl rfl rfl rfl rfl rfl rfl (decide_eq_true b23) (AOp.move (.int .i64 m) rfl s19 ?_)
      refine AOps.yes rfl rfl rfl rfl rfl rfl rfl (decide_eq_true b23) (AOp.bin (.bool (decide (n ≤ m))) rfl rfl rfl rfl ?_)
      refine AOps.cons rfl rfl (AOp.pickT (.bool (decide (n ≤ m))) rfl rfl (decide_eq_true b23) rfl ?_)
      refine AOps.nil ?_
      change AWP _ _ _ _ _ _
      by_cases b24 : n ≤ m
      ·
       refine AWP.condT rfl (decide_eq_true b24) ?_
       refine AWP.skip ?_
       change AWP _ _ _ _ _ _
       refine AWP.seq ?_
       refine AWP.block ?_
       have hq : (at_ fs i).length ≤ 1048576 := hfs _ (at_mem hi0 (by omega))
       refine AWP.region (l := [0, 1, 2, 3, 4, 5, 6, 7, 8]) rfl ?_
       refine AOps.cons rfl rfl (AOp.move (.int .i64 n) rfl s18 ?_)
       refine AOps.cons rfl rfl (AOp.fieldAddrF rfl s20 fl_26_1 ?_)
       refine AOps.cons rfl rfl (AOp.loadF (.sl fs.length (fs.map eF)) rfl rfl ty_23 rfl ?_)
       refine AOps.cons rfl rfl (AOp.move (.int .i64 i) rfl s17 ?_)
       refine AOps.cons rfl rfl (AOp.indexAddrS rfl rfl rfl sl_23 (by omega) (by omega) ?_)
       refine AOps.cons rfl rfl (AOp.loadF (.sl (at_ fs i).length ((at_ fs i).map eI)) rfl rfl ty_38 (ld1 (by omega) (by omega)) ?_)
       refine AOps.cons rfl rfl (AOp.len (m := (at_ fs i).length) rfl rfl (.inr (.inl ⟨_, rfl⟩)) u_38 ?_)
       refine AOps.cons rfl rfl (AOp.bin (.int .i64 (n + (((at_ fs i).length) : Int))) rfl rfl rfl (iadd (by omega)) ?_)
       refine AOps.cons rfl rfl (AOp.assign (.int .i64 (n + (((at_ fs i).length) : Int))) rfl rfl ?_)
       refine AOps.nil ?_
       change AWP _ _ _ _ _ _
       refine AWP.region (l := [0, 1, 2]) rfl ?_
       refine AOps.cons rfl rfl (AOp.move (.int .i64 i) rfl s17 ?_)
       refine AOps.cons rfl rfl (AOp.bin (.int .i64 (i + 1)) rfl rfl rfl (iadd (by omega)) ?_)
       refine AOps.cons rfl rfl (AOp.assign (.int .i64 (i + 1)) rfl rfl ?_)
       refine AOps.nil ?_
       exact ⟨_, by omega, i + 1, n + ((at_ fs i).length : Int), rfl, rfl, rfl, s19, s20, s21, m22, by omega, by omega, by omega, by rw [hw, weigh_step hi0 (by omega) (by omega)]⟩
      ·
       refine AWP.condF rfl (decide_eq_false b24) ?_
       refine AWP.exit ?_
       change AWP _ _ _ _ _ _
       refine AWP.seq ?_
       refine AWP.region (l := [0, 1]) rfl ?_
       refine AOps.cons rfl rfl (AOp.move (.int .i64 n) rfl s18 ?_)
       refine AOps.cons rfl rfl (AOp.assign (.int .i64 n) rfl rfl ?_)
       refine AOps.nil ?_
       change AWP _ _ _ _ _ _
       refine AWP.ret ?_
       refine ⟨_, _, Ghost.refl, .inr rfl, _, Res.one rfl rfl, ?_, m22⟩
       exact (congrArg (AV.int .i64) (show (n : Int) = weighZ vs fs cr m from by unfold weighZ; rw [if_neg (by omega), hw, weigh_stop (by omega)]))
     ·
      refine AOps.no rfl rfl rfl rfl rfl rfl rfl (ble_of (decide_eq_false b23) (by decide)) ?_
      refine AOps.no rfl rfl rfl rfl rfl rfl rfl (ble_of (decide_eq_false b23) (by decide)) ?_
      refine AOps.no rfl rfl rfl rfl rfl rfl rfl (ble_of (decide_eq_false b23) (by decide)) ?_
      refine AOps.cons rfl rfl (AOp.pickF (.bool false) rfl rfl (decide_eq_false b23) rfl ?_)
      refine AOps.nil ?_
      change AWP _ _ _ _ _ _
      refine AWP.condF rfl rfl ?_
      refine AWP.exit ?_
      change AWP _ _ _ _ _ _
      refine AWP.seq ?_
      refine AWP.region (l := [0, 1]) rfl ?_
      refine AOps.cons rfl rfl (AOp.move (.int .i64 n) rfl s18 ?_)
      refine AOps.cons rfl rfl (AOp.assign (.int .i64 n) rfl rfl ?_)
      refine AOps.nil ?_
      change AWP _ _ _ _ _ _
      refine AWP.ret ?_
      refine ⟨_, _, Ghost.refl, .inr rfl, _, Res.one rfl rfl, ?_, m22⟩
      exact (congrArg (AV.int .i64) (show (n : Int) = weighZ vs fs cr m from by unfold weighZ; rw [if_neg (by omega), hw, List.drop_of_length_le (by omega)]; rfl))
theorem c_Great (vs : List VT) (fs : List (List Int)) (cr : List CrT) (hvl : vs.length ≤ 1048576) (hfl : fs.length ≤ 1048576) (hfs : ∀ l ∈ fs, l.length ≤ 1048576) (hcl : cr.length ≤ 1048576) : PC Try.prog 14 [.agg [.sl vs.length (vs.flatMap eV), .sl fs.length (fs.map eF), .sl cr.length (cr.flatMap eCr)]] (.bool (decide (greatP vs fs cr))) := by
 intro H0
 refine ACalls.of_body' (n := 12) rfl rfl rfl rfl ?_
 have m0 := Mono.refl H0
 refine AWP.seq ?_
 refine AWP.region (l := [0, 1]) rfl ?_
 refine AOps.cons rfl rfl (AOp.box (.agg [.sl vs.length (vs.flatMap eV), .sl fs.length (fs.map eF), .sl cr.length (cr.flatMap eCr)]) rfl rfl rfl ?_)
 intro i1 H2 n3 h4 k5
 have z6 := Mono.free m0 n3
 have m7 := Mono.new m0 n3 k5
 refine AOps.cons rfl rfl (AOp.assign (.bool false) rfl rfl ?_)
 refine AOps.nil ?_
 change AWP _ _ _ _ _ _
 refine AWP.seq ?_
 refine AWP.frzP 1 h4 z6 rfl m7 fun H8 m9 k10 => ?_
 refine AWP.region (l := [0, 1, 2, 3, 4, 5, 6, 7, 8, 9]) rfl ?_
 refine AOps.cons rfl rfl (AOp.fieldAddrF rfl rfl fl_26_0 ?_)
 refine AOps.cons rfl rfl (AOp.loadF (.sl vs.length (vs.flatMap eV)) rfl rfl ty_22 rfl ?_)
 refine AOps.cons rfl rfl (AOp.len (m := vs.length) rfl rfl (.inr (.inl ⟨_, rfl⟩)) u_22 ?_)
 refine AOps.cons rfl rfl (AOp.bin (.bool (decide ((vs.length : Int) > 60))) rfl rfl rfl rfl ?_)
 refine AOps.cons rfl rfl (AOp.move (.bool (decide ((vs.length : Int) > 60))) rfl rfl ?_)
 by_cases b11 : (vs.length : Int) > 60
 ·
  refine AOps.no rfl rfl rfl rfl rfl rfl rfl (ble_of (decide_eq_true b11) (by decide)) ?_
  refine AOps.no rfl rfl rfl rfl rfl rfl rfl (ble_of (decide_eq_true b11) (by decide)) ?_
  refine AOps.no rfl rfl rfl rfl rfl rfl rfl (ble_of (decide_eq_true b11) (by decide)) ?_
  refine AOps.cons rfl rfl (AOp.pickT (.bool true) rfl rfl (decide_eq_true b11) rfl ?_)
  refine AOps.cons rfl rfl (AOp.assign (.bool true) rfl rfl ?_)
  refine AOps.nil ?_
  change AWP _ _ _ _ _ _
  refine AWP.ret ?_
  refine ⟨_, _, Ghost.refl, .inr rfl, _, Res.one rfl rfl, ?_, m9⟩
  exact (congrArg AV.bool (rfl.trans (decide_eq_true (show greatP vs fs cr from by first | (unfold greatP; omega) | exact decide_eq_decide.2 (by unfold greatP; omega))).symm))
 ·
  refine AOps.yes rfl rfl rfl rfl rfl rfl rfl (decide_eq_false b11) (AOp.loadF (.agg [.sl vs.length (vs.flatMap eV), .sl fs.length (fs.map eF), .sl cr.length (cr.flatMap eCr)]) rfl rfl ty_26 rfl ?_)
  refine AOps.yes rfl rfl rfl rfl rfl rfl rfl (decide_eq_false b11) (AOp.pcall («as» := [.agg [.sl vs.length (vs.flatMap eV), .sl fs.length (fs.map eF), .sl cr.length (cr.flatMap eCr)], .int .i64 300]) rfl rfl (rfl) tf_24 (c_weigh _ _ _ (by omega) (by omega) (by assumption) (by omega) _ (by omega)) ?_)
  intro H12 m13
  have m14 := m9.trans m13
  refine AOps.yes rfl rfl rfl rfl rfl rfl rfl (decide_eq_false b11) (AOp.bin (.bool (decide (weighZ vs fs cr 300 > 300))) rfl rfl rfl rfl ?_)
  refine AOps.cons rfl rfl (AOp.pickF (.bool (decide (weighZ vs fs cr 300 > 300))) rfl rfl (decide_eq_false b11) rfl ?_)
  refine AOps.cons rfl rfl (AOp.assign (.bool (decide (weighZ vs fs cr 300 > 300))) rfl rfl ?_)
  refine AOps.nil ?_
  change AWP _ _ _ _ _ _
  refine AWP.ret ?_
  refine ⟨_, _, Ghost.refl, .inr rfl, _, Res.one rfl rfl, ?_, m14⟩
  exact (congrArg AV.bool (show (decide (weighZ vs fs cr 300 > 300) : Bool) = decide (greatP vs fs cr) from by first | (unfold greatP; omega) | exact decide_eq_decide.2 (by unfold greatP; omega)))
end Go.Proofs.U
namespace Go.AH
variable [Globs]
set_option linter.unusedSectionVars false
open Go
theorem mid_cases {α : Type} {pre post : List α} {a b : α} {Q : Nat → α → Prop} (hq : ∀ j x, (pre ++ a :: post)[j]? = some x → Q j x) (h : Q pre.length a → Q pre.length b) : ∀ j x, (pre ++ b :: post)[j]? = some x → Q j x := fun j x hx => by
  rcases Nat.lt_trichotomy j pre.length with hj | hj | hj
  · rw [List.getElem?_append_left hj] at hx
    exact hq j x (by rw [List.getElem?_append_left hj]; exact hx)
  · subst hj
    rw [List.getElem?_append_right (Nat.le_refl _), Nat.sub_self] at hx
    simp at hx; subst hx
    exact h (hq _ a (by rw [List.getElem?_append_right (Nat.le_refl _), Nat.sub_self]; rfl))
  · refine hq j x ?_
    rw [List.getElem?_append_right (by omega)] at hx ⊢
    obtain ⟨k, hk⟩ : ∃ k, j - pre.length = k + 1 := ⟨j - pre.length - 1, by omega⟩
    rw [hk] at hx ⊢; exact hx
/-- A nil slice within an aggregate may stand for an empty one. -/
theorem VR.nilIn {w : World} {μ : Nat → Nat} {H : Heap} {pre post : List AV} {v : Value} (h : VR w μ H (.agg (pre ++ AV.snil :: post)) v) : VR w μ H (.agg (pre ++ AV.sl 0 [] :: post)) v := by
  cases h with
  | @agg _ vs hl h =>
    refine .agg (by simpa using hl) fun j x y hx hy => ?_
    exact mid_cases (Q := fun j x => ∀ y, vs[j]? = some y → VR w μ H x y) (fun j x hx y hy => h j x y hx hy) (fun g y hy => VR.nil_sl (g y hy)) j x hx y hy
theorem PC.nilIn {P : Program} {g : FuncId} {pre post pa po : List AV} {r : AV} (h : PC P g (pa ++ .agg (pre ++ AV.sl 0 [] :: post) :: po) r) : PC P g (pa ++ .agg (pre ++ AV.snil :: post) :: po) r := fun H μ w vs hr hv => by
  refine h H μ w vs hr ⟨by simpa using hv.1, fun j x y hx hy => ?_⟩
  exact mid_cases (Q := fun j x => ∀ y, vs.toList[j]? = some y → VR w μ H x y) (fun j x hx y hy => hv.2 j x y hx hy) (fun q y hy => VR.nilIn (q y hy)) j x hx y hy
end Go.AH
namespace Go.Proofs.U
open Go Go.AH Go.Proofs.T
set_option maxRecDepth 20000
abbrev AV4 : List VT := [VT.mk 0 0 0, VT.mk 8 0 0, VT.mk 8 8 0, VT.mk 0 8 0]
abbrev AF4 : List (List Int) := [[0, 1, 2, 3]]
theorem int4 {P : Int → Prop} {n : Int} (h0 : P 0) (h1 : P 1) (h2 : P 2) (h3 : P 3) (hn : n ≤ 4) : ∀ i : Int, 0 ≤ i → i < n → P i := by
  intro i g0 g1
  have : i = 0 ∨ i = 1 ∨ i = 2 ∨ i = 3 := by omega
  rcases this with rfl | rfl | rfl | rfl <;> assumption
theorem ok4 : okS 4 AF4 := by
  refine ⟨by decide, fun f h0 h1 => ?_, int4 (by decide) (by decide) (by decide) (by decide) (by decide)⟩
  have : f = 0 := by simp at h1; omega
  subst this
  refine ⟨by decide, int4 (by decide) (by decide) (by decide) (by decide) (by decide), ?_, int4 (by decide) (by decide) (by decide) (by decide) (by decide)⟩
  intro i k k0 ki il
  have h3 : ((at_ AF4 0).length : Int) = 4 := rfl
  rw [h3] at il
  have : (i = 1 ∧ k = 0) ∨ (i = 2 ∧ k = 0) ∨ (i = 2 ∧ k = 1) ∨ (i = 3 ∧ k = 0) ∨ (i = 3 ∧ k = 1) ∨ (i = 3 ∧ k = 2) := by omega
  rcases this with ⟨rfl, rfl⟩ | ⟨rfl, rfl⟩ | ⟨rfl, rfl⟩ | ⟨rfl, rfl⟩ | ⟨rfl, rfl⟩ | ⟨rfl, rfl⟩ <;> decide
abbrev AT4 : Tp := ⟨eOut AF4 4 4, fansU AF4 4, rndU AF4 4⟩
theorem al_b : buildT AV4.length AF4 = AT4 ∧ buildE AV4.length AF4 = 0 := build_ok ok4
theorem al_s : (sharpR AT4 []).2 = 0 := by decide
theorem al_lev : levelR AV4 AF4 [] = (⟨v1R AV4 (fcR AV4 AF4 AF4.length) AT4 (sharpR AT4 []).1 AV4.length ++ v2R AV4 (fcR AV4 AF4 AF4.length) AT4 (sharpR AT4 []).1 AT4.ed.length ++ fcR AV4 AF4 AF4.length, faR AV4.length AT4 AF4 AF4.length, crR AV4.length AT4 (sharpR AT4 []).1 AT4.ed.length⟩, 0) := by
  have h := level_4 (vs := AV4) (fs := AF4) (cr := []) al_b.2 (by rw [al_b.1]; exact al_s) (by decide)
  rw [al_b.1] at h; exact h
theorem al_0 : (levelR AV4 AF4 []).2 = 0 := by rw [al_lev]
theorem al_v : ((levelR AV4 AF4 []).1.Verts.length : Int) = 9 := by rw [al_lev]; decide +kernel
theorem al_f : ((levelR AV4 AF4 []).1.Faces.length : Int) = 4 := by rw [al_lev]; decide +kernel
theorem al_p : at_ (levelR AV4 AF4 []).1.Verts 0 = VT.mk 1 1 0 := by rw [al_lev]; decide +kernel
theorem al_q : at_ (levelR AV4 AF4 []).1.Verts 8 = VT.mk 4 4 0 := by rw [al_lev]; decide +kernel
theorem kokV {v : VT} (h : inR v.X ∧ inR v.Y ∧ inR v.Z) : KOK Try.prog 42 (.agg (eV v)) := KOK.ints (xs := [v.X, v.Y, v.Z]) rfl (by kernel_rfl) (by kernel_rfl) rfl (by kernel_rfl) rfl rfl (by simp [h])
end Go.Proofs.U
namespace Go.Proofs.U
open Go Go.AH Go.Proofs.T
theorem teq42 : TEq Try.prog 42 := TEq.mk' laid (m := 5) (by decide) (row_lt (by kernel_rfl)) (by kernel_rfl) (by kernel_rfl) (by kernel_rfl)
theorem c_LevelN (vs : List VT) (fs : List (List Int)) (hvl : vs.length ≤ 1000) (hfs : fs.length ≤ 1000) (hfss0 : ∀ l ∈ fs, l.length ≤ 100000) (hsl : (sides fs).length ≤ 50000) : PC Try.prog 15 [.agg [.sl vs.length (vs.flatMap eV), .sl fs.length (fs.map eF), .snil]] (.tup [.agg [.sl (levelR vs fs []).1.Verts.length ((levelR vs fs []).1.Verts.flatMap eV), .sl (levelR vs fs []).1.Faces.length ((levelR vs fs []).1.Faces.map eF), .sl (levelR vs fs []).1.Creases.length ((levelR vs fs []).1.Creases.flatMap eCr)], .int .i64 (levelR vs fs []).2]) :=
  PC.nilIn (pa := []) (pre := [_, _]) (post := []) (po := []) (c_Level vs fs [] hvl hfs hfss0 hsl (by decide) (fun c h => by cases h))
end Go.Proofs.U
namespace Go.Proofs.U
open Go Go.AH Go.Proofs.T
set_option maxRecDepth 4000
theorem level_ok {vs : List VT} {fs : List (List Int)} {cr : List CrT} (h : (levelR vs fs cr).2 = 0) : okS vs.length fs ∧ (sharpR (buildT vs.length fs) cr).2 = 0 ∧ vs.any farV = false ∧ levelR vs fs cr = (⟨v1R vs (fcR vs fs fs.length) (buildT vs.length fs) (sharpR (buildT vs.length fs) cr).1 vs.length ++ v2R vs (fcR vs fs fs.length) (buildT vs.length fs) (sharpR (buildT vs.length fs) cr).1 (buildT vs.length fs).ed.length ++ fcR vs fs fs.length,
    faR vs.length (buildT vs.length fs) fs fs.length, crR vs.length (buildT vs.length fs) (sharpR (buildT vs.length fs) cr).1 (buildT vs.length fs).ed.length⟩, 0) := by
  by_cases h1 : buildE vs.length fs = 0
  · by_cases h2 : (sharpR (buildT vs.length fs) cr).2 = 0
    · cases h3 : vs.any farV
      · exact ⟨build_OK h1, h2, rfl, level_4 h1 h2 h3⟩
      · rw [level_3 h1 h2 h3] at h; cases h
    · rw [level_2 h1 h2] at h; exact absurd h h2
  · rw [level_1 h1] at h; exact absurd h h1
theorem level_no {vs : List VT} {fs : List (List Int)} {cr : List CrT} (h : ¬ (levelR vs fs cr).2 = 0) : (levelR vs fs cr).1 = ⟨[], [], []⟩ := by
  by_cases h1 : buildE vs.length fs = 0
  · by_cases h2 : (sharpR (buildT vs.length fs) cr).2 = 0
    · cases h3 : vs.any farV
      · rw [level_4 h1 h2 h3] at h; exact absurd rfl h
      · rw [level_3 h1 h2 h3]
    · rw [level_2 h1 h2]
  · rw [level_1 h1]
theorem level_vlen {vs : List VT} {fs : List (List Int)} {cr : List CrT} (h : (levelR vs fs cr).2 = 0) : (levelR vs fs cr).1.Verts.length = vs.length + (buildT vs.length fs).ed.length + fs.length := by
  rw [(level_ok h).2.2.2]
  simp only [List.length_append, v1R, v2R, fcR, U_len]; omega
theorem level_vle {vs : List VT} {fs : List (List Int)} {cr : List CrT} (hv : vs.length ≤ 1000) (hf : fs.length ≤ 1000) (hs : (sides fs).length ≤ 50000) : (levelR vs fs cr).1.Verts.length ≤ 60000 := by
  by_cases h : (levelR vs fs cr).2 = 0
  · rw [level_vlen h]
    have := (topo_facts (level_ok h).1 (by omega) hf hs).el
    omega
  · rw [level_no h]; exact Nat.zero_le _
end Go.Proofs.U
namespace Go.Proofs.U
open Go Go.AH Go.Proofs.T
set_option maxRecDepth 4000
set_option linter.unusedSimpArgs false
set_option linter.unusedVariables false
theorem c_alive : PC Try.prog 13 [] (.bool true) := by
 intro H0
 have hav := al_v
 refine ACalls.of_body' (n := 45) rfl rfl rfl rfl ?_
 have m0 := Mono.refl H0
 refine AWP.seq ?_
 refine AWP.region (l := [0]) rfl ?_
 refine AOps.cons rfl rfl (AOp.assign (.bool false) rfl rfl ?_)
 refine AOps.nil ?_
 change AWP _ _ _ _ _ _
 refine AWP.seq ?_
 refine AWP.region (l := [0, 1, 2, 3, 4, 5, 6, 7, 8, 9, 10, 11, 12, 13, 14]) rfl ?_
 refine AOps.cons rfl rfl (AOp.build (cells := [.int .i64 0, .int .i64 0, .int .i64 0]) rfl tz_42 pl_42 rfl rfl ?_)
 refine AOps.cons rfl rfl (AOp.build (cells := [.int .i64 8, .int .i64 0, .int .i64 0]) rfl tz_42 pl_42 rfl rfl ?_)
 refine AOps.cons rfl rfl (AOp.build (cells := [.int .i64 8, .int .i64 8, .int .i64 0]) rfl tz_42 pl_42 rfl rfl ?_)
 refine AOps.cons rfl rfl (AOp.build (cells := [.int .i64 0, .int .i64 8, .int .i64 0]) rfl tz_42 pl_42 rfl rfl ?_)
 refine AOps.cons rfl rfl (AOp.buildSlice (cells := [.int .i64 0, .int .i64 0, .int .i64 0, .int .i64 8, .int .i64 0, .int .i64 0, .int .i64 8, .int .i64 8, .int .i64 0, .int .i64 0, .int .i64 8, .int .i64 0]) rfl u_22 ts_42 tz_42 rfl rfl rfl ?_)
 intro i1 H2 n3 h4 k5
 have z6 := Mono.free m0 n3
 have m7 := Mono.new m0 n3 k5
 refine AOps.cons rfl rfl (AOp.buildSlice (cells := [.int .i64 0, .int .i64 1, .int .i64 2, .int .i64 3]) rfl u_38 ts_3 tz_3 rfl rfl rfl ?_)
 intro i8 H9 n10 h11 k12
 have e13 := ne_new h4 n10
 have z14 := Mono.free m7 n10
 have h15 := keep k12 (ne_new h4 n10) h4
 have m16 := Mono.new m7 n10 k12
 obtain ⟨v17, e18⟩ : ∃ v : AV, v = .slm i8 0 1 0 4 := ⟨_, rfl⟩
 have o19 : Own H0 H9 1 v17 4 [.int .i64 0, .int .i64 1, .int .i64 2, .int .i64 3] := .inr ⟨_, _, e18, h11, z14, rfl⟩
 have no20 : NotId v17 i1 := by rw [e18]; exact NotId.slm e13
 refine AOps.cons rfl rfl ?_
 refine AOp.frz 9 (o19) e18.symm m16 fun H21 m22 k23 => ?_
 have h24 := (k23 _ no20).trans h15
 refine AOp.buildSlice (cells := [.sl ([0, 1, 2, 3] : List Int).length (([0, 1, 2, 3] : List Int).map eI)]) rfl u_23 ts_38 tz_38 rfl rfl rfl ?_
 intro i25 H26 n27 h28 k29
 have e30 := ne_new h24 n27
 have z31 := Mono.free m22 n27
 have h32 := keep k29 (ne_new h24 n27) h24
 have m33 := Mono.new m22 n27 k29
 obtain ⟨v34, e35⟩ : ∃ v : AV, v = .slm i1 0 3 0 4 := ⟨_, rfl⟩
 have o36 : Own H0 H26 3 v34 4 [.int .i64 0, .int .i64 0, .int .i64 0, .int .i64 8, .int .i64 0, .int .i64 0, .int .i64 8, .int .i64 8, .int .i64 0, .int .i64 0, .int .i64 8, .int .i64 0] := .inr ⟨_, _, e35, h32, z6, rfl⟩
 have no37 : NotId v34 i25 := by rw [e35]; exact NotId.slm (Ne.symm e30)
 refine AOps.cons rfl rfl ?_
 refine AOp.frz 8 (o36) e35.symm m33 fun H38 m39 k40 => ?_
 have h41 := (k40 _ no37).trans h28
 obtain ⟨v42, e43⟩ : ∃ v : AV, v = .slm i25 0 1 0 1 := ⟨_, rfl⟩
 have o44 : Own H0 H38 1 v42 1 [.sl ([0, 1, 2, 3] : List Int).length (([0, 1, 2, 3] : List Int).map eI)] := .inr ⟨_, _, e43, h41, z31, rfl⟩
 refine AOp.frz 10 (o44) e43.symm m39 fun H45 m46 k47 => ?_
 refine AOp.build (cells := [.sl ([(VT.mk 0 0 0), (VT.mk 8 0 0), (VT.mk 8 8 0), (VT.mk 0 8 0)] : List VT).length (([(VT.mk 0 0 0), (VT.mk 8 0 0), (VT.mk 8 8 0), (VT.mk 0 8 0)] : List VT).flatMap eV), .sl ([([0, 1, 2, 3] : List Int)] : List (List Int)).length (([([0, 1, 2, 3] : List Int)] : List (List Int)).map eF), .snil]) rfl tz_26 pl_26 rfl rfl ?_
 refine AOps.cons rfl rfl (AOp.pcall («as» := [.agg [.sl ([(VT.mk 0 0 0), (VT.mk 8 0 0), (VT.mk 8 8 0), (VT.mk 0 8 0)] : List VT).length (([(VT.mk 0 0 0), (VT.mk 8 0 0), (VT.mk 8 8 0), (VT.mk 0 8 0)] : List VT).flatMap eV), .sl ([([0, 1, 2, 3] : List Int)] : List (List Int)).length (([([0, 1, 2, 3] : List Int)] : List (List Int)).map eF), .snil]]) rfl rfl (rfl) tf_15 (c_LevelN AV4 AF4 (by decide) (by decide) (by decide) (by decide)) ?_)
 intro H48 m49
 have m50 := m46.trans m49
 refine AOps.cons rfl rfl (AOp.move (.tup [.agg [.sl ((levelR AV4 AF4 []).1.Verts).length (((levelR AV4 AF4 []).1.Verts).flatMap eV), .sl ((levelR AV4 AF4 []).1.Faces).length (((levelR AV4 AF4 []).1.Faces).map eF), .sl ((levelR AV4 AF4 []).1.Creases).length (((levelR AV4 AF4 []).1.Creases).flatMap eCr)], .int .i64 ((levelR AV4 AF4 []).2)]) rfl rfl ?_)
 refine AOps.cons rfl rfl (AOp.extract (.agg [.sl ((levelR AV4 AF4 []).1.Verts).length (((levelR AV4 AF4 []).1.Verts).flatMap eV), .sl ((levelR AV4 AF4 []).1.Faces).length (((levelR AV4 AF4 []).1.Faces).map eF), .sl ((levelR AV4 AF4 []).1.Creases).length (((levelR AV4 AF4 []).1.Creases).flatMap eCr)]) rfl rfl rfl ?_)
 refine AOps.cons rfl rfl (AOp.extract (.int .i64 ((levelR AV4 AF4 []).2)) rfl rfl rfl ?_)
 refine AOps.cons rfl rfl (AOp.alloc rfl tz_26 ?_)
 intro i51 H52 n53 h54 k55
 have z56 := Mono.free m50 n53
 have m57 := Mono.new m50 n53 k55
 refine AOps.cons rfl rfl (AOp.store' (cells' := [.sl ((levelR AV4 AF4 []).1.Verts).length (((levelR AV4 AF4 []).1.Verts).flatMap eV), .sl ((levelR AV4 AF4 []).1.Faces).length (((levelR AV4 AF4 []).1.Faces).map eF), .sl ((levelR AV4 AF4 []).1.Creases).length (((levelR AV4 AF4 []).1.Creases).flatMap eCr)]) (.agg [.sl ((levelR AV4 AF4 []).1.Verts).length (((levelR AV4 AF4 []).1.Verts).flatMap eV), .sl ((levelR AV4 AF4 []).1.Faces).length (((levelR AV4 AF4 []).1.Faces).map eF), .sl ((levelR AV4 AF4 []).1.Creases).length (((levelR AV4 AF4 []).1.Creases).flatMap eCr)]) rfl rfl ts_26 h54 rfl rfl rfl rfl ?_)
 intro H58 h59 k60
 have m62 := Mono.set m57 z56 k60
 refine AOps.cons rfl rfl (AOp.assign (.int .i64 ((levelR AV4 AF4 []).2)) rfl rfl ?_)
 refine AOps.nil ?_
 change AWP _ _ _ _ _ _
 refine AWP.seq ?_
 refine AWP.frzP 1 h59 z56 rfl m62 fun H63 m64 k65 => ?_
 refine AWP.region (l := [0, 1, 2, 3, 4, 5, 6, 7, 8, 9, 10, 11, 12, 13, 14, 15, 16, 17, 18, 19, 20, 21, 22, 23, 24, 25, 26, 27, 28, 29, 30]) rfl ?_
 refine AOps.cons rfl rfl (AOp.move (.int .i64 ((levelR AV4 AF4 []).2)) rfl rfl ?_)
 refine AOps.cons rfl rfl (AOp.bin (.bool (decide ((levelR AV4 AF4 []).2 = 0))) rfl rfl rfl ieq ?_)
 refine AOps.cons rfl rfl (AOp.move (.bool (decide ((levelR AV4 AF4 []).2 = 0))) rfl rfl ?_)
 refine AOps.yes rfl rfl rfl rfl rfl rfl rfl (decide_eq_true (al_0)) (AOp.fieldAddrF rfl rfl fl_26_0 ?_)
 refine AOps.yes rfl rfl rfl rfl rfl rfl rfl (decide_eq_true (al_0)) (AOp.loadF (.sl ((levelR AV4 AF4 []).1.Verts).length (((levelR AV4 AF4 []).1.Verts).flatMap eV)) rfl rfl ty_22 rfl ?_)
 refine AOps.yes rfl rfl rfl rfl rfl rfl rfl (decide_eq_true (al_0)) (AOp.len (m := ((levelR AV4 AF4 []).1.Verts).length) rfl rfl (.inr (.inl ⟨_, rfl⟩)) u_22 ?_)
 refine AOps.yes rfl rfl rfl rfl rfl rfl rfl (decide_eq_true (al_0)) (AOp.bin (.bool (decide (((((levelR AV4 AF4 []).1.Verts).length) : Int) = 9))) rfl rfl rfl ieq ?_)
 refine AOps.cons rfl rfl (AOp.pickT (.bool (decide (((((levelR AV4 AF4 []).1.Verts).length) : Int) = 9))) rfl rfl (decide_eq_true (al_0)) rfl ?_)
 refine AOps.cons rfl rfl (AOp.move (.bool (decide (((((levelR AV4 AF4 []).1.Verts).length) : Int) = 9))) rfl rfl ?_)
 refine AOps.yes rfl rfl rfl rfl rfl rfl rfl (decide_eq_true (al_v)) (AOp.fieldAddrF rfl rfl fl_26_1 ?_)
 refine AOps.yes rfl rfl rfl rfl rfl rfl rfl (decide_eq_true (al_v)) (AOp.loadF (.sl ((levelR AV4 AF4 []).1.Faces).length (((levelR AV4 AF4 []).1.Faces).map eF)) rfl rfl ty_23 rfl ?_)
 refine AOps.yes rfl rfl rfl rfl rfl rfl rfl (decide_eq_true (al_v)) (AOp.len (m := ((levelR AV4 AF4 []).1.Faces).length) rfl rfl (.inr (.inl ⟨_, rfl⟩)) u_23 ?_)
 refine AOps.yes rfl rfl rfl rfl rfl rfl rfl (decide_eq_true (al_v)) (AOp.bin (.bool (decide (((((levelR AV4 AF4 []).1.Faces).length) : Int) = 4))) rfl rfl rfl ieq ?_)
 refine AOps.cons rfl rfl (AOp.pickT (.bool (decide (((((levelR AV4 AF4 []).1.Faces).length) : Int) = 4))) rfl rfl (decide_eq_true (al_v)) rfl ?_)
 refine AOps.cons rfl rfl (AOp.move (.bool (decide (((((levelR AV4 AF4 []).1.Faces).length) : Int) = 4))) rfl rfl ?_)
 refine AOps.yes rfl rfl rfl rfl rfl rfl rfl (decide_eq_true (al_f)) (AOp.fieldAddrF rfl rfl fl_26_0 ?_)
 refine AOps.yes rfl rfl rfl rfl rfl rfl rfl (decide_eq_true (al_f)) (AOp.loadF (.sl ((levelR AV4 AF4 []).1.Verts).length (((levelR AV4 AF4 []).1.Verts).flatMap eV)) rfl rfl ty_22 rfl ?_)
 refine AOps.yes rfl rfl rfl rfl rfl rfl rfl (decide_eq_true (al_f)) (AOp.indexAddrS rfl rfl rfl sl_22 (by omega) (by omega) ?_)
 refine AOps.yes rfl rfl rfl rfl rfl rfl rfl (decide_eq_true (al_f)) (AOp.loadF (.agg [.int .i64 ((at_ ((levelR AV4 AF4 []).1.Verts) 0).X), .int .i64 ((at_ ((levelR AV4 AF4 []).1.Verts) 0).Y), .int .i64 ((at_ ((levelR AV4 AF4 []).1.Verts) 0).Z)]) rfl rfl ty_42 (ldM eV_len (by omega) (by omega)) ?_)
 refine AOps.yes rfl rfl rfl rfl rfl rfl rfl (decide_eq_true (al_f)) (AOp.build (cells := [.int .i64 1, .int .i64 1, .int .i64 0]) rfl tz_42 pl_42 rfl rfl ?_)
 refine AOps.yes rfl rfl rfl rfl rfl rfl rfl (decide_eq_true (al_f)) (AOp.eqAggD rfl rfl rfl teq42 (kokV (v := (at_ ((levelR AV4 AF4 []).1.Verts) 0)) (by rw [al_p]; exact ⟨by unfold inR; decide, by unfold inR; decide, by unfold inR; decide⟩)) (kokV (v := (VT.mk 1 1 0)) (by exact ⟨by unfold inR; decide, by unfold inR; decide, by unfold inR; decide⟩)) (eV_iff (at_ ((levelR AV4 AF4 []).1.Verts) 0) (VT.mk 1 1 0)) ?_)
 refine AOps.cons rfl rfl (AOp.pickT (.bool (decide ((at_ ((levelR AV4 AF4 []).1.Verts) 0) = (VT.mk 1 1 0)))) rfl rfl (decide_eq_true (al_f)) rfl ?_)
 refine AOps.cons rfl rfl (AOp.move (.bool (decide ((at_ ((levelR AV4 AF4 []).1.Verts) 0) = (VT.mk 1 1 0)))) rfl rfl ?_)
 refine AOps.yes rfl rfl rfl rfl rfl rfl rfl (decide_eq_true (al_p)) (AOp.fieldAddrF rfl rfl fl_26_0 ?_)
 refine AOps.yes rfl rfl rfl rfl rfl rfl rfl (decide_eq_true (al_p)) (AOp.loadF (.sl ((levelR AV4 AF4 []).1.Verts).length (((levelR AV4 AF4 []).1.Verts).flatMap eV)) rfl rfl ty_22 rfl ?_)
 refine AOps.yes rfl rfl rfl rfl rfl rfl rfl (decide_eq_true (al_p)) (AOp.indexAddrS rfl rfl rfl sl_22 (by omega) (by omega) ?_)
 refine AOps.yes rfl rfl rfl rfl rfl rfl rfl (decide_eq_true (al_p)) (AOp.loadF (.agg [.int .i64 ((at_ ((levelR AV4 AF4 []).1.Verts) 8).X), .int .i64 ((at_ ((levelR AV4 AF4 []).1.Verts) 8).Y), .int .i64 ((at_ ((levelR AV4 AF4 []).1.Verts) 8).Z)]) rfl rfl ty_42 (ldM eV_len (by omega) (by omega)) ?_)
 refine AOps.yes rfl rfl rfl rfl rfl rfl rfl (decide_eq_true (al_p)) (AOp.build (cells := [.int .i64 4, .int .i64 4, .int .i64 0]) rfl tz_42 pl_42 rfl rfl ?_)
 refine AOps.yes rfl rfl rfl rfl rfl rfl rfl (decide_eq_true (al_p)) (AOp.eqAggD rfl rfl rfl teq42 (kokV (v := (at_ ((levelR AV4 AF4 []).1.Verts) 8)) (by rw [al_q]; exact ⟨by unfold inR; decide, by unfold inR; decide, by unfold inR; decide⟩)) (kokV (v := (VT.mk 4 4 0)) (by exact ⟨by unfold inR; decide, by unfold inR; decide, by unfold inR; decide⟩)) (eV_iff (at_ ((levelR AV4 AF4 []).1.Verts) 8) (VT.mk 4 4 0)) ?_)
 refine AOps.cons rfl rfl (AOp.pickT (.bool (decide ((at_ ((levelR AV4 AF4 []).1.Verts) 8) = (VT.mk 4 4 0)))) rfl rfl (decide_eq_true (al_p)) rfl ?_)
 refine AOps.cons rfl rfl (AOp.assign (.bool (decide ((at_ ((levelR AV4 AF4 []).1.Verts) 8) = (VT.mk 4 4 0)))) rfl rfl ?_)
 refine AOps.nil ?_
 change AWP _ _ _ _ _ _
 refine AWP.ret ?_
 refine ⟨_, _, Ghost.refl, .inr rfl, _, Res.one rfl rfl, ?_, m64⟩
 exact (congrArg AV.bool (show (decide ((at_ ((levelR AV4 AF4 []).1.Verts) 8) = (VT.mk 4 4 0)) : Bool) = true from by first | rfl | exact decide_eq_true al_q))
end Go.Proofs.U
namespace Go.Proofs.U
open Go Go.AH Go.Proofs.T
set_option maxRecDepth 4000
/-! ### Weighed sums within a box -/
def inN (lo hi d x : Int) : Prop := lo * d ≤ x ∧ x ≤ hi * d
theorem inN_add {lo hi d e x y : Int} (h : inN lo hi d x) (g : inN lo hi e y) : inN lo hi (d + e) (x + y) := by
  unfold inN at *; rw [Int.mul_add, Int.mul_add]; omega
theorem inN_scale {lo hi k x : Int} (h : lo ≤ x ∧ x ≤ hi) (hk : 0 ≤ k) : inN lo hi k (x * k) := ⟨Int.mul_le_mul_of_nonneg_right h.1 hk, Int.mul_le_mul_of_nonneg_right h.2 hk⟩
theorem round_inN {lo hi d x : Int} (hd : 1 ≤ d) (h : inN lo hi d x) : lo ≤ roundZ x d ∧ roundZ x d ≤ hi := by
  obtain ⟨h1, h2⟩ := h
  unfold roundZ
  have hp : 0 < 2 * d := by omega
  have e1 : lo * (2 * d) = 2 * (lo * d) := by rw [Int.mul_left_comm]
  have e2 : (hi + 1) * (2 * d) = 2 * (hi * d) + 2 * d := by rw [Int.add_mul, Int.one_mul, Int.mul_left_comm]
  constructor
  · refine Int.le_ediv_of_mul_le hp ?_
    rw [e1]; omega
  · have : (2 * x + d) / (2 * d) < hi + 1 := by
      refine Int.ediv_lt_of_lt_mul hp ?_
      rw [e2]; omega
    omega
/-- A sum of so many points of a box. -/
def hasN (b : BoxT) (d : Int) (s : VT) : Prop := inN b.Lo.X b.Hi.X d s.X ∧ inN b.Lo.Y b.Hi.Y d s.Y ∧ inN b.Lo.Z b.Hi.Z d s.Z
section
variable {b : BoxT} {d e k : Int} {s t p : VT}
theorem hasN_add (h : hasN b d s) (g : hasN b e t) : hasN b (d + e) (addV s t) := ⟨inN_add h.1 g.1, inN_add h.2.1 g.2.1, inN_add h.2.2 g.2.2⟩
theorem hasN_scale (h : hasB b p) (hk : 0 ≤ k) : hasN b k (scaleV p k) := ⟨inN_scale h.1 hk, inN_scale h.2.1 hk, inN_scale h.2.2 hk⟩
theorem hasN_one (h : hasB b p) : hasN b 1 p := by have := hasN_scale (k := 1) h (by decide); rwa [scaleV_one] at this
theorem hasN_zero : hasN b 0 zV := by unfold hasN inN zV; simp
theorem hasN_re (h : hasN b d s) (e : d = k) : hasN b k s := e ▸ h
theorem of_has (hd : 1 ≤ d) (h : hasN b d s) : hasB b (ofV s d) := ⟨round_inN hd h.1, round_inN hd h.2.1, round_inN hd h.2.2⟩
theorem hasN_sum : ∀ {l : List VT}, (∀ x ∈ l, hasB b x) → hasN b l.length (sumL l)
  | [], _ => hasN_zero
  | x :: l, h => by
    rw [sumL_cons]
    exact hasN_re (hasN_add (hasN_one (h x List.mem_cons_self)) (hasN_sum fun y hy => h y (List.mem_cons_of_mem _ hy))) (by rw [List.length_cons]; push_cast; omega)
end
section
variable {b : BoxT} {vs fc : List VT}
theorem face_has {f : List Int} (hb : ∀ p ∈ vs, hasB b p) (hf : ∀ k ∈ f, 0 ≤ k ∧ k < (vs.length : Int)) (hl : 1 ≤ f.length) : hasB b (faceP vs f) := by
  refine of_has (by omega) (hasN_re (hasN_sum fun x hx => ?_) (by rw [List.length_map]))
  obtain ⟨k, hk, rfl⟩ := List.mem_map.1 hx
  exact hb _ (at_mem (hf k hk).1 (hf k hk).2)
theorem edge_has {e : Ed} {s : Int} (hA : hasB b (at_ vs e.A)) (hB : hasB b (at_ vs e.B)) (hFG : s = 0 → hasB b (at_ fc e.F) ∧ hasB b (at_ fc e.G)) : hasB b (edgeP vs fc e s) := by
  unfold edgeP
  split
  · rename_i h
    exact of_has (by decide) (hasN_add (hasN_add (hasN_add (hasN_one hA) (hasN_one hB)) (hasN_one (hFG h).1)) (hasN_one (hFG h).2))
  · exact of_has (by decide) (hasN_add (hasN_one hA) (hasN_one hB))
theorem oth_has {ed : List Ed} {v : Int} {es : List Int} (h : ∀ e ∈ es, hasB b (othV vs (at_ ed e) v)) : hasN b es.length (othL vs ed v es) := by
  unfold othL
  refine hasN_re (hasN_sum fun x hx => ?_) (by rw [List.length_map])
  obtain ⟨e, he, rfl⟩ := List.mem_map.1 hx
  exact h e he
theorem vert_has {ed : List Ed} {sh fan es : List Int} {v : Int} (hv : hasB b (at_ vs v)) (ho : ∀ e ∈ es, hasB b (othV vs (at_ ed e) v)) (hf : ∀ f ∈ fan, hasB b (at_ fc f)) (hn : (hardF sh es).length < 2 → es.length = fan.length ∧ 2 ≤ fan.length) : hasB b (vertP vs fc ed sh fan es v) := by
  unfold vertP
  split
  · exact hv
  · split
    · rename_i h2
      exact of_has (by decide) (hasN_re (hasN_add (oth_has fun e he => ho e ((List.mem_filter.1 he).1)) (hasN_scale hv (by decide))) (by rw [h2]; rfl))
    · rename_i h1 h2
      obtain ⟨e1, e2⟩ := hn (by omega)
      have hp : 0 < (fan.length : Int) * (fan.length : Int) := Int.mul_pos (by omega) (by omega)
      refine of_has (by omega) (hasN_re (hasN_add (hasN_add (oth_has ho) (hasN_scale hv (Int.mul_nonneg (by omega) (by omega)))) (hasN_sum fun x hx => ?_)) ?_)
      · obtain ⟨k, hk, rfl⟩ := List.mem_map.1 hx
        exact hf k hk
      · rw [e1, List.length_map, Int.mul_sub]; omega
end
end Go.Proofs.U
namespace Go.Proofs.U
open Go Go.AH Go.Proofs.T
set_option maxRecDepth 4000
theorem two_len {α : Type} {l : List α} {x y : α} (hx : x ∈ l) (hy : y ∈ l) (h : x ≠ y) : 2 ≤ l.length := by
  match l, hx, hy with
  | [], hx, _ => cases hx
  | [a], hx, hy =>
    rw [List.mem_singleton] at hx hy
    exact absurd (hx.trans hy.symm) h
  | _ :: _ :: _, _, _ => simp
theorem mem_adj {ed : List Ed} {k x e : Int} : e ∈ adjU ed k x ↔ (0 ≤ e ∧ e < k) ∧ ((at_ ed e).A = x ∨ (at_ ed e).B = x) := by
  constructor
  · intro h
    obtain ⟨h1, h2⟩ := adj_mem h
    exact ⟨h1, h2.imp Eq.symm Eq.symm⟩
  · rintro ⟨h1, h2⟩
    unfold adjU
    refine List.mem_flatMap.2 ⟨e, List.mem_map.2 ⟨e.toNat, List.mem_range.2 (by omega), by omega⟩, ?_⟩
    rcases h2 with h2 | h2
    · exact List.mem_append.2 (.inl (by rw [if_pos h2]; simp))
    · exact List.mem_append.2 (.inr (by rw [if_pos h2]; simp))
theorem adj_nodup {ed : List Ed} (hne : ∀ e ∈ ed, e.A ≠ e.B) : ∀ {k : Int}, k ≤ ed.length → ∀ x, (adjU ed k x).Nodup := by
  intro k hk x
  have key : ∀ m : Nat, (m : Int) ≤ ed.length → (adjU ed m x).Nodup := by
    intro m
    induction m with
    | zero => intro _; exact List.nodup_nil
    | succ m ih =>
      intro hm
      have e1 := adj_next (ed := ed) (k := (m : Int)) (by omega) x
      have e2 : ((m + 1 : Nat) : Int) = (m : Int) + 1 := by omega
      rw [e2, e1]; unfold adjM
      have hm2 := ih (by omega)
      have hno : ((m : Int)) ∉ adjU ed m x := fun h => by have := (mem_adj.1 h).1; omega
      have hab := hne _ (at_mem (l := ed) (i := (m : Int)) (by omega) (by omega))
      by_cases hA : (at_ ed (m : Int)).A = x
      · rw [if_pos hA, if_neg (fun hB => hab (hA.trans hB.symm)), List.append_nil]
        exact List.nodup_append.2 ⟨hm2, by simp, fun a ha b hb => by simp at hb; subst hb; rintro rfl; exact hno ha⟩
      · rw [if_neg hA, List.append_nil]
        split
        · exact List.nodup_append.2 ⟨hm2, by simp, fun a ha b hb => by simp at hb; subst hb; rintro rfl; exact hno ha⟩
        · rw [List.append_nil]; exact hm2
  by_cases h0 : 0 ≤ k
  · have := key k.toNat (by omega)
    rwa [Int.toNat_of_nonneg h0] at this
  · have e : k.toNat = 0 := by omega
    unfold adjU; rw [e]; exact List.nodup_nil
section
variable {n : Int} {fs : List (List Int)} {sh : List Int} {v : Int}
/-- Where no sharp edges meet there is no rim. -/
theorem no_lone (h : okS n fs) (sf : ShF (buildT n fs) sh) (h0 : 0 ≤ v) (h1 : v < n) (hh : (hardF sh (adjU (buildT n fs).ed (buildT n fs).ed.length v)).length < 2) : ∀ e ∈ (buildT n fs).ed, T.lone v e = false := by
  have hl := few_law h h0 h1
  unfold cntJ at hl
  rw [take_all (Int.le_refl _)] at hl
  have hnd : ((buildT n fs).ed.filter (T.lone v)).Nodup := by
    rw [(build_ok h).1, List.nodup_iff_pairwise_ne]
    refine List.Pairwise.filter _ ((eOut_sorted fs n).imp ?_)
    intro x y g e
    subst e; unfold ltE at g; omega
  have hin : ∀ e ∈ (buildT n fs).ed.filter (T.lone v), ∃ i, at_ (buildT n fs).ed i = e ∧ i ∈ hardF sh (adjU (buildT n fs).ed (buildT n fs).ed.length v) := fun e he => by
    obtain ⟨g1, g2⟩ := List.mem_filter.1 he
    obtain ⟨i, i0, i1, rfl⟩ := mem_at g1
    unfold T.lone at g2; rw [decide_eq_true_eq] at g2
    have hed : edgedS (buildT n fs) i = true := by unfold edgedS; rw [decide_eq_true_eq]; exact ⟨i0, i1, g2.2⟩
    have := sf.edged i i0 i1 hed
    exact ⟨i, rfl, List.mem_filter.2 ⟨mem_adj.2 ⟨⟨i0, i1⟩, g2.1⟩, by rw [decide_eq_true_eq]; omega⟩⟩
  have hz : (buildT n fs).ed.filter (T.lone v) = [] := by
    by_cases hr : fanR fs v = true
    · rw [if_pos hr] at hl; exact List.eq_nil_of_length_eq_zero (by omega)
    · rw [if_neg hr] at hl
      exfalso
      match hf : (buildT n fs).ed.filter (T.lone v), hl, hnd, hin with
      | [a, b], _, hnd, hin =>
        obtain ⟨i, e1, m1⟩ := hin a (by simp)
        obtain ⟨j, e2, m2⟩ := hin b (by simp)
        have hab : a ≠ b := by simp at hnd; exact hnd
        have := two_len m1 m2 (fun e => hab (by rw [← e1, ← e2, e]))
        omega
      | [], hl, _, _ => simp at hl
      | [_], hl, _, _ => simp at hl
      | _ :: _ :: _ :: _, hl, _, _ => simp at hl; omega
  intro e he
  cases hx : T.lone v e
  · rfl
  · have := List.mem_filter.2 ⟨he, hx⟩
    rw [hz] at this; cases this
end
end Go.Proofs.U
namespace Go.Proofs.U
open Go Go.AH Go.Proofs.T
set_option maxRecDepth 4000
def otE (e : Ed) (v : Int) : Int := e.A + e.B - v
section
variable {n : Int} {fs : List (List Int)} {v : Int}
theorem ed_at (h : okS n fs) {e : Ed} (he : e ∈ (buildT n fs).ed) (hv : e.A = v ∨ e.B = v) (hl : T.lone v e = false) : 0 ≤ alongS fs v (otE e v) ∧ 0 ≤ alongS fs (otE e v) v := by
  rw [(build_ok h).1] at he
  obtain ⟨a, b, c, hF, hG, hp⟩ := mem_eOut.1 he
  have hm : ¬ min e.F e.G < 0 := fun g => by
    have : T.lone v e = true := by unfold T.lone; rw [decide_eq_true_eq]; exact ⟨hv, g⟩
    rw [this] at hl; cases hl
  unfold otE
  rcases hv with hv | hv
  · have e1 : e.A + e.B - v = e.B := by omega
    rw [e1, ← hv, ← hF, ← hG]; omega
  · have e1 : e.A + e.B - v = e.A := by omega
    rw [e1, ← hv, ← hF, ← hG]; omega
theorem ed_of (h : okS n fs) {y : Int} (h0 : 0 ≤ v) (h1 : v < n) (y0 : 0 ≤ y) (y1 : y < n) (hne : y ≠ v) (ha : 0 ≤ alongS fs v y ∨ 0 ≤ alongS fs y v) : ∃ e ∈ (buildT n fs).ed, (e.A = v ∨ e.B = v) ∧ otE e v = y := by
  rw [(build_ok h).1]
  rcases Int.lt_or_gt_of_ne hne with g | g
  · exact ⟨⟨y, v, alongS fs y v, alongS fs v y⟩, mem_eOut.2 ⟨y0, g, h1, rfl, rfl, ha.symm⟩, .inr rfl, by unfold otE; simp only; omega⟩
  · exact ⟨⟨v, y, alongS fs v y, alongS fs y v⟩, mem_eOut.2 ⟨h0, g, y1, rfl, rfl, ha⟩, .inl rfl, by unfold otE; simp only; omega⟩
theorem ed_eq (h : okS n fs) {e g : Ed} (he : e ∈ (buildT n fs).ed) (hg : g ∈ (buildT n fs).ed) (h1 : e.A = v ∨ e.B = v) (h2 : g.A = v ∨ g.B = v) (ho : otE e v = otE g v) : e = g := by
  rw [(build_ok h).1] at he hg
  obtain ⟨a1, b1, c1, F1, G1, _⟩ := mem_eOut.1 he
  obtain ⟨a2, b2, c2, F2, G2, _⟩ := mem_eOut.1 hg
  unfold otE at ho
  have eA : e.A = g.A := by omega
  have eB : e.B = g.B := by omega
  obtain ⟨x1, x2, x3, x4⟩ := e
  obtain ⟨y1, y2, y3, y4⟩ := g
  simp only at *
  subst eA eB
  rw [F1, G1, F2, G2]
/-- As many edges as faces. -/
theorem adj_fan (h : okS n fs) (h0 : 0 ≤ v) (h1 : v < n) (hl : ∀ e ∈ (buildT n fs).ed, T.lone v e = false) : (adjU (buildT n fs).ed (buildT n fs).ed.length v).length = (fanL fs v).length ∧ 2 ≤ (fanL fs v).length := by
  have hg := h.2.1
  have hne : ∀ e ∈ (buildT n fs).ed, e.A ≠ e.B := fun e he => by
    rw [(build_ok h).1] at he; have := mem_eOut.1 he; omega
  have hpw : (buildT n fs).ed.Pairwise ltE := by rw [(build_ok h).1]; exact eOut_sorted fs n
  have hinj : ∀ i j : Int, 0 ≤ i → i < (buildT n fs).ed.length → 0 ≤ j → j < (buildT n fs).ed.length → at_ (buildT n fs).ed i = at_ (buildT n fs).ed j → i = j := by
    have key : ∀ i j : Int, 0 ≤ i → i < j → j < (buildT n fs).ed.length → at_ (buildT n fs).ed i ≠ at_ (buildT n fs).ed j := fun i j i0 ij j1 e => by
      have hi : i.toNat < (buildT n fs).ed.length := by omega
      have hj : j.toNat < (buildT n fs).ed.length := by omega
      have := List.pairwise_iff_getElem.1 hpw i.toNat j.toNat hi hj (by omega)
      have e1 : at_ (buildT n fs).ed i = (buildT n fs).ed[i.toNat] := by simp [at_, hi]
      have e2 : at_ (buildT n fs).ed j = (buildT n fs).ed[j.toNat] := by simp [at_, hj]
      rw [e1, e2] at e; rw [e] at this
      unfold ltE at this; omega
    intro i j i0 i1 j0 j1 e
    rcases Int.lt_trichotomy i j with g | g | g
    · exact absurd e (key i j i0 g j1)
    · exact g
    · exact absurd e.symm (key j i j0 g i1)
  have hes : ∀ e ∈ adjU (buildT n fs).ed (buildT n fs).ed.length v, (0 ≤ alongS fs v (otE (at_ (buildT n fs).ed e) v) ∧ 0 ≤ alongS fs (otE (at_ (buildT n fs).ed e) v) v) := fun e he => by
    obtain ⟨⟨e0, e1⟩, hv⟩ := mem_adj.1 he
    have hm := at_mem e0 e1
    exact ed_at h hm hv (hl _ hm)
  have hnd : ((adjU (buildT n fs).ed (buildT n fs).ed.length v).map fun e => alongS fs v (otE (at_ (buildT n fs).ed e) v)).Nodup := by
    rw [List.nodup_iff_pairwise_ne, List.pairwise_map]
    refine (List.nodup_iff_pairwise_ne.1 (adj_nodup hne (Int.le_refl _) v)).imp_of_mem ?_
    intro a b ha hb hab e
    obtain ⟨⟨a0, a1⟩, hva⟩ := mem_adj.1 ha
    obtain ⟨⟨b0, b1⟩, hvb⟩ := mem_adj.1 hb
    have g1 := (of_side hg (hes a ha).1).2.2
    have g2 := (of_side hg (hes b hb).1).2.2
    rw [e, g2] at g1
    exact hab (hinj a b a0 a1 b0 b1 (ed_eq h (at_mem a0 a1) (at_mem b0 b1) hva hvb g1.symm))
  have hidx : ∀ y : Int, 0 ≤ y → y < n → y ≠ v → (0 ≤ alongS fs v y ∨ 0 ≤ alongS fs y v) → ∃ e ∈ adjU (buildT n fs).ed (buildT n fs).ed.length v, otE (at_ (buildT n fs).ed e) v = y := fun y y0 y1 yv ha => by
    obtain ⟨e, he, hv, ho⟩ := ed_of h h0 h1 y0 y1 yv ha
    obtain ⟨i, i0, i1, rfl⟩ := mem_at he
    exact ⟨i, mem_adj.2 ⟨⟨i0, i1⟩, hv⟩, ho⟩
  have hnv : ∀ f : Int, 0 ≤ f → f < fs.length → v ∈ at_ fs f → nextS (at_ fs f) v 1 ≠ v ∧ nextS (at_ fs f) v (-1) ≠ v ∧ nextS (at_ fs f) v 1 ≠ nextS (at_ fs f) v (-1) := fun f f0 f1 fv => by
    have ha := good_apart hg f0 f1
    have h3 := (hg f f0 f1).1
    obtain ⟨w1, w2⟩ := way_next ha fv
    obtain ⟨i, i0, i1, e1, e2⟩ := mem_wayF.1 w1
    obtain ⟨j, j0, j1, e3, e4⟩ := mem_wayF.1 w2
    have hm1 := mod_in (x := i + 1) (y := ((at_ fs f).length : Int)) (by omega)
    have hm2 := mod_in (x := j + 1) (y := ((at_ fs f).length : Int)) (by omega)
    have inj : ∀ p q : Int, 0 ≤ p → p < (at_ fs f).length → 0 ≤ q → q < (at_ fs f).length → at_ (at_ fs f) p = at_ (at_ fs f) q → p = q := fun p q p0 p1 q0 q1 e => by
      rcases Int.lt_trichotomy p q with g | g | g
      · exact absurd e.symm (ha q p p0 g q1)
      · exact g
      · exact absurd e (ha p q q0 g p1)
    have hij := inj i _ i0 i1 hm2.1 hm2.2 (e1.symm.trans e4)
    have c1 : (i + 1) % ((at_ fs f).length : Int) = if i + 1 = (at_ fs f).length then 0 else i + 1 := by
      split
      · rename_i g; rw [g]; exact Int.emod_self
      · exact Int.emod_eq_of_lt (by omega) (by omega)
    have c2 : (j + 1) % ((at_ fs f).length : Int) = if j + 1 = (at_ fs f).length then 0 else j + 1 := by
      split
      · rename_i g; rw [g]; exact Int.emod_self
      · exact Int.emod_eq_of_lt (by omega) (by omega)
    refine ⟨fun e => ?_, fun e => ?_, fun e => ?_⟩
    · have := inj _ i hm1.1 hm1.2 i0 i1 (e2.symm.trans (e.trans e1)); rw [c1] at this; split at this <;> omega
    · have := inj j i j0 j1 i0 i1 (e3.symm.trans (e.trans e1)); rw [c2] at hij; split at hij <;> omega
    · have := inj _ j hm1.1 hm1.2 j0 j1 (e2.symm.trans (e.trans e3)); rw [c1] at this; rw [c2] at hij; split at this <;> split at hij <;> omega
  have hmem : ∀ f : Int, f ∈ ((adjU (buildT n fs).ed (buildT n fs).ed.length v).map fun e => alongS fs v (otE (at_ (buildT n fs).ed e) v)) ↔ f ∈ mineU fs v fs.length := fun f => by
    constructor
    · intro hf
      obtain ⟨e, he, rfl⟩ := List.mem_map.1 hf
      have g := of_side hg (hes e he).1
      exact mem_mineU.2 ⟨(hes e he).1, g.1, g.2.1⟩
    · intro hf
      obtain ⟨f0, f1, fv⟩ := mem_mineU.1 hf
      have hs := side_next hg f0 f1 fv
      have hn := next_in hg f0 f1 fv 1
      obtain ⟨e, he, ho⟩ := hidx _ hn.1 hn.2 (hnv f f0 f1 fv).1 (.inl (by rw [hs]; exact f0))
      exact List.mem_map.2 ⟨e, he, by rw [ho, hs]⟩
  have hperm := (List.perm_ext_iff_of_nodup hnd (mine_nodup fs v fs.length)).2 hmem
  have hlen := hperm.length_eq
  rw [List.length_map, ← fan_mine h h0 h1] at hlen
  refine ⟨hlen, ?_⟩
  obtain ⟨hmn, _⟩ := fan_of h h0 h1
  obtain ⟨f, hf⟩ := List.exists_mem_of_ne_nil _ hmn
  obtain ⟨f0, f1, fv⟩ := mem_mineU.1 hf
  have q := hnv f f0 f1 fv
  have n1 := next_in hg f0 f1 fv 1
  have n2 := next_in hg f0 f1 fv (-1)
  obtain ⟨a, ha, oa⟩ := hidx _ n1.1 n1.2 q.1 (.inl (by rw [side_next hg f0 f1 fv]; exact f0))
  obtain ⟨b, hb, ob⟩ := hidx _ n2.1 n2.2 q.2.1 (.inr (by rw [side_prev hg f0 f1 fv]; exact f0))
  have := two_len ha hb (fun e => q.2.2 (by rw [← oa, ← ob, e]))
  omega
end
end Go.Proofs.U
namespace Go.Proofs.U
open Go Go.AH Go.Proofs.T
set_option maxRecDepth 4000
theorem fan_at {n : Int} {fs : List (List Int)} (h : okS n fs) {v : Int} (h0 : 0 ≤ v) (h1 : v < n) : at_ (buildT n fs).fan v = fanL fs v := by
  have e2 : ((v.toNat : Nat) : Int) = v := by omega
  have h5 : v.toNat < n.toNat := by omega
  rw [(build_ok h).1]; simp [at_, fansU, h5, e2]
theorem oth_cases {vs : List VT} {e : Ed} {v : Int} (hv : e.A = v ∨ e.B = v) : othV vs e v = at_ vs e.A ∨ othV vs e v = at_ vs e.B := by
  unfold othV
  rcases hv with h | h
  · right; congr 1; omega
  · left; congr 1; omega
end Go.Proofs.U
namespace Go.AH
variable [Globs]
set_option linter.unusedSectionVars false
open Go Go.Deep
def nH : Heap := fun _ => none
abbrev idM : Nat → Nat := fun i => i
theorem nH_owned {μ : Nat → Nat} {b : Nat} : ¬ Owned μ nH b := by
  rintro ⟨_, _, h, _⟩; cases h
theorem nH_HR {w : World} {μ : Nat → Nat} (hg : GOK w μ nH) : HR w μ nH where
  glob := hg
  rows := fun _ _ _ h => by cases h
  maps := fun _ _ h => by cases h
  born := fun _ _ _ _ h => by cases h
  iters := fun _ _ h => by cases h
  inj := fun _ _ _ _ h => by cases h
  fin := ⟨0, fun _ _ => rfl⟩
theorem Ext.since0 {W W' : World} {μ μ' : Nat → Nat} {H' : Heap} (h : Ext W μ nH W' μ' H') : World.Since W.heap.size W W' :=
  ⟨h.rest.2.1, h.rest.1, h.rest.2.2.1, h.size, fun k hk => (h.frz k ⟨hk, nH_owned⟩).1⟩
theorem cell_spot0 {W : World} {a : Addr} {v : Value} (h : W.cell? a = some v) : a = ⟨a.block, a.off, none⟩ ∧ a.block < W.heap.size := by
  unfold World.cell? at h
  split at h
  · rename_i c e fr hb
    have hlt : a.block < W.heap.size := (Array.getElem?_eq_some_iff.1 hb).1
    split at h
    · cases h
    · rename_i hs
      refine ⟨?_, hlt⟩
      cases a with
      | mk b o s => cases s with
        | none => rfl
        | some s => simp at hs
  · cases h
section
variable {w : World} {μ : Nat → Nat} {H : Heap}
theorem VRs.nil : VRs w μ H [] [] := ⟨rfl, fun j x y h => by simp at h⟩
theorem VRs.one {x : AV} {v : Value} (h : VR w μ H x v) : VRs w μ H [x] [v] := ⟨rfl, fun j a b h1 h2 => by
  match j with
  | 0 => simp at h1 h2; subst h1 h2; exact h
  | j + 1 => simp at h1⟩
theorem VRs.app {xs ys : List AV} {«as» bs : List Value} (h : VRs w μ H xs «as») (g : VRs w μ H ys bs) : VRs w μ H (xs ++ ys) («as» ++ bs) := by
  refine ⟨by simp [h.1, g.1], fun j x y hx hy => ?_⟩
  rcases Nat.lt_or_ge j xs.length with hj | hj
  · rw [List.getElem?_append_left hj] at hx
    rw [List.getElem?_append_left (by rw [← h.1]; exact hj)] at hy
    exact h.2 j x y hx hy
  · rw [List.getElem?_append_right hj] at hx
    rw [List.getElem?_append_right (by rw [← h.1]; exact hj), ← h.1] at hy
    exact g.2 _ x y hx hy
/-- Two pieces, one behind the other. -/
theorem VRs.glue {xs ys : List AV} {cs : List Value} {o o' a b n : Nat} (h : VRs w μ H xs ((cs.drop o).take a)) (g : VRs w μ H ys ((cs.drop o').take b)) (ho : o' = o + a) (hn : n = a + b) : VRs w μ H (xs ++ ys) ((cs.drop o).take n) := by
  subst ho hn
  have e : (cs.drop o).take (a + b) = (cs.drop o).take a ++ (cs.drop (o + a)).take b := by
    rw [List.take_add, List.drop_drop]
  rw [e]; exact h.app g
theorem VRs.whole {xs : List AV} {cs : List Value} {n : Nat} (h : VRs w μ H xs ((cs.drop 0).take n)) (hn : cs.length = n) : VRs w μ H xs cs := by
  subst hn; simpa using h
theorem VRs.part {xs : List AV} {cs : List Value} {n : Nat} (h : VRs w μ H xs cs) (hn : cs.length = n) : VRs w μ H xs ((cs.drop 0).take n) := by
  subst hn; simpa using h
theorem VRs.agg {xs : List AV} {cs : Array Value} (h : VRs w μ H xs cs.toList) : VR w μ H (.agg xs) (.agg cs) := .agg (by simpa using h.1) fun j x y hx hy => h.2 j x y hx (by simpa using hy)
end
section
variable {D : Type} {enc : TypeId × Value → D} {P : Program} {W : World}
/-- What is read at a type stands for an abstract value of one kind. -/
def Opn (enc : TypeId × Value → D) (P : Program) (W : World) (t : TypeId) {α : Type} (e : α → List AV) (Q : α → DataW D → Prop) : Prop :=
  ∀ (sp : Nat → Bool) (held : Bool) (fuel : Nat) (cs : List Value) (x : DataW D × List MemPlace), DataW.trod enc P W 0 sp held fuel t cs = some x → ∃ v, VRs W idM nH (e v) cs ∧ Q v x.1
theorem Opn.int {t : TypeId} {k : IntKind} (ht : P.underlying t = some (.int k)) : Opn enc P W t (fun n : Int => [.int k n]) (fun n _ => (Lit.int k n).wf = true) := fun sp held fuel cs x h => by
  obtain ⟨n, rfl, rfl, hw⟩ := DataW.trod_int ht h
  exact ⟨n, .one (.int _ _), hw⟩
theorem Opn.str {t : TypeId} (ht : P.underlying t = some .string) : Opn enc P W t (fun s : ByteArray => [.str s]) (fun s d => d = .lit (.string s.data.toList)) := fun sp held fuel cs x h => by
  obtain ⟨s, rfl, rfl, hw⟩ := DataW.trod_string ht h
  exact ⟨s, .one (.str _), rfl⟩
theorem Opn.bool {t : TypeId} (ht : P.underlying t = some .bool) : Opn enc P W t (fun s : Bool => [.bool s]) (fun _ _ => True) := fun sp held fuel cs x h => by
  obtain ⟨s, rfl, rfl⟩ := DataW.trod_bool ht h
  exact ⟨s, .one (.bool _), trivial⟩
theorem Opn.imp {t : TypeId} {α : Type} {e : α → List AV} {Q Q' : α → DataW D → Prop} (h : Opn enc P W t e Q) (hq : ∀ v d, Q v d → Q' v d) : Opn enc P W t e Q' := fun sp held fuel cs x hx => by
  obtain ⟨v, h1, h2⟩ := h sp held fuel cs x hx
  exact ⟨v, h1, hq _ _ h2⟩
/-- A slice, by value. -/
theorem Opn.slice {t el : TypeId} {m : Nat} {α : Type} {e : α → List AV} {Q : α → DataW D → Prop} (ht : P.underlying t = some (.slice el)) (hm : P.cellsOf el = m) (hm0 : 0 < m) (he : Opn enc P W el e Q) :
    Opn enc P W t (fun l : List α => [.sl l.length (l.flatMap e)]) (fun l d => (l = [] ∧ d = .nil) ∨ ∃ ds sp, d = .slice ds sp ∧ l.length = ds.length ∧ ∀ x ∈ l, ∃ y ∈ ds, Q x y) := fun sp held fuel cs x h => by
  rcases Go.Deep.open_slice ht h with ⟨rfl, rfl⟩ | ⟨a, len, cap, mm, n, Dd, Pl, rfl, hb, hl, hcm, hmm, rfl, hx⟩
  · exact ⟨[], .one (.sl0 _ _), .inl ⟨rfl, rfl⟩⟩
  · rw [hm] at hx
    have hle : len ≤ mm := by rw [hmm]; split <;> omega
    have key : ∀ k, k ≤ len → ∃ l : List α, l.length = k ∧ (l.flatMap e).length = k * m ∧ (∃ ys : Nat → Value, ∀ j x, (l.flatMap e)[j]? = some x → W.cell? (a.add j) = some (ys j) ∧ VR W idM nH x (ys j)) ∧ ∀ x ∈ l, ∃ y ∈ (List.range len).map Dd, Q x y := by
      intro k
      induction k with
      | zero => intro _; exact ⟨[], rfl, by simp, ⟨fun _ => default, fun j x h => by simp at h⟩, fun _ h => by cases h⟩
      | succ k ih =>
        intro hk
        obtain ⟨l, h1, h2, ⟨ys, h3⟩, h4⟩ := ih (by omega)
        obtain ⟨cs', h5, h6⟩ := hx k (by omega)
        obtain ⟨v, h7, h8⟩ := he _ _ _ _ _ h6
        obtain ⟨_, hlen, hcell⟩ := World.cells?_some h5
        have hvl : (e v).length = m := by rw [h7.1, hlen]
        refine ⟨l ++ [v], by simp [h1], ?_, ⟨fun j => if j < k * m then ys j else cs'.getD (j - k * m) default, fun j x hj => ?_⟩, fun x hx => ?_⟩
        · rw [List.flatMap_append, List.flatMap_singleton, List.length_append, h2, hvl, Nat.add_mul]; omega
        · rw [List.flatMap_append, List.flatMap_singleton] at hj
          by_cases hjk : j < k * m
          · rw [List.getElem?_append_left (by omega)] at hj
            simp only [hjk, if_true]
            exact h3 j x hj
          · rw [List.getElem?_append_right (by omega), h2] at hj
            simp only [hjk, if_false]
            have hjl : j - k * m < cs'.length := by
              rcases Nat.lt_or_ge (j - k * m) (e v).length with g | g
              · omega
              · rw [List.getElem?_eq_none g] at hj; cases hj
            have hc := hcell (j - k * m) (by omega)
            rw [Go.Deep.add_add, show k * m + (j - k * m) = j by omega] at hc
            have hg : cs'.getD (j - k * m) default = cs'[j - k * m] := by simp [List.getD, hjl]
            refine ⟨?_, h7.2 _ _ _ hj (by rw [hg]; exact List.getElem?_eq_getElem hjl)⟩
            rw [hg, hc]; exact List.getElem?_eq_getElem hjl
        · rcases List.mem_append.1 hx with hx | hx
          · exact h4 x hx
          · simp at hx; subst hx
            exact ⟨_, List.mem_map_of_mem (List.mem_range.2 (by omega)), h8⟩
    obtain ⟨l, h1, h2, ⟨ys, h3⟩, h4⟩ := key len (Nat.le_refl _)
    refine ⟨l, .one ?_, .inr ⟨_, _, rfl, by simp [h1], h4⟩⟩
    rw [h1]
    by_cases h0 : len = 0
    · subst h0
      have : l = [] := List.eq_nil_of_length_eq_zero h1
      subst this
      exact .sl0 _ _
    · have hpos : 0 < (l.flatMap e).length := by rw [h2]; exact Nat.mul_pos (by omega) hm0
      have hc0 := (h3 0 _ (List.getElem?_eq_getElem hpos)).1
      obtain ⟨e0, hlt⟩ := cell_spot0 hc0
      have e2 : a = ⟨a.block, a.off, none⟩ := by
        have := congrArg Addr.spot e0
        cases a; simp [Addr.add] at this; subst this; rfl
      rw [e2]
      refine .sl (ys := ys) hl ⟨by simpa [Addr.add] using hlt, nH_owned⟩ (fun j x hx => ?_) (fun j x hx => (h3 j x hx).2)
      have := (h3 j x hx).1
      rw [e2] at this
      have e3 : (⟨a.block, a.off, none⟩ : Addr).add j = ⟨a.block, a.off + j, none⟩ := by
        by_cases hj : j = 0 <;> simp [Addr.add, hj]
      rw [e3] at this
      exact this
end
end Go.AH
namespace Go.Proofs.U
open Go Go.AH Go.Proofs.T Go.ChangeShapes Go.WideShapes Go.ChangeAt Go.RowKit Go.Deep Go.Proofs.Ytfeafldgohceaaa
set_option maxRecDepth 8000
set_option linter.unusedSimpArgs false
set_option linter.unusedVariables false
theorem bulk_one {H : Type} (d : DataW H) : 1 ≤ Rows.uptoBulk d := by
  cases d with
  | lit l => cases l <;> simp [Rows.uptoBulk]
  | _ => simp [Rows.uptoBulk]
theorem bulk_len {H : Type} (l : List (DataW H)) : l.length ≤ Rows.uptoBulkAll l := by
  induction l with
  | nil => simp [Rows.uptoBulkAll]
  | cons x r ih => have := bulk_one x; simp only [Rows.uptoBulkAll, List.length_cons]; omega
theorem bulk_part {H : Type} {d : DataW H} {l : List (DataW H)} (h : d ∈ l) : Rows.uptoBulk d ≤ Rows.uptoBulkAll l := by
  induction l with
  | nil => cases h
  | cons x r ih =>
    simp only [Rows.uptoBulkAll]
    rcases List.mem_cons.1 h with e | e
    · subst e; omega
    · have := ih e; omega
section
variable {H : Type} {enc : TypeId × Value → H} {W : World}
theorem c3 : Try.prog.cellsOf 3 = 1 := by kernel_rfl
theorem c22 : Try.prog.cellsOf 22 = 1 := by kernel_rfl
theorem c23 : Try.prog.cellsOf 23 = 1 := by kernel_rfl
theorem c24 : Try.prog.cellsOf 24 = 1 := by kernel_rfl
theorem c26 : Try.prog.cellsOf 26 = 3 := by kernel_rfl
theorem c38 : Try.prog.cellsOf 38 = 1 := by kernel_rfl
theorem c42 : Try.prog.cellsOf 42 = 3 := by kernel_rfl
theorem c53 : Try.prog.cellsOf 53 = 3 := by kernel_rfl
abbrev ranV (v : VT) : Prop := inR v.X ∧ inR v.Y ∧ inR v.Z
abbrev ranC (v : CrT) : Prop := inR v.A ∧ inR v.B ∧ inR v.S
theorem opI : Opn enc Try.prog W 3 (fun n : Int => [.int .i64 n]) (fun n _ => inR n) := (Opn.int u_3).imp fun n _ h => bounds_i64 h
theorem opV : Opn enc Try.prog W 42 eV (fun v _ => ranV v) := fun sp held fuel cs x h => by
  obtain ⟨xs, n, _, rfl, hl, hxl, hf⟩ := DataW.trod_struct Try.underlying42 h
  match xs, hxl with
  | [y0, y1, y2], _ =>
    obtain ⟨a, a1, a2⟩ := opI (enc := enc) (W := W) _ _ _ _ _ (hf 0 _ rfl)
    obtain ⟨b, b1, b2⟩ := opI (enc := enc) (W := W) _ _ _ _ _ (hf 1 _ rfl)
    obtain ⟨c, e1, e2⟩ := opI (enc := enc) (W := W) _ _ _ _ _ (hf 2 _ rfl)
    simp only [c3] at a1 b1 e1
    exact ⟨⟨a, b, c⟩, (a1.glue (b1.glue e1 rfl rfl) rfl (n := 3) rfl).whole (by rw [hl, c42]), a2, b2, e2⟩
theorem opC : Opn enc Try.prog W 53 eCr (fun v _ => ranC v) := fun sp held fuel cs x h => by
  obtain ⟨xs, n, _, rfl, hl, hxl, hf⟩ := DataW.trod_struct Try.underlying53 h
  match xs, hxl with
  | [y0, y1, y2], _ =>
    obtain ⟨a, a1, a2⟩ := opI (enc := enc) (W := W) _ _ _ _ _ (hf 0 _ rfl)
    obtain ⟨b, b1, b2⟩ := opI (enc := enc) (W := W) _ _ _ _ _ (hf 1 _ rfl)
    obtain ⟨c, e1, e2⟩ := opI (enc := enc) (W := W) _ _ _ _ _ (hf 2 _ rfl)
    simp only [c3] at a1 b1 e1
    exact ⟨⟨a, b, c⟩, (a1.glue (b1.glue e1 rfl rfl) rfl (n := 3) rfl).whole (by rw [hl, c53]), a2, b2, e2⟩
/-- A slice whose elements are opened so; how many there are is told by the bulk. -/
theorem opSl {t el : TypeId} {m : Nat} {α : Type} {e : α → List AV} {Q : α → DataW H → Prop} (ht : Try.prog.underlying t = some (.slice el)) (hm : Try.prog.cellsOf el = m) (hm0 : 0 < m) (he : Opn enc Try.prog W el e Q) :
    Opn enc Try.prog W t (fun l : List α => [.sl l.length (l.flatMap e)]) (fun l d => l.length ≤ Rows.uptoBulk d ∧ ∀ x ∈ l, ∃ y, Rows.uptoBulk y ≤ Rows.uptoBulk d ∧ Q x y) := fun sp held fuel cs x h => by
  obtain ⟨l, h1, h2⟩ := Opn.slice ht hm hm0 he sp held fuel cs x h
  refine ⟨l, h1, ?_⟩
  rcases h2 with ⟨rfl, _⟩ | ⟨ds, s, hd, hlen, hall⟩
  · exact ⟨Nat.zero_le _, fun _ h => by cases h⟩
  · rw [hd]
    have := bulk_len ds
    refine ⟨by simp only [Rows.uptoBulk]; omega, fun t ht => ?_⟩
    obtain ⟨y, hy, hb⟩ := hall t ht
    have := bulk_part hy
    exact ⟨y, by simp only [Rows.uptoBulk]; omega, hb⟩
theorem opInts : Opn enc Try.prog W 38 (fun l : List Int => [eF l]) (fun l d => l.length ≤ Rows.uptoBulk d) := fun sp held fuel cs x h => by
  obtain ⟨l, h1, h2⟩ := opSl u_38 c3 (by omega) opI sp held fuel cs x h
  have e : l.flatMap (fun n : Int => [AV.int .i64 n]) = l.map eI := by rw [List.map_eq_flatMap]; rfl
  refine ⟨l, ?_, h2.1⟩
  show VRs W idM nH [.sl l.length (l.map eI)] cs
  rw [← e]; exact h1
theorem opFaces : Opn enc Try.prog W 23 (fun l : List (List Int) => [.sl l.length (l.map eF)]) (fun l d => l.length ≤ Rows.uptoBulk d ∧ ∀ f ∈ l, f.length ≤ Rows.uptoBulk d) := fun sp held fuel cs x h => by
  obtain ⟨l, h1, h2, h3⟩ := opSl u_23 c38 (by omega) opInts sp held fuel cs x h
  have e : l.flatMap (fun f : List Int => [eF f]) = l.map eF := by rw [List.map_eq_flatMap]
  refine ⟨l, ?_, h2, fun f hf => ?_⟩
  · show VRs W idM nH [.sl l.length (l.map eF)] cs
    rw [← e]; exact h1
  · obtain ⟨y, hy, hb⟩ := h3 f hf; exact Nat.le_trans hb hy
theorem opVs : Opn enc Try.prog W 22 (fun l : List VT => [.sl l.length (l.flatMap eV)]) (fun l d => l.length ≤ Rows.uptoBulk d ∧ ∀ v ∈ l, ranV v) := (opSl u_22 c42 (by omega) opV).imp fun l d h => ⟨h.1, fun v hv => let ⟨_, _, g⟩ := h.2 v hv; g⟩
theorem opCrs : Opn enc Try.prog W 24 (fun l : List CrT => [.sl l.length (l.flatMap eCr)]) (fun l d => l.length ≤ Rows.uptoBulk d ∧ ∀ v ∈ l, ranC v) := (opSl u_24 c53 (by omega) opC).imp fun l d h => ⟨h.1, fun v hv => let ⟨_, _, g⟩ := h.2 v hv; g⟩
structure CageQ (c : CageT) (m : Nat) : Prop where
  v : c.Verts.length ≤ m
  f : c.Faces.length ≤ m
  fs : ∀ f ∈ c.Faces, f.length ≤ m
  cl : c.Creases.length ≤ m
  rv : ∀ v ∈ c.Verts, ranV v
  rc : ∀ v ∈ c.Creases, ranC v
theorem opCage : Opn enc Try.prog W 26 eCage (fun c d => CageQ c (Rows.uptoBulk d)) := fun sp held fuel cs x h => by
  obtain ⟨xs, n, _, rfl, hl, hxl, hf⟩ := DataW.trod_struct Try.underlying26 h
  match xs, hxl with
  | [y0, y1, y2], _ =>
    obtain ⟨a, a1, a2⟩ := opVs (enc := enc) (W := W) _ _ _ _ _ (hf 0 _ rfl)
    obtain ⟨b, b1, b2⟩ := opFaces (enc := enc) (W := W) _ _ _ _ _ (hf 1 _ rfl)
    obtain ⟨c, e1, e2⟩ := opCrs (enc := enc) (W := W) _ _ _ _ _ (hf 2 _ rfl)
    have a1 : VRs W idM nH [.sl a.length (a.flatMap eV)] ((cs.drop 0).take (Try.prog.cellsOf 22)) := a1
    have b1 : VRs W idM nH [.sl b.length (b.map eF)] ((cs.drop 1).take (Try.prog.cellsOf 23)) := b1
    have e1 : VRs W idM nH [.sl c.length (c.flatMap eCr)] ((cs.drop 2).take (Try.prog.cellsOf 24)) := e1
    rw [c22] at a1; rw [c23] at b1; rw [c24] at e1
    have p0 : Rows.uptoBulk y0.1 ≤ Rows.uptoBulk (DataW.agg ([y0, y1, y2].map (·.1))) := by simp only [List.map_cons, List.map_nil, Rows.uptoBulk, Rows.uptoBulkAll]; omega
    have p1 : Rows.uptoBulk y1.1 ≤ Rows.uptoBulk (DataW.agg ([y0, y1, y2].map (·.1))) := by simp only [List.map_cons, List.map_nil, Rows.uptoBulk, Rows.uptoBulkAll]; omega
    have p2 : Rows.uptoBulk y2.1 ≤ Rows.uptoBulk (DataW.agg ([y0, y1, y2].map (·.1))) := by simp only [List.map_cons, List.map_nil, Rows.uptoBulk, Rows.uptoBulkAll]; omega
    exact ⟨⟨a, b, c⟩, (a1.glue (b1.glue e1 rfl rfl) rfl (n := 3) rfl).whole (by rw [hl, c26]), Nat.le_trans a2.1 p0, Nat.le_trans b2.1 p1, fun f hf => Nat.le_trans (b2.2 f hf) p1, Nat.le_trans e2.1 p2, a2.2, e2.2⟩
/-- A structure that is handed in. -/
theorem arg_agg {r : Reach} {b0 : Nat} {t : TypeId} {fs : Array Field} {v : Value} {d : DataW H} {p : List MemPlace} {α : Type} {e : α → List AV} {Q : α → DataW H → Prop} (ht : Try.prog.underlying t = some (.struct fs)) (ho : Opn enc Try.prog W t e Q) (hv : Value.okWide Try.prog W r b0 t v) {sp : Nat → Bool} {held : Bool} (hd : DataW.Trod enc Try.prog W 0 sp held t v d p) :
    ∃ a, VR W idM nH (.agg (e a)) v ∧ Q a d := by
  obtain ⟨cs, rfl, _, _⟩ : ∃ cs, v = .agg cs ∧ cs.size = Try.prog.cellsOf t ∧ Row.okWide Try.prog W r b0 t cs := by simpa [Value.okWide, ht] using hv
  obtain ⟨fuel, hf⟩ := hd
  obtain ⟨a, h1, h2⟩ := ho _ _ _ _ _ hf
  exact ⟨a, VRs.agg h1, h2⟩
theorem own : ownKnob Try.prog.godebug = none := by kernel_rfl
theorem stays {W W' : World} (hs : World.Since W.heap.size W W') {x : MemPlace} (h : x.block < W.heap.size) : W.sameAt W' x := by
  cases x with
  | cell b o => exact hs.cell (a := ⟨b, o, none⟩) h
  | map b => exact hs.block b h
theorem globs_none {W : World} : GOK W idM nH := ⟨(fun g cells h => by cases h), (fun g cs h => by cases h)⟩
end
end Go.Proofs.U
namespace Go.Proofs.U
open Go Go.AH Go.Proofs.T
set_option maxRecDepth 4000
/-! ### Near the rules without rounding -/
def nearZ (x n d : Int) : Prop := x * d - n ≤ d ∧ n - x * d ≤ d
instance (x n d : Int) : Decidable (nearZ x n d) := by unfold nearZ; infer_instance
def nearT (x n : VT) (d : Int) : Prop := nearZ x.X n.X d ∧ nearZ x.Y n.Y d ∧ nearZ x.Z n.Z d
instance (x n : VT) (d : Int) : Decidable (nearT x n d) := by unfold nearT; infer_instance
theorem round_err {x d : Int} (hd : 1 ≤ d) : -d ≤ 2 * (x - roundZ x d * d) ∧ 2 * (x - roundZ x d * d) ≤ d := by
  unfold roundZ
  have hp : 0 < 2 * d := by omega
  have e1 := Int.ediv_mul_le (2 * x + d) (by omega : 2 * d ≠ 0)
  have e2 := Int.lt_ediv_add_one_mul_self (2 * x + d) hp
  generalize (2 * x + d) / (2 * d) = q at *
  have c1 : q * (2 * d) = 2 * (q * d) := Int.mul_left_comm _ _ _
  have c2 : (q + 1) * (2 * d) = 2 * (q * d) + 2 * d := by rw [Int.add_mul, c1, Int.one_mul]
  omega
/-- How far a scaled sum is from the scaled point. -/
def errV (k c : Int) (s p : VT) : Prop := inV c (subV s (scaleV p k))
theorem errV_0 {k : Int} : errV k 0 zV zV := by unfold errV inV subV scaleV zV; simp
theorem errV_add {k c e : Int} {s t p q : VT} (h : errV k c s p) (g : errV k e t q) : errV k (c + e) (addV s t) (addV p q) := by
  unfold errV inV subV scaleV addV at *; simp only [Int.add_mul] at *; omega
theorem errV_sum {k c : Int} {F G : Int → VT} : ∀ {l : List Int}, (∀ x ∈ l, errV k c (F x) (G x)) → errV k (c * l.length) (sumL (l.map F)) (sumL (l.map G))
  | [], _ => by simp only [List.map_nil, sumL_nil, List.length_nil]; rw [show c * ((0 : Nat) : Int) = 0 from by simp]; exact errV_0
  | x :: l, h => by
    simp only [List.map_cons, sumL_cons]
    have := errV_add (h x List.mem_cons_self) (errV_sum fun y hy => h y (List.mem_cons_of_mem _ hy))
    rw [List.length_cons]
    have e : c + c * (l.length : Int) = c * ((l.length + 1 : Nat) : Int) := by push_cast; rw [Int.mul_add]; omega
    rwa [e] at this
theorem near_c {x d : Int} (hd : 1 ≤ d) : nearZ (roundZ x d) x d := by
  have := round_err (x := x) hd
  unfold nearZ; omega
theorem near_of {s : VT} {d : Int} (hd : 1 ≤ d) : nearT (ofV s d) s d := ⟨near_c hd, near_c hd, near_c hd⟩
/-- 840 times a face's mean. -/
def meanS (vs : List VT) (f : List Int) : VT := scaleV (sumL (f.map fun k => at_ vs k)) (Int.tdiv 840 f.length)
theorem mean_c {x n : Int} (h1 : 1 ≤ n) (h8 : n ≤ 8) : -420 ≤ x * Int.tdiv 840 n - roundZ x n * 840 ∧ x * Int.tdiv 840 n - roundZ x n * 840 ≤ 420 := by
  have h := round_err (x := x) h1
  generalize roundZ x n = r at *
  have : n = 1 ∨ n = 2 ∨ n = 3 ∨ n = 4 ∨ n = 5 ∨ n = 6 ∨ n = 7 ∨ n = 8 := by omega
  rcases this with rfl | rfl | rfl | rfl | rfl | rfl | rfl | rfl
  · rw [show Int.tdiv 840 1 = 840 from rfl]; omega
  · rw [show Int.tdiv 840 2 = 420 from rfl]; omega
  · rw [show Int.tdiv 840 3 = 280 from rfl]; omega
  · rw [show Int.tdiv 840 4 = 210 from rfl]; omega
  · rw [show Int.tdiv 840 5 = 168 from rfl]; omega
  · rw [show Int.tdiv 840 6 = 140 from rfl]; omega
  · rw [show Int.tdiv 840 7 = 120 from rfl]; omega
  · rw [show Int.tdiv 840 8 = 105 from rfl]; omega
theorem mean_err {vs : List VT} {f : List Int} (h1 : 1 ≤ f.length) (h8 : f.length ≤ 8) : errV 840 420 (meanS vs f) (faceP vs f) := by
  unfold errV inV meanS faceP subV scaleV ofV
  exact ⟨mean_c (by omega) (by omega), mean_c (by omega) (by omega), mean_c (by omega) (by omega)⟩
theorem tdiv840 {n : Int} (h1 : 1 ≤ n) : 0 ≤ Int.tdiv 840 n ∧ Int.tdiv 840 n ≤ 840 := by
  have h := tdiv_rng (n := 840) (d := n) (B := 840) (by omega) h1
  have := Int.tdiv_nonneg (by decide : (0 : Int) ≤ 840) (by omega : 0 ≤ n)
  omega
theorem meanS_in {vs : List VT} {f : List Int} {C : Int} (hv : ∀ v ∈ vs, inV C v) (hf : ∀ k ∈ f, 0 ≤ k ∧ k < (vs.length : Int)) (h1 : 1 ≤ f.length) : inV (C * f.length * 840) (meanS vs f) := by
  have := tdiv840 (n := f.length) (by omega)
  exact inV_scale (sum_in hv hf) (by omega)
/-- A vertex's sum, of the first so many edges. -/
def vertA (vs : List VT) (ed : List Ed) (n v k : Int) : VT := addV (scaleV (at_ vs v) (840 * n * (n - 2))) (scaleV (othL vs ed v (adjU ed k v)) 840)
theorem vert_c {n o v S P : Int} (hn : 1 ≤ n) (hS : -(420 * n) ≤ S - P * 840 ∧ S - P * 840 ≤ 420 * n) : nearZ (roundZ (o + v * (n * (n - 2)) + P) (n * n)) (v * (840 * n * (n - 2)) + o * 840 + S) (840 * n * n) := by
  have hp : 0 < n * n := Int.mul_pos (by omega) (by omega)
  have h := round_err (x := o + v * (n * (n - 2)) + P) (d := n * n) (by omega)
  have hl : n * 1 ≤ n * n := Int.mul_le_mul_of_nonneg_left hn (by omega)
  have e1 : v * (840 * n * (n - 2)) = v * (n * (n - 2)) * 840 := by rw [Int.mul_assoc 840, Int.mul_left_comm, Int.mul_comm 840]
  have e2 : 840 * n * n = n * n * 840 := by rw [Int.mul_assoc, Int.mul_comm]
  unfold nearZ
  rw [e1, e2]
  generalize roundZ (o + v * (n * (n - 2)) + P) (n * n) = r at *
  generalize v * (n * (n - 2)) = w at *
  have e3 : r * (n * n * 840) = r * (n * n) * 840 := (Int.mul_assoc _ _ _).symm
  rw [e3]
  generalize r * (n * n) = z at *
  generalize n * n = N at *
  omega
theorem vert_near {vs fc sums : List VT} {ed : List Ed} {sh fan : List Int} {v k : Int} (hn : 1 ≤ fan.length) (hh : (hardF sh (adjU ed k v)).length < 2) (hS : ∀ f ∈ fan, errV 840 420 (at_ sums f) (at_ fc f)) :
    nearT (vertP vs fc ed sh fan (adjU ed k v) v) (addV (vertA vs ed fan.length v k) (sumL (fan.map fun f => at_ sums f))) (840 * fan.length * fan.length) := by
  unfold vertP vertA
  rw [if_neg (by omega), if_neg (by omega)]
  have := errV_sum (F := fun f => at_ sums f) (G := fun f => at_ fc f) hS
  exact ⟨vert_c (by omega) this.1, vert_c (by omega) this.2.1, vert_c (by omega) this.2.2⟩
section
variable {vs : List VT} {ed : List Ed} {sh : List Int} {n v i : Int}
end
/-! ### The finer vertices by their places -/
theorem at_appL {α : Type} [Inhabited α] {a b : List α} {i : Int} (h0 : 0 ≤ i) (h1 : i < a.length) : at_ (a ++ b) i = at_ a i := by
  have h : i.toNat < a.length := by omega
  unfold at_; rw [List.getD_eq_getElem?_getD, List.getD_eq_getElem?_getD, List.getElem?_append_left h]
theorem at_appR {α : Type} [Inhabited α] {a b : List α} {i k : Int} (h0 : 0 ≤ i) (hk : k = (a.length : Int) + i) : at_ (a ++ b) k = at_ b i := by
  have h : a.length ≤ k.toNat := by omega
  have e : k.toNat - a.length = i.toNat := by omega
  unfold at_; rw [List.getD_eq_getElem?_getD, List.getD_eq_getElem?_getD, List.getElem?_append_right h, e]
theorem boxes_in {m : Int} {p : VT} : hasB ⟨⟨-m, -m, -m⟩, ⟨m, m, m⟩⟩ p ↔ inV m p := Iff.rfl
section
variable {vs : List VT} {fs : List (List Int)} {cr : List CrT}
theorem lev_V (h : (levelR vs fs cr).2 = 0) {v : Int} (h0 : 0 ≤ v) (h1 : v < vs.length) : at_ (levelR vs fs cr).1.Verts v = vertP vs (fcR vs fs fs.length) (buildT vs.length fs).ed (sharpR (buildT vs.length fs) cr).1 (at_ (buildT vs.length fs).fan v) (adjU (buildT vs.length fs).ed (buildT vs.length fs).ed.length v) v := by
  rw [(level_ok h).2.2.2]; simp only
  rw [List.append_assoc, at_appL h0 (by unfold v1R; rw [U_len]; omega)]
  unfold v1R; rw [U_at h0 h1, egR_at h0 (by omega)]
theorem lev_E (h : (levelR vs fs cr).2 = 0) {k e : Int} (h0 : 0 ≤ e) (h1 : e < (buildT vs.length fs).ed.length) (hk : k = (vs.length : Int) + e) : at_ (levelR vs fs cr).1.Verts k = edgeP vs (fcR vs fs fs.length) (at_ (buildT vs.length fs).ed e) (at_ (sharpR (buildT vs.length fs) cr).1 e) := by
  rw [(level_ok h).2.2.2]; simp only
  rw [List.append_assoc, at_appR (i := e) h0 (by unfold v1R; rw [U_len]; omega), at_appL h0 (by unfold v2R; rw [U_len]; omega)]
  unfold v2R; rw [U_at h0 h1]
theorem lev_F (h : (levelR vs fs cr).2 = 0) {k f : Int} (h0 : 0 ≤ f) (h1 : f < fs.length) (hk : k = (vs.length : Int) + (buildT vs.length fs).ed.length + f) : at_ (levelR vs fs cr).1.Verts k = faceP vs (at_ fs f) := by
  rw [(level_ok h).2.2.2]; simp only
  rw [at_appR (i := f) h0 (by rw [List.length_append]; unfold v1R v2R; rw [U_len, U_len]; omega)]
  unfold fcR; rw [U_at h0 h1]
/-- How great a cage may be. -/
structure MidC (vs : List VT) (fs : List (List Int)) (cr : List CrT) : Prop where
  v : vs.length ≤ 1000
  f : fs.length ≤ 1000
  s : (sides fs).length ≤ 50000
  fs : ∀ l ∈ fs, l.length ≤ 100000
  c : ∀ c ∈ cr, c.S ≤ 9223372036854775807
  cl : cr.length ≤ 1048576
theorem SmallC.mid {vs : List VT} {fs : List (List Int)} {cr : List CrT} (sm : SmallC vs fs cr) (hcS : ∀ c ∈ cr, c.S ≤ 9223372036854775807) : MidC vs fs cr :=
  ⟨by have := sm.v; omega, by have := sm.f; omega, by have := sm.s; omega, fun l hl => Nat.le_trans (sm.fs l hl) (by decide), hcS, by have := sm.c; omega⟩
/-- Every finer vertex is in each box that holds the coarse ones. -/
theorem inside_box {b : BoxT} (hb : ∀ p ∈ vs, hasB b p) (sm : MidC vs fs cr) (h : (levelR vs fs cr).2 = 0) : ∀ p ∈ (levelR vs fs cr).1.Verts, hasB b p := by
  obtain ⟨hok, hsh, hfar, he⟩ := level_ok h
  have hv1 := sm.v
  have hf1 := sm.f
  have hs1 := sm.s
  have tf := topo_facts hok (by omega) (by omega) (by omega)
  have sf := sharp_facts sm.c hsh
  have hbi : ∀ k : Int, 0 ≤ k → k < vs.length → hasB b (at_ vs k) := fun k k0 k1 => hb _ (at_mem k0 k1)
  have hfr := ok_rng hok
  have hfl := ok_faces hok sm.fs
  have hfc : ∀ f : Int, 0 ≤ f → f < fs.length → hasB b (at_ (fcR vs fs fs.length) f) := fun f f0 f1 => by
    unfold fcR; rw [U_at f0 f1]
    have hm := at_mem (l := fs) f0 f1
    exact face_has hb (hfr _ hm) (hfl _ hm).1
  intro p hp
  rw [he] at hp
  simp only [List.mem_append] at hp
  rcases hp with (hp | hp) | hp
  · obtain ⟨v, h0, h1, rfl⟩ := mem_U hp
    rw [egR_at h0 (by omega)]
    refine vert_has (hbi v h0 h1) (fun e hem => ?_) (fun f hf => ?_) fun hh => ?_
    · obtain ⟨⟨e0, e1⟩, hv⟩ := mem_adj.1 hem
      have hab := tf.ab _ (at_mem e0 e1)
      rcases oth_cases (vs := vs) hv with g | g
      · rw [g]; exact hbi _ hab.1.1 hab.1.2
      · rw [g]; exact hbi _ hab.2.1 hab.2.2
    · have := (tf.fan v h0 h1).2 f hf
      exact hfc f this.1 this.2
    · have := adj_fan hok h0 h1 (no_lone hok sf h0 h1 hh)
      rw [fan_at hok h0 h1]; exact this
  · obtain ⟨i, h0, h1, rfl⟩ := mem_U hp
    have hab := tf.ab _ (at_mem h0 h1)
    refine edge_has (hbi _ hab.1.1 hab.1.2) (hbi _ hab.2.1 hab.2.2) fun hz => ?_
    have hne : edgedS (buildT vs.length fs) i = false := by
      cases hx : edgedS (buildT vs.length fs) i
      · rfl
      · have := sf.edged i h0 h1 hx; omega
    have g := tf.fg i h0 h1 hne
    exact ⟨hfc _ g.1.1 g.1.2, hfc _ g.2.1 g.2.2⟩
  · obtain ⟨f, h0, h1, rfl⟩ := mem_U hp
    have hm := at_mem (l := fs) h0 h1
    exact face_has hb (hfr _ hm) (hfl _ hm).1
theorem lev_in {m : Int} (hb : ∀ p ∈ vs, inV m p) (hcS : ∀ c ∈ cr, c.S ≤ 9223372036854775807) (sm : SmallC vs fs cr) (h : (levelR vs fs cr).2 = 0) : ∀ p ∈ (levelR vs fs cr).1.Verts, inV m p :=
  fun p hp => boxes_in.1 (inside_box (fun q hq => boxes_in.2 (hb q hq)) (sm.mid hcS) h p hp)
end
abbrev sumsU (vs : List VT) (fs : List (List Int)) (k : Int) : List VT := U_ (fun f => meanS vs (at_ fs f)) k
abbrev NB : Int := 440401920
/-- What the law of nearness goes by. -/
structure NearF (vs : List VT) (fs : List (List Int)) (cr : List CrT) : Prop where
  h : (levelR vs fs cr).2 = 0
  ok : okS vs.length fs
  tf : TopoF vs.length fs.length (buildT vs.length fs)
  sf : ShF (buildT vs.length fs) (sharpR (buildT vs.length fs) cr).1
  v : ∀ v ∈ vs, inV 65536 v
  r : ∀ l ∈ fs, ∀ k ∈ l, 0 ≤ k ∧ k < (vs.length : Int)
  l : ∀ f : Int, 0 ≤ f → f < fs.length → 1 ≤ (at_ fs f).length ∧ (at_ fs f).length ≤ 8
  p : ∀ p ∈ (levelR vs fs cr).1.Verts, inV 65536 p
  ne : ∀ e ∈ (buildT vs.length fs).ed, e.A ≠ e.B
section
variable {vs : List VT} {fs : List (List Int)} {cr : List CrT}
variable (N : NearF vs fs cr)
include N
theorem NearF.face {k f i : Int} (h0 : 0 ≤ f) (h1 : f < fs.length) (hi : ((at_ fs f).length : Int) ≤ i) (hk : k = (vs.length : Int) + (buildT vs.length fs).ed.length + f) : nearT (at_ (levelR vs fs cr).1.Verts k) (sumL (((at_ fs f).take i.toNat).map fun k => at_ vs k)) (at_ fs f).length := by
  rw [lev_F N.h h0 h1 hk, take_all hi]
  have := N.l f h0 h1
  exact near_of (by omega)
theorem NearF.err {f i : Int} (h0 : 0 ≤ f) (h1 : f < fs.length) (hi : i = fs.length) : errV 840 420 (at_ (sumsU vs fs i) f) (at_ (fcR vs fs fs.length) f) := by
  subst hi
  rw [U_at h0 h1]; unfold fcR; rw [U_at h0 h1]
  have := N.l f h0 h1
  exact mean_err this.1 this.2
theorem NearF.sum {f i : Int} (h0 : 0 ≤ f) (h1 : f < i) (hi : i ≤ fs.length) : inV NB (at_ (sumsU vs fs i) f) := by
  rw [U_at h0 h1]
  have := N.l f h0 (by omega)
  exact inV_le (meanS_in N.v (N.r _ (at_mem h0 (by omega))) this.1) (show _ ≤ (440401920 : Int) from by omega)
theorem NearF.fg {e : Int} (h0 : 0 ≤ e) (h1 : e < (buildT vs.length fs).ed.length) (hz : at_ (sharpR (buildT vs.length fs) cr).1 e = 0) : (0 ≤ (at_ (buildT vs.length fs).ed e).F ∧ (at_ (buildT vs.length fs).ed e).F < fs.length) ∧ 0 ≤ (at_ (buildT vs.length fs).ed e).G ∧ (at_ (buildT vs.length fs).ed e).G < fs.length := by
  refine N.tf.fg e h0 h1 ?_
  cases hx : edgedS (buildT vs.length fs) e
  · rfl
  · have := N.sf.edged e h0 h1 hx; omega
theorem NearF.vert {v m j i : Int} (h0 : 0 ≤ v) (h1 : v < vs.length) (hm : m = (buildT vs.length fs).ed.length) (hj : ((at_ (buildT vs.length fs).fan v).length : Int) ≤ j) (hi : i = fs.length) (hh : ((hardF (sharpR (buildT vs.length fs) cr).1 (adjU (buildT vs.length fs).ed m v)).length : Int) < 2) :
    nearT (at_ (levelR vs fs cr).1.Verts v) (addV (vertA vs (buildT vs.length fs).ed (at_ (buildT vs.length fs).fan v).length v m) (sumL (((at_ (buildT vs.length fs).fan v).take j.toNat).map fun k => at_ (sumsU vs fs i) k))) (840 * (at_ (buildT vs.length fs).fan v).length * (at_ (buildT vs.length fs).fan v).length) := by
  subst hm
  rw [lev_V N.h h0 h1, take_all hj]
  have hf := N.tf.fan v h0 h1
  exact vert_near hf.1.1 (by omega) fun f hm => N.err (hf.2 f hm).1 (hf.2 f hm).2 hi
theorem NearF.stay {v m : Int} (h0 : 0 ≤ v) (h1 : v < vs.length) (hm : m = (buildT vs.length fs).ed.length) (hh : ((hardF (sharpR (buildT vs.length fs) cr).1 (adjU (buildT vs.length fs).ed m v)).length : Int) > 2) : at_ (levelR vs fs cr).1.Verts v = at_ vs v := by
  subst hm
  rw [lev_V N.h h0 h1]; unfold vertP; rw [if_pos hh]
end
end Go.Proofs.U
namespace Go.Proofs.U
open Go Go.AH Go.Proofs.T
set_option maxRecDepth 4000
set_option linter.unusedSectionVars false
/-! ### Two cages with the same faces and creases -/
/-- A relation of weighed sums, with a measure of what may be off. -/
structure RelV (R : Int → Int → VT → VT → Prop) : Prop where
  zero : ∀ c, 0 ≤ c → R c 0 zV zV
  add : ∀ {c d e s s' t t'}, R c d s s' → R c e t t' → R c (d + e) (addV s t) (addV s' t')
  scale : ∀ {c k p p'}, 0 ≤ k → R c 1 p p' → R c k (scaleV p k) (scaleV p' k)
  mono : ∀ {c e w p p'}, 0 ≤ w → c ≤ e → R c w p p' → R e w p p'
  round : ∀ {c d s s'}, 1 ≤ d → R c d s s' → R (c + 17) 1 (ofV s d) (ofV s' d)
section
variable {R : Int → Int → VT → VT → Prop} (r : RelV R)
include r
theorem RelV.re {c d e : Int} {s s' : VT} (h : R c d s s') (g : d = e) : R c e s s' := g ▸ h
theorem RelV.sum {c : Int} (hc : 0 ≤ c) {F G : Int → VT} {l : List Int} (h : ∀ x ∈ l, R c 1 (F x) (G x)) : R c l.length (sumL (l.map F)) (sumL (l.map G)) := by
  induction l with
  | nil => simp only [List.map_nil, sumL_nil, List.length_nil]; exact r.zero c hc
  | cons x l ih =>
    simp only [List.map_cons, sumL_cons]
    exact r.re (r.add (h x List.mem_cons_self) (ih fun y hy => h y (List.mem_cons_of_mem _ hy))) (by rw [List.length_cons]; push_cast; omega)
variable {c : Int} {vs vs' fc fc' : List VT}
theorem RelV.face (hc : 0 ≤ c) {f : List Int} (h : ∀ k ∈ f, R c 1 (at_ vs k) (at_ vs' k)) (hl : 1 ≤ f.length) : R (c + 17) 1 (faceP vs f) (faceP vs' f) :=
  r.round (by omega) (r.sum hc h)
theorem RelV.edge {e : Ed} {s : Int} (hA : R c 1 (at_ vs e.A) (at_ vs' e.A)) (hB : R c 1 (at_ vs e.B) (at_ vs' e.B)) (hFG : s = 0 → R c 1 (at_ fc e.F) (at_ fc' e.F) ∧ R c 1 (at_ fc e.G) (at_ fc' e.G)) : R (c + 17) 1 (edgeP vs fc e s) (edgeP vs' fc' e s) := by
  unfold edgeP
  split
  · rename_i h
    exact r.round (by decide) (r.add (r.add (r.add hA hB) (hFG h).1) (hFG h).2)
  · exact r.round (by decide) (r.add hA hB)
theorem RelV.oth (hc : 0 ≤ c) {ed : List Ed} {v : Int} {es : List Int} (h : ∀ e ∈ es, R c 1 (othV vs (at_ ed e) v) (othV vs' (at_ ed e) v)) : R c es.length (othL vs ed v es) (othL vs' ed v es) := r.sum hc h
theorem RelV.vert (hc : 0 ≤ c) {ed : List Ed} {sh fan es : List Int} {v : Int} (hv : R c 1 (at_ vs v) (at_ vs' v)) (ho : ∀ e ∈ es, R c 1 (othV vs (at_ ed e) v) (othV vs' (at_ ed e) v)) (hf : ∀ f ∈ fan, R c 1 (at_ fc f) (at_ fc' f)) (hn : (hardF sh es).length < 2 → es.length = fan.length ∧ 2 ≤ fan.length) : R (c + 17) 1 (vertP vs fc ed sh fan es v) (vertP vs' fc' ed sh fan es v) := by
  unfold vertP
  split
  · exact r.mono (by decide) (by omega) hv
  · split
    · rename_i h2
      exact r.round (by decide) (r.re (r.add (r.oth hc fun e he => ho e ((List.mem_filter.1 he).1)) (r.scale (by decide) hv)) (by rw [h2]; rfl))
    · rename_i h1 h2
      obtain ⟨e1, e2⟩ := hn (by omega)
      have hp : 0 < (fan.length : Int) * (fan.length : Int) := Int.mul_pos (by omega) (by omega)
      refine r.round (by omega) (r.re (r.add (r.add (r.oth hc ho) (r.scale (Int.mul_nonneg (by omega) (by omega)) hv)) (r.sum hc hf)) ?_)
      rw [e1, Int.mul_sub]; omega
end
section
variable {R : Int → Int → VT → VT → Prop} {vs vs' : List VT} {fs : List (List Int)} {cr : List CrT} {c : Int}
/-- Another cage with the same faces, no vertex of it too far: the same errors. -/
theorem lev_err (hl : vs'.length = vs.length) (hf : vs.any farV = false) (hf' : vs'.any farV = false) : (levelR vs' fs cr).2 = (levelR vs fs cr).2 := by
  unfold levelR; rw [hl, hf, hf']
  split
  · rfl
  · split
    · rfl
    · rfl
theorem lev_same (hl : vs'.length = vs.length) (h : (levelR vs fs cr).2 = 0) (h' : (levelR vs' fs cr).2 = 0) : (levelR vs' fs cr).1.Faces = (levelR vs fs cr).1.Faces ∧ (levelR vs' fs cr).1.Creases = (levelR vs fs cr).1.Creases ∧ (levelR vs' fs cr).1.Verts.length = (levelR vs fs cr).1.Verts.length := by
  refine ⟨?_, ?_, ?_⟩
  · rw [(level_ok h).2.2.2, (level_ok h').2.2.2, hl]
  · rw [(level_ok h).2.2.2, (level_ok h').2.2.2, hl]
  · rw [level_vlen h, level_vlen h', hl]
/-- What holds of the coarse vertices holds of the finer ones. -/
theorem lev_rel (r : RelV R) (hc : 0 ≤ c) (sm : MidC vs fs cr) (hl : vs'.length = vs.length) (hv : ∀ k : Int, 0 ≤ k → k < vs.length → R c 1 (at_ vs k) (at_ vs' k)) (h : (levelR vs fs cr).2 = 0) (h' : (levelR vs' fs cr).2 = 0) :
    ∀ i : Int, 0 ≤ i → i < (levelR vs fs cr).1.Verts.length → R (c + 34) 1 (at_ (levelR vs fs cr).1.Verts i) (at_ (levelR vs' fs cr).1.Verts i) := by
  obtain ⟨hok, hsh, hfar, he⟩ := level_ok h
  have tf := topo_facts hok (by have := sm.v; omega) sm.f sm.s
  have sf := sharp_facts sm.c hsh
  have hfr := ok_rng hok
  have hfl := ok_faces hok sm.fs
  have hfc : ∀ f : Int, 0 ≤ f → f < fs.length → R (c + 17) 1 (at_ (fcR vs fs fs.length) f) (at_ (fcR vs' fs fs.length) f) := fun f f0 f1 => by
    unfold fcR; rw [U_at f0 f1, U_at f0 f1]
    have hm := at_mem (l := fs) f0 f1
    exact r.face hc (fun k hk => hv k (hfr _ hm k hk).1 (hfr _ hm k hk).2) (hfl _ hm).1
  have hv2 : ∀ k : Int, 0 ≤ k → k < vs.length → R (c + 17) 1 (at_ vs k) (at_ vs' k) := fun k k0 k1 => r.mono (by decide) (by omega) (hv k k0 k1)
  have e34 : c + 34 = c + 17 + 17 := by omega
  intro i i0 i1
  rw [level_vlen h] at i1
  by_cases c1 : i < vs.length
  · rw [lev_V h i0 c1, lev_V h' i0 (by omega), hl, e34]
    refine r.vert (by omega) (hv2 i i0 c1) (fun e hem => ?_) (fun f hf => ?_) fun hh => ?_
    · obtain ⟨⟨e0, e1⟩, hv⟩ := mem_adj.1 hem
      have hab := tf.ab _ (at_mem e0 e1)
      unfold othV
      rcases hv with g | g
      · have e2 : (at_ (buildT vs.length fs).ed e).A + (at_ (buildT vs.length fs).ed e).B - i = (at_ (buildT vs.length fs).ed e).B := by omega
        rw [e2]; exact hv2 _ hab.2.1 hab.2.2
      · have e2 : (at_ (buildT vs.length fs).ed e).A + (at_ (buildT vs.length fs).ed e).B - i = (at_ (buildT vs.length fs).ed e).A := by omega
        rw [e2]; exact hv2 _ hab.1.1 hab.1.2
    · have := (tf.fan i i0 c1).2 f hf
      exact hfc f this.1 this.2
    · have := adj_fan hok i0 c1 (no_lone hok sf i0 c1 hh)
      rw [fan_at hok i0 c1]; exact this
  · by_cases c2 : i < vs.length + (buildT vs.length fs).ed.length
    · have q0 : 0 ≤ i - vs.length := by omega
      have q1 : i - vs.length < (buildT vs.length fs).ed.length := by omega
      rw [lev_E h q0 q1 (by omega), lev_E h' (e := i - vs.length) q0 (by rw [hl]; exact q1) (by omega), hl, e34]
      have hab := tf.ab _ (at_mem q0 q1)
      refine r.edge (hv2 _ hab.1.1 hab.1.2) (hv2 _ hab.2.1 hab.2.2) fun hz => ?_
      have hne : edgedS (buildT vs.length fs) (i - vs.length) = false := by
        cases hx : edgedS (buildT vs.length fs) (i - vs.length)
        · rfl
        · have := sf.edged _ q0 q1 hx; omega
      have g := tf.fg _ q0 q1 hne
      exact ⟨hfc _ g.1.1 g.1.2, hfc _ g.2.1 g.2.2⟩
    · have q0 : 0 ≤ i - vs.length - (buildT vs.length fs).ed.length := by omega
      have q1 : i - vs.length - (buildT vs.length fs).ed.length < fs.length := by omega
      rw [lev_F h q0 q1 (by omega), lev_F h' (f := i - vs.length - (buildT vs.length fs).ed.length) q0 q1 (by rw [hl]; omega)]
      have hm := at_mem (l := fs) q0 q1
      exact r.mono (by decide) (by omega) (r.face hc (fun k hk => hv k (hfr _ hm k hk).1 (hfr _ hm k hk).2) (hfl _ hm).1)
end
/-! ### Moved, flat, sixteen times as great -/
theorem round_shift {x d k : Int} (hd : 1 ≤ d) : roundZ (x + k * d) d = roundZ x d + k := by
  unfold roundZ
  have e : 2 * (x + k * d) + d = 2 * x + d + k * (2 * d) := by rw [Int.mul_left_comm]; omega
  rw [e, Int.add_mul_ediv_right _ _ (by omega)]
def movR (b : VT) (_c w : Int) (s s' : VT) : Prop := s' = addV s (scaleV b w)
theorem mov_rel (b : VT) : RelV (movR b) where
  zero c _ := by simp [movR, addV, scaleV, zV]
  add {c d e s s' t t'} h g := by unfold movR at *; subst h g; simp only [addV, scaleV, VT.mk.injEq, Int.mul_add]; omega
  scale {c k p p'} _ h := by unfold movR at *; subst h; simp only [addV, scaleV, Int.add_mul, Int.mul_one]
  mono _ _ h := h
  round {c d s s'} hd h := by
    unfold movR at *; subst h
    simp only [ofV, addV, scaleV, VT.mk.injEq, Int.mul_one]
    exact ⟨round_shift hd, round_shift hd, round_shift hd⟩
def flatR (y : Int) (_c w : Int) (_s s' : VT) : Prop := s'.Y = y * w
theorem flat_rel (y : Int) : RelV (flatR y) where
  zero c _ := by simp [flatR, zV]
  add {c d e s s' t t'} h g := by unfold flatR at *; simp only [addV, Int.mul_add]; omega
  scale {c k p p'} _ h := by unfold flatR at *; simp only [scaleV]; rw [h, Int.mul_one]
  mono _ _ h := h
  round {c d s s'} hd h := by
    unfold flatR at *; simp only [ofV]; rw [h, Int.mul_one]
    have := round_shift (x := 0) (k := y) hd
    rw [Int.zero_add] at this; rw [this]
    unfold roundZ; rw [Int.ediv_eq_zero_of_lt (by omega) (by omega)]; omega
end Go.Proofs.U
namespace Go.Proofs.U
open Go Go.AH Go.Proofs.T
set_option maxRecDepth 4000
/-- The first so many of a list, changed. -/
def updU (g : VT → VT) (vs : List VT) (k : Int) : List VT := (vs.take k.toNat).map g ++ vs.drop k.toNat
theorem upd_len (g : VT → VT) (vs : List VT) (k : Int) : (updU g vs k).length = vs.length := by
  unfold updU; simp only [List.length_append, List.length_map, List.length_take, List.length_drop]; omega
theorem upd_0 (g : VT → VT) (vs : List VT) : vs = updU g vs 0 := by simp [updU]
theorem upd_get (g : VT → VT) (vs : List VT) (k : Int) (j : Nat) : (updU g vs k)[j]? = if j < k.toNat then (vs[j]?).map g else vs[j]? := by
  unfold updU
  by_cases hj : j < k.toNat
  · rw [if_pos hj]
    by_cases hl : j < vs.length
    · rw [List.getElem?_append_left (by simp; omega), List.getElem?_map, List.getElem?_take, if_pos hj]
    · have h2 : vs.drop k.toNat = [] := List.drop_of_length_le (by omega)
      rw [h2, List.append_nil, List.getElem?_map, List.getElem?_take, if_pos hj]
  · rw [if_neg hj]
    by_cases hl : k.toNat ≤ vs.length
    · rw [List.getElem?_append_right (by simp; omega), List.getElem?_drop, List.length_map, List.length_take]
      congr 1; omega
    · have h2 : vs.drop k.toNat = [] := List.drop_of_length_le (by omega)
      rw [h2, List.append_nil, List.getElem?_map, List.getElem?_take, if_neg hj]
      rw [List.getElem?_eq_none (by omega)]; rfl
theorem upd_step {g : VT → VT} {vs : List VT} {k : Int} (h0 : 0 ≤ k) (h1 : k < vs.length) : (updU g vs k).set k.toNat (g (at_ (updU g vs k) k)) = updU g vs (k + 1) := by
  have hk : k.toNat < vs.length := by omega
  have e : at_ (updU g vs k) k = vs[k.toNat] := by
    unfold at_; rw [List.getD_eq_getElem?_getD, upd_get, if_neg (by omega), List.getElem?_eq_getElem hk]; rfl
  refine List.ext_getElem? fun j => ?_
  rw [List.getElem?_set, upd_get, upd_get, upd_len, e]
  by_cases hj : k.toNat = j
  · subst hj; rw [if_pos rfl, if_pos hk, if_pos (by omega), List.getElem?_eq_getElem hk]; rfl
  · rw [if_neg hj]
    by_cases g1 : j < k.toNat
    · rw [if_pos g1, if_pos (by omega)]
    · rw [if_neg g1, if_neg (by omega)]
theorem upd_at {g : VT → VT} {vs : List VT} {k j : Int} (h0 : 0 ≤ j) (h1 : j < vs.length) : at_ (updU g vs k) j = if j < k then g (at_ vs j) else at_ vs j := by
  have hj : j.toNat < vs.length := by omega
  unfold at_; rw [List.getD_eq_getElem?_getD, List.getD_eq_getElem?_getD, upd_get, List.getElem?_eq_getElem hj]
  by_cases g1 : j < k
  · rw [if_pos (by omega), if_pos g1]; rfl
  · rw [if_neg (by omega), if_neg g1]
def movG (b p : VT) : VT := addV p b
def flaG (y : Int) (p : VT) : VT := VT.mk p.X y p.Z
theorem far_of {vs : List VT} (h : ∀ p ∈ vs, inV 65536 p) : vs.any farV = false := by
  rw [List.any_eq_false]; intro v hv
  have := h v hv
  simp [farV, this]
theorem far_at {vs : List VT} {m : Int} (hm : m ≤ 65536) (h : ∀ k : Int, 0 ≤ k → k < vs.length → inV m (at_ vs k)) : (∀ p ∈ vs, inV 65536 p) ∧ vs.any farV = false := by
  have q : ∀ p ∈ vs, inV 65536 p := fun p hp => by
    obtain ⟨k, k0, k1, rfl⟩ := mem_at hp
    exact inV_le (h k k0 k1) hm
  exact ⟨q, far_of q⟩
section
variable {vs : List VT} {fs : List (List Int)} {cr : List CrT}
theorem level_len_0 (h : ¬ (levelR vs fs cr).2 = 0) : (levelR vs fs cr).1.Verts.length = 0 := by rw [level_no h]; rfl
/-- Moved and flat. -/
structure FlatF (vs : List VT) (fs : List (List Int)) (cr : List CrT) (b : VT) (M F : List VT) : Prop where
  e1 : (levelR vs fs cr).2 = (levelR M fs cr).2
  e2 : (levelR vs fs cr).2 = (levelR F fs cr).2
  l1 : (levelR vs fs cr).1.Verts.length = (levelR M fs cr).1.Verts.length
  l2 : (levelR vs fs cr).1.Verts.length = (levelR F fs cr).1.Verts.length
  a1 : ∀ i : Int, 0 ≤ i → i < (levelR vs fs cr).1.Verts.length → at_ (levelR M fs cr).1.Verts i = addV (at_ (levelR vs fs cr).1.Verts i) b
  a2 : ∀ i : Int, 0 ≤ i → i < (levelR vs fs cr).1.Verts.length → (at_ (levelR F fs cr).1.Verts i).Y = b.Y
  r1 : ∀ i : Int, 0 ≤ i → i < (levelR vs fs cr).1.Verts.length → inV 65536 (at_ (levelR vs fs cr).1.Verts i)
  r2 : ∀ i : Int, 0 ≤ i → i < (levelR vs fs cr).1.Verts.length → inV 65536 (at_ (levelR M fs cr).1.Verts i)
theorem flatF {b : VT} {k : Int} (hcS : ∀ c ∈ cr, c.S ≤ 9223372036854775807) (sm : SmallC vs fs cr) (hb : inV 16384 b) (hv : ∀ j : Int, 0 ≤ j → j < k → inV 32768 (at_ vs j)) (hk : k = vs.length) : FlatF vs fs cr b (updU (movG b) vs k) (updU (flaG b.Y) vs k) := by
  have hM : ∀ j : Int, 0 ≤ j → j < vs.length → at_ (updU (movG b) vs k) j = addV (at_ vs j) b := fun j j0 j1 => by rw [upd_at j0 j1, if_pos (by omega)]; rfl
  have hF : ∀ j : Int, 0 ≤ j → j < vs.length → at_ (updU (flaG b.Y) vs k) j = VT.mk (at_ vs j).X b.Y (at_ vs j).Z := fun j j0 j1 => by rw [upd_at j0 j1, if_pos (by omega)]; rfl
  have hlM := upd_len (movG b) vs k
  have hlF := upd_len (flaG b.Y) vs k
  obtain ⟨v1, f1⟩ := far_at (vs := vs) (m := 32768) (by decide) fun j j0 j1 => hv j j0 (by omega)
  obtain ⟨v2, f2⟩ := far_at (vs := updU (movG b) vs k) (m := 32768 + 16384) (by decide) fun j j0 j1 => by
    rw [hM j j0 (by omega)]; exact inV_add (hv j j0 (by omega)) hb
  obtain ⟨v3, f3⟩ := far_at (vs := updU (flaG b.Y) vs k) (m := 32768) (by decide) fun j j0 j1 => by
    rw [hF j j0 (by omega)]; have := hv j j0 (by omega); unfold inV at *; simp only; omega
  have e1 := lev_err (fs := fs) (cr := cr) hlM f1 f2
  have e2 := lev_err (fs := fs) (cr := cr) hlF f1 f3
  have smM : SmallC (updU (movG b) vs k) fs cr := ⟨by have := sm.v; omega, sm.f, sm.c, sm.s, sm.fs⟩
  have mid := sm.mid hcS
  by_cases h : (levelR vs fs cr).2 = 0
  · have h1 : (levelR (updU (movG b) vs k) fs cr).2 = 0 := by rw [e1]; exact h
    have h2 : (levelR (updU (flaG b.Y) vs k) fs cr).2 = 0 := by rw [e2]; exact h
    have l1 := (lev_same hlM h h1).2.2
    have l2 := (lev_same hlF h h2).2.2
    refine ⟨e1.symm, e2.symm, l1.symm, l2.symm, fun i i0 i1 => ?_, fun i i0 i1 => ?_, fun i i0 i1 => lev_in v1 hcS sm h _ (at_mem i0 i1), fun i i0 i1 => lev_in v2 hcS smM h1 _ (at_mem i0 (by omega))⟩
    · have := lev_rel (mov_rel b) (c := 0) (by decide) mid hlM (fun j j0 j1 => by unfold movR; rw [hM j j0 j1, scaleV_one]) h h1 i i0 i1
      unfold movR at this; rwa [scaleV_one] at this
    · have := lev_rel (flat_rel b.Y) (c := 0) (by decide) mid hlF (fun j j0 j1 => by unfold flatR; rw [hF j j0 j1, Int.mul_one]) h h2 i i0 i1
      unfold flatR at this; rwa [Int.mul_one] at this
  · have h1 : ¬ (levelR (updU (movG b) vs k) fs cr).2 = 0 := by rw [e1]; exact h
    have h2 : ¬ (levelR (updU (flaG b.Y) vs k) fs cr).2 = 0 := by rw [e2]; exact h
    have z := level_len_0 h
    have z1 := level_len_0 h1
    have z2 := level_len_0 h2
    refine ⟨e1.symm, e2.symm, by omega, by omega, ?_, ?_, ?_, ?_⟩ <;> (intro i i0 i1; omega)
end
end Go.Proofs.U
namespace Go.AH
variable [Globs]
set_option linter.unusedSectionVars false
open Go
theorem wr_fldM {α : Type} [Inhabited α] {xs : List α} {e : α → List AV} {m o : Nat} {i : Int} {el : α} {vs : List AV} (he : ∀ x, (e x).length = m) (h0 : 0 ≤ i) (h1 : i < xs.length) (ho : o + vs.length ≤ m) (hw : writeL (e (at_ xs i)) o vs = e el) :
    writeL (xs.flatMap e) (i.toNat * m + o) vs = (xs.set i.toNat el).flatMap e := by
  have hi : i.toNat < xs.length := by omega
  have hx : at_ xs i = xs[i.toNat] := by
    unfold at_
    rw [List.getD_eq_getElem?_getD, List.getElem?_eq_getElem hi]; rfl
  rw [hx] at hw
  have e1 : xs.flatMap e = (xs.take i.toNat).flatMap e ++ (e xs[i.toNat] ++ (xs.drop (i.toNat + 1)).flatMap e) := by
    conv => lhs; rw [← List.take_append_drop i.toNat xs, List.drop_eq_getElem_cons hi]
    rw [List.flatMap_append, List.flatMap_cons]
  have e2 : (xs.set i.toNat el).flatMap e = (xs.take i.toNat).flatMap e ++ (e el ++ (xs.drop (i.toNat + 1)).flatMap e) := by
    rw [List.set_eq_take_append_cons_drop, if_pos hi, List.flatMap_append, List.flatMap_cons]
  rw [e1, e2]
  refine wr_skip (n := i.toNat * m) (off' := o) ?_ rfl (wr_fst ?_ hw)
  · rw [flatMap_length he, List.length_take]
    congr 1; omega
  · rw [he]; exact ho
end Go.AH
namespace Go.Proofs.U
open Go Go.AH Go.Proofs.T
set_option maxRecDepth 4000
set_option linter.unusedSimpArgs false
set_option linter.unusedVariables false
set_option maxHeartbeats 4000000
theorem c_CopyVsO {H0 : Heap} (l : List VT) (hl : l.length ≤ 1048576) : ACalls Try.prog 46 [.sl l.length (l.flatMap eV)] H0 fun r H' => Own H0 H' 3 r (l).length ((l).flatMap eV) ∧ Mono H0 H' := by
 refine ACalls.of_body' (n := 9) rfl rfl rfl rfl ?_
 have m0 := Mono.refl H0
 refine AWP.seq ?_
 refine AWP.region (l := [0]) rfl ?_
 refine AOps.cons rfl rfl (AOp.assign (.snil) rfl rfl ?_)
 refine AOps.nil ?_
 change AWP _ _ _ _ _ _
 refine AWP.seq ?_
 refine AWP.region (l := [0, 1]) rfl ?_
 refine AOps.cons rfl rfl (AOp.buildSlice (cells := []) rfl u_22 ts_42 tz_42 rfl rfl rfl ?_)
 intro i1 H2 n3 h4 k5
 have z6 := Mono.free m0 n3
 have m7 := Mono.new m0 n3 k5
 obtain ⟨v8, e9⟩ : ∃ v : AV, v = .slm i1 0 3 0 0 := ⟨_, rfl⟩
 have o10 : Own H0 H2 3 v8 0 [] := .inr ⟨_, _, e9, h4, z6, rfl⟩
 refine AOps.cons rfl rfl (AOp.assign (v8) rfl e9.symm ?_)
 refine AOps.nil ?_
 change AWP _ _ _ _ _ _
 refine AWP.seq ?_
 refine AWP.region (l := [0, 1, 2, 3]) rfl ?_
 refine AOps.cons rfl rfl (AOp.move (v8) rfl rfl ?_)
 refine AOps.cons rfl rfl (AOp.move (.sl l.length (l.flatMap eV)) rfl rfl ?_)
 refine AOps.cons rfl rfl (AOp.append_any (es := 3) (m := l.length) (len := 0) (old := []) (cells := l.flatMap eV) rfl u_22 ts_42 tzn_42 tb_42 (by decide) ni_22 rfl o10 m7 rfl (.sl (flatMap_length eV_len _)) (by exact one_flat eV_one)  (by first | omega | (simp; omega)) ?_)
 intro v11 H12 o13 m14 k15 j16
 have o17 := Own.appM (xs := ([] : List VT)) (ys := l) (e := eV) (by simp) o13
 refine AOps.cons rfl rfl (AOp.assign (v11) rfl rfl ?_)
 refine AOps.nil ?_
 change AWP _ _ _ _ _ _
 refine AWP.seq ?_
 refine AWP.region (l := [0, 1]) rfl ?_
 refine AOps.cons rfl rfl (AOp.move (v11) rfl rfl ?_)
 refine AOps.cons rfl rfl (AOp.assign (v11) rfl rfl ?_)
 refine AOps.nil ?_
 change AWP _ _ _ _ _ _
 refine AWP.ret ?_
 refine ⟨_, _, Ghost.refl, .inr rfl, _, Res.one rfl rfl, ?_, m14⟩
 have hx : ((([]) ++ l) : List VT) = l := (by simp)
 exact Own.re o17 (congrArg List.length hx) (congrArg (fun l : List VT => l.flatMap eV) hx)
theorem c_CopyInts (l : List Int) (hl : l.length ≤ 1048576) : PC Try.prog 67 [.sl l.length (l.map eI)] (.sl l.length (l.map eI)) := by
 intro H0
 refine ACalls.of_body' (n := 9) rfl rfl rfl rfl ?_
 have m0 := Mono.refl H0
 refine AWP.seq ?_
 refine AWP.region (l := [0]) rfl ?_
 refine AOps.cons rfl rfl (AOp.assign (.snil) rfl rfl ?_)
 refine AOps.nil ?_
 change AWP _ _ _ _ _ _
 refine AWP.seq ?_
 refine AWP.region (l := [0, 1]) rfl ?_
 refine AOps.cons rfl rfl (AOp.buildSlice (cells := []) rfl u_38 ts_3 tz_3 rfl rfl rfl ?_)
 intro i1 H2 n3 h4 k5
 have z6 := Mono.free m0 n3
 have m7 := Mono.new m0 n3 k5
 obtain ⟨v8, e9⟩ : ∃ v : AV, v = .slm i1 0 1 0 0 := ⟨_, rfl⟩
 have o10 : Own H0 H2 1 v8 0 [] := .inr ⟨_, _, e9, h4, z6, rfl⟩
 refine AOps.cons rfl rfl (AOp.assign (v8) rfl e9.symm ?_)
 refine AOps.nil ?_
 change AWP _ _ _ _ _ _
 refine AWP.seq ?_
 refine AWP.region (l := [0, 1, 2, 3]) rfl ?_
 refine AOps.cons rfl rfl (AOp.move (v8) rfl rfl ?_)
 refine AOps.cons rfl rfl (AOp.move (.sl l.length (l.map eI)) rfl rfl ?_)
 refine AOps.cons rfl rfl (AOp.append_any (es := 1) (m := l.length) (len := 0) (old := []) (cells := l.map eI) rfl u_38 ts_3 tzn_3 tb_3 (by decide) ni_38 rfl o10 m7 rfl (.sl (by simp)) (by exact one_map eI_one)  (by first | omega | (simp; omega)) ?_)
 intro v11 H12 o13 m14 k15 j16
 have o17 := Own.app1 (xs := ([] : List Int)) (ys := l) (e := eI) (by simp) o13
 refine AOps.cons rfl rfl (AOp.assign (v11) rfl rfl ?_)
 refine AOps.nil ?_
 change AWP _ _ _ _ _ _
 refine AWP.seq ?_
 refine AWP.region (l := [0, 1]) rfl ?_
 refine AOps.cons rfl rfl (AOp.move (v11) rfl rfl ?_)
 refine AOps.cons rfl rfl (AOp.assign (v11) rfl rfl ?_)
 refine AOps.nil ?_
 change AWP _ _ _ _ _ _
 refine AWP.ret ?_
 refine Fin.frz 2 o17 rfl m14 fun H18 m19 k20 => ?_
 refine ⟨_, _, Ghost.refl, .inr rfl, _, Res.one rfl rfl, ?_, m19⟩
 exact (congrArg (fun l : List Int => AV.sl l.length (l.map eI)) (show ((([]) ++ l) : List Int) = l from by simp))
theorem c_CopyFaces (fs : List (List Int)) (hfl : fs.length ≤ 1048576) (hfs : ∀ l ∈ fs, l.length ≤ 1048576) : PC Try.prog 47 [.sl fs.length (fs.map eF)] (.sl fs.length (fs.map eF)) := by
 intro H0
 refine ACalls.of_body' (n := 21) rfl rfl rfl rfl ?_
 have m0 := Mono.refl H0
 refine AWP.seq ?_
 refine AWP.region (l := [0]) rfl ?_
 refine AOps.cons rfl rfl (AOp.assign (.snil) rfl rfl ?_)
 refine AOps.nil ?_
 change AWP _ _ _ _ _ _
 refine AWP.seq ?_
 refine AWP.region (l := [0, 1]) rfl ?_
 refine AOps.cons rfl rfl (AOp.buildSlice (cells := []) rfl u_23 ts_38 tz_38 rfl rfl rfl ?_)
 intro i1 H2 n3 h4 k5
 have z6 := Mono.free m0 n3
 have m7 := Mono.new m0 n3 k5
 obtain ⟨v8, e9⟩ : ∃ v : AV, v = .slm i1 0 1 0 0 := ⟨_, rfl⟩
 have o10 : Own H0 H2 1 v8 0 [] := .inr ⟨_, _, e9, h4, z6, rfl⟩
 refine AOps.cons rfl rfl (AOp.assign (v8) rfl e9.symm ?_)
 refine AOps.nil ?_
 change AWP _ _ _ _ _ _
 refine AWP.seq ?_
 refine AWP.seq ?_
 refine AWP.region (l := [0]) rfl ?_
 refine AOps.cons rfl rfl (AOp.assign (.int .i64 0) rfl rfl ?_)
 refine AOps.nil ?_
 change AWP _ _ _ _ _ _
 refine AWP.block ?_
 refine AWP.loop (fun q11 fq Hq => ∃ (i : Int) (w3 : AV), q11 = (((fs.length : Int) : Int) - i).toNat ∧ fq 4 = .int .i64 i ∧ fq 0 = .sl fs.length (fs.map eF) ∧ fq 2 = .snil ∧ fq 3 = w3 ∧ Own H0 Hq 1 w3 (fs.take i.toNat).length ((fs.take i.toNat).map eF) ∧ Mono H0 Hq ∧ (0 ≤ i) ∧ (i ≤ (fs.length : Int))) (k := (((fs.length : Int) : Int) - 0).toNat) ?_ ?_
 ·
  exact ⟨0, v8, rfl, rfl, rfl, rfl, rfl, (have hx : ([] : List (List Int)) = fs.take (0 : Int).toNat := (by rfl); Own.re o10 (congrArg List.length hx) (congrArg (fun l : List (List Int) => l.map eF) hx)), m7, by omega, by omega⟩
 ·
  rintro _ f13 H12 ⟨i, w3, rfl, s14, s15, s16, s17, o18, m19, hi0, hi1⟩
  refine AWP.seq ?_
  refine AWP.seq ?_
  refine AWP.region (l := [0, 1, 2, 3]) rfl ?_
  refine AOps.cons rfl rfl (AOp.move (.int .i64 i) rfl s14 ?_)
  refine AOps.cons rfl rfl (AOp.move (.sl fs.length (fs.map eF)) rfl s15 ?_)
  refine AOps.cons rfl rfl (AOp.len (m := fs.length) rfl rfl (.inr (.inl ⟨_, rfl⟩)) u_23 ?_)
  refine AOps.cons rfl rfl (AOp.bin (.bool (decide (i < (fs.length : Int)))) rfl rfl rfl rfl ?_)
  refine AOps.nil ?_
  change AWP _ _ _ _ _ _
  by_cases b20 : i < (fs.length : Int)
  ·
   refine AWP.condT rfl (decide_eq_true b20) ?_
   refine AWP.skip ?_
   change AWP _ _ _ _ _ _
   refine AWP.seq ?_
   refine AWP.block ?_
   have hq : (at_ fs i).length ≤ 1048576 := hfs _ (at_mem hi0 (by omega))
   have hq2 : (fs.take i.toNat).length ≤ fs.length := by rw [List.length_take]; omega
   refine AWP.region (l := [0, 1, 2, 3, 4, 5, 6, 7, 8]) rfl ?_
   refine AOps.cons rfl rfl (AOp.move (w3) rfl s17 ?_)
   refine AOps.cons rfl rfl (AOp.move (.sl fs.length (fs.map eF)) rfl s15 ?_)
   refine AOps.cons rfl rfl (AOp.move (.int .i64 i) rfl s14 ?_)
   refine AOps.cons rfl rfl (AOp.indexAddrS rfl rfl rfl sl_23 (by omega) (by omega) ?_)
   refine AOps.cons rfl rfl (AOp.loadF (.sl (at_ fs i).length ((at_ fs i).map eI)) rfl rfl ty_38 (ld1 (by omega) (by omega)) ?_)
   refine AOps.cons rfl rfl (AOp.pcall («as» := [.sl (at_ fs i).length ((at_ fs i).map eI)]) rfl rfl (rfl) tf_67 (c_CopyInts _ (by omega)) ?_)
   intro H21 m22
   have o23 := Own.mono o18 m22
   have m24 := m19.trans m22
   refine AOps.cons rfl rfl (AOp.buildSlice (cells := [.sl (at_ fs i).length ((at_ fs i).map eI)]) rfl u_23 ts_38 tz_38 rfl rfl rfl ?_)
   intro i25 H26 n27 h28 k29
   have z30 := Mono.free m24 n27
   have o31 := Own.keep o23 k29 (Own.notnew o23 n27)
   have no32 := Own.notnew o23 n27
   have m33 := Mono.new m24 n27 k29
   refine AOps.cons rfl rfl (AOp.append_own (es := 1) (m := 1) (len := ((fs.take i.toNat).length)) (old := (fs.take i.toNat).map eF) (cells := [.sl (at_ fs i).length ((at_ fs i).map eI)]) rfl u_23 ts_38 tzn_38 tb_38 (by decide) ni_23 rfl o31 m33 rfl (.slm h28 rfl) (one_of rfl) (by decide) (by first | omega | (simp; omega)) ?_)
   intro v34 H35 o36 m37 k38 j39
   have o40 := Own.snoc1 (xs := ((fs.take i.toNat) : List (List Int))) (y := at_ fs i) (e := eF) (by simp) o36
   refine AOps.cons rfl rfl (AOp.assign (v34) rfl rfl ?_)
   refine AOps.nil ?_
   change AWP _ _ _ _ _ _
   refine AWP.region (l := [0, 1, 2]) rfl ?_
   refine AOps.cons rfl rfl (AOp.move (.int .i64 i) rfl s14 ?_)
   refine AOps.cons rfl rfl (AOp.bin (.int .i64 (i + 1)) rfl rfl rfl (iadd (by omega)) ?_)
   refine AOps.cons rfl rfl (AOp.assign (.int .i64 (i + 1)) rfl rfl ?_)
   refine AOps.nil ?_
   exact ⟨_, by omega, i + 1, v34, rfl, rfl, s15, s16, rfl, (have hx : (((fs.take i.toNat) ++ [at_ fs i]) : List (List Int)) = fs.take (i + 1).toNat := (by rw [take_step hi0 (by omega)]); Own.re o40 (congrArg List.length hx) (congrArg (fun l : List (List Int) => l.map eF) hx)), m37, by omega, by omega⟩
  ·
   refine AWP.condF rfl (decide_eq_false b20) ?_
   refine AWP.exit ?_
   change AWP _ _ _ _ _ _
   refine AWP.seq ?_
   refine AWP.region (l := [0, 1]) rfl ?_
   refine AOps.cons rfl rfl (AOp.move (w3) rfl s17 ?_)
   refine AOps.cons rfl rfl (AOp.assign (w3) rfl rfl ?_)
   refine AOps.nil ?_
   change AWP _ _ _ _ _ _
   refine AWP.ret ?_
   refine Fin.frz 2 o18 rfl m19 fun H41 m42 k43 => ?_
   refine ⟨_, _, Ghost.refl, .inr rfl, _, Res.one rfl rfl, ?_, m42⟩
   exact (congrArg (fun l : List (List Int) => AV.sl l.length (l.map eF)) (show ((fs.take i.toNat) : List (List Int)) = fs from by exact take_all (by omega)))
theorem c_CopyCageO {H0 : Heap} (vs : List VT) (fs : List (List Int)) (cr : List CrT) (hvl : vs.length ≤ 1048576) (hfl : fs.length ≤ 1048576) (hfs : ∀ l ∈ fs, l.length ≤ 1048576) (hcl : cr.length ≤ 1048576) : ACalls Try.prog 22 [.agg [.sl vs.length (vs.flatMap eV), .sl fs.length (fs.map eF), .sl cr.length (cr.flatMap eCr)]] H0 fun r H' => ∃ v, Own H0 H' 3 v (vs).length ((vs).flatMap eV) ∧ r = (.agg [v, .sl fs.length (fs.map eF), .sl cr.length (cr.flatMap eCr)]) ∧ Mono H0 H' := by
 refine ACalls.of_body' (n := 17) rfl rfl rfl rfl ?_
 have m0 := Mono.refl H0
 refine AWP.seq ?_
 refine AWP.region (l := [0, 1]) rfl ?_
 refine AOps.cons rfl rfl (AOp.box (.agg [.sl vs.length (vs.flatMap eV), .sl fs.length (fs.map eF), .sl cr.length (cr.flatMap eCr)]) rfl rfl rfl ?_)
 intro i1 H2 n3 h4 k5
 have z6 := Mono.free m0 n3
 have m7 := Mono.new m0 n3 k5
 refine AOps.cons rfl rfl (AOp.alloc rfl tz_26 ?_)
 intro i8 H9 n10 h11 k12
 have e13 := ne_new h4 n10
 have z14 := Mono.free m7 n10
 have h15 := keep k12 (ne_new h4 n10) h4
 have m16 := Mono.new m7 n10 k12
 refine AOps.nil ?_
 change AWP _ _ _ _ _ _
 refine AWP.seq ?_
 refine AWP.frzP 1 h15 z6 rfl m16 fun H17 m18 k19 => ?_
 have h20 := (k19 _ (Ne.symm e13)).trans h11
 refine AWP.region (l := [0, 1]) rfl ?_
 refine AOps.cons rfl rfl (AOp.buildSlice (cells := []) rfl u_24 ts_53 tz_53 rfl rfl rfl ?_)
 intro i21 H22 n23 h24 k25
 have e26 := ne_new h20 n23
 have z27 := Mono.free m18 n23
 have h28 := keep k25 (ne_new h20 n23) h20
 have m29 := Mono.new m18 n23 k25
 obtain ⟨v30, e31⟩ : ∃ v : AV, v = .slm i21 0 3 0 0 := ⟨_, rfl⟩
 have o32 : Own H0 H22 3 v30 0 [] := .inr ⟨_, _, e31, h24, z27, rfl⟩
 have no33 : NotId v30 i8 := by rw [e31]; exact NotId.slm e26
 refine AOps.cons rfl rfl (AOp.assign (v30) rfl e31.symm ?_)
 refine AOps.nil ?_
 change AWP _ _ _ _ _ _
 refine AWP.seq ?_
 refine AWP.region (l := [0, 1, 2, 3, 4]) rfl ?_
 refine AOps.cons rfl rfl (AOp.move (v30) rfl rfl ?_)
 refine AOps.cons rfl rfl (AOp.fieldAddrF rfl rfl fl_26_2 ?_)
 refine AOps.cons rfl rfl (AOp.loadF (.sl cr.length (cr.flatMap eCr)) rfl rfl ty_24 rfl ?_)
 refine AOps.cons rfl rfl (AOp.append_any (es := 3) (m := cr.length) (len := 0) (old := []) (cells := cr.flatMap eCr) rfl u_24 ts_53 tzn_53 tb_53 (by decide) ni_24 rfl o32 m29 rfl (.sl (flatMap_length eCr_len _)) (by exact one_flat eCr_one)  (by first | omega | (simp; omega)) ?_)
 intro v34 H35 o36 m37 k38 j39
 have o40 := Own.appM (xs := ([] : List CrT)) (ys := cr) (e := eCr) (by simp) o36
 have h41 := (k38 _ no33 (by rw [h28]; simp)).trans h28
 have no42 := j39 _ no33 (by rw [h28]; simp)
 refine AOps.cons rfl rfl (AOp.assign (v34) rfl rfl ?_)
 refine AOps.nil ?_
 change AWP _ _ _ _ _ _
 refine AWP.seq ?_
 refine AWP.frz 3 o40 rfl m37 fun H43 m44 k45 => ?_
 have h46 := (k45 _ no42).trans h41
 refine AWP.region_str mixed (by kernel_rfl) [(0, none), (1, none), (3, none), (4, none), (6, none), (2, some [3, 4, 6]), (5, none)] [7, 8] (by kernel_rfl) ?_
 refine STR.op rfl rfl (.inl ⟨rfl, fun H1 f' H' hf hN hM => AOp.fieldAddrF rfl ((hf 1 rfl).trans rfl) fl_26_0 ⟨rfl, hN⟩⟩) ?_
 refine STR.op rfl rfl (.inl ⟨rfl, fun H1 f' H' hf hN hM => AOp.loadF (.sl vs.length (vs.flatMap eV)) rfl ((hf 9 rfl).trans rfl) ty_22 rfl ⟨rfl, hN⟩⟩) ?_
 refine STR.op rfl rfl (.inl ⟨rfl, fun H1 f' H' hf hN hM => AOp.fieldAddrF rfl ((hf 1 rfl).trans rfl) fl_26_1 ⟨rfl, hN⟩⟩) ?_
 refine STR.op rfl rfl (.inl ⟨rfl, fun H1 f' H' hf hN hM => AOp.loadF (.sl fs.length (fs.map eF)) rfl ((hf 12 rfl).trans rfl) ty_23 rfl ⟨rfl, hN⟩⟩) ?_
 refine STR.op rfl rfl (.inl ⟨rfl, fun H1 f' H' hf hN hM => AOp.move (.sl (([]) ++ cr).length ((([]) ++ cr).flatMap eCr)) rfl ((hf 3 rfl).trans rfl) ⟨rfl, hN⟩⟩) ?_
 refine STR.eff rfl rfl rfl fun f47 H48 hf49 m50 => ?_
 have h51 := m50 _ _ h46
 have m52 := m44.trans m50
 refine AOp.xcall («as» := [.sl vs.length (vs.flatMap eV)]) rfl rfl (lapp (lcons ((hf49 10 rfl).trans rfl) rfl) rfl) tf_46 (c_CopyVsO _ (by omega)) ?_
 rintro v53 H54 ⟨o55, m56⟩
 have no57 : NotId v53 i8 := Own.free o55 h51
 have o58 := Own.base o55 m52
 have h59 := m56 _ _ h51
 have m60 := m52.trans m56
 refine ⟨_, rfl, .inr (RevR.cons rfl (.inl ⟨rfl, fun H1 f' H' hf hN hM => AOp.move (.sl (([]) ++ cr).length ((([]) ++ cr).flatMap eCr)) rfl ((hf 3 rfl).trans rfl) ⟨rfl, hN⟩⟩) (RevR.cons rfl (.inl ⟨rfl, fun H1 f' H' hf hN hM => AOp.loadF (.sl fs.length (fs.map eF)) rfl ((hf 12 rfl).trans rfl) ty_23 rfl ⟨rfl, hN⟩⟩) (RevR.cons rfl (.inl ⟨rfl, fun H1 f' H' hf hN hM => AOp.fieldAddrF rfl ((hf 1 rfl).trans rfl) fl_26_1 ⟨rfl, hN⟩⟩) (RevR.skip rfl (RevR.skip rfl RevR.nil))))), ?_⟩
 refine STR.op rfl rfl (.inl ⟨rfl, fun H1 f' H' hf hN hM => AOp.pcall («as» := [.sl fs.length (fs.map eF)]) rfl rfl (lapp (lcons ((hf 13 rfl).trans rfl) rfl) rfl) tf_47 (c_CopyFaces _ (by omega) (by assumption)) fun H2 m2 => ⟨rfl, hN.trans m2⟩⟩) ?_
 refine STR.done fun H61 m62 => ?_
 have h63 := m62 _ _ h59
 have o64 := Own.mono o58 m62
 have m65 := m60.trans m62
 refine AOps.cons rfl rfl (AOp.build (cells := [v53, .sl fs.length (fs.map eF), .sl (([]) ++ cr).length ((([]) ++ cr).flatMap eCr)]) rfl tz_26 pl_26 rfl (fill_own o64 rfl rfl rfl (fill_step rfl rfl rfl rfl rfl (fill_step rfl rfl rfl rfl rfl rfl))) ?_)
 refine AOps.cons rfl rfl (AOp.store' (cells' := [v53, .sl fs.length (fs.map eF), .sl (([]) ++ cr).length ((([]) ++ cr).flatMap eCr)]) (.agg [v53, .sl fs.length (fs.map eF), .sl (([]) ++ cr).length ((([]) ++ cr).flatMap eCr)]) rfl rfl ts_26 h63 (by simp only [AV.cells, List.all_cons, List.all_nil, Own.one_ o64]; rfl) rfl rfl rfl ?_)
 intro H66 h67 k68
 have o70 := Own.keep o64 k68 no57
 have m71 := Mono.set m65 z14 k68
 refine AOps.nil ?_
 change AWP _ _ _ _ _ _
 refine AWP.ret ?_
 have hx : ((vs) : List VT) = vs := (by first | rfl | simp)
 refine ⟨_, _, Ghost.refl, .inr rfl, _, Res.list1 rfl (.cell (v := .agg [v53, .sl fs.length (fs.map eF), .sl (([]) ++ cr).length ((([]) ++ cr).flatMap eCr)]) rfl ty_26 h67 rfl (.nil)), _, Own.re o70 (congrArg List.length hx) (congrArg (fun l : List VT => l.flatMap eV) hx), ?_, m71⟩
 exact (congrArg AV.agg (lc rfl (lc rfl (lc (congrArg (fun l : List CrT => AV.sl l.length (l.flatMap eCr)) (show ((([]) ++ cr) : List CrT) = cr from by first | rfl | simp)) rfl))))
theorem c_SubFlat (vs : List VT) (fs : List (List Int)) (cr : List CrT) (hvl : vs.length ≤ 1048576) (hfl : fs.length ≤ 1048576) (hfs : ∀ l ∈ fs, l.length ≤ 1048576) (hcl : cr.length ≤ 1048576) (hcS : ∀ c ∈ cr, c.S ≤ 9223372036854775807) (by_ : VT) (hbr : inR by_.X ∧ inR by_.Y ∧ inR by_.Z) : PC Try.prog 5 [.agg [.sl vs.length (vs.flatMap eV), .sl fs.length (fs.map eF), .sl cr.length (cr.flatMap eCr)], .agg [.int .i64 by_.X, .int .i64 by_.Y, .int .i64 by_.Z]] (.bool true) := by
 intro H0
 refine ACalls.of_body' (n := 132) rfl rfl rfl rfl ?_
 have m0 := Mono.refl H0
 refine AWP.seq ?_
 refine AWP.region (l := [0, 1, 2]) rfl ?_
 refine AOps.cons rfl rfl (AOp.box (.agg [.sl vs.length (vs.flatMap eV), .sl fs.length (fs.map eF), .sl cr.length (cr.flatMap eCr)]) rfl rfl rfl ?_)
 intro i1 H2 n3 h4 k5
 have z6 := Mono.free m0 n3
 have m7 := Mono.new m0 n3 k5
 refine AOps.cons rfl rfl (AOp.box (.agg [.int .i64 by_.X, .int .i64 by_.Y, .int .i64 by_.Z]) rfl rfl rfl ?_)
 intro i8 H9 n10 h11 k12
 have e13 := ne_new h4 n10
 have z14 := Mono.free m7 n10
 have h15 := keep k12 (ne_new h4 n10) h4
 have m16 := Mono.new m7 n10 k12
 refine AOps.cons rfl rfl (AOp.assign (.bool false) rfl rfl ?_)
 refine AOps.nil ?_
 change AWP _ _ _ _ _ _
 refine AWP.seq ?_
 refine AWP.seq ?_
 refine AWP.frzP 2 h15 z6 rfl m16 fun H17 m18 k19 => ?_
 have h20 := (k19 _ (Ne.symm e13)).trans h11
 refine AWP.frzP 3 h20 z14 rfl m18 fun H21 m22 k23 => ?_
 refine AWP.region (l := [0, 1]) rfl ?_
 refine AOps.cons rfl rfl (AOp.pcall («as» := []) rfl rfl (rfl) tf_13 (c_alive) ?_)
 intro H24 m25
 have m26 := m22.trans m25
 refine AOps.cons rfl rfl (AOp.not rfl rfl ?_)
 refine AOps.nil ?_
 change AWP _ _ _ _ _ _
 refine AWP.condF rfl rfl ?_
 refine AWP.skip ?_
 change AWP _ _ _ _ _ _
 refine AWP.seq ?_
 refine AWP.seq ?_
 refine AWP.region (l := [0, 1, 2, 3, 4, 5, 6]) rfl ?_
 refine AOps.cons rfl rfl (AOp.loadF (.agg [.sl vs.length (vs.flatMap eV), .sl fs.length (fs.map eF), .sl cr.length (cr.flatMap eCr)]) rfl rfl ty_26 rfl ?_)
 refine AOps.cons rfl rfl (AOp.pcall («as» := [.agg [.sl vs.length (vs.flatMap eV), .sl fs.length (fs.map eF), .sl cr.length (cr.flatMap eCr)]]) rfl rfl (rfl) tf_14 (c_Great _ _ _ (by omega) (by omega) (by assumption) (by omega)) ?_)
 intro H27 m28
 have m29 := m26.trans m28
 refine AOps.cons rfl rfl (AOp.move (.bool (decide (greatP vs fs cr))) rfl rfl ?_)
 by_cases b30 : greatP vs fs cr
 ·
  refine AOps.no rfl rfl rfl rfl rfl rfl rfl (ble_of (decide_eq_true b30) (by decide)) ?_
  refine AOps.no rfl rfl rfl rfl rfl rfl rfl (ble_of (decide_eq_true b30) (by decide)) ?_
  refine AOps.no rfl rfl rfl rfl rfl rfl rfl (ble_of (decide_eq_true b30) (by decide)) ?_
  refine AOps.cons rfl rfl (AOp.pickT (.bool true) rfl rfl (decide_eq_true b30) rfl ?_)
  refine AOps.nil ?_
  change AWP _ _ _ _ _ _
  refine AWP.condT rfl rfl ?_
  refine AWP.seq ?_
  refine AWP.region (l := [0]) rfl ?_
  refine AOps.cons rfl rfl (AOp.assign (.bool true) rfl rfl ?_)
  refine AOps.nil ?_
  change AWP _ _ _ _ _ _
  refine AWP.ret ?_
  refine ⟨_, _, Ghost.refl, .inr rfl, _, Res.one rfl rfl, ?_, m29⟩
  exact rfl
 ·
  refine AOps.yes rfl rfl rfl rfl rfl rfl rfl (decide_eq_false b30) (AOp.loadF (.agg [.int .i64 by_.X, .int .i64 by_.Y, .int .i64 by_.Z]) rfl rfl ty_42 rfl ?_)
  refine AOps.yes rfl rfl rfl rfl rfl rfl rfl (decide_eq_false b30) (AOp.pcall («as» := [.agg [.int .i64 by_.X, .int .i64 by_.Y, .int .i64 by_.Z], .int .i64 16384]) rfl rfl (rfl) tf_21 (c_vWithin by_ 16384 (by omega)) ?_)
  intro H31 m32
  have m33 := m29.trans m32
  refine AOps.yes rfl rfl rfl rfl rfl rfl rfl (decide_eq_false b30) (AOp.not rfl rfl ?_)
  refine AOps.cons rfl rfl (AOp.pickF (.bool (!(decide (inV 16384 by_)))) rfl rfl (decide_eq_false b30) rfl ?_)
  refine AOps.nil ?_
  change AWP _ _ _ _ _ _
  by_cases b34 : inV 16384 by_
  ·
   refine AWP.condF rfl (nb (decide_eq_true b34)) ?_
   refine AWP.skip ?_
   change AWP _ _ _ _ _ _
   refine AWP.seq ?_
   obtain ⟨s1, s2, s3, s4, s5⟩ := great_small b30
   have hbi : inV 16384 by_ := b34
   refine AWP.region (l := [0, 1, 2, 3]) rfl ?_
   refine AOps.cons rfl rfl (AOp.loadF (.agg [.sl vs.length (vs.flatMap eV), .sl fs.length (fs.map eF), .sl cr.length (cr.flatMap eCr)]) rfl rfl ty_26 rfl ?_)
   refine AOps.cons rfl rfl (AOp.xcall («as» := [.agg [.sl vs.length (vs.flatMap eV), .sl fs.length (fs.map eF), .sl cr.length (cr.flatMap eCr)]]) rfl rfl (rfl) tf_22 (c_CopyCageO vs fs cr (by omega) (by omega) (by assumption) (by omega)) ?_)
   rintro _ H36 ⟨v35, o37, rfl, m38⟩
   have o39 := Own.base o37 m33
   have m40 := m33.trans m38
   refine AOps.cons rfl rfl (AOp.alloc rfl tz_26 ?_)
   intro i41 H42 n43 h44 k45
   have z46 := Mono.free m40 n43
   have o47 := Own.keep o39 k45 (Own.notnew o39 n43)
   have no48 := Own.notnew o39 n43
   have m49 := Mono.new m40 n43 k45
   refine AOps.cons rfl rfl (AOp.store' (cells' := [v35, .sl fs.length (fs.map eF), .sl cr.length (cr.flatMap eCr)]) (.agg [v35, .sl fs.length (fs.map eF), .sl cr.length (cr.flatMap eCr)]) rfl rfl ts_26 h44 (by simp only [AV.cells, List.all_cons, List.all_nil, Own.one_ o47]; rfl) rfl rfl rfl ?_)
   intro H50 h51 k52
   have o54 := Own.keep o47 k52 no48
   have m55 := Mono.set m49 z46 k52
   refine AOps.nil ?_
   change AWP _ _ _ _ _ _
   refine AWP.seq ?_
   refine AWP.region (l := [0, 1, 2, 3]) rfl ?_
   refine AOps.cons rfl rfl (AOp.loadF (.agg [.sl vs.length (vs.flatMap eV), .sl fs.length (fs.map eF), .sl cr.length (cr.flatMap eCr)]) rfl rfl ty_26 rfl ?_)
   refine AOps.cons rfl rfl (AOp.xcall («as» := [.agg [.sl vs.length (vs.flatMap eV), .sl fs.length (fs.map eF), .sl cr.length (cr.flatMap eCr)]]) rfl rfl (rfl) tf_22 (c_CopyCageO vs fs cr (by omega) (by omega) (by assumption) (by omega)) ?_)
   rintro _ H57 ⟨v56, o58, rfl, m59⟩
   have no60 : NotId v56 i41 := Own.free o58 h51
   have sp61 : Sep v56 v35 := (Sep.fresh o54 o58).symm
   have o62 := Own.base o58 m55
   have h63 := m59 _ _ h51
   have o64 := Own.mono o54 m59
   have m65 := m55.trans m59
   refine AOps.cons rfl rfl (AOp.alloc rfl tz_26 ?_)
   intro i66 H67 n68 h69 k70
   have e71 := ne_new h63 n68
   have z72 := Mono.free m65 n68
   have h73 := keep k70 (ne_new h63 n68) h63
   have o74 := Own.keep o64 k70 (Own.notnew o64 n68)
   have no75 := Own.notnew o64 n68
   have o76 := Own.keep o62 k70 (Own.notnew o62 n68)
   have no77 := Own.notnew o62 n68
   have m78 := Mono.new m65 n68 k70
   refine AOps.cons rfl rfl (AOp.store' (cells' := [v56, .sl fs.length (fs.map eF), .sl cr.length (cr.flatMap eCr)]) (.agg [v56, .sl fs.length (fs.map eF), .sl cr.length (cr.flatMap eCr)]) rfl rfl ts_26 h69 (by simp only [AV.cells, List.all_cons, List.all_nil, Own.one_ o76]; rfl) rfl rfl rfl ?_)
   intro H79 h80 k81
   have h82 := keep k81 e71 h73
   have o84 := Own.keep o74 k81 no75
   have o85 := Own.keep o76 k81 no77
   have m86 := Mono.set m78 z72 k81
   refine AOps.nil ?_
   change AWP _ _ _ _ _ _
   refine AWP.seq ?_
   refine AWP.seq ?_
   refine AWP.region (l := [0]) rfl ?_
   refine AOps.cons rfl rfl (AOp.assign (.int .i64 0) rfl rfl ?_)
   refine AOps.nil ?_
   change AWP _ _ _ _ _ _
   refine AWP.block ?_
   refine AWP.loop (fun q87 fq Hq => ∃ (i : Int) (w5_0 : AV) (w6_0 : AV), q87 = (((vs.length : Int) : Int) - i).toNat ∧ fq 7 = .int .i64 i ∧ fq 2 = .fptr [.sl vs.length (vs.flatMap eV), .sl fs.length (fs.map eF), .sl cr.length (cr.flatMap eCr)] 0 ∧ fq 3 = .fptr [.int .i64 by_.X, .int .i64 by_.Y, .int .i64 by_.Z] 0 ∧ fq 5 = .ptr i41 0 0 ∧ fq 6 = .ptr i66 0 0 ∧ Own H0 Hq 3 w5_0 ((updU (movG by_) vs i)).length (((updU (movG by_) vs i)).flatMap eV) ∧ Own H0 Hq 3 w6_0 ((updU (flaG by_.Y) vs i)).length (((updU (flaG by_.Y) vs i)).flatMap eV) ∧ NotId w5_0 i41 ∧ NotId w5_0 i66 ∧ NotId w6_0 i41 ∧ NotId w6_0 i66 ∧ Sep w5_0 w6_0 ∧ Hq i41 = some (.row 0 ([w5_0, .sl fs.length (fs.map eF), .sl cr.length (cr.flatMap eCr)])) ∧ Hq i66 = some (.row 0 ([w6_0, .sl fs.length (fs.map eF), .sl cr.length (cr.flatMap eCr)])) ∧ Mono H0 Hq ∧ (0 ≤ i) ∧ (i ≤ (vs.length : Int)) ∧ (∀ j : Int, 0 ≤ j → j < i → inV 32768 (at_ vs j))) (k := (((vs.length : Int) : Int) - 0).toNat) ?_ ?_
   ·
    exact ⟨0, v35, v56, rfl, rfl, rfl, rfl, rfl, rfl, (have hx : ((vs) : List VT) = (updU (movG by_) vs 0) := (by exact upd_0 _ vs); Own.re o84 (congrArg List.length hx) (congrArg (fun l : List VT => l.flatMap eV) hx)), (have hx : ((vs) : List VT) = (updU (flaG by_.Y) vs 0) := (by exact upd_0 _ vs); Own.re o85 (congrArg List.length hx) (congrArg (fun l : List VT => l.flatMap eV) hx)), no48, no75, no60, no77, (Sep.symm sp61), h82, h80, m86, by omega, by omega, by intro j; omega⟩
   ·
    rintro _ f89 H88 ⟨i, w5_0, w6_0, rfl, s90, s91, s92, s93, s94, o95, o96, no97, no98, no99, no100, sp101, h102, h103, m104, hi0, hi1, hq⟩
    refine AWP.seq ?_
    refine AWP.seq ?_
    refine AWP.region (l := [0, 1, 2, 3, 4]) rfl ?_
    refine AOps.cons rfl rfl (AOp.move (.int .i64 i) rfl s90 ?_)
    refine AOps.cons rfl rfl (AOp.fieldAddrF rfl s91 fl_26_0 ?_)
    refine AOps.cons rfl rfl (AOp.loadF (.sl vs.length (vs.flatMap eV)) rfl rfl ty_22 rfl ?_)
    refine AOps.cons rfl rfl (AOp.len (m := vs.length) rfl rfl (.inr (.inl ⟨_, rfl⟩)) u_22 ?_)
    refine AOps.cons rfl rfl (AOp.bin (.bool (decide (i < (vs.length : Int)))) rfl rfl rfl rfl ?_)
    refine AOps.nil ?_
    change AWP _ _ _ _ _ _
    by_cases b105 : i < (vs.length : Int)
    ·
     refine AWP.condT rfl (decide_eq_true b105) ?_
     refine AWP.skip ?_
     change AWP _ _ _ _ _ _
     refine AWP.seq ?_
     refine AWP.block ?_
     refine AWP.seq ?_
     refine AWP.seq ?_
     refine AWP.region (l := [0, 1, 2, 3, 4, 5, 6]) rfl ?_
     refine AOps.cons rfl rfl (AOp.fieldAddrF rfl s91 fl_26_0 ?_)
     refine AOps.cons rfl rfl (AOp.loadF (.sl vs.length (vs.flatMap eV)) rfl rfl ty_22 rfl ?_)
     refine AOps.cons rfl rfl (AOp.move (.int .i64 i) rfl s90 ?_)
     refine AOps.cons rfl rfl (AOp.indexAddrS rfl rfl rfl sl_22 (by omega) (by omega) ?_)
     refine AOps.cons rfl rfl (AOp.loadF (.agg [.int .i64 ((at_ vs i).X), .int .i64 ((at_ vs i).Y), .int .i64 ((at_ vs i).Z)]) rfl rfl ty_42 (ldM eV_len (by omega) (by omega)) ?_)
     refine AOps.cons rfl rfl (AOp.pcall («as» := [.agg [.int .i64 ((at_ vs i).X), .int .i64 ((at_ vs i).Y), .int .i64 ((at_ vs i).Z)], .int .i64 32768]) rfl rfl (rfl) tf_21 (c_vWithin (at_ vs i) 32768 (by omega)) ?_)
     intro H106 m107
     have h108 := m107 _ _ h102
     have h109 := m107 _ _ h103
     have o110 := Own.mono o95 m107
     have o111 := Own.mono o96 m107
     have m112 := m104.trans m107
     refine AOps.cons rfl rfl (AOp.not rfl rfl ?_)
     refine AOps.nil ?_
     change AWP _ _ _ _ _ _
     by_cases b113 : inV 32768 (at_ vs i)
     ·
      refine AWP.condF rfl (nb (decide_eq_true b113)) ?_
      refine AWP.skip ?_
      change AWP _ _ _ _ _ _
      refine AWP.seq ?_
      have hml := upd_len (movG by_) vs i
      have hmp := upd_len (flaG by_.Y) vs i
      have hvi : inV 32768 (at_ vs i) := b113
      have hA12 : inV 2305843009213693952 (at_ (updU (movG by_) vs i) i) := by rw [upd_at hi0 (by omega), if_neg (by omega)]; exact inV_le hvi (by decide)
      have hB12 : inV 2305843009213693952 by_ := inV_le hbi (by decide)
      refine AWP.region_quiet mixed (by kernel_rfl) 11 [11] rfl (by kernel_rfl) (Mono H106) (Mono.refl _) ?_
      refine QE.op rfl rfl (.inl ⟨rfl, fun f' H' hf hM => AOp.fieldAddr rfl ((hf 5 rfl).trans s93) fl_26_0 ⟨rfl, hM⟩ (hid := ⟨_, (hM _ _ h108)⟩)⟩) ?_
      refine QE.op rfl rfl (.inl ⟨rfl, fun f' H' hf hM => AOp.load (w5_0) rfl ((hf 42 rfl).trans rfl) ty_22 (hM _ _ h108) rfl ⟨rfl, hM⟩⟩) ?_
      refine QE.op rfl rfl (.inl ⟨rfl, fun f' H' hf hM => AOp.move (.int .i64 i) rfl ((hf 7 rfl).trans s90) ⟨rfl, hM⟩⟩) ?_
      refine QE.op rfl rfl (.inl ⟨rfl, fun f' H' hf hM => AOp.fieldAddr rfl ((hf 5 rfl).trans s93) fl_26_0 ⟨rfl, hM⟩ (hid := ⟨_, (hM _ _ h108)⟩)⟩) ?_
      refine QE.op rfl rfl (.inl ⟨rfl, fun f' H' hf hM => AOp.load (w5_0) rfl ((hf 45 rfl).trans rfl) ty_22 (hM _ _ h108) rfl ⟨rfl, hM⟩⟩) ?_
      refine QE.op rfl rfl (.inl ⟨rfl, fun f' H' hf hM => AOp.move (.int .i64 i) rfl ((hf 7 rfl).trans s90) ⟨rfl, hM⟩⟩) ?_
      obtain ⟨i114, ver115, e116, h117, _, _⟩ := Own.pos o110 (by omega)
      refine QE.op rfl rfl (.inl ⟨rfl, fun f' H' hf hM => AOp.indexAddrO rfl (Eq.trans ((hf 46 rfl).trans rfl) e116) ((hf 47 rfl).trans rfl) sl_22 (by omega) (by omega) (hM _ _ h117) ⟨rfl, hM⟩⟩) ?_
      refine QE.op rfl rfl (.inl ⟨rfl, fun f' H' hf hM => AOp.load (.agg [.int .i64 ((at_ ((updU (movG by_) vs i)) i).X), .int .i64 ((at_ ((updU (movG by_) vs i)) i).Y), .int .i64 ((at_ ((updU (movG by_) vs i)) i).Z)]) rfl ((hf 48 rfl).trans rfl) ty_42 (hM _ _ h117) (ldM eV_len (by omega) (by omega)) ⟨rfl, hM⟩⟩) ?_
      refine QE.op rfl rfl (.inl ⟨rfl, fun f' H' hf hM => AOp.loadF (.agg [.int .i64 by_.X, .int .i64 by_.Y, .int .i64 by_.Z]) rfl ((hf 3 rfl).trans s92) ty_42 rfl ⟨rfl, hM⟩⟩) ?_
      refine QE.op rfl rfl (.inl ⟨rfl, fun f' H' hf hM => AOp.pcall («as» := [.agg [.int .i64 ((at_ ((updU (movG by_) vs i)) i).X), .int .i64 ((at_ ((updU (movG by_) vs i)) i).Y), .int .i64 ((at_ ((updU (movG by_) vs i)) i).Z)], .agg [.int .i64 by_.X, .int .i64 by_.Y, .int .i64 by_.Z]]) rfl rfl (lapp (lcons ((hf 49 rfl).trans rfl) (lcons ((hf 50 rfl).trans rfl) rfl)) rfl) tf_18 (c_rAdd (at_ ((updU (movG by_) vs i)) i) by_ (by assumption) (by assumption)) fun H2 m2 => ⟨rfl, hM.trans m2⟩⟩) ?_
      obtain ⟨i118, ver119, e120, h121, _, _⟩ := Own.pos o110 (by omega)
      refine QE.op rfl rfl (.inl ⟨rfl, fun f' H' hf hM => AOp.indexAddrO rfl (Eq.trans ((hf 43 rfl).trans rfl) e120) ((hf 44 rfl).trans rfl) sl_22 (by omega) (by omega) (hM _ _ h121) ⟨rfl, hM⟩⟩) ?_
      refine QE.done fun H122 m123 => ?_
      have h124 := m123 _ _ h108
      have h125 := m123 _ _ h109
      have o126 := Own.mono o110 m123
      have o127 := Own.mono o111 m123
      have m128 := m112.trans m123
      refine AOps.cons rfl rfl (AOp.store' (cells' := (((updU (movG by_) vs i)).set i.toNat (addV (at_ ((updU (movG by_) vs i)) i) by_)).flatMap eV) (.agg [.int .i64 ((addV (at_ ((updU (movG by_) vs i)) i) by_).X), .int .i64 ((addV (at_ ((updU (movG by_) vs i)) i) by_).Y), .int .i64 ((addV (at_ ((updU (movG by_) vs i)) i) by_).Z)]) rfl rfl ts_42 (Own.at_ e120 o126).1 rfl rfl (blelen (flatMap_length eV_len _) (by omega)) (wr_setM (xs := ((updU (movG by_) vs i))) (i := i) (v := (addV (at_ ((updU (movG by_) vs i)) i) by_)) eV_len (by omega) (by omega)) ?_)
      intro H129 h130 k131
      have h132 := (k131 _ (NotId.ne no97 e120)).trans h124
      have h133 := (k131 _ (NotId.ne no98 e120)).trans h125
      have o134 := Own.store e120 o126 h130 (len' := ((((updU (movG by_) vs i)).set i.toNat (addV (at_ ((updU (movG by_) vs i)) i) by_))).length) (by rw [List.length_set]) (by rw [flatMap_length eV_len, List.length_set])
      have m135 := Mono.set m128 (Own.at_ e120 o126).2.1 k131
      have o136 := Own.stay o127 (Sep.symm sp101) (fun i hi _ => k131 i (NotId.ne hi e120))
      refine AOps.nil ?_
      change AWP _ _ _ _ _ _
      refine AWP.region (l := [0, 1, 2, 3, 4, 5, 6, 7]) rfl ?_
      refine AOps.cons rfl rfl (AOp.fieldAddr rfl s94 fl_26_0 ?_ (hid := ⟨_, h133⟩))
      refine AOps.cons rfl rfl (AOp.load (w6_0) rfl rfl ty_22 h133 rfl ?_)
      refine AOps.cons rfl rfl (AOp.move (.int .i64 i) rfl s90 ?_)
      refine AOps.cons rfl rfl (AOp.fieldAddrF rfl s92 fl_42_1 ?_)
      refine AOps.cons rfl rfl (AOp.loadF (.int .i64 by_.Y) rfl rfl ty_3 rfl ?_)
      obtain ⟨i137, ver138, e139, h140, _, _⟩ := Own.pos o136 (by omega)
      refine AOps.cons rfl rfl (AOp.indexAddrO rfl (Eq.trans rfl e139) rfl sl_22 (by omega) (by omega) h140 ?_)
      refine AOps.cons rfl rfl (AOp.fieldAddr rfl rfl fl_42_1 ?_ (hid := ⟨_, h140⟩))
      refine AOps.cons rfl rfl (AOp.store' (cells' := (((updU (flaG by_.Y) vs i)).set i.toNat (VT.mk ((at_ ((updU (flaG by_.Y) vs i)) i).X) by_.Y ((at_ ((updU (flaG by_.Y) vs i)) i).Z))).flatMap eV) (.int .i64 by_.Y) rfl rfl ts_3 (Own.at_ e139 o136).1 rfl rfl (blelen (flatMap_length eV_len _) (by omega)) (wr_fldM eV_len (by omega) (by omega) (show 1 + 1 ≤ 3 by decide) rfl) ?_)
      intro H141 h142 k143
      have h144 := (k143 _ (NotId.ne no99 e139)).trans h132
      have h145 := (k143 _ (NotId.ne no100 e139)).trans h133
      have o146 := Own.store e139 o136 h142 (len' := ((((updU (flaG by_.Y) vs i)).set i.toNat (VT.mk ((at_ ((updU (flaG by_.Y) vs i)) i).X) by_.Y ((at_ ((updU (flaG by_.Y) vs i)) i).Z)))).length) (by rw [List.length_set]) (by rw [flatMap_length eV_len, List.length_set])
      have m147 := Mono.set m135 (Own.at_ e139 o136).2.1 k143
      have o148 := Own.stay o134 sp101 (fun i hi _ => k143 i (NotId.ne hi e139))
      refine AOps.nil ?_
      change AWP _ _ _ _ _ _
      refine AWP.region (l := [0, 1, 2]) rfl ?_
      refine AOps.cons rfl rfl (AOp.move (.int .i64 i) rfl s90 ?_)
      refine AOps.cons rfl rfl (AOp.bin (.int .i64 (i + 1)) rfl rfl rfl (iadd (by omega)) ?_)
      refine AOps.cons rfl rfl (AOp.assign (.int .i64 (i + 1)) rfl rfl ?_)
      refine AOps.nil ?_
      exact ⟨_, by omega, i + 1, w5_0, w6_0, rfl, rfl, s91, s92, s93, s94, (have hx : (((((updU (movG by_) vs i)).set i.toNat (addV (at_ ((updU (movG by_) vs i)) i) by_))) : List VT) = (updU (movG by_) vs (i + 1)) := (by exact upd_step (g := movG by_) hi0 (by omega)); Own.re o148 (congrArg List.length hx) (congrArg (fun l : List VT => l.flatMap eV) hx)), (have hx : (((((updU (flaG by_.Y) vs i)).set i.toNat (VT.mk ((at_ ((updU (flaG by_.Y) vs i)) i).X) by_.Y ((at_ ((updU (flaG by_.Y) vs i)) i).Z)))) : List VT) = (updU (flaG by_.Y) vs (i + 1)) := (by exact upd_step (g := flaG by_.Y) hi0 (by omega)); Own.re o146 (congrArg List.length hx) (congrArg (fun l : List VT => l.flatMap eV) hx)), no97, no98, no99, no100, sp101, h144, h145, m147, by omega, by omega, by exact fun j j0 j1 => if e : j = i then e ▸ hvi else hq j j0 (by omega)⟩
     ·
      refine AWP.condT rfl (nb (decide_eq_false b113)) ?_
      refine AWP.seq ?_
      refine AWP.region (l := [0]) rfl ?_
      refine AOps.cons rfl rfl (AOp.assign (.bool true) rfl rfl ?_)
      refine AOps.nil ?_
      change AWP _ _ _ _ _ _
      refine AWP.ret ?_
      refine ⟨_, _, Ghost.refl, .inr rfl, _, Res.one rfl rfl, ?_, m112⟩
      exact rfl
    ·
     refine AWP.condF rfl (decide_eq_false b105) ?_
     refine AWP.exit ?_
     change AWP _ _ _ _ _ _
     refine AWP.seq ?_
     have hml := upd_len (movG by_) vs i
     have hmp := upd_len (flaG by_.Y) vs i
     have FL := flatF (b := by_) (k := i) hcS ⟨s1, s2, s3, s4, s5⟩ hbi hq (by omega)
     have hl1 := FL.l1
     have hl2 := FL.l2
     have hlv := level_vle (cr := cr) (by omega : vs.length ≤ 1000) (by omega : fs.length ≤ 1000) (by omega : (sides fs).length ≤ 50000)
     refine AWP.region (l := [0, 1, 2, 3, 4, 5, 6, 7]) rfl ?_
     refine AOps.cons rfl rfl (AOp.loadF (.agg [.sl vs.length (vs.flatMap eV), .sl fs.length (fs.map eF), .sl cr.length (cr.flatMap eCr)]) rfl s91 ty_26 rfl ?_)
     refine AOps.cons rfl rfl (AOp.pcall («as» := [.agg [.sl vs.length (vs.flatMap eV), .sl fs.length (fs.map eF), .sl cr.length (cr.flatMap eCr)]]) rfl rfl (rfl) tf_15 (c_Level vs fs cr (by omega) (by omega) (fun l hl => Nat.le_trans (s5 l hl) (by decide)) (by omega) (by omega) hcS) ?_)
     intro H149 m150
     have h151 := m150 _ _ h102
     have h152 := m150 _ _ h103
     have o153 := Own.mono o95 m150
     have o154 := Own.mono o96 m150
     have m155 := m104.trans m150
     refine AOps.cons rfl rfl (AOp.move (.tup [.agg [.sl ((levelR vs fs cr).1.Verts).length (((levelR vs fs cr).1.Verts).flatMap eV), .sl ((levelR vs fs cr).1.Faces).length (((levelR vs fs cr).1.Faces).map eF), .sl ((levelR vs fs cr).1.Creases).length (((levelR vs fs cr).1.Creases).flatMap eCr)], .int .i64 ((levelR vs fs cr).2)]) rfl rfl ?_)
     refine AOps.cons rfl rfl (AOp.extract (.agg [.sl ((levelR vs fs cr).1.Verts).length (((levelR vs fs cr).1.Verts).flatMap eV), .sl ((levelR vs fs cr).1.Faces).length (((levelR vs fs cr).1.Faces).map eF), .sl ((levelR vs fs cr).1.Creases).length (((levelR vs fs cr).1.Creases).flatMap eCr)]) rfl rfl rfl ?_)
     refine AOps.cons rfl rfl (AOp.extract (.int .i64 ((levelR vs fs cr).2)) rfl rfl rfl ?_)
     refine AOps.cons rfl rfl (AOp.alloc rfl tz_26 ?_)
     intro i156 H157 n158 h159 k160
     have e161 := ne_new h151 n158
     have e162 := ne_new h152 n158
     have z163 := Mono.free m155 n158
     have h164 := keep k160 (ne_new h151 n158) h151
     have h165 := keep k160 (ne_new h152 n158) h152
     have o166 := Own.keep o153 k160 (Own.notnew o153 n158)
     have no167 := Own.notnew o153 n158
     have o168 := Own.keep o154 k160 (Own.notnew o154 n158)
     have no169 := Own.notnew o154 n158
     have m170 := Mono.new m155 n158 k160
     refine AOps.cons rfl rfl (AOp.store' (cells' := [.sl ((levelR vs fs cr).1.Verts).length (((levelR vs fs cr).1.Verts).flatMap eV), .sl ((levelR vs fs cr).1.Faces).length (((levelR vs fs cr).1.Faces).map eF), .sl ((levelR vs fs cr).1.Creases).length (((levelR vs fs cr).1.Creases).flatMap eCr)]) (.agg [.sl ((levelR vs fs cr).1.Verts).length (((levelR vs fs cr).1.Verts).flatMap eV), .sl ((levelR vs fs cr).1.Faces).length (((levelR vs fs cr).1.Faces).map eF), .sl ((levelR vs fs cr).1.Creases).length (((levelR vs fs cr).1.Creases).flatMap eCr)]) rfl rfl ts_26 h159 rfl rfl rfl rfl ?_)
     intro H171 h172 k173
     have h174 := keep k173 e161 h164
     have h175 := keep k173 e162 h165
     have o177 := Own.keep o166 k173 no167
     have o178 := Own.keep o168 k173 no169
     have m179 := Mono.set m170 z163 k173
     refine AOps.cons rfl rfl (AOp.assign (.int .i64 ((levelR vs fs cr).2)) rfl rfl ?_)
     refine AOps.nil ?_
     change AWP _ _ _ _ _ _
     refine AWP.seq ?_
     refine AWP.frzP 8 h172 z163 rfl m179 fun H180 m181 k182 => ?_
     have h183 := (k182 _ e161).trans h174
     have h184 := (k182 _ e162).trans h175
     have o185 := Own.keep o177 k182 no167
     have o186 := Own.keep o178 k182 no169
     refine AWP.frzCell 0 o185 h183 z46 rfl no97 m181 fun H187 h188 m189 k190 => ?_
     have h191 := (k190 _ (Ne.symm e71) no98).trans h184
     have o192 := Own.stay2 o186 (Sep.symm sp101) no99 k190
     have h193 : H187 i41 = some (.row 0 ([.sl ((updU (movG by_) vs i)).length (((updU (movG by_) vs i)).flatMap eV), .sl fs.length (fs.map eF), .sl cr.length (cr.flatMap eCr)])) := h188
     skip
     refine AWP.region (l := [0, 1, 2, 3, 4, 5, 6, 7]) rfl ?_
     refine AOps.cons rfl rfl (AOp.load (.agg [.sl ((updU (movG by_) vs i)).length (((updU (movG by_) vs i)).flatMap eV), .sl fs.length (fs.map eF), .sl cr.length (cr.flatMap eCr)]) rfl s93 ty_26 h193 rfl ?_)
     refine AOps.cons rfl rfl (AOp.pcall («as» := [.agg [.sl ((updU (movG by_) vs i)).length (((updU (movG by_) vs i)).flatMap eV), .sl fs.length (fs.map eF), .sl cr.length (cr.flatMap eCr)]]) rfl rfl (rfl) tf_15 (c_Level ((updU (movG by_) vs i)) fs cr (by omega) (by omega) (fun l hl => Nat.le_trans (s5 l hl) (by decide)) (by omega) (by omega) hcS) ?_)
     intro H194 m195
     have h196 := m195 _ _ h191
     have h197 := m195 _ _ h193
     have o198 := Own.mono o192 m195
     have m199 := m189.trans m195
     refine AOps.cons rfl rfl (AOp.move (.tup [.agg [.sl ((levelR ((updU (movG by_) vs i)) fs cr).1.Verts).length (((levelR ((updU (movG by_) vs i)) fs cr).1.Verts).flatMap eV), .sl ((levelR ((updU (movG by_) vs i)) fs cr).1.Faces).length (((levelR ((updU (movG by_) vs i)) fs cr).1.Faces).map eF), .sl ((levelR ((updU (movG by_) vs i)) fs cr).1.Creases).length (((levelR ((updU (movG by_) vs i)) fs cr).1.Creases).flatMap eCr)], .int .i64 ((levelR ((updU (movG by_) vs i)) fs cr).2)]) rfl rfl ?_)
     refine AOps.cons rfl rfl (AOp.extract (.agg [.sl ((levelR ((updU (movG by_) vs i)) fs cr).1.Verts).length (((levelR ((updU (movG by_) vs i)) fs cr).1.Verts).flatMap eV), .sl ((levelR ((updU (movG by_) vs i)) fs cr).1.Faces).length (((levelR ((updU (movG by_) vs i)) fs cr).1.Faces).map eF), .sl ((levelR ((updU (movG by_) vs i)) fs cr).1.Creases).length (((levelR ((updU (movG by_) vs i)) fs cr).1.Creases).flatMap eCr)]) rfl rfl rfl ?_)
     refine AOps.cons rfl rfl (AOp.extract (.int .i64 ((levelR ((updU (movG by_) vs i)) fs cr).2)) rfl rfl rfl ?_)
     refine AOps.cons rfl rfl (AOp.alloc rfl tz_26 ?_)
     intro i200 H201 n202 h203 k204
     have e205 := ne_new h196 n202
     have e206 := ne_new h197 n202
     have z207 := Mono.free m199 n202
     have h208 := keep k204 (ne_new h196 n202) h196
     have h209 := keep k204 (ne_new h197 n202) h197
     have o210 := Own.keep o198 k204 (Own.notnew o198 n202)
     have no211 := Own.notnew o198 n202
     have m212 := Mono.new m199 n202 k204
     refine AOps.cons rfl rfl (AOp.store' (cells' := [.sl ((levelR ((updU (movG by_) vs i)) fs cr).1.Verts).length (((levelR ((updU (movG by_) vs i)) fs cr).1.Verts).flatMap eV), .sl ((levelR ((updU (movG by_) vs i)) fs cr).1.Faces).length (((levelR ((updU (movG by_) vs i)) fs cr).1.Faces).map eF), .sl ((levelR ((updU (movG by_) vs i)) fs cr).1.Creases).length (((levelR ((updU (movG by_) vs i)) fs cr).1.Creases).flatMap eCr)]) (.agg [.sl ((levelR ((updU (movG by_) vs i)) fs cr).1.Verts).length (((levelR ((updU (movG by_) vs i)) fs cr).1.Verts).flatMap eV), .sl ((levelR ((updU (movG by_) vs i)) fs cr).1.Faces).length (((levelR ((updU (movG by_) vs i)) fs cr).1.Faces).map eF), .sl ((levelR ((updU (movG by_) vs i)) fs cr).1.Creases).length (((levelR ((updU (movG by_) vs i)) fs cr).1.Creases).flatMap eCr)]) rfl rfl ts_26 h203 rfl rfl rfl rfl ?_)
     intro H213 h214 k215
     have h216 := keep k215 e205 h208
     have h217 := keep k215 e206 h209
     have o219 := Own.keep o210 k215 no211
     have m220 := Mono.set m212 z207 k215
     refine AOps.cons rfl rfl (AOp.assign (.int .i64 ((levelR ((updU (movG by_) vs i)) fs cr).2)) rfl rfl ?_)
     refine AOps.nil ?_
     change AWP _ _ _ _ _ _
     refine AWP.seq ?_
     refine AWP.frzP 5 h217 z46 s93 m220 fun H221 m222 k223 => ?_
     have h224 := (k223 _ (Ne.symm e71)).trans h216
     have h225 := (k223 _ (Ne.symm e206)).trans h214
     have o226 := Own.keep o219 k223 no99
     refine AWP.frzP 10 h225 z207 rfl m222 fun H227 m228 k229 => ?_
     have h230 := (k229 _ e205).trans h224
     have o231 := Own.keep o226 k229 no211
     refine AWP.frzCell 0 o231 h230 z72 rfl no100 m228 fun H232 h233 m234 k235 => ?_
     have h236 : H232 i66 = some (.row 0 ([.sl ((updU (flaG by_.Y) vs i)).length (((updU (flaG by_.Y) vs i)).flatMap eV), .sl fs.length (fs.map eF), .sl cr.length (cr.flatMap eCr)])) := h233
     skip
     refine AWP.region (l := [0, 1, 2, 3, 4, 5, 6, 7]) rfl ?_
     refine AOps.cons rfl rfl (AOp.load (.agg [.sl ((updU (flaG by_.Y) vs i)).length (((updU (flaG by_.Y) vs i)).flatMap eV), .sl fs.length (fs.map eF), .sl cr.length (cr.flatMap eCr)]) rfl s94 ty_26 h236 rfl ?_)
     refine AOps.cons rfl rfl (AOp.pcall («as» := [.agg [.sl ((updU (flaG by_.Y) vs i)).length (((updU (flaG by_.Y) vs i)).flatMap eV), .sl fs.length (fs.map eF), .sl cr.length (cr.flatMap eCr)]]) rfl rfl (rfl) tf_15 (c_Level ((updU (flaG by_.Y) vs i)) fs cr (by omega) (by omega) (fun l hl => Nat.le_trans (s5 l hl) (by decide)) (by omega) (by omega) hcS) ?_)
     intro H237 m238
     have h239 := m238 _ _ h236
     have m240 := m234.trans m238
     refine AOps.cons rfl rfl (AOp.move (.tup [.agg [.sl ((levelR ((updU (flaG by_.Y) vs i)) fs cr).1.Verts).length (((levelR ((updU (flaG by_.Y) vs i)) fs cr).1.Verts).flatMap eV), .sl ((levelR ((updU (flaG by_.Y) vs i)) fs cr).1.Faces).length (((levelR ((updU (flaG by_.Y) vs i)) fs cr).1.Faces).map eF), .sl ((levelR ((updU (flaG by_.Y) vs i)) fs cr).1.Creases).length (((levelR ((updU (flaG by_.Y) vs i)) fs cr).1.Creases).flatMap eCr)], .int .i64 ((levelR ((updU (flaG by_.Y) vs i)) fs cr).2)]) rfl rfl ?_)
     refine AOps.cons rfl rfl (AOp.extract (.agg [.sl ((levelR ((updU (flaG by_.Y) vs i)) fs cr).1.Verts).length (((levelR ((updU (flaG by_.Y) vs i)) fs cr).1.Verts).flatMap eV), .sl ((levelR ((updU (flaG by_.Y) vs i)) fs cr).1.Faces).length (((levelR ((updU (flaG by_.Y) vs i)) fs cr).1.Faces).map eF), .sl ((levelR ((updU (flaG by_.Y) vs i)) fs cr).1.Creases).length (((levelR ((updU (flaG by_.Y) vs i)) fs cr).1.Creases).flatMap eCr)]) rfl rfl rfl ?_)
     refine AOps.cons rfl rfl (AOp.extract (.int .i64 ((levelR ((updU (flaG by_.Y) vs i)) fs cr).2)) rfl rfl rfl ?_)
     refine AOps.cons rfl rfl (AOp.alloc rfl tz_26 ?_)
     intro i241 H242 n243 h244 k245
     have e246 := ne_new h239 n243
     have z247 := Mono.free m240 n243
     have h248 := keep k245 (ne_new h239 n243) h239
     have m249 := Mono.new m240 n243 k245
     refine AOps.cons rfl rfl (AOp.store' (cells' := [.sl ((levelR ((updU (flaG by_.Y) vs i)) fs cr).1.Verts).length (((levelR ((updU (flaG by_.Y) vs i)) fs cr).1.Verts).flatMap eV), .sl ((levelR ((updU (flaG by_.Y) vs i)) fs cr).1.Faces).length (((levelR ((updU (flaG by_.Y) vs i)) fs cr).1.Faces).map eF), .sl ((levelR ((updU (flaG by_.Y) vs i)) fs cr).1.Creases).length (((levelR ((updU (flaG by_.Y) vs i)) fs cr).1.Creases).flatMap eCr)]) (.agg [.sl ((levelR ((updU (flaG by_.Y) vs i)) fs cr).1.Verts).length (((levelR ((updU (flaG by_.Y) vs i)) fs cr).1.Verts).flatMap eV), .sl ((levelR ((updU (flaG by_.Y) vs i)) fs cr).1.Faces).length (((levelR ((updU (flaG by_.Y) vs i)) fs cr).1.Faces).map eF), .sl ((levelR ((updU (flaG by_.Y) vs i)) fs cr).1.Creases).length (((levelR ((updU (flaG by_.Y) vs i)) fs cr).1.Creases).flatMap eCr)]) rfl rfl ts_26 h244 rfl rfl rfl rfl ?_)
     intro H250 h251 k252
     have h253 := keep k252 e246 h248
     have m255 := Mono.set m249 z247 k252
     refine AOps.cons rfl rfl (AOp.assign (.int .i64 ((levelR ((updU (flaG by_.Y) vs i)) fs cr).2)) rfl rfl ?_)
     refine AOps.nil ?_
     change AWP _ _ _ _ _ _
     refine AWP.seq ?_
     refine AWP.seq ?_
     refine AWP.frzP 6 h253 z72 s94 m255 fun H256 m257 k258 => ?_
     have h259 := (k258 _ (Ne.symm e246)).trans h251
     refine AWP.frzP 12 h259 z247 rfl m257 fun H260 m261 k262 => ?_
     refine AWP.region (l := [0, 1, 2, 3, 4, 5, 6, 7, 8, 9, 10, 11, 12, 13, 14, 15, 16, 17, 18, 19, 20, 21, 22, 23, 24, 25]) rfl ?_
     refine AOps.cons rfl rfl (AOp.move (.int .i64 ((levelR vs fs cr).2)) rfl rfl ?_)
     refine AOps.cons rfl rfl (AOp.move (.int .i64 ((levelR ((updU (movG by_) vs i)) fs cr).2)) rfl rfl ?_)
     refine AOps.cons rfl rfl (AOp.bin (.bool (!decide ((levelR vs fs cr).2 = (levelR ((updU (movG by_) vs i)) fs cr).2))) rfl rfl rfl ine ?_)
     refine AOps.cons rfl rfl (AOp.move (.bool (!decide ((levelR vs fs cr).2 = (levelR ((updU (movG by_) vs i)) fs cr).2))) rfl rfl ?_)
     refine AOps.yes rfl rfl rfl rfl rfl rfl rfl (nb (decide_eq_true (FL.e1))) (AOp.move (.int .i64 ((levelR vs fs cr).2)) rfl rfl ?_)
     refine AOps.yes rfl rfl rfl rfl rfl rfl rfl (nb (decide_eq_true (FL.e1))) (AOp.move (.int .i64 ((levelR ((updU (flaG by_.Y) vs i)) fs cr).2)) rfl rfl ?_)
     refine AOps.yes rfl rfl rfl rfl rfl rfl rfl (nb (decide_eq_true (FL.e1))) (AOp.bin (.bool (!decide ((levelR vs fs cr).2 = (levelR ((updU (flaG by_.Y) vs i)) fs cr).2))) rfl rfl rfl ine ?_)
     refine AOps.cons rfl rfl (AOp.pickF (.bool (!decide ((levelR vs fs cr).2 = (levelR ((updU (flaG by_.Y) vs i)) fs cr).2))) rfl rfl (nb (decide_eq_true (FL.e1))) rfl ?_)
     refine AOps.cons rfl rfl (AOp.move (.bool (!decide ((levelR vs fs cr).2 = (levelR ((updU (flaG by_.Y) vs i)) fs cr).2))) rfl rfl ?_)
     refine AOps.yes rfl rfl rfl rfl rfl rfl rfl (nb (decide_eq_true (FL.e2))) (AOp.fieldAddrF rfl rfl fl_26_0 ?_)
     refine AOps.yes rfl rfl rfl rfl rfl rfl rfl (nb (decide_eq_true (FL.e2))) (AOp.loadF (.sl ((levelR vs fs cr).1.Verts).length (((levelR vs fs cr).1.Verts).flatMap eV)) rfl rfl ty_22 rfl ?_)
     refine AOps.yes rfl rfl rfl rfl rfl rfl rfl (nb (decide_eq_true (FL.e2))) (AOp.len (m := ((levelR vs fs cr).1.Verts).length) rfl rfl (.inr (.inl ⟨_, rfl⟩)) u_22 ?_)
     refine AOps.yes rfl rfl rfl rfl rfl rfl rfl (nb (decide_eq_true (FL.e2))) (AOp.fieldAddrF rfl rfl fl_26_0 ?_)
     refine AOps.yes rfl rfl rfl rfl rfl rfl rfl (nb (decide_eq_true (FL.e2))) (AOp.loadF (.sl ((levelR ((updU (movG by_) vs i)) fs cr).1.Verts).length (((levelR ((updU (movG by_) vs i)) fs cr).1.Verts).flatMap eV)) rfl rfl ty_22 rfl ?_)
     refine AOps.yes rfl rfl rfl rfl rfl rfl rfl (nb (decide_eq_true (FL.e2))) (AOp.len (m := ((levelR ((updU (movG by_) vs i)) fs cr).1.Verts).length) rfl rfl (.inr (.inl ⟨_, rfl⟩)) u_22 ?_)
     refine AOps.yes rfl rfl rfl rfl rfl rfl rfl (nb (decide_eq_true (FL.e2))) (AOp.bin (.bool (!decide (((((levelR vs fs cr).1.Verts).length) : Int) = ((((levelR ((updU (movG by_) vs i)) fs cr).1.Verts).length) : Int)))) rfl rfl rfl ine ?_)
     refine AOps.cons rfl rfl (AOp.pickF (.bool (!decide (((((levelR vs fs cr).1.Verts).length) : Int) = ((((levelR ((updU (movG by_) vs i)) fs cr).1.Verts).length) : Int)))) rfl rfl (nb (decide_eq_true (FL.e2))) rfl ?_)
     refine AOps.cons rfl rfl (AOp.move (.bool (!decide (((((levelR vs fs cr).1.Verts).length) : Int) = ((((levelR ((updU (movG by_) vs i)) fs cr).1.Verts).length) : Int)))) rfl rfl ?_)
     refine AOps.yes rfl rfl rfl rfl rfl rfl rfl (nb (decide_eq_true ((by omega)))) (AOp.fieldAddrF rfl rfl fl_26_0 ?_)
     refine AOps.yes rfl rfl rfl rfl rfl rfl rfl (nb (decide_eq_true ((by omega)))) (AOp.loadF (.sl ((levelR vs fs cr).1.Verts).length (((levelR vs fs cr).1.Verts).flatMap eV)) rfl rfl ty_22 rfl ?_)
     refine AOps.yes rfl rfl rfl rfl rfl rfl rfl (nb (decide_eq_true ((by omega)))) (AOp.len (m := ((levelR vs fs cr).1.Verts).length) rfl rfl (.inr (.inl ⟨_, rfl⟩)) u_22 ?_)
     refine AOps.yes rfl rfl rfl rfl rfl rfl rfl (nb (decide_eq_true ((by omega)))) (AOp.fieldAddrF rfl rfl fl_26_0 ?_)
     refine AOps.yes rfl rfl rfl rfl rfl rfl rfl (nb (decide_eq_true ((by omega)))) (AOp.loadF (.sl ((levelR ((updU (flaG by_.Y) vs i)) fs cr).1.Verts).length (((levelR ((updU (flaG by_.Y) vs i)) fs cr).1.Verts).flatMap eV)) rfl rfl ty_22 rfl ?_)
     refine AOps.yes rfl rfl rfl rfl rfl rfl rfl (nb (decide_eq_true ((by omega)))) (AOp.len (m := ((levelR ((updU (flaG by_.Y) vs i)) fs cr).1.Verts).length) rfl rfl (.inr (.inl ⟨_, rfl⟩)) u_22 ?_)
     refine AOps.yes rfl rfl rfl rfl rfl rfl rfl (nb (decide_eq_true ((by omega)))) (AOp.bin (.bool (!decide (((((levelR vs fs cr).1.Verts).length) : Int) = ((((levelR ((updU (flaG by_.Y) vs i)) fs cr).1.Verts).length) : Int)))) rfl rfl rfl ine ?_)
     refine AOps.cons rfl rfl (AOp.pickF (.bool (!decide (((((levelR vs fs cr).1.Verts).length) : Int) = ((((levelR ((updU (flaG by_.Y) vs i)) fs cr).1.Verts).length) : Int)))) rfl rfl (nb (decide_eq_true ((by omega)))) rfl ?_)
     refine AOps.nil ?_
     change AWP _ _ _ _ _ _
     refine AWP.condF rfl (nb (decide_eq_true ((by omega)))) ?_
     refine AWP.skip ?_
     change AWP _ _ _ _ _ _
     refine AWP.seq ?_
     refine AWP.seq ?_
     refine AWP.region (l := [0]) rfl ?_
     refine AOps.cons rfl rfl (AOp.assign (.int .i64 0) rfl rfl ?_)
     refine AOps.nil ?_
     change AWP _ _ _ _ _ _
     refine AWP.block ?_
     refine AWP.loop (fun q263 fq Hq => ∃ (j : Int), q263 = ((((levelR vs fs cr).1.Verts.length : Int) : Int) - j).toNat ∧ fq 14 = .int .i64 j ∧ fq 3 = .fptr [.int .i64 by_.X, .int .i64 by_.Y, .int .i64 by_.Z] 0 ∧ fq 8 = .fptr [.sl ((levelR vs fs cr).1.Verts).length (((levelR vs fs cr).1.Verts).flatMap eV), .sl ((levelR vs fs cr).1.Faces).length (((levelR vs fs cr).1.Faces).map eF), .sl ((levelR vs fs cr).1.Creases).length (((levelR vs fs cr).1.Creases).flatMap eCr)] 0 ∧ fq 10 = .fptr [.sl ((levelR ((updU (movG by_) vs i)) fs cr).1.Verts).length (((levelR ((updU (movG by_) vs i)) fs cr).1.Verts).flatMap eV), .sl ((levelR ((updU (movG by_) vs i)) fs cr).1.Faces).length (((levelR ((updU (movG by_) vs i)) fs cr).1.Faces).map eF), .sl ((levelR ((updU (movG by_) vs i)) fs cr).1.Creases).length (((levelR ((updU (movG by_) vs i)) fs cr).1.Creases).flatMap eCr)] 0 ∧ fq 12 = .fptr [.sl ((levelR ((updU (flaG by_.Y) vs i)) fs cr).1.Verts).length (((levelR ((updU (flaG by_.Y) vs i)) fs cr).1.Verts).flatMap eV), .sl ((levelR ((updU (flaG by_.Y) vs i)) fs cr).1.Faces).length (((levelR ((updU (flaG by_.Y) vs i)) fs cr).1.Faces).map eF), .sl ((levelR ((updU (flaG by_.Y) vs i)) fs cr).1.Creases).length (((levelR ((updU (flaG by_.Y) vs i)) fs cr).1.Creases).flatMap eCr)] 0 ∧ Mono H0 Hq ∧ (0 ≤ j) ∧ (j ≤ ((levelR vs fs cr).1.Verts.length : Int))) (k := ((((levelR vs fs cr).1.Verts.length : Int) : Int) - 0).toNat) ?_ ?_
     ·
      exact ⟨0, rfl, rfl, s92, rfl, rfl, rfl, m261, by omega, by omega⟩
     ·
      rintro _ f265 H264 ⟨j, rfl, s266, s267, s268, s269, s270, m271, hj0, hj1⟩
      refine AWP.seq ?_
      refine AWP.seq ?_
      refine AWP.region (l := [0, 1, 2, 3, 4]) rfl ?_
      refine AOps.cons rfl rfl (AOp.move (.int .i64 j) rfl s266 ?_)
      refine AOps.cons rfl rfl (AOp.fieldAddrF rfl s268 fl_26_0 ?_)
      refine AOps.cons rfl rfl (AOp.loadF (.sl ((levelR vs fs cr).1.Verts).length (((levelR vs fs cr).1.Verts).flatMap eV)) rfl rfl ty_22 rfl ?_)
      refine AOps.cons rfl rfl (AOp.len (m := ((levelR vs fs cr).1.Verts).length) rfl rfl (.inr (.inl ⟨_, rfl⟩)) u_22 ?_)
      refine AOps.cons rfl rfl (AOp.bin (.bool (decide (j < ((((levelR vs fs cr).1.Verts).length) : Int)))) rfl rfl rfl rfl ?_)
      refine AOps.nil ?_
      change AWP _ _ _ _ _ _
      by_cases b272 : j < ((((levelR vs fs cr).1.Verts).length) : Int)
      ·
       refine AWP.condT rfl (decide_eq_true b272) ?_
       refine AWP.skip ?_
       change AWP _ _ _ _ _ _
       refine AWP.seq ?_
       refine AWP.block ?_
       refine AWP.seq ?_
       have hr1 := inV_le (b := 2305843009213693952) (FL.r1 j hj0 (by omega)) (by decide)
       have hB22 : inV 2305843009213693952 by_ := inV_le hbi (by decide)
       refine AWP.region_quiet mixed (by kernel_rfl) 24 [] rfl (by kernel_rfl) (Mono H264) (Mono.refl _) ?_
       refine QE.op rfl rfl (.inl ⟨rfl, fun f' H' hf hM => AOp.fieldAddrF rfl ((hf 10 rfl).trans s269) fl_26_0 ⟨rfl, hM⟩⟩) ?_
       refine QE.op rfl rfl (.inl ⟨rfl, fun f' H' hf hM => AOp.loadF (.sl ((levelR ((updU (movG by_) vs i)) fs cr).1.Verts).length (((levelR ((updU (movG by_) vs i)) fs cr).1.Verts).flatMap eV)) rfl ((hf 108 rfl).trans rfl) ty_22 rfl ⟨rfl, hM⟩⟩) ?_
       refine QE.op rfl rfl (.inl ⟨rfl, fun f' H' hf hM => AOp.move (.int .i64 j) rfl ((hf 14 rfl).trans s266) ⟨rfl, hM⟩⟩) ?_
       refine QE.op rfl rfl (.inl ⟨rfl, fun f' H' hf hM => AOp.indexAddrS rfl ((hf 109 rfl).trans rfl) ((hf 110 rfl).trans rfl) sl_22 (by omega) (by omega) ⟨rfl, hM⟩⟩) ?_
       refine QE.op rfl rfl (.inl ⟨rfl, fun f' H' hf hM => AOp.loadF (.agg [.int .i64 ((at_ ((levelR ((updU (movG by_) vs i)) fs cr).1.Verts) j).X), .int .i64 ((at_ ((levelR ((updU (movG by_) vs i)) fs cr).1.Verts) j).Y), .int .i64 ((at_ ((levelR ((updU (movG by_) vs i)) fs cr).1.Verts) j).Z)]) rfl ((hf 111 rfl).trans rfl) ty_42 (ldM eV_len (by omega) (by omega)) ⟨rfl, hM⟩⟩) ?_
       refine QE.op rfl rfl (.inl ⟨rfl, fun f' H' hf hM => AOp.fieldAddrF rfl ((hf 8 rfl).trans s268) fl_26_0 ⟨rfl, hM⟩⟩) ?_
       refine QE.op rfl rfl (.inl ⟨rfl, fun f' H' hf hM => AOp.loadF (.sl ((levelR vs fs cr).1.Verts).length (((levelR vs fs cr).1.Verts).flatMap eV)) rfl ((hf 113 rfl).trans rfl) ty_22 rfl ⟨rfl, hM⟩⟩) ?_
       refine QE.op rfl rfl (.inl ⟨rfl, fun f' H' hf hM => AOp.move (.int .i64 j) rfl ((hf 14 rfl).trans s266) ⟨rfl, hM⟩⟩) ?_
       refine QE.op rfl rfl (.inl ⟨rfl, fun f' H' hf hM => AOp.indexAddrS rfl ((hf 114 rfl).trans rfl) ((hf 115 rfl).trans rfl) sl_22 (by omega) (by omega) ⟨rfl, hM⟩⟩) ?_
       refine QE.op rfl rfl (.inl ⟨rfl, fun f' H' hf hM => AOp.loadF (.agg [.int .i64 ((at_ ((levelR vs fs cr).1.Verts) j).X), .int .i64 ((at_ ((levelR vs fs cr).1.Verts) j).Y), .int .i64 ((at_ ((levelR vs fs cr).1.Verts) j).Z)]) rfl ((hf 116 rfl).trans rfl) ty_42 (ldM eV_len (by omega) (by omega)) ⟨rfl, hM⟩⟩) ?_
       refine QE.op rfl rfl (.inl ⟨rfl, fun f' H' hf hM => AOp.loadF (.agg [.int .i64 by_.X, .int .i64 by_.Y, .int .i64 by_.Z]) rfl ((hf 3 rfl).trans s267) ty_42 rfl ⟨rfl, hM⟩⟩) ?_
       refine QE.op rfl rfl (.inl ⟨rfl, fun f' H' hf hM => AOp.pcall («as» := [.agg [.int .i64 ((at_ ((levelR vs fs cr).1.Verts) j).X), .int .i64 ((at_ ((levelR vs fs cr).1.Verts) j).Y), .int .i64 ((at_ ((levelR vs fs cr).1.Verts) j).Z)], .agg [.int .i64 by_.X, .int .i64 by_.Y, .int .i64 by_.Z]]) rfl rfl (lapp (lcons ((hf 117 rfl).trans rfl) (lcons ((hf 118 rfl).trans rfl) rfl)) rfl) tf_18 (c_rAdd (at_ ((levelR vs fs cr).1.Verts) j) by_ (by assumption) (by assumption)) fun H2 m2 => ⟨rfl, hM.trans m2⟩⟩) ?_
       refine QE.op rfl rfl (.inl ⟨rfl, fun f' H' hf hM => AOp.neAggD rfl ((hf 112 rfl).trans rfl) ((hf 119 rfl).trans rfl) teq42 (kokV (v := (at_ ((levelR ((updU (movG by_) vs i)) fs cr).1.Verts) j)) (by have h1 := FL.r2 j hj0 (by omega); unfold inV at h1; exact ⟨by unfold inR; omega, by unfold inR; omega, by unfold inR; omega⟩)) (kokV (v := (addV (at_ ((levelR vs fs cr).1.Verts) j) by_)) (by have h1 := FL.r1 j hj0 (by omega); unfold inV at h1 hbi; exact ⟨by unfold inR addV; simp only; omega, by unfold inR addV; simp only; omega, by unfold inR addV; simp only; omega⟩)) (eV_iff (at_ ((levelR ((updU (movG by_) vs i)) fs cr).1.Verts) j) (addV (at_ ((levelR vs fs cr).1.Verts) j) by_)) ⟨rfl, hM⟩⟩) ?_
       refine QE.op rfl rfl (.inl ⟨rfl, fun f' H' hf hM => AOp.move (.bool (!decide ((at_ ((levelR ((updU (movG by_) vs i)) fs cr).1.Verts) j) = (addV (at_ ((levelR vs fs cr).1.Verts) j) by_)))) rfl ((hf 120 rfl).trans rfl) ⟨rfl, hM⟩⟩) ?_
       refine QE.op rfl rfl (QOp.yes rfl rfl rfl rfl (nb (decide_eq_true ((FL.a1 j hj0 (by omega))))) fun f' H' hf hM => AOp.fieldAddrF rfl ((hf 12 rfl).trans s270) fl_26_0 ⟨rfl, hM⟩) ?_
       refine QE.op rfl rfl (QOp.yes rfl rfl rfl rfl (nb (decide_eq_true ((FL.a1 j hj0 (by omega))))) fun f' H' hf hM => AOp.loadF (.sl ((levelR ((updU (flaG by_.Y) vs i)) fs cr).1.Verts).length (((levelR ((updU (flaG by_.Y) vs i)) fs cr).1.Verts).flatMap eV)) rfl ((hf 122 rfl).trans rfl) ty_22 rfl ⟨rfl, hM⟩) ?_
       refine QE.op rfl rfl (QOp.yes rfl rfl rfl rfl (nb (decide_eq_true ((FL.a1 j hj0 (by omega))))) fun f' H' hf hM => AOp.move (.int .i64 j) rfl ((hf 14 rfl).trans s266) ⟨rfl, hM⟩) ?_
       refine QE.op rfl rfl (QOp.yes rfl rfl rfl rfl (nb (decide_eq_true ((FL.a1 j hj0 (by omega))))) fun f' H' hf hM => AOp.indexAddrS rfl ((hf 123 rfl).trans rfl) ((hf 124 rfl).trans rfl) sl_22 (by omega) (by omega) ⟨rfl, hM⟩) ?_
       refine QE.op rfl rfl (QOp.yes rfl rfl rfl rfl (nb (decide_eq_true ((FL.a1 j hj0 (by omega))))) fun f' H' hf hM => AOp.fieldAddrF rfl ((hf 125 rfl).trans rfl) fl_42_1 ⟨rfl, hM⟩) ?_
       refine QE.op rfl rfl (QOp.yes rfl rfl rfl rfl (nb (decide_eq_true ((FL.a1 j hj0 (by omega))))) fun f' H' hf hM => AOp.loadF (.int .i64 ((at_ ((levelR ((updU (flaG by_.Y) vs i)) fs cr).1.Verts) j).Y)) rfl ((hf 126 rfl).trans rfl) ty_3 (ldF eV_len (by omega) (by omega) rfl (by decide)) ⟨rfl, hM⟩) ?_
       refine QE.op rfl rfl (QOp.yes rfl rfl rfl rfl (nb (decide_eq_true ((FL.a1 j hj0 (by omega))))) fun f' H' hf hM => AOp.fieldAddrF rfl ((hf 3 rfl).trans s267) fl_42_1 ⟨rfl, hM⟩) ?_
       refine QE.op rfl rfl (QOp.yes rfl rfl rfl rfl (nb (decide_eq_true ((FL.a1 j hj0 (by omega))))) fun f' H' hf hM => AOp.loadF (.int .i64 by_.Y) rfl ((hf 128 rfl).trans rfl) ty_3 rfl ⟨rfl, hM⟩) ?_
       refine QE.op rfl rfl (QOp.yes rfl rfl rfl rfl (nb (decide_eq_true ((FL.a1 j hj0 (by omega))))) fun f' H' hf hM => AOp.bin (.bool (!decide ((at_ ((levelR ((updU (flaG by_.Y) vs i)) fs cr).1.Verts) j).Y = by_.Y))) rfl ((hf 127 rfl).trans rfl) ((hf 129 rfl).trans rfl) ine ⟨rfl, hM⟩) ?_
       refine QE.op rfl rfl (.inl ⟨rfl, fun f' H' hf hM => AOp.pickF (.bool (!decide ((at_ ((levelR ((updU (flaG by_.Y) vs i)) fs cr).1.Verts) j).Y = by_.Y))) rfl ((hf 121 rfl).trans rfl) (nb (decide_eq_true ((FL.a1 j hj0 (by omega))))) ((hf 130 rfl).trans rfl) ⟨rfl, hM⟩⟩) ?_
       refine QE.done fun H273 m274 => ?_
       have m275 := m271.trans m274
       refine AOps.nil ?_
       change AWP _ _ _ _ _ _
       refine AWP.condF rfl (nb (decide_eq_true ((FL.a2 j hj0 (by omega))))) ?_
       refine AWP.skip ?_
       change AWP _ _ _ _ _ _
       refine AWP.region (l := [0, 1, 2]) rfl ?_
       refine AOps.cons rfl rfl (AOp.move (.int .i64 j) rfl s266 ?_)
       refine AOps.cons rfl rfl (AOp.bin (.int .i64 (j + 1)) rfl rfl rfl (iadd (by omega)) ?_)
       refine AOps.cons rfl rfl (AOp.assign (.int .i64 (j + 1)) rfl rfl ?_)
       refine AOps.nil ?_
       exact ⟨_, by omega, j + 1, rfl, rfl, s267, s268, s269, s270, m275, by omega, by omega⟩
      ·
       refine AWP.condF rfl (decide_eq_false b272) ?_
       refine AWP.exit ?_
       change AWP _ _ _ _ _ _
       refine AWP.seq ?_
       refine AWP.region (l := [0]) rfl ?_
       refine AOps.cons rfl rfl (AOp.assign (.bool true) rfl rfl ?_)
       refine AOps.nil ?_
       change AWP _ _ _ _ _ _
       refine AWP.ret ?_
       refine ⟨_, _, Ghost.refl, .inr rfl, _, Res.one rfl rfl, ?_, m271⟩
       exact rfl
  ·
   refine AWP.condT rfl (nb (decide_eq_false b34)) ?_
   refine AWP.seq ?_
   refine AWP.region (l := [0]) rfl ?_
   refine AOps.cons rfl rfl (AOp.assign (.bool true) rfl rfl ?_)
   refine AOps.nil ?_
   change AWP _ _ _ _ _ _
   refine AWP.ret ?_
   refine ⟨_, _, Ghost.refl, .inr rfl, _, Res.one rfl rfl, ?_, m33⟩
   exact rfl
end Go.Proofs.U
